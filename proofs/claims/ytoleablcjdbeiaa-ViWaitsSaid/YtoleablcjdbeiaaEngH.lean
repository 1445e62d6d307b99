/- The engine, part H: slices that grow. No program in sight. -/
import Derived.Test.YtoleablcjdbeiaaEngG
namespace Go.Eng
open Go

/-- Rows of sz cells, each of one cell. -/
def RowsOk (sz : Nat) (m : List (List D)) : Prop := ∀ r ∈ m, r.length = sz ∧ (r.all D.cell && D.pureL r) = true

section
variable {B : Base} {bl bl' : Nat → Option Blk} {ρ : Nat → Loc} {H : GH} {w w' : World}

theorem OwnOk.name {ρ' : Nat → Loc} {j j' : Nat} {b : Blk} (hj : ρ' j' = ρ j) (hn : ∀ k, b.has k = true → ρ' k = ρ k) (h : OwnOk ρ H w j b) : OwnOk ρ' H w j' b := by
  have hle := GH.le_refl H
  cases b with
  | cells ty l =>
    obtain ⟨hh, arr, h1, h2, h3⟩ := h
    exact ⟨by rw [hj]; exact hh, arr, by rw [hj]; exact h1, h2, fun k d v hk hv => (h3 k d v hk hv).mono hle fun i hi => hn i (by simp only [Blk.has]; exact D.hasL_mem (List.mem_of_getElem? hk) hi)⟩
  | buf sz l =>
    obtain ⟨h0, h1, h2, h3, h4⟩ := h
    refine ⟨by rw [hj]; exact h0, by rw [hj]; exact h1, by rw [hj]; exact h2, by rw [hj]; exact h3, fun hh => ?_⟩
    rw [hj] at hh ⊢
    obtain ⟨arr, ty, h5, h6, h7⟩ := h4 hh
    exact ⟨arr, ty, h5, h6, fun i k row d v hi hk hv => (h7 i k row d v hi hk hv).mono hle fun q hq => hn q (by simp only [Blk.has, List.any_eq_true]; exact ⟨row, List.mem_of_getElem? hi, D.hasL_mem (List.mem_of_getElem? hk) hq⟩)⟩
  | map l =>
    obtain ⟨hh, es, clock, l', h1, hp, h2, h3⟩ := h
    refine ⟨by rw [hj]; exact hh, es, clock, l', by rw [hj]; exact h1, hp, h2, fun i kd vd e hi he => ?_⟩
    have h4 := h3 i kd vd e hi he
    exact ⟨h4.1.mono hle fun q hq => hn q (by simp only [Blk.has, List.any_eq_true]; exact ⟨_, hp.mem_iff.1 (List.mem_of_getElem? hi), by simp [hq]⟩),
      h4.2.mono hle fun q hq => hn q (by simp only [Blk.has, List.any_eq_true]; exact ⟨_, hp.mem_iff.1 (List.mem_of_getElem? hi), by simp [hq]⟩)⟩
  | plus o kd vd => exact h.elim

/-- An own block under another name. -/
theorem WRel.rename (h : WRel B bl ρ H w) {j j' : Nat} {b : Blk} (hj : bl j = some b) (hne : j' ≠ j) (hf : ∀ k b', bl k = some b' → b'.has j' = false)
    (hbl : ∀ k, bl' k = if j' = k then some b else if j = k then none else bl k) : WRel B bl' (setLoc ρ j' (ρ j)) H w := by
  -- where a name of bl' comes from
  have src : ∀ k c, bl' k = some c → ∃ q, bl q = some c ∧ setLoc ρ j' (ρ j) k = ρ q ∧ (k = j' ∧ q = j ∨ k ≠ j' ∧ q = k ∧ k ≠ j) := by
    intro k c hk
    rw [hbl] at hk
    by_cases h1 : j' = k
    · rw [if_pos h1] at hk; cases hk; subst h1; exact ⟨j, hj, setLoc_eq, .inl ⟨rfl, rfl⟩⟩
    · rw [if_neg h1] at hk
      by_cases h2 : j = k
      · rw [if_pos h2] at hk; cases hk
      · rw [if_neg h2] at hk; exact ⟨k, hk, setLoc_ne (Ne.symm h1), .inr ⟨Ne.symm h1, rfl, Ne.symm h2⟩⟩
  refine ⟨fun k c hk => ?_, fun k q c d hk hq hne' h1 h2 => ?_, fun k c hk h1 => ?_, fun k c hk h1 => ?_, h.pers, h.hext, h.hnew, h.size, h.frame, h.os, h.tape, h.output⟩
  · obtain ⟨q, hq, he, _⟩ := src k c hk
    exact (h.own q c hq).name he fun i hi => setLoc_ne (by rintro rfl; rw [hf q c hq] at hi; cases hi)
  · obtain ⟨a, ha, he, hc⟩ := src k c hk
    obtain ⟨a', ha', he', hc'⟩ := src q d hq
    rw [he] at h1 ⊢; rw [he'] at h2 ⊢
    refine h.sep a a' c d ha ha' ?_ h1 h2
    rcases hc with ⟨rfl, rfl⟩ | ⟨x1, rfl, x2⟩ <;> rcases hc' with ⟨rfl, rfl⟩ | ⟨y1, rfl, y2⟩
    · exact absurd rfl hne'
    · exact Ne.symm y2
    · exact x2
    · exact hne'
  · obtain ⟨a, ha, he, _⟩ := src k c hk; rw [he] at h1 ⊢; exact h.new a c ha h1
  · obtain ⟨a, ha, he, _⟩ := src k c hk; rw [he] at h1 ⊢; exact h.np a c ha h1

theorem WRel.drawn (h : WRel B bl ρ H w) (hh : w'.heap = w.heap) (ho : w'.os = w.os) (ht : w'.tape = w.tape) (hp : w'.output = w.output) : WRel B bl ρ H w' :=
  ⟨fun j b hj => (h.own j b hj).mono (GH.le_refl _) rfl (fun _ _ => rfl) (fun _ => by rw [hh]), h.sep, h.new, h.np, by rw [hh]; exact h.pers, h.hext, h.hnew, by rw [hh]; exact h.size, by rw [hh]; exact h.frame, by rw [ho]; exact h.os,
   by rw [ht]; exact h.tape, by rw [hp]; exact h.output⟩

/-- A buffer without a block. -/
theorem WRel.empty_buf (h : WRel B bl ρ H w) {j sz : Nat} (hf : ∀ k b', bl k = some b' → b'.has j = false) (hbl : ∀ k, bl' k = if j = k then some (.buf sz []) else bl k) : WRel B bl' (setLoc ρ j ⟨0, 0, sz, false⟩) H w := by
  have old : ∀ k b', bl' k = some b' → k ≠ j → bl k = some b' := fun k b' hk hne => by rw [hbl, if_neg (Ne.symm hne)] at hk; exact hk
  refine ⟨fun k b' hk => ?_, fun k q b' c hk hq hne h1 h2 => ?_, fun k b' hk h1 => ?_, fun k b' hk h1 => ?_, h.pers, h.hext, h.hnew, h.size, h.frame, h.os, h.tape, h.output⟩
  · by_cases hkj : k = j
    · subst hkj
      rw [hbl, if_pos rfl] at hk; cases hk
      exact ⟨by rw [setLoc_eq], by simp, by simp, fun _ => by rw [setLoc_eq], fun hh => by rw [setLoc_eq] at hh; cases hh⟩
    · exact (h.own k b' (old k b' hk hkj)).name (setLoc_ne hkj) fun q hq => setLoc_ne (by rintro rfl; rw [hf k b' (old k b' hk hkj)] at hq; cases hq)
  · have hkj : k ≠ j := by rintro rfl; rw [setLoc_eq] at h1; cases h1
    have hqj : q ≠ j := by rintro rfl; rw [setLoc_eq] at h2; cases h2
    rw [setLoc_ne hkj] at h1 ⊢; rw [setLoc_ne hqj] at h2 ⊢
    exact h.sep k q b' c (old k b' hk hkj) (old q c hq hqj) hne h1 h2
  · have hkj : k ≠ j := by rintro rfl; rw [setLoc_eq] at h1; cases h1
    rw [setLoc_ne hkj] at h1 ⊢; exact h.new k b' (old k b' hk hkj) h1
  · have hkj : k ≠ j := by rintro rfl; rw [setLoc_eq] at h1; cases h1
    rw [setLoc_ne hkj] at h1 ⊢; exact h.np k b' (old k b' hk hkj) h1
end

section ops
variable {P : Program}

/-- What is appended: its cells. -/
theorem src_cells {ρ : Nat → Loc} {H : GH} {w : World} (hp : ∀ b o, H b = some o → w.heap[b]? = some o) {full : Bool} {m : List (List D)} {sz : Nat} {v : Value} (hv : Den ρ H (.rows full m) v) (hm : RowsOk sz m) :
    ∃ (a : Option Addr) (cap : Nat) (cs : Array Value), v = .slice a m.length cap ∧ (∀ w' : World, w'.heap = w.heap → (Builtin.firstCells sz m.length v).run P w' = .ok cs w') ∧ cs.size = m.length * sz ∧
      (∀ (i k : Nat) (row : List D) (d : D) (u : Value), m[i]? = some row → row[k]? = some d → cs[i * sz + k]? = some u → DenP H d u) ∧ (∀ x ∈ cs.toList, x.oneCell' = true) := by
  obtain ⟨a, cap, rfl, h1, _, h3⟩ := hv.rows_inv
  by_cases hne : m = []
  · subst hne
    refine ⟨a, cap, #[], rfl, fun w' _ => ?_, by simp, by simp, by simp⟩
    cases a with
    | none => simp [Builtin.firstCells]
    | some a =>
      have := run_loadCells_list (P := P) w' a [] (by simp)
      simpa [Builtin.firstCells] using this
  · obtain ⟨b, off, sz', arr, ty, fz, rfl, hb, hs, hin, he⟩ := h3 hne
    have hsz : sz' = sz := by
      obtain ⟨r, hr⟩ := List.exists_mem_of_ne_nil m hne
      rw [← hs r hr, (hm r hr).1]
    subst hsz
    have hcell : ∀ (i k : Nat) (row : List D) (d : D) (u : Value), m[i]? = some row → row[k]? = some d → (arr.extract off (off + m.length * sz'))[i * sz' + k]? = some u → DenP H d u := by
      intro i k row d u hi hk hu
      rw [Array.getElem?_extract] at hu
      split at hu
      · rw [← Nat.add_assoc] at hu; exact he i k row d u hi hk hu
      · cases hu
    refine ⟨_, cap, arr.extract off (off + m.length * sz'), rfl, fun w' hw => ?_, by simp; omega, hcell, fun x hx => ?_⟩
    · simp only [Builtin.firstCells]; exact load_cells (by rw [hw]; exact hp _ _ hb) hin
    · obtain ⟨q, hq⟩ := List.mem_iff_getElem?.1 hx
      have hql : q < m.length * sz' := by have := (List.getElem?_eq_some_iff.1 hq).1; simp at this; omega
      have hs0 : 0 < sz' := by rcases Nat.eq_zero_or_pos sz' with h | h; subst h; simp at hql; exact h
      have hdiv : q / sz' < m.length := by rw [Nat.div_lt_iff_lt_mul hs0]; exact hql
      have hmod : q % sz' < sz' := Nat.mod_lt _ hs0
      have hrow := hm m[q / sz'] (List.getElem_mem hdiv)
      have hk : q % sz' < (m[q / sz']).length := by rw [hrow.1]; exact hmod
      have hden := hcell (q / sz') (q % sz') m[q / sz'] (m[q / sz'])[q % sz'] x (by simp [hdiv]) (by simp [hk]) (by
        rw [Nat.mul_comm (q / sz') sz', Nat.div_add_mod]; rwa [Array.getElem?_toList] at hq)
      have hc := (Den.pure (ρ := ρ) hden).cell ((List.all_eq_true.1 (by have := hrow.2; simp only [Bool.and_eq_true] at this; exact this.1)) _ (List.getElem_mem hk))
      cases x <;> simp [Value.oneCell'] <;> first | exact hc.1 _ rfl | exact hc.2 _ rfl

theorem zeroCells_size (z : Array Value) (n : Nat) : (Builtin.zeroCells z n).size = n * z.size := by simp [Builtin.zeroCells]

section
variable {t : Nat} {ty : TypeId} {pos : String} {af : Array Edge} {g : Option (Nat × Bool)} {st : St} {d : D}

/-- An append that makes a new block: its run. -/
theorem append_grow_run {T T2 e : TypeId} {sz by_ : Nat} (hT : TySl P T e sz by_) (hT2 : ∃ e2, P.underlying T2 = some (.slice e2)) {zs : List D} (hZ : TyZ P e zs) {w : World} {base : Option Addr} {sLen sCap n c2 : Nat} {a2 : Option Addr} {old new : Array Value}
    (ho : ∀ w' : World, w'.heap = w.heap → (Builtin.firstCells sz sLen (.slice base sLen sCap)).run P w' = .ok old w') (hn : ∀ w' : World, w'.heap = w.heap → (Builtin.firstCells sz n (.slice a2 n c2)).run P w' = .ok new w') (hos : old.size = sLen * sz) (hns : new.size = n * sz)
    (hgt : sCap < sLen + n) (hroom : Builtin.nextslicecap (sLen + n) sCap * by_ ≤ 281474976710656) (hb0 : by_ ≠ 0) :
    ∃ cap arr, sLen + n ≤ cap ∧ (Builtin.append_ #[T, T2] ty #[.slice base sLen sCap, .slice a2 n c2]).run P w = .ok (.slice (some ⟨w.heap.size, 0, none⟩) (sLen + n) cap) ({ w with drawn := w.drawn + 1 }.alloc (.cells arr e)) ∧
      arr.size = cap * sz ∧ ∀ q u, q < (sLen + n) * sz → arr[q]? = some u → (old ++ new)[q]? = some u := by
  obtain ⟨e2, he2⟩ := hT2
  obtain ⟨i, hi, hi2⟩ := map_some hT.info
  simp only [Prod.mk.injEq] at hi2
  obtain ⟨i', hi', hz1⟩ := map_some hZ.size
  have : i' = i := by rw [hi] at hi'; cases hi'; rfl
  subst this
  obtain ⟨v, hv, hv2⟩ := map_some hZ.zero
  have hz : i'.zero = some v := by simpa [hi] using hv
  have hvs : v.cells.size = sz := by have := congrArg List.length hv2; simp at this; omega
  let cap := sLen + n + w.tape w.drawn (.appendCap (sLen + n) sCap e) % (2 ^ 63 - (sLen + n))
  refine ⟨cap, old ++ new ++ Builtin.zeroCells v.cells (cap - (sLen + n)), by simp only [cap]; omega, ?_, ?_, fun q u hq hu => ?_⟩
  · have ho' := ho { w with drawn := w.drawn + 1 } rfl
    have hn' := hn { w with drawn := w.drawn + 1 } rfl
    simp only [Builtin.append_, List.getElem?_toArray, List.getElem?_cons_zero, List.getElem?_cons_succ, Sem.run_bind, run_underlying hT.und, run_underlying he2, Result.andThen_ok, sizeOf, typeInfo, run_program, hi, hi2.1, hi2.2, Sem.run_pure,
      Builtin.lenOf, Bool.false_eq_true, if_false, Nat.not_le.2 hgt, hb0, or_false, and_false, Nat.not_lt.2 hroom, run_choose, Question.forced, run_askRoom, ho', Bool.not_false, if_true, hn', zeroValue, hz, newRow, run_newObj]
    rfl
  · have : sLen + (n + (cap - (sLen + n))) = cap := by simp only [cap]; omega
    simp [hos, hns, zeroCells_size, hvs, ← Nat.add_mul, this]
  · rw [Array.getElem?_append_left (by simp [hos, hns, ← Nat.add_mul]; exact hq)] at hu
    exact hu

theorem growBy_le (need : Nat) : ∀ (r c : Nat), c < need → Builtin.growBy need r c ≤ 2 * need + 512
  | 0, c, h => by simp [Builtin.growBy]; omega
  | r + 1, c, h => by
    simp only [Builtin.growBy]
    rw [if_neg (by omega)]
    by_cases hc : c + (c + 768) / 4 < need
    · exact growBy_le need r _ hc
    · have : ∀ r, Builtin.growBy need r (c + (c + 768) / 4) = c + (c + 768) / 4 := by
        intro r
        cases r with
        | zero => rfl
        | succ r => simp only [Builtin.growBy]; rw [if_pos (by omega)]
      rw [this]; omega
theorem nsc_le {need cap : Nat} (h : cap < need) : Builtin.nextslicecap need cap ≤ 2 * need + 512 := by
  unfold Builtin.nextslicecap
  split
  · omega
  · split
    · omega
    · exact growBy_le need 4 cap h

theorem den_cells {ρ : Nat → Loc} {H : GH} {l m : List (List D)} {sz : Nat} (hl : ∀ r ∈ l, r.length = sz) {old new : Array Value} (hos : old.size = l.length * sz)
    (ho : ∀ (i k : Nat) (row : List D) (d : D) (v : Value), l[i]? = some row → row[k]? = some d → old[i * sz + k]? = some v → Den ρ H d v)
    (hn : ∀ (i k : Nat) (row : List D) (d : D) (v : Value), m[i]? = some row → row[k]? = some d → new[i * sz + k]? = some v → Den ρ H d v) :
    ∀ (i k : Nat) (row : List D) (d : D) (v : Value), (l ++ m)[i]? = some row → row[k]? = some d → (old ++ new)[i * sz + k]? = some v → Den ρ H d v := by
  intro i k row d v hi hk hv
  have hks : k < row.length := (List.getElem?_eq_some_iff.1 hk).1
  by_cases hil : i < l.length
  · rw [List.getElem?_append_left hil] at hi
    have hr := hl row (List.mem_of_getElem? hi)
    have : (i + 1) * sz ≤ l.length * sz := Nat.mul_le_mul_right _ hil
    rw [Nat.succ_mul] at this
    rw [Array.getElem?_append_left (by omega)] at hv
    exact ho i k row d v hi hk hv
  · rw [List.getElem?_append_right (by omega)] at hi
    have : l.length * sz ≤ i * sz := Nat.mul_le_mul_right _ (by omega)
    rw [Array.getElem?_append_right (by omega), hos] at hv
    refine hn (i - l.length) k row d v hi hk ?_
    rw [Nat.sub_mul]
    rwa [show i * sz + k - l.length * sz = i * sz - l.length * sz + k by omega] at hv

/-- An append to a buffer of the call's own, at its end. -/
theorem append_core {B : Base} {bl : Nat → Option Blk} {ρ : Nat → Loc} {H : GH} {w : World} (hW : WRel B bl ρ H w) (j' : Nat) {T T2 e e2 : TypeId} {sz by_ sz2 by2 j : Nat} {fy : Bool} {zs : List D} {l m : List (List D)} (hT : TySl P T e sz by_)
    (hT2 : TySl P T2 e2 sz2 by2) (hZ : TyZ P e zs) {x y : Value} (hx : Den ρ H (.sl j 0 l.length) x) (hj : bl j = some (.buf sz l)) (hy : Den ρ H (.rows fy m) y) (hm : RowsOk sz m) (hroom : (2 * (l.length + m.length) + 512) * by_ ≤ 281474976710656)
    (hb0 : Nat.blt 0 by_ = true) (hne : j' ≠ j) (hfr : ∀ k b', bl k = some b' → b'.has j' = false) :
    ∃ v w' ρ', (Builtin.append_ #[T, T2] ty #[x, y]).run P w = .ok v w' ∧ Den ρ' H (.sl j' 0 (l ++ m).length) v ∧ (∀ k, k ≠ j' → ρ' k = ρ k) ∧
      WRel B (fun k => if j' = k then some (.buf sz (l ++ m)) else if j = k then none else bl k) ρ' H w' := by
  obtain ⟨a1, c, hv1, hc, hcn, ha⟩ := hx.sl_inv
  obtain ⟨ho0, ho1, ho2, ho3, ho4⟩ := hW.own j _ hj
  obtain ⟨a2, c2, new, hv2, hnew, hns, hnd, hn1⟩ := src_cells (P := P) hW.pers hy hm
  have hb0' : by_ ≠ 0 := by have := blt_lt hb0; omega
  rw [Nat.sub_zero] at hc
  simp only [Nat.zero_add] at hcn
  by_cases hfit : l.length + m.length ≤ (ρ j).cap
  · -- there is room
    have rowsAll : ∀ row ∈ l ++ m, row.length = (ρ j).sz := fun row hr => by
      rcases List.mem_append.1 hr with h | h
      · exact ho2 row h
      · rw [ho0]; exact (hm row h).1
    have hsl : ∀ (ρ' : Nat → Loc), ρ' j' = ρ j → Den ρ' H (.sl j' 0 (l ++ m).length) (.slice a1 (l.length + m.length) c) := fun ρ' he => by
      have := Den.sl (ρ := ρ') (H := H) j' 0 (l ++ m).length a1 c (by rw [he, hc]; simp) (by rw [he]; simpa using hfit) (by
        rcases ha with h | ⟨h1, h2⟩
        · exact .inl h
        · exact .inr ⟨by rw [he]; exact h1, by rw [he]; exact h2⟩)
      simpa using this
    by_cases hme : m = []
    · subst hme
      have hnew0 : new = #[] := by have : new.size = 0 := by simpa using hns
                                   exact Array.eq_empty_of_size_eq_zero this
      subst hnew0
      have hrun : (Builtin.append_ #[T, T2] ty #[x, y]).run P w = .ok (.slice a1 (l.length + 0) c) w := by
        obtain ⟨i, hi, hi2⟩ := map_some hT.info
        simp only [Prod.mk.injEq] at hi2
        have hfit' : l.length + 0 ≤ c := by rw [hc]; simpa using hfit
        have hnw := hnew w rfl
        simp only [List.length_nil] at hnw hv2
        rw [hv2] at hnw
        rw [hv1, hv2]
        simp only [Builtin.append_, List.getElem?_toArray, List.getElem?_cons_zero, List.getElem?_cons_succ, Sem.run_bind, run_underlying hT.und, run_underlying hT2.und, Result.andThen_ok, sizeOf, typeInfo, run_program, hi, hi2.1, Sem.run_pure,
          Builtin.lenOf, Bool.false_eq_true, if_false, if_pos hfit', Bool.not_false, if_true, hnw]
        cases a1 with
        | none => rfl
        | some b => rfl
      refine ⟨.slice a1 (l.length + 0) c, w, setLoc ρ j' (ρ j), hrun, hsl _ setLoc_eq, fun k hk => setLoc_ne hk, ?_⟩
      refine (hW.rename hj hne (fun k b' hk => hfr k b' hk) (bl' := fun k => if j' = k then some (.buf sz l) else if j = k then none else bl k) fun k => rfl).bl_eq fun k c' hk => ?_
      simpa using hk
    · have hmpos : 0 < m.length := List.length_pos_iff.2 hme
      have hhere : (ρ j).here = true := by
        cases hh : (ρ j).here with
        | true => rfl
        | false => have := ho3 hh; omega
      have ha' : a1 = some ⟨(ρ j).blk, 0, none⟩ := by
        rcases ha with h | ⟨_, h2⟩
        · omega
        · simpa using h2
      subst ha'
      obtain ⟨arr, bt, hb, hbs, hbd⟩ := ho4 hhere
      have hle : (l.length + m.length) * sz ≤ arr.size := by rw [hbs, ho0]; exact Nat.mul_le_mul_right _ hfit
      rw [Nat.add_mul] at hle
      have hst := run_storeCells_at P (ρ j).blk (l.length * sz) bt new.toList 0 arr w hb (by simp [hns]; omega) hn1
      simp only [Nat.add_zero, Array.length_toList, hns] at hst
      have hadd : (⟨(ρ j).blk, 0, none⟩ : Addr).add (l.length * sz) = ⟨(ρ j).blk, l.length * sz, none⟩ := by unfold Addr.add; split <;> simp_all
      let arr' := (arr.toList.take (l.length * sz) ++ new.toList ++ arr.toList.drop (l.length * sz + m.length * sz)).toArray
      have hrun : (Builtin.append_ #[T, T2] ty #[x, y]).run P w = .ok (.slice (some ⟨(ρ j).blk, 0, none⟩) (l.length + m.length) c) (w.setRow (ρ j).blk arr') := by
        obtain ⟨i, hi, hi2⟩ := map_some hT.info
        simp only [Prod.mk.injEq] at hi2
        have hfit' : l.length + m.length ≤ c := by rw [hc]; exact hfit
        have hnw := hnew w rfl
        rw [hv2] at hnw
        rw [hv1, hv2]
        simp only [Builtin.append_, List.getElem?_toArray, List.getElem?_cons_zero, List.getElem?_cons_succ, Sem.run_bind, run_underlying hT.und, run_underlying hT2.und, Result.andThen_ok, sizeOf, typeInfo, run_program, hi, hi2.1, Sem.run_pure,
          Builtin.lenOf, Bool.false_eq_true, if_false, if_pos hfit', Bool.not_false, if_true, hnw, hadd, hst]
        rfl
      have harrs : arr'.size = arr.size := by simp [arr', hns]; omega
      have hgetl : ∀ q, q < (l.length + m.length) * sz → arr'[q]? = ((arr.extract 0 (l.length * sz)) ++ new)[q]? := by
        intro q hq
        rw [Nat.add_mul] at hq
        simp only [arr', List.getElem?_toArray, List.append_assoc]
        by_cases h1 : q < l.length * sz
        · rw [List.getElem?_append_left (by simp; omega), Array.getElem?_append_left (by simp; omega)]
          simp [h1, Array.getElem?_extract]
          try (intro; omega)
        · rw [List.getElem?_append_right (by simp; omega), Array.getElem?_append_right (by simp; omega)]
          have e1 : (arr.toList.take (l.length * sz)).length = l.length * sz := by simp; omega
          have e2 : (arr.extract 0 (l.length * sz)).size = l.length * sz := by simp; omega
          rw [e1, e2, List.getElem?_append_left (by simp [hns]; omega), Array.getElem?_toList]
      have hden := den_cells (ρ := ρ) (H := H) (l := l) (m := m) (sz := sz) (fun r hr => by rw [← ho0]; exact ho2 r hr) (old := arr.extract 0 (l.length * sz)) (new := new) (by simp; omega)
        (fun i k row d v hi hk hv => by
          rw [Array.getElem?_extract] at hv
          split at hv
          · rw [Nat.zero_add] at hv; exact hbd i k row d v hi hk (by rw [ho0]; exact hv)
          · cases hv) (fun i k row d v hi hk hv => .pure (hnd i k row d v hi hk hv))
      have hW1 : WRel B (fun k => if j = k then some (.buf sz (l ++ m)) else bl k) ρ H (w.setRow (ρ j).blk arr') := by
        refine hW.write hj hhere (by simp) (fun k hk => setRow_other w _ k _ hk) rfl rfl rfl (b' := .buf sz (l ++ m)) ⟨ho0, by simpa using hfit, rowsAll, ho3, fun _ => ⟨arr', bt, setRow_heap w _ arr _ bt (0, 0) hb, by rw [harrs, hbs], fun i k row d v hi hk hv => ?_⟩⟩ fun k => rfl
        rw [ho0] at hv
        have hil : i < (l ++ m).length := (List.getElem?_eq_some_iff.1 hi).1
        have hkl : k < sz := by have := (List.getElem?_eq_some_iff.1 hk).1; rw [rowsAll row (List.mem_of_getElem? hi), ho0] at this; exact this
        have : (i + 1) * sz ≤ (l.length + m.length) * sz := Nat.mul_le_mul_right _ (by rw [List.length_append] at hil; exact hil)
        rw [Nat.succ_mul] at this
        rw [hgetl _ (by omega)] at hv
        exact hden i k row d v hi hk hv
      have hnames : ∀ k b', (if j = k then some (.buf sz (l ++ m)) else bl k) = some b' → b'.has j' = false := fun k b' hk => by
        split at hk
        · cases hk
          have h1 := hfr j _ hj
          simp only [Blk.has, List.any_append, Bool.or_eq_false_iff] at h1 ⊢
          refine ⟨h1, ?_⟩
          rw [List.any_eq_false]
          intro r hr
          have h2 := (hm r hr).2
          simp only [Bool.and_eq_true] at h2
          rw [D.pureL_has j' r h2.2]; simp
        · exact hfr k b' hk
      refine ⟨_, _, setLoc ρ j' (ρ j), hrun, hsl _ setLoc_eq, fun k hk => setLoc_ne hk, ?_⟩
      exact (hW1.rename (j := j) (b := .buf sz (l ++ m)) (by simp) hne hnames (bl' := fun k => if j' = k then some (.buf sz (l ++ m)) else if j = k then none else bl k) fun k => by
        by_cases h1 : j' = k
        · rw [if_pos h1, if_pos h1]
        · rw [if_neg h1, if_neg h1]
          by_cases h2 : j = k
          · rw [if_pos h2, if_pos h2]
          · rw [if_neg h2, if_neg h2, if_neg h2])
  · -- there is none
    have hgt : c < l.length + m.length := by omega
    have hnsc := nsc_le hgt
    obtain ⟨old, hold, hos, hod⟩ : ∃ old : Array Value, (∀ w' : World, w'.heap = w.heap → (Builtin.firstCells sz l.length (.slice a1 l.length c)).run P w' = .ok old w') ∧ old.size = l.length * sz ∧
        ∀ (i k : Nat) (row : List D) (d : D) (v : Value), l[i]? = some row → row[k]? = some d → old[i * sz + k]? = some v → Den ρ H d v := by
      by_cases hl0 : l.length * sz = 0
      · refine ⟨#[], fun w' _ => ?_, by rw [hl0]; rfl, by simp⟩
        cases a1 with
        | none => simp [Builtin.firstCells]
        | some b =>
          have := run_loadCells_list (P := P) w' b [] (by simp)
          simpa [Builtin.firstCells, hl0] using this
      · have hlpos : 0 < l.length := Nat.pos_of_ne_zero fun h => hl0 (by rw [h]; simp)
        have hhere : (ρ j).here = true := by
          cases hh : (ρ j).here with
          | true => rfl
          | false => have := ho3 hh; omega
        have ha' : a1 = some ⟨(ρ j).blk, 0, none⟩ := by
          rcases ha with h | ⟨_, h2⟩
          · omega
          · simpa using h2
        subst ha'
        obtain ⟨arr, bt, hb, hbs, hbd⟩ := ho4 hhere
        have hle : l.length * sz ≤ arr.size := by rw [hbs, ho0]; exact Nat.mul_le_mul_right _ hcn
        refine ⟨arr.extract 0 (l.length * sz), fun w' hw => ?_, by simp; omega, fun i k row d v hi hk hv => ?_⟩
        · have := load_cells (P := P) (w := w') (b := (ρ j).blk) (off := 0) (n := l.length * sz) (by rw [hw]; exact hb) (by omega)
          simp only [Builtin.firstCells]
          rw [this, Nat.zero_add]
        · rw [Array.getElem?_extract] at hv
          split at hv
          · rw [Nat.zero_add] at hv; exact hbd i k row d v hi hk (by rw [ho0]; exact hv)
          · cases hv
    have hv2' : ∀ w' : World, w'.heap = w.heap → (Builtin.firstCells sz m.length (.slice a2 m.length c2)).run P w' = .ok new w' := fun w' hw => by
      have := hnew w' hw
      rwa [hv2] at this
    obtain ⟨cap, arr, hcap, hrun, has, hget⟩ := append_grow_run (P := P) (ty := ty) hT ⟨_, hT2.und⟩ hZ hold hv2' hos hns hgt (Nat.le_trans (Nat.mul_le_mul_right _ hnsc) hroom) hb0'
    have hden := den_cells (ρ := ρ) (H := H) (l := l) (m := m) (sz := sz) (fun r hr => by rw [← ho0]; exact ho2 r hr) hos hod (fun i k row d v hi hk hv => .pure (hnd i k row d v hi hk hv))
    have hWd : WRel B (fun k => if j = k then none else bl k) ρ H { w with drawn := w.drawn + 1 } :=
      (hW.bl_eq fun k c' hk => by split at hk; cases hk; exact hk).drawn rfl rfl rfl rfl
    have hnl : D.hasL j' [] = false := rfl
    have hlm : ∀ r ∈ l ++ m, D.hasL j' r = false := fun r hr => by
      rcases List.mem_append.1 hr with h | h
      · have h1 := hfr j _ hj
        simp only [Blk.has, List.any_eq_false] at h1
        simpa using h1 r h
      · have h2 := (hm r h).2
        simp only [Bool.and_eq_true] at h2
        exact D.pureL_has j' r h2.2
    refine ⟨.slice (some ⟨w.heap.size, 0, none⟩) (l.length + m.length) cap, _, setLoc ρ j' ⟨w.heap.size, cap, sz, true⟩, by rw [hv1, hv2, hrun], ?_, fun k hk => setLoc_ne hk, ?_⟩
    · have := Den.sl (ρ := setLoc ρ j' ⟨w.heap.size, cap, sz, true⟩) (H := H) j' 0 (l ++ m).length (some ⟨w.heap.size, 0, none⟩) cap (by rw [setLoc_eq]; rfl) (by rw [setLoc_eq]; simpa using hcap) (.inr ⟨by rw [setLoc_eq], by rw [setLoc_eq]; simp⟩)
      simpa using this
    · have hok : OwnOk (setLoc ρ j' ⟨w.heap.size, cap, sz, true⟩) H ({ w with drawn := w.drawn + 1 }.alloc (.cells arr e)) j' (.buf sz (l ++ m)) := by
        refine ⟨by rw [setLoc_eq], by rw [setLoc_eq]; simpa using hcap, fun row hr => ?_, fun hh => (by rw [setLoc_eq] at hh; cases hh),
          fun _ => ⟨arr, e, by rw [setLoc_eq]; exact alloc_new, by rw [setLoc_eq]; exact has, fun i k row d v hi hk hv => ?_⟩⟩
        · rw [setLoc_eq]
          rcases List.mem_append.1 hr with h | h
          · rw [ho2 row h]; exact ho0
          · exact (hm row h).1
        · rw [setLoc_eq] at hv
          have hil : i < (l ++ m).length := (List.getElem?_eq_some_iff.1 hi).1
          have hrl : row.length = sz := by
            rcases List.mem_append.1 (List.mem_of_getElem? hi) with h | h
            · rw [ho2 row h]; exact ho0
            · exact (hm row h).1
          have hkl : k < sz := by have := (List.getElem?_eq_some_iff.1 hk).1; omega
          have : (i + 1) * sz ≤ (l.length + m.length) * sz := Nat.mul_le_mul_right _ (by rw [List.length_append] at hil; exact hil)
          rw [Nat.succ_mul] at this
          refine (hden i k row d v hi hk (hget _ _ (by omega) hv)).mono (GH.le_refl _) fun q hq => setLoc_ne ?_
          rintro rfl
          have := hlm row (List.mem_of_getElem? hi)
          rw [D.hasL_false this d (List.mem_of_getElem? hk)] at hq; cases hq
      refine (hWd.alloc_own (fun k b' hk => ?_) hok (bl' := fun k => if j' = k then some (.buf sz (l ++ m)) else if j = k then none else bl k) fun k => rfl)
      split at hk
      · cases hk
      · exact hfr k b' hk

theorem lok_append_own (j' : Nat) {x y : Operand} {T T2 e e2 : TypeId} {sz by_ sz2 by2 j n : Nat} {fy : Bool} {zs : List D} {l m : List (List D)} [hT : TySl P T e sz by_] [hT2 : TySl P T2 e2 sz2 by2] [hZ : TyZ P e zs]
    (hx : st.val x = some (.sl j 0 n)) (hj : st.blk j = some (.buf sz l)) (hn : n = l.length) (hy : st.val y = some (.rows fy m)) (hm : RowsOk sz m) (hroom : (2 * (l.length + m.length) + 512) * by_ ≤ 281474976710656) (hb0 : Nat.blt 0 by_ = true) (hd : t < st.n) :
    LOk P ⟨some t, .call ⟨.builtin .append, #[x, y], #[T, T2]⟩, ty, pos, af, g⟩ st ⟨[j], [j'], .sl j' 0 (l ++ m).length, [(j', some (.buf sz (l ++ m))), (j, none)]⟩ := by
  intro B st2 ag
  subst hn
  have hfr := ag.fresh j' (by simp)
  refine opOk_value (fun s hs => by cases hs; rw [ag.n]; exact hd) ag.fresh fun ρ H a w hR => ?_
  have hx2 := (ag.val x (by simp [Op.operands, Call.operands])).trans hx
  have hy2 := (ag.val y (by simp [Op.operands, Call.operands])).trans hy
  have hj2 := (ag.blk j (by simp)).trans hj
  have hne : j' ≠ j := by rintro rfl; have := hfr.val hx2; simp [D.has] at this
  have hruneq : (execOp a.eval ⟨some t, .call ⟨.builtin .append, #[x, y], #[T, T2]⟩, ty, pos, af, g⟩).run P w = ((Builtin.append_ #[T, T2] ty #[a.eval x, a.eval y]).run P w).andThen fun v w' => .ok (.value v) w' := by
    simp [execOp, resolve, invoke, builtin]
  obtain ⟨v, w', ρ', h1, h2, h3, h4⟩ := append_core (P := P) (ty := ty) hR.wr j' hT hT2 hZ (hR.val hx2) hj2 (hR.val hy2) hm hroom hb0 hne fun k b' hk => hfr.bl k b' hk
  refine ⟨v, w', ρ', H, .inl (by rw [hruneq, h1]; rfl), h2, GH.le_refl _, fun k hk => h3 k (by simpa using hk), h4.bl_eq fun k c' hk => ?_⟩
  rw [St.app_blk, blkOn_cons, blkOn_cons] at hk
  by_cases h1 : j' = k
  · rw [if_pos h1] at hk ⊢; exact hk
  · rw [if_neg h1] at hk ⊢
    by_cases h2 : j = k
    · rw [if_pos h2] at hk; cases hk
    · rw [if_neg h2] at hk ⊢; exact hk

/-- An append to nothing: a buffer of the call's own. (j0: a name that is used up.) -/
theorem lok_append_nil (j0 j' : Nat) {x y : Operand} {T T2 e e2 : TypeId} {sz by_ sz2 by2 : Nat} {fy : Bool} {zs : List D} {m : List (List D)} [hT : TySl P T e sz by_] [hT2 : TySl P T2 e2 sz2 by2] [hZ : TyZ P e zs]
    (hx : st.val x = some (.rows true [])) (hy : st.val y = some (.rows fy m)) (hm : RowsOk sz m) (hne : Nat.beq j' j0 = false) (hroom : (2 * m.length + 512) * by_ ≤ 281474976710656) (hb0 : Nat.blt 0 by_ = true) (hd : t < st.n) :
    LOk P ⟨some t, .call ⟨.builtin .append, #[x, y], #[T, T2]⟩, ty, pos, af, g⟩ st ⟨[], [j', j0], .sl j' 0 m.length, [(j', some (.buf sz m)), (j0, none)]⟩ := by
  intro B st2 ag
  have hfr := ag.fresh j' (by simp)
  have hfr0 := ag.fresh j0 (by simp)
  refine opOk_value (fun s hs => by cases hs; rw [ag.n]; exact hd) ag.fresh fun ρ H a w hR => ?_
  have hx2 := (ag.val x (by simp [Op.operands, Call.operands])).trans hx
  have hy2 := (ag.val y (by simp [Op.operands, Call.operands])).trans hy
  have hruneq : (execOp a.eval ⟨some t, .call ⟨.builtin .append, #[x, y], #[T, T2]⟩, ty, pos, af, g⟩).run P w = ((Builtin.append_ #[T, T2] ty #[a.eval x, a.eval y]).run P w).andThen fun v w' => .ok (.value v) w' := by
    simp [execOp, resolve, invoke, builtin]
  obtain ⟨a1, c, hv1, _, hc, _⟩ := (hR.val hx2).rows_inv
  have hc0 : c = 0 := by simpa using hc rfl
  subst hc0
  have hW0 : WRel B (fun k => if j0 = k then some (.buf sz []) else st2.blk k) (setLoc ρ j0 ⟨0, 0, sz, false⟩) H w := hR.wr.empty_buf (fun k b' hk => hfr0.bl k b' hk) fun k => rfl
  have hd1 : Den (setLoc ρ j0 ⟨0, 0, sz, false⟩) H (.sl j0 0 ([] : List (List D)).length) (a.eval x) := by
    rw [hv1]
    exact .sl j0 0 0 a1 0 (by simp [setLoc_eq]) (by simp) (.inl rfl)
  have hd2 : Den (setLoc ρ j0 ⟨0, 0, sz, false⟩) H (.rows fy m) (a.eval y) := (hR.val hy2).mono (GH.le_refl _) fun k hk => by simp [D.has] at hk
  have hne' : j' ≠ j0 := by rintro rfl; simp at hne
  obtain ⟨v, w', ρ', h1, h2, h3, h4⟩ := append_core (P := P) (ty := ty) hW0 j' hT hT2 hZ hd1 (by simp) hd2 hm (by simpa using hroom) hb0 hne' fun k b' hk => by
    split at hk
    · cases hk; rfl
    · exact hfr.bl k b' hk
  refine ⟨v, w', ρ', H, .inl (by rw [hruneq, h1]; rfl), by simpa using h2, GH.le_refl _, fun k hk => ?_, h4.bl_eq fun k c' hk => ?_⟩
  · simp only [List.mem_cons, List.not_mem_nil, or_false, not_or] at hk
    rw [h3 k hk.1, setLoc_ne hk.2]
  · rw [St.app_blk, blkOn_cons, blkOn_cons] at hk
    by_cases h1 : j' = k
    · rw [if_pos h1] at hk ⊢; exact hk
    · rw [if_neg h1] at hk ⊢
      by_cases h2 : j0 = k
      · rw [if_pos h2] at hk; cases hk
      · rw [if_neg h2] at hk ⊢
        rw [if_neg h2]; exact hk

/-- An own buffer that is left alone from now on. -/
theorem Fz.sl {st : St} {j n sz : Nat} {l : List (List D)} (hj : st.blk j = some (.buf sz l)) (hn : n = l.length) (hp : (l.all D.pureL) = true) : Fz st (.sl j 0 n) (.rows false l) := fun B ρ H a w v H' hR hpass hd hle hf => by
  subst hn
  obtain ⟨a1, c, rfl, hc, hcn, ha⟩ := hd.sl_inv
  obtain ⟨ho0, ho1, ho2, ho3, ho4⟩ := hR.wr.own j _ hj
  rw [Nat.sub_zero] at hc
  by_cases hl : l = []
  · subst hl; exact .rowsE false a1 c (by simp)
  · have hlp : 0 < l.length := List.length_pos_iff.2 hl
    have hhere : (ρ j).here = true := by
      cases hh : (ρ j).here with
      | true => rfl
      | false => have := ho3 hh; omega
    have ha' : a1 = some ⟨(ρ j).blk, 0, none⟩ := by
      rcases ha with h | ⟨_, h2⟩
      · omega
      · simpa using h2
    subst ha'
    obtain ⟨arr, bt, hb, hbs, hbd⟩ := ho4 hhere
    have hnew : B.W.heap.size ≤ (ρ j).blk := by
      rcases hR.wr.new j _ hj hhere with h | h
      · exact h
      · rw [hpass] at h; cases h
    have hH := hf (ρ j).blk _ hnew (hR.wr.np j _ hj hhere) hb
    refine .rowsS false l _ 0 c (ρ j).sz arr bt (0, 0) hH hl (by omega) (by simp) ho2 ?_ fun i k row d v hi hk hv => ?_
    · rw [Nat.zero_add, hbs]; exact Nat.mul_le_mul_right _ ho1
    · rw [Nat.zero_add] at hv
      exact ((hbd i k row d v hi hk hv).toP (D.pureL_mem ((List.all_eq_true.1 hp) _ (List.mem_of_getElem? hi)) _ (List.mem_of_getElem? hk))).mono hle
end
end ops
end Go.Eng
