/- Own texts of this claim, laid together: EngK, EngL, EngM, EngN, EngO, EngP, EngQ, EngR, EngS, EngT, EngU, EngV, EngW, EngX, EngY, EngZ, EngAA, EngAB, EngAC, EngAD, EngAE. -/
import Derived.Laws.MakeOwn
import Derived.Laws.Cover3
import Derived.Lib.Overlaps
import Derived.Test.YtkcdmmafkpplhaaGreatEditorTypesB1
set_option linter.unusedVariables false
set_option linter.unusedSimpArgs false
/- The engine, part K: slice expressions; appends that make an immutable slice; slice literals as own buffers. No program in sight. -/
namespace Go.Eng
open Go

/-- A bound of a slice expression. -/
def St.optInt (st : St) : Option Operand → Option (Option Int)
  | none => some none
  | some o => match st.val o with
    | some (.int _ i) => some (some i)
    | _ => none

section
variable {P : Program} {t : Nat} {ty : TypeId} {pos : String} {af : Array Edge} {g : Option (Nat × Bool)} {st : St} {d : D}

theorem optInt_val {B : Base} {ρ : Nat → Loc} {H : GH} {a : Act} {w : World} (hR : Rel B st ρ H a w) {o : Option Operand} {i : Option Int} (h : st.optInt o = some i) :
    (o = none ∧ i = none) ∨ ∃ x k n, o = some x ∧ i = some n ∧ a.eval x = .int k n := by
  cases o with
  | none => simp [St.optInt] at h; subst h; exact .inl ⟨rfl, rfl⟩
  | some x =>
    simp only [St.optInt] at h
    split at h
    · rename_i k n hx; cases h; exact .inr ⟨x, k, n, rfl, rfl, (hR.val hx).int_inv⟩
    · cases h

theorem sliceBound_run {w : World} {k : IntKind} {n y : Nat} {c : BoundsCode} (h : n ≤ y) : (Instr.sliceBound (.int k n) y c).run P w = .ok n w := by
  simp [Instr.sliceBound, asIntOf, h]

theorem sub_den {H : GH} {full : Bool} {l : List (List D)} {a : Option Addr} {cap lo hi m sz : Nat} (hv : DenP H (.rows full l) (.slice a l.length cap)) (hle : lo ≤ hi ∧ hi ≤ l.length) (hm : hi ≤ m) (hr : ∀ r ∈ l, r.length = sz) (f' : Bool) (hf : f' = true → m = hi) :
    DenP H (.rows f' ((l.take hi).drop lo)) (.slice (if m = lo then a else a.map (·.add (lo * sz))) (hi - lo) (m - lo)) := by
  have hlen : ((l.take hi).drop lo).length = hi - lo := by simp; omega
  by_cases h0 : hi - lo = 0
  · have : (l.take hi).drop lo = [] := List.length_eq_zero_iff.1 (by omega)
    rw [this, h0]
    exact .rowsE f' _ _ fun h => by have := hf h; omega
  · have hne : l ≠ [] := by rintro rfl; simp at hle; omega
    generalize hlc : l.length = lc at hv
    cases hv with
    | rowsE => exact absurd rfl hne
    | rowsS _ _ b off _ sz' arr ty fz hb _ hlen' _ hsz hin he hbig =>
      have hs : sz' = sz := by
        obtain ⟨r, hr'⟩ := List.exists_mem_of_ne_nil l hne
        rw [← hsz r hr', hr r hr']
      subst hs
      rw [if_neg (by omega)]
      have hadd : (⟨b, off, none⟩ : Addr).add (lo * sz') = ⟨b, off + lo * sz', none⟩ := by unfold Addr.add; split <;> simp_all
      simp only [Option.map_some, hadd]
      have hmul : lo * sz' + (hi - lo) * sz' = hi * sz' := by rw [← Nat.add_mul]; congr 1; omega
      have hmul2 : hi * sz' ≤ l.length * sz' := Nat.mul_le_mul_right _ hle.2
      have := DenP.rowsS (H := H) f' ((l.take hi).drop lo) b (off + lo * sz') (m - lo) sz' arr ty fz hb (by intro h; rw [h] at hlen; simp at hlen; omega) (by omega) (fun h => by have := hf h; omega)
        (fun r h => hsz r (List.mem_of_mem_take (List.mem_of_mem_drop h))) (by rw [hlen]; omega) (fun i k row d v hi' hk hv => by
          rw [List.getElem?_drop, List.getElem?_take] at hi'
          split at hi'
          · refine he (lo + i) k row d v hi' hk ?_
            rw [Nat.add_mul, ← Nat.add_assoc]; exact hv
          · cases hi') (by omega)
      rwa [hlen] at this

theorem sizeOf_run {T e : TypeId} {sz by_ : Nat} (hT : TySl P T e sz by_) {w : World} : (sizeOf e).run P w = .ok sz w := by
  obtain ⟨i, hi, hi2⟩ := map_some hT.info
  simp only [Prod.mk.injEq] at hi2
  simp [sizeOf, typeInfo, hi, hi2.1]

/-- l[lo:hi]. -/
theorem lok_slice2 {T e : TypeId} {sz by_ : Nat} [hT : TySl P T e sz by_] {x : Operand} {low high : Option Operand} {lo' hi' : Option Int} {full : Bool} {l : List (List D)} (lo hi : Nat) (hx : st.val x = some (.rows full l)) (h1 : st.optInt low = some lo')
    (h2 : st.optInt high = some hi') (hlo : lo'.getD 0 = (lo : Int)) (hhi : hi'.getD (l.length : Int) = (hi : Int)) (hle : lo ≤ hi ∧ hi ≤ l.length) (hr : ∀ r ∈ l, r.length = sz) (hd : t < st.n) :
    LOk P ⟨some t, .slice T x low high none, ty, pos, af, g⟩ st ⟨[], [], .rows false ((l.take hi).drop lo), []⟩ :=
  lok_pure hd fun _ st2 ρ H a w ag hR => by
    have hag : ∀ o : Option Operand, (∀ y, o = some y → y ∈ (Op.slice T x low high none).operands.toList) → st2.optInt o = st.optInt o := fun o ho => by
      cases o with
      | none => rfl
      | some y => simp only [St.optInt]; rw [ag.val y (ho y rfl)]
    have hx2 := hR.val ((ag.val x (by simp [Op.operands])).trans hx)
    obtain ⟨ad, cap, hv, hlc, _, _⟩ := hx2.rows_inv
    have hx3 := hx2.toP rfl
    rw [hv] at hx3
    have hden := sub_den (lo := lo) (hi := hi) (m := cap) hx3 hle (by omega) hr false (by simp)
    refine ⟨_, ?_, .pure hden⟩
    have hl := optInt_val hR ((hag low (fun y hy => by subst hy; simp [Op.operands])).trans h1)
    have hh := optInt_val hR ((hag high (fun y hy => by subst hy; simp [Op.operands])).trans h2)
    have hb : (Instr.sliceBounds true l.length cap (low.map a.eval) (high.map a.eval) none).run P w = .ok (lo, hi, cap) w := by
      rcases hl with ⟨rfl, rfl⟩ | ⟨x1, k1, n1, rfl, rfl, e1⟩ <;> rcases hh with ⟨rfl, rfl⟩ | ⟨x2, k2, n2, rfl, rfl, e2⟩
      · simp at hlo hhi
        have : lo = 0 := by omega
        subst this
        have : l.length = hi := by omega
        simp [Instr.sliceBounds, this]
      · simp at hlo hhi
        have : lo = 0 := by omega
        subst this hhi
        simp [Instr.sliceBounds, e2, sliceBound_run (show hi ≤ cap by omega)]
      · simp at hlo hhi
        subst hlo
        have : l.length = hi := by omega
        simp [Instr.sliceBounds, e1, this, sliceBound_run hle.1]
      · simp at hlo hhi
        subst hlo hhi
        simp [Instr.sliceBounds, e1, e2, sliceBound_run hle.1, sliceBound_run (show hi ≤ cap by omega)]
    simp [execOp, Instr.sliceAt, Instr.slice, run_underlying hT.und, hv, hb, sizeOf_run hT]

/-- l[lo:hi:hi]. -/
theorem lok_slice3 {T e : TypeId} {sz by_ : Nat} [hT : TySl P T e sz by_] {x hx' mx : Operand} {low : Option Operand} {lo' : Option Int} {k1 k2 : IntKind} {i1 i2 : Int} {full : Bool} {l : List (List D)} (lo hi : Nat) (hx : st.val x = some (.rows full l)) (h1 : st.optInt low = some lo')
    (h2 : st.val hx' = some (.int k1 i1)) (h3 : st.val mx = some (.int k2 i2)) (hlo : lo'.getD 0 = (lo : Int)) (hhi : i1 = (hi : Int)) (hmx : i2 = (hi : Int)) (hle : lo ≤ hi ∧ hi ≤ l.length) (hr : ∀ r ∈ l, r.length = sz) (hd : t < st.n) :
    LOk P ⟨some t, .slice T x low (some hx') (some mx), ty, pos, af, g⟩ st ⟨[], [], .rows true ((l.take hi).drop lo), []⟩ :=
  lok_pure hd fun _ st2 ρ H a w ag hR => by
    have hag : ∀ o : Option Operand, (∀ y, o = some y → y ∈ (Op.slice T x low (some hx') (some mx)).operands.toList) → st2.optInt o = st.optInt o := fun o ho => by
      cases o with
      | none => rfl
      | some y => simp only [St.optInt]; rw [ag.val y (ho y rfl)]
    have hx2 := hR.val ((ag.val x (by simp [Op.operands])).trans hx)
    obtain ⟨ad, cap, hv, hlc, _, _⟩ := hx2.rows_inv
    have hx3 := hx2.toP rfl
    rw [hv] at hx3
    have hden := sub_den (lo := lo) (hi := hi) (m := hi) hx3 hle (Nat.le_refl _) hr true (fun _ => rfl)
    refine ⟨_, ?_, .pure hden⟩
    have hl := optInt_val hR ((hag low (fun y hy => by subst hy; simp [Op.operands])).trans h1)
    have e2 := (hR.val ((ag.val hx' (by simp [Op.operands])).trans h2)).int_inv
    have e3 := (hR.val ((ag.val mx (by simp [Op.operands])).trans h3)).int_inv
    subst hhi hmx
    have hb : (Instr.sliceBounds true l.length cap (low.map a.eval) (some (a.eval hx')) (some (a.eval mx))).run P w = .ok (lo, hi, hi) w := by
      rcases hl with ⟨rfl, rfl⟩ | ⟨x1, k1, n1, rfl, rfl, e1⟩
      · simp at hlo
        have : lo = 0 := by omega
        subst this
        simp [Instr.sliceBounds, e2, e3, sliceBound_run (show hi ≤ cap by omega), sliceBound_run (Nat.le_refl hi)]
      · simp at hlo
        subst hlo
        simp [Instr.sliceBounds, e1, e2, e3, sliceBound_run hle.1, sliceBound_run (show hi ≤ cap by omega), sliceBound_run (Nat.le_refl hi)]
    simp [execOp, Instr.sliceAt, Instr.slice, run_underlying hT.und, hv, hb, sizeOf_run hT]
end
end Go.Eng

/- The engine, part L: contracts that are handed own blocks, and hand own blocks back. No program in sight. -/
namespace Go.Eng
open Go

def preB (l : List (Nat × Blk)) : Nat → Option Blk := fun j => alook l j
/-- Which names a list of blocks gives. -/
def names (l : List (Nat × Blk)) : List Nat := l.map (·.1)

/-- A contract with own blocks. keep: the names whose place stays. -/
structure FnG (P : Program) (f : FuncId) (args : List D) (pre : List (Nat × Blk)) (d : D) (post : List (Nat × Blk)) (keep : List Nat) : Prop where
  fn : ∃ fn, P.funcs[f]? = some fn ∧ fn.body.isSome = true ∧ (fn.name == "runtime.NumGoroutine") = false
  run : ∀ (W : World) (H : GH) (ρ : Nat → Loc) (pass : List Nat) (vs : Array Value), WRel ⟨W, H, pass, fun _ => none⟩ (preB pre) ρ H W → vs.size = args.length →
    (∀ (k : Nat) (d : D) (v : Value), args[k]? = some d → vs[k]? = some v → Den ρ H d v) →
    Calls P f vs W fun e w' => ∃ v ρ' H', e = .returned v ∧ Den ρ' H' d v ∧ (∀ j ∈ keep, ρ' j = ρ j) ∧ WRel ⟨W, H, pass, fun _ => none⟩ (preB post) ρ' H' w'

/-- All names in the data are of the list. -/
def closedD (ns : List Nat) (d : D) : Prop := ∀ j, d.has j = true → j ∈ ns
def closedB (ns : List Nat) (b : Blk) : Prop := ∀ j, b.has j = true → j ∈ ns

theorem OwnOk.here_mono {ρ ρ' : Nat → Loc} {H H' : GH} {w w' : World} {j : Nat} {b : Blk} (h : OwnOk ρ H w j b) (hle : H.le H') (hj : ρ' j = ρ j) (hn : ∀ k, b.has k = true → ρ' k = ρ k)
    (hw : (ρ j).here = true → w'.heap[(ρ j).blk]? = w.heap[(ρ j).blk]?) : OwnOk ρ' H' w' j b := h.mono hle hj hn hw

section
variable {P : Program} {t : Nat} {ty : TypeId} {pos : String} {af : Array Edge} {g : Option (Nat × Bool)} {st : St} {d : D}

theorem alook_names {l : List (Nat × Blk)} {j : Nat} {b : Blk} (h : alook l j = some b) : j ∈ names l := List.mem_map.2 ⟨_, alook_mem h, rfl⟩

/-- What is behind a call that was handed own blocks. -/
theorem WRel.called {B : Base} {bl bl' : Nat → Option Blk} {ρ ρ' : Nat → Loc} {H H' : GH} {w w' : World} {pre post : List (Nat × Blk)} {keep pass : List Nat} (h : WRel B bl ρ H w)
    (hpre : ∀ j b, alook pre j = some b → bl j = some b) (hpass : ∀ p ∈ pass, ∃ j b, alook pre j = some b ∧ (ρ j).here = true ∧ p = (ρ j).blk)
    (hk : ∀ j ∈ keep, ρ' j = ρ j) (hw : WRel ⟨w, H, pass, fun _ => none⟩ (preB post) ρ' H' w')
    (hkp : ∀ j ∈ names post, j ∉ keep → B.keep j = none) (hfresh : ∀ j ∈ names post, j ∉ keep → ∀ k b, bl k = some b → b.has j = false) (hclosed : ∀ j b, alook post j = some b → closedB (names post) b)
    (hbl : ∀ j b, bl' j = some b → alook post j = some b ∨ (j ∉ names post ∧ alook pre j = none ∧ bl j = some b)) :
    WRel B bl' (fun j => if j ∈ names post then ρ' j else ρ j) H' w' := by
  have hin : ∀ {j}, j ∈ names post → (fun j => if j ∈ names post then ρ' j else ρ j) j = ρ' j := fun h => if_pos h
  have hout : ∀ {j}, j ∉ names post → (fun j => if j ∈ names post then ρ' j else ρ j) j = ρ j := fun h => if_neg h
  -- the others: their blocks are no passed ones
  have other : ∀ j b, j ∉ names post → alook pre j = none → bl j = some b → (ρ j).here = true → (ρ j).blk < w.heap.size ∧ (ρ j).blk ∉ pass := fun j b _ hn hb hh => by
    refine ⟨(h.own j b hb).lt hh, fun hp => ?_⟩
    obtain ⟨k, c, h1, h2, h3⟩ := hpass _ hp
    have hne : j ≠ k := by rintro rfl; rw [hn] at h1; cases h1
    exact h.sep j k b c hb (hpre k c h1) hne hh h2 h3
  have postloc : ∀ j b, alook post j = some b → (ρ' j).here = true → w.heap.size ≤ (ρ' j).blk ∨ (ρ' j).blk ∈ pass := fun j b hj hh => hw.new j b hj hh
  refine ⟨fun j b hj => ?_, fun j k b c hj hkk hne h1 h2 => ?_, fun j b hj hh => ?_, fun j b hj hh => ?_, hw.pers, GH.le_trans h.hext hw.hext, fun b o hb => ?_, Nat.le_trans h.size hw.size, fun k hk1 hk2 => ?_, hw.os.trans h.os, hw.tape.trans h.tape, hw.output.trans h.output, fun j l hj => ?_⟩
  · rcases hbl j b hj with hp | ⟨hn, hpn, hb⟩
    · have hjn := alook_names hp
      exact (hw.own j b hp).name (hin hjn) fun k hkb => hin (hclosed j b hp k hkb)
    · have ho := h.own j b hb
      refine ho.mono hw.hext (hout hn) (fun k hkb => ?_) (fun hh => ?_)
      · by_cases hkn : k ∈ names post
        · show (if k ∈ names post then ρ' k else ρ k) = ρ k
          rw [if_pos hkn]
          by_cases hkk : k ∈ keep
          · exact hk k hkk
          · rw [hfresh k hkn hkk j b hb] at hkb; cases hkb
        · exact hout hkn
      · obtain ⟨h1, h2⟩ := other j b hn hpn hb hh
        exact hw.frame _ h1 h2
  · rcases hbl j b hj with hp | ⟨hn, hpn, hb⟩ <;> rcases hbl k c hkk with hp' | ⟨hn', hpn', hb'⟩
    · have a1 := alook_names hp; have a2 := alook_names hp'
      simp only [if_pos a1, if_pos a2] at h1 h2 ⊢
      exact hw.sep j k b c hp hp' hne h1 h2
    · have a1 := alook_names hp
      simp only [if_pos a1, if_neg hn'] at h1 h2 ⊢
      obtain ⟨e1, e2⟩ := other k c hn' hpn' hb' h2
      rcases postloc j b hp h1 with e3 | e3
      · omega
      · intro he; rw [he] at e3; exact e2 e3
    · have a2 := alook_names hp'
      simp only [if_neg hn, if_pos a2] at h1 h2 ⊢
      obtain ⟨e1, e2⟩ := other j b hn hpn hb h1
      rcases postloc k c hp' h2 with e3 | e3
      · omega
      · intro he; rw [← he] at e3; exact e2 e3
    · simp only [if_neg hn, if_neg hn'] at h1 h2 ⊢
      exact h.sep j k b c hb hb' hne h1 h2
  · rcases hbl j b hj with hp | ⟨hn, hpn, hb⟩
    · have a1 := alook_names hp
      simp only [if_pos a1] at hh ⊢
      rcases postloc j b hp hh with e | e
      · exact .inl (Nat.le_trans h.size e)
      · obtain ⟨k, c, h1, h2, h3⟩ := hpass _ e
        rw [h3]; exact h.new k c (hpre k c h1) h2
    · simp only [if_neg hn] at hh ⊢
      exact h.new j b hb hh
  · rcases hbl j b hj with hp | ⟨hn, hpn, hb⟩
    · have a1 := alook_names hp
      simp only [if_pos a1] at hh ⊢
      exact hw.np j b hp hh
    · simp only [if_neg hn] at hh ⊢
      obtain ⟨e1, e2⟩ := other j b hn hpn hb hh
      cases hH : H' (ρ j).blk with
      | none => rfl
      | some o =>
        rcases hw.hnew _ _ hH with e3 | e3 | e3
        · exact absurd ((h.np j b hb hh).symm.trans e3) (by simp)
        · exact absurd e3 (by simp only; omega)
        · exact absurd e3 e2
  · rcases hw.hnew b o hb with e | e | e
    · exact h.hnew b o e
    · exact .inr (.inl (Nat.le_trans h.size e))
    · obtain ⟨k, c, h1, h2, h3⟩ := hpass _ e
      rw [h3]; exact .inr (h.new k c (hpre k c h1) h2)
  · have hk3 : k ∉ pass := fun hp => by
      obtain ⟨j, c, h1, h2, h3⟩ := hpass _ hp
      rcases h.new j c (hpre j c h1) h2 with e | e
      · omega
      · rw [← h3] at e; exact hk2 e
    rw [hw.frame k (Nat.lt_of_lt_of_le hk1 h.size) hk3]; exact h.frame k hk1 hk2
  · show (if j ∈ names post then ρ' j else ρ j) = l
    by_cases hjn : j ∈ names post
    · rw [if_pos hjn]
      by_cases hjk : j ∈ keep
      · rw [hk j hjk]; exact h.kp j l hj
      · rw [hkp j hjn hjk] at hj; cases hj
    · rw [if_neg hjn]; exact h.kp j l hj

theorem mem_names {l : List (Nat × Blk)} {j : Nat} (h : j ∈ names l) : ∃ b, alook l j = some b := by
  induction l with
  | nil => simp [names] at h
  | cons p l ih =>
    obtain ⟨k, b⟩ := p
    by_cases hk : k = j
    · exact ⟨b, by rw [alook_cons, if_pos hk]⟩
    · obtain ⟨c, hc⟩ := ih (by simp only [names, List.map_cons, List.mem_cons] at h ⊢; rcases h with h | h; exact absurd h.symm hk; exact h)
      exact ⟨c, by rw [alook_cons, if_neg hk]; exact hc⟩

/-- A call by a contract with own blocks. -/
theorem lok_callG {y : Operand} {xs : Array Operand} {ats : Array TypeId} {f : FuncId} {ds caps : List D} {pre post : List (Nat × Blk)} {keep nw : List Nat} {wr : List (Nat × Option Blk)} (hy : st.val y = some (.fn f caps)) (hx : st.vals xs.toList = some ds)
    (hs : FnG P f (ds ++ caps) pre d post keep) (hpre : ∀ j b, alook pre j = some b → st.blk j = some b) (hcl : closedD (names post) d) (hclb : ∀ j b, alook post j = some b → closedB (names post) b) (hnew : ∀ j ∈ names post, j ∉ keep → j ∈ nw)
    (hwr : ∀ bk j b, blkOn bk wr j = some b → alook post j = some b ∨ (j ∉ names post ∧ alook pre j = none ∧ bk = some b)) (hd : t < st.n) :
    LOk P ⟨some t, .call ⟨.value y, xs, ats⟩, ty, pos, af, g⟩ st ⟨names pre, nw, d, wr⟩ := by
  intro B st2 ag ρ H a w hR K Q hK
  obtain ⟨fn, hf, hb, hn⟩ := hs.fn
  obtain ⟨cs, h1, h2, h3⟩ := (hR.val ((ag.val y (by simp [Op.operands, Call.operands])).trans hy)).fn_inv
  have hx2 : st2.vals xs.toList = some ds := by rw [← hx]; exact vals_congr fun x hx => ag.val x (by simp [Op.operands, Call.operands] at hx ⊢; exact .inr hx)
  obtain ⟨h4, h5⟩ := hR.vals hx2
  have hl : ds.length = xs.size := by simpa using h4
  have hpre2 : ∀ j b, alook pre j = some b → st2.blk j = some b := fun j b hj => (ag.blk j (alook_names hj)).trans (hpre j b hj)
  let pass := (names pre).filterMap fun j => if (ρ j).here = true then some (ρ j).blk else none
  have hp1 : ∀ p ∈ pass, ∃ j b, alook pre j = some b ∧ (ρ j).here = true ∧ p = (ρ j).blk := fun p hp => by
    obtain ⟨j, hj, hjp⟩ := List.mem_filterMap.1 hp
    split at hjp
    · rename_i hh
      obtain ⟨b, hb⟩ := mem_names hj
      exact ⟨j, b, hb, hh, (Option.some.inj hjp).symm⟩
    · cases hjp
  have hp2 : ∀ j b, alook pre j = some b → (ρ j).here = true → (ρ j).blk ∈ pass := fun j b hj hh => List.mem_filterMap.2 ⟨j, alook_names hj, by rw [if_pos hh]⟩
  have hW0 : WRel ⟨w, H, pass, fun _ => none⟩ (preB pre) ρ H w := ⟨fun j b hj => hR.wr.own j b (hpre2 j b hj), fun j k b c hj hk => hR.wr.sep j k b c (hpre2 j b hj) (hpre2 k c hk), fun j b hj hh => .inr (hp2 j b hj hh), fun j b hj => hR.wr.np j b (hpre2 j b hj),
    hR.wr.pers, GH.le_refl _, fun _ _ h => .inl h, Nat.le_refl _, fun _ _ _ => rfl, rfl, rfl, rfl, fun _ _ h => by cases h⟩
  have hrun : (execOp a.eval ⟨some t, .call ⟨.value y, xs, ats⟩, ty, pos, af, g⟩).run P w = .ok (.enter f (xs.map a.eval ++ cs)) w := by
    simp [execOp, resolve, h1, Deferred.ofValue, invoke, callFunc_run hf hb hn]
  unfold Oper.wp
  rw [hrun]
  refine (hs.run w H ρ pass (xs.map a.eval ++ cs) hW0 (by simp [h2, hl]) fun k d v hk hv => ?_).mono fun e w' ⟨v, ρ', H', he, hv, hkp, hw⟩ => ?_
  · rw [List.getElem?_append] at hk
    rw [Array.getElem?_append] at hv
    simp only [Array.size_map] at hv
    rw [hl] at hk
    split at hk
    · rename_i hlt; rw [if_pos hlt] at hv; exact h5 k d v hk (by simpa using hv)
    · rename_i hlt; rw [if_neg hlt] at hv; exact h3 _ d v hk hv
  · subst he
    have hfr : ∀ j ∈ names post, j ∉ keep → st2.Fresh j := fun j hj hk => ag.fresh j (hnew j hj hk)
    have hW := hR.wr.called hpre2 hp1 hkp hw (fun j hj hk => hR.nokeep (hfr j hj hk)) (fun j hj hk k b hb => (hfr j hj hk).bl k b hb) hclb (bl' := (st2.app (some t) ⟨names pre, nw, d, wr⟩).blk) fun j b hj => by
      rw [St.app_blk] at hj; exact hwr _ j b hj
    have hmono : ∀ {d0 : D} {v0 : Value}, Den ρ H d0 v0 → (∀ j, d0.has j = true → j ∈ names post → j ∈ keep) → Den (fun j => if j ∈ names post then ρ' j else ρ j) H' d0 v0 := fun h hh => h.mono hw.hext fun j hj => by
      by_cases hjn : j ∈ names post
      · show (if j ∈ names post then ρ' j else ρ j) = ρ j
        rw [if_pos hjn]; exact hkp j (hh j hj hjn)
      · exact if_neg hjn
    refine hK v _ H' w' ⟨?_, ?_, fun s d' hs' => ?_, hW, hR.lm⟩
    · simp [Act.put, St.app, hR.sz]
    · simp [Act.put, hR.df]
    · rw [St.app_get] at hs'
      by_cases hdt : some t = some s
      · rw [if_pos hdt] at hs'; cases hs'
        cases hdt
        exact ⟨v, by simp [Act.put, hR.sz, ag.n, hd], hv.mono (GH.le_refl _) fun j hj => if_pos (hcl j hj)⟩
      · rw [if_neg hdt] at hs'
        obtain ⟨u, e1, e2⟩ := hR.tm s d' hs'
        refine ⟨u, by simp only [Act.put]; rw [Array.getElem?_setIfInBounds_ne (fun h => hdt (by rw [h]))]; exact e1, hmono e2 fun j hj hjn => ?_⟩
        by_cases hjk : j ∈ keep
        · exact hjk
        · rw [(hfr j hjn hjk).tm s d' hs'] at hj; cases hj
end

section fn
variable {P : Program}

/-- What a value is when all that the call has made, but for the blocks ns, is left alone from then on. -/
def FzG (st : St) (ns : List Nat) (d0 d : D) : Prop := ∀ B ρ H a w v H', Rel B st ρ H a w → Den ρ H d0 v → H.le H' →
  (∀ k o, (B.W.heap.size ≤ k ∨ k ∈ B.pass) → (∀ j ∈ ns, ∀ b, st.blk j = some b → (ρ j).here = true → k ≠ (ρ j).blk) → H k = none → w.heap[k]? = some o → H' k = some o) → Den ρ H' d v
theorem FzG.same {st : St} {ns : List Nat} {d : D} : FzG st ns d d := fun _ _ _ _ _ _ _ _ hd hle _ => hd.mono hle fun _ _ => rfl
theorem FzG.weakR {st : St} {ns : List Nat} {l : List (List D)} : FzG st ns (.rows true l) (.rows false l) := fun _ _ _ _ _ _ _ _ hd hle _ => .pure ((hd.toP rfl).mono hle).weakR
inductive FzGL (st : St) (ns : List Nat) : List D → List D → Prop
  | nil : FzGL st ns [] []
  | cons {d0 d : D} {l0 l : List D} (h : FzG st ns d0 d) (r : FzGL st ns l0 l) : FzGL st ns (d0 :: l0) (d :: l)
theorem FzGL.refl {st : St} {ns : List Nat} : ∀ l : List D, FzGL st ns l l
  | [] => .nil
  | _ :: l => .cons .same (FzGL.refl l)
theorem FzGL.get {st : St} {ns : List Nat} {l0 l : List D} (h : FzGL st ns l0 l) : l0.length = l.length ∧ ∀ (k : Nat) (d : D), l[k]? = some d → ∃ d0, l0[k]? = some d0 ∧ FzG st ns d0 d := by
  induction h with
  | nil => simp
  | cons h r ih =>
    refine ⟨by simp [ih.1], fun k d hk => ?_⟩
    cases k with
    | zero => simp at hk; subst hk; exact ⟨_, rfl, h⟩
    | succ k => exact ih.2 k d (by simpa using hk)
theorem FzG.agg {st : St} {ns : List Nat} {l0 l : List D} (h : FzGL st ns l0 l) : FzG st ns (.agg l0) (.agg l) := fun B ρ H a w v H' hR hd hle hf => by
  obtain ⟨cs, rfl, hs, he⟩ := hd.agg_inv
  obtain ⟨h1, h2⟩ := h.get
  refine .agg l cs (by rw [hs, h1]) fun k d v hk hv => ?_
  obtain ⟨d0, h3, h4⟩ := h2 k d hk
  exact h4 B ρ H a w v H' hR (he k d0 v h3 hv) hle hf
/-- An own buffer that is left alone from now on. -/
theorem FzG.sl {st : St} {ns : List Nat} {j n sz : Nat} {l : List (List D)} (hj : st.blk j = some (.buf sz l)) (hn : n = l.length) (hp : (l.all D.pureL) = true) (hns : ns.contains j = false) : FzG st ns (.sl j 0 n) (.rows false l) := fun B ρ H a w v H' hR hd hle hf => by
  subst hn
  obtain ⟨a1, c, rfl, hc, hcn, ha⟩ := hd.sl_inv
  obtain ⟨ho0, ho1, ho2, ho3, ho4, hoB, hoP⟩ := hR.wr.own j _ hj
  rw [Nat.sub_zero] at hc
  by_cases hl : l = []
  · subst hl; exact .pure (.rowsE false a1 c (by simp))
  · have hlp : 0 < l.length := List.length_pos_iff.2 hl
    have hhere : (ρ j).here = true := by
      cases hh : (ρ j).here with
      | true => rfl
      | false => have := ho3 hh; omega
    have ha' : a1 = some ⟨(ρ j).blk, 0, none⟩ := by
      rcases ha with h | ⟨_, h2⟩
      · omega
      · simpa using h2
    subst ha'
    obtain ⟨arr, bt, hb, hbs, hbd⟩ := ho4 hhere
    have hH := hf (ρ j).blk _ (hR.wr.new j _ hj hhere) (fun k hk b hb hh => hR.wr.sep j k _ b hj hb (by rintro rfl; simp at hns; exact hns hk) hhere hh) (hR.wr.np j _ hj hhere) hb
    refine .pure (.rowsS false l _ 0 c (ρ j).sz arr bt (0, 0) hH hl (by omega) (by simp) ho2 ?_ (fun i k row d v hi hk hv => ?_) hoB)
    · rw [Nat.zero_add, hbs]; exact Nat.mul_le_mul_right _ ho1
    · rw [Nat.zero_add] at hv
      exact ((hbd i k row d v hi hk hv).toP (D.pureL_mem ((List.all_eq_true.1 hp) _ (List.mem_of_getElem? hi)) _ (List.mem_of_getElem? hk))).mono hle

/-- What a handed-back block comes to. -/
inductive FzB (st : St) (ns : List Nat) : Blk → Blk → Prop
  | same (b : Blk) : FzB st ns b b
  | cells (ty : TypeId) {l0 l : List D} (h : FzGL st ns l0 l) : FzB st ns (.cells ty l0) (.cells ty l)

inductive RetGV (P : Program) (st : St) (ns : List Nat) : ResultVar → D → Prop
  | tmp {t : Nat} {d0 d : D} (h : st.get t = some d0) (hf : FzG st ns d0 d) : RetGV P st ns (.tmp t) d
  | cell {t : Nat} {T bt : TypeId} {agg : Bool} {n j off : Nat} {l : List D} {d0 d : D} [hT : TyF P T agg n] (h : st.get t = some (.ptr j off)) (hj : st.blk j = some (.cells bt l)) (hl : ldD agg n (l.drop off) = some d0)
      (ho : off ≤ l.length) (hf : FzG st ns d0 d) : RetGV P st ns (.cell t T) d
inductive RetG (P : Program) (st : St) (ns : List Nat) : List ResultVar → List D → Prop
  | nil : RetG P st ns [] []
  | cons {r : ResultVar} {d : D} {rs : List ResultVar} {ds : List D} (h : RetGV P st ns r d) (t : RetG P st ns rs ds) : RetG P st ns (r :: rs) (d :: ds)

def Frozen (B : Base) (st : St) (ns : List Nat) (ρ : Nat → Loc) (H : GH) (w : World) (H' : GH) : Prop :=
  ∀ k o, (B.W.heap.size ≤ k ∨ k ∈ B.pass) → (∀ j ∈ ns, ∀ b, st.blk j = some b → (ρ j).here = true → k ≠ (ρ j).blk) → H k = none → w.heap[k]? = some o → H' k = some o

theorem RetGV.run {st : St} {ns : List Nat} {r : ResultVar} {d : D} (h : RetGV P st ns r d) {B : Base} {ρ : Nat → Loc} {H H' : GH} {a : Act} {w : World} (hR : Rel B st ρ H a w) (hle : H.le H') (hf : Frozen B st ns ρ H w H') :
    ∃ v, (resOne a.tmps r).run P w = .ok v w ∧ Den ρ H' d v := by
  cases h with
  | tmp h hfz =>
    have hd := hR.val (x := .tmp _) h
    exact ⟨_, rfl, hfz B ρ H a w _ H' hR hd hle hf⟩
  | @cell t T bt agg n j off l d0 _ hT h hj hl ho hfz =>
    obtain ⟨hh, h1⟩ := (hR.val (x := .tmp _) h).ptr_inv
    obtain ⟨_, arr, hb, hsz, he⟩ := hR.wr.own _ _ hj
    obtain ⟨v, hv, hden⟩ := load_run (P := P) (ρ := ρ) (H := H) hT hb (l := l.drop off) (off := off) (by simp; omega) (fun k d v h1 h2 => he (off + k) d v (by simpa using h1) h2) hl
    refine ⟨v, ?_, hfz B ρ H a w v H' hR hden hle hf⟩
    simp only [Act.eval] at h1
    simp only [resOne, Sem.run_bind, h1, asAddr, Sem.run_pure, Result.andThen_ok, hv]
theorem RetG.run {st : St} {ns : List Nat} {rs : List ResultVar} {ds : List D} (h : RetG P st ns rs ds) {B : Base} {ρ : Nat → Loc} {H H' : GH} {a : Act} {w : World} (hR : Rel B st ρ H a w) (hle : H.le H') (hf : Frozen B st ns ρ H w H') :
    ∃ vs, (rs.mapM (resOne a.tmps)).run P w = .ok vs w ∧ vs.length = ds.length ∧ ∀ (k : Nat) (d : D) (v : Value), ds[k]? = some d → vs[k]? = some v → Den ρ H' d v := by
  induction h with
  | nil => exact ⟨[], rfl, rfl, by simp⟩
  | cons h t ih =>
    obtain ⟨v, h1, h2⟩ := h.run hR hle hf
    obtain ⟨vs, h3, h4, h5⟩ := ih
    refine ⟨v :: vs, ?_, by simp [h4], fun k d u hk hu => ?_⟩
    · simp only [List.mapM_cons, Sem.run_bind]
      rw [h1]
      simp only [Result.andThen_ok]
      rw [h3]
      simp only [Result.andThen_ok, Sem.run_pure]
    · cases k with
      | zero => simp at hk hu; subst hk; subst hu; exact h2
      | succ k => exact h5 k d u (by simpa using hk) (by simpa using hu)

/-- What a body with own blocks must come to. -/
def EndsG (P : Program) (fn : Func) (d : D) (post : List (Nat × Blk)) : Exit → St → Prop := fun e st => (e = .normal ∨ e = .ret) ∧ (∃ ds, RetG P st (names post) fn.results.toList ds ∧ d = retD ds) ∧
  ∀ j b, alook post j = some b → ∃ b0, st.blk j = some b0 ∧ FzB st (names post) b0 b

def noPlus : List (Nat × Blk) → Bool
  | [] => true
  | (_, .plus _ _ _) :: _ => false
  | _ :: r => noPlus r
theorem blkOn_pre : ∀ (l : List (Nat × Blk)) (j : Nat), noPlus l = true → blkOn none (l.map fun p => (p.1, some p.2)) j = alook l j
  | [], _, _ => rfl
  | (k, b) :: l, j, h => by
    have h' : noPlus l = true := by cases b <;> simp_all [noPlus]
    simp only [List.map_cons, blkOn_cons, alook_cons, blkOn_pre l j h']
    split
    · cases b <;> simp_all [noPlus, plusOn]
    · rfl

theorem FnG.of_body {f : FuncId} {fn : Func} {c : Code} {args : List D} {d : D} {pre post : List (Nat × Blk)} {keep : List Nat} (lm : Nat) (hf : P.funcs[f]? = some fn) (hb : fn.body = some c) (hnm : (fn.name == "runtime.NumGoroutine") = false) (hn : Nat.ble args.length fn.ntmps = true)
    (hpl : noPlus pre = true) (hk : (keep.all fun j => Nat.blt j lm) = true) (h : Wp P c (EndsG P fn d post) ⟨fn.ntmps, argTmps 0 args, pre.map fun p => (p.1, some p.2), lm⟩) : FnG P f args pre d post keep := by
  refine ⟨⟨fn, hf, by simp [hb], hnm⟩, fun W H ρ pass vs hW hsz hden => ?_⟩
  refine calls_of_wp hf hb ?_
  have hn' : args.length ≤ fn.ntmps := by simpa using hn
  have hblk : ∀ j b, St.blk ⟨fn.ntmps, argTmps 0 args, pre.map fun p => (p.1, some p.2), lm⟩ j = some b → preB pre j = some b := fun j b hj => by
    simp only [St.blk] at hj; rw [blkOn_pre pre j hpl] at hj; exact hj
  have hR : Rel ⟨W, H, pass, fun j => if j ∈ keep then some (ρ j) else none⟩ ⟨fn.ntmps, argTmps 0 args, pre.map fun p => (p.1, some p.2), lm⟩ ρ H { tmps := vs ++ Array.replicate (fn.ntmps - vs.size) undef, defers := [] } W := by
    refine ⟨by simp; omega, rfl, fun t d ht => ?_, ?_, fun j l hj => ?_⟩
    · obtain ⟨_, h2⟩ := argTmps_look args 0 t d ht
      simp only [Nat.sub_zero] at h2
      have hlt : t < vs.size := by rw [hsz]; exact (List.getElem?_eq_some_iff.1 h2).1
      exact ⟨vs[t], by rw [Array.getElem?_append_left hlt]; simp [hlt], hden t d _ h2 (by simp [hlt])⟩
    · exact ⟨fun j b hj => hW.own j b (hblk j b hj), fun j k b c hj hk => hW.sep j k b c (hblk j b hj) (hblk k c hk), fun j b hj => hW.new j b (hblk j b hj), fun j b hj => hW.np j b (hblk j b hj), hW.pers, hW.hext, hW.hnew, hW.size, hW.frame, hW.os, hW.tape, hW.output,
        fun j l hj => by simp only at hj; split at hj; (cases hj; rfl); cases hj⟩
    · simp only at hj
      split at hj
      · rename_i hjk; simpa [Nat.blt_eq] using (List.all_eq_true.1 hk) j hjk
      · cases hj
  refine Go.wp_mono (h _ _ _ _ _ hR) fun e a' w' ⟨st', ρ', H', hR', he, ⟨ds, hret, hds⟩, hpost⟩ => ?_
  -- what is left alone from now on
  classical
  let H'' : GH := fun b => match H' b with
    | some o => some o
    | none => if (W.heap.size ≤ b ∨ b ∈ pass) ∧ (∀ j ∈ names post, ∀ b', st'.blk j = some b' → (ρ' j).here = true → b ≠ (ρ' j).blk) then w'.heap[b]? else none
  have hle : H'.le H'' := fun b o hb => by show (match H' b with | some o => some o | none => _) = _; rw [hb]
  have hnone : ∀ b, H' b = none → H'' b = if (W.heap.size ≤ b ∨ b ∈ pass) ∧ (∀ j ∈ names post, ∀ b', st'.blk j = some b' → (ρ' j).here = true → b ≠ (ρ' j).blk) then w'.heap[b]? else none := fun b hb => by
    show (match H' b with | some o => some o | none => _) = _; rw [hb]
  have hfz : Frozen ⟨W, H, pass, fun j => if j ∈ keep then some (ρ j) else none⟩ st' (names post) ρ' H' w' H'' := fun k o h1 h2 h3 h4 => by rw [hnone k h3, if_pos ⟨h1, h2⟩]; exact h4
  obtain ⟨vs', h1, h2, h3⟩ := hret.run hR' hle hfz
  have hres : ∃ v, (results fn a'.tmps).run P w' = .ok v w' ∧ Den ρ' H'' d v := by
    have hm : (fn.results.mapM (resOne a'.tmps)).run P w' = .ok vs'.toArray w' := by
      rw [Array.mapM_eq_mapM_toList]
      simp only [Sem.run_map]
      rw [h1]
      simp
    refine ⟨if h : vs'.toArray.size = 1 then vs'.toArray[0] else .tuple vs'.toArray, ?_, ?_⟩
    · rw [results_eq]
      simp only [Sem.run_bind]
      rw [hm]
      simp
    · subst hds
      match ds, vs', h2, h3 with
      | [d], [v], _, h3 => exact h3 0 d v rfl rfl
      | [], [], _, _ => exact .tup [] _ rfl (by simp)
      | x :: y :: r, u :: v :: q, h2, h3 => exact .tup _ _ (by simpa using h2) fun k d v hk hv => h3 k d v hk (by simpa using hv)
      | [], _ :: _, h2, _ => simp at h2
      | [_], [], h2, _ => simp at h2
      | [_], _ :: _ :: _, h2, _ => simp at h2
      | _ :: _ :: _, [], h2, _ => simp at h2
      | _ :: _ :: _, [_], h2, _ => simp at h2
  obtain ⟨v, h4, h5⟩ := hres
  have hW' : WRel ⟨W, H, pass, fun _ => none⟩ (preB post) ρ' H'' w' := by
    have hp : ∀ j b, preB post j = some b → ∃ b0, st'.blk j = some b0 := fun j b hj => by obtain ⟨b0, h, _⟩ := hpost j b hj; exact ⟨b0, h⟩
    refine ⟨fun j b hj => ?_, fun j k b c hj hk hne => ?_, fun j b hj hh => ?_, fun j b hj hh => ?_, fun b o hb => ?_, GH.le_trans hR'.wr.hext hle, fun b o hb => ?_, hR'.wr.size, hR'.wr.frame, hR'.wr.os, hR'.wr.tape, hR'.wr.output, fun _ _ h => by cases h⟩
    · obtain ⟨b0, hb0, hz⟩ := hpost j b hj
      have ho := hR'.wr.own j b0 hb0
      cases hz with
      | same => exact ho.mono hle rfl (fun _ _ => rfl) (fun _ => rfl)
      | @cells ty l0 l hl =>
        obtain ⟨hh, arr, e1, e2, e3⟩ := ho
        obtain ⟨g1, g2⟩ := hl.get
        refine ⟨hh, arr, e1, by rw [e2, g1], fun k d v hk hv => ?_⟩
        obtain ⟨d0, g3, g4⟩ := g2 k d hk
        exact g4 _ ρ' H' a' w' v H'' hR' (e3 k d0 v g3 hv) hle hfz
    · obtain ⟨b0, e1⟩ := hp j b hj; obtain ⟨c0, e2⟩ := hp k c hk
      exact hR'.wr.sep j k b0 c0 e1 e2 hne
    · obtain ⟨b0, e1⟩ := hp j b hj; exact hR'.wr.new j b0 e1 hh
    · obtain ⟨b0, e1⟩ := hp j b hj
      rw [hnone _ (hR'.wr.np j b0 e1 hh), if_neg (fun h => h.2 j (alook_names hj) b0 e1 hh rfl)]
    · cases hb' : H' b with
      | some o' => have := hle b o' hb'; rw [this] at hb; cases hb; exact hR'.wr.pers b _ hb'
      | none =>
        rw [hnone b hb'] at hb
        split at hb
        · exact hb
        · cases hb
    · cases hb' : H' b with
      | some o' => have := hle b o' hb'; rw [this] at hb; cases hb; exact hR'.wr.hnew b _ hb'
      | none =>
        rw [hnone b hb'] at hb
        split at hb
        · rename_i hc; exact .inr hc.1
        · cases hb
  have hkeep : ∀ j ∈ keep, ρ' j = ρ j := fun j hj => hR'.wr.kp j (ρ j) (by simp [hj])
  have hgoal : ∃ v', (results fn a'.tmps).run P w' = .ok v' w' ∧ ∃ v ρ' H', Ending.returned v' = .returned v ∧ Den ρ' H' d v ∧ (∀ j ∈ keep, ρ' j = ρ j) ∧ WRel ⟨W, H, pass, fun _ => none⟩ (preB post) ρ' H' w' := ⟨v, h4, v, ρ', H'', rfl, h5, hkeep, hW'⟩
  rcases he with rfl | rfl
  · exact ⟨hR'.df, hgoal⟩
  · exact ⟨hR'.df, hgoal⟩
end fn
end Go.Eng

/- The engine, part M: steps for calls with own blocks. No program in sight. -/
namespace Go.Eng
open Go
section
variable {P : Program} {ops : Array Oper} {r : List Oper} {acc : List Eff} {n lm : Nat} {tm : List (Nat × D)} {ow : List (Nat × Option Blk)} {F : List Eff → St → Prop}
  {t : Nat} {ty : TypeId} {pos : String} {af : Array Edge} {g : Option (Nat × Bool)} {st : St} {d : D}

theorem closed_pure {ns : List Nat} {d : D} (h : d.pureB = true) : closedD ns d := fun j hj => by rw [D.pure_has j d h] at hj; cases hj
theorem closed_cells {ns : List Nat} {ty : TypeId} {l : List D} (h : D.pureL l = true) : closedB ns (.cells ty l) := fun j hj => by
  simp only [Blk.has] at hj; rw [D.pureL_has j l h] at hj; cases hj

/-- A call that is handed one block of cells (a method's receiver), and hands it back. -/
theorem lok_call1 {y : Operand} {xs : Array Operand} {ats : Array TypeId} {f : FuncId} {ds caps : List D} {j : Nat} {T : TypeId} {l l' : List D} (hy : st.val y = some (.fn f caps)) (hx : st.vals xs.toList = some ds)
    (hs : FnG P f (ds ++ caps) [(j, .cells T l)] d [(j, .cells T l')] [j]) (hj : st.blk j = some (.cells T l)) (hc : (d.pureB && D.pureL l') = true) (hd : t < st.n) :
    LOk P ⟨some t, .call ⟨.value y, xs, ats⟩, ty, pos, af, g⟩ st ⟨[j], [], d, [(j, some (.cells T l'))]⟩ := by
  simp only [Bool.and_eq_true] at hc
  refine lok_callG hy hx hs (fun k b hk => ?_) (closed_pure hc.1) (fun k b hk => ?_) (fun k hk hn => ?_) (fun bk k b hk => ?_) hd
  · rw [alook_cons] at hk
    split at hk
    · rename_i h; subst h; cases hk; exact hj
    · cases hk
  · rw [alook_cons] at hk
    split at hk
    · cases hk; exact closed_cells hc.2
    · cases hk
  · exact absurd (by simpa [names] using hk) (by simpa using hn)
  · rw [blkOn_cons] at hk
    rw [alook_cons, alook_cons]
    by_cases h : j = k
    · rw [if_pos h] at hk ⊢; exact .inl hk
    · rw [if_neg h] at hk ⊢
      refine .inr ⟨by simp [names]; exact fun e => h e.symm, ?_, hk⟩
      rw [if_neg h]; rfl
theorem clm {y : Operand} {xs : Array Operand} {ats : Array TypeId} {f : FuncId} {ds caps : List D} (j : Nat) {T : TypeId} {l l' : List D} (hy : St.val ⟨n, tm, ow, lm⟩ y = some (.fn f caps)) (hx : St.vals ⟨n, tm, ow, lm⟩ xs.toList = some ds)
    (hj : St.blk ⟨n, tm, ow, lm⟩ j = some (.cells T l)) (hs : FnG P f (ds ++ caps) [(j, .cells T l)] d [(j, .cells T l')] [j]) (hc : (d.pureB && D.pureL l') = true) (hd : Nat.blt t n = true) (hg : Gd ops ⟨n, tm, ow, lm⟩ g)
    (h : WpD P ops r (⟨[j], [], d, [(j, some (.cells T l'))]⟩ :: acc) ⟨n, (t, d) :: tm, (j, some (.cells T l')) :: ow, lm⟩ F) : WpD P ops (⟨some t, .call ⟨.value y, xs, ats⟩, ty, pos, af, g⟩ :: r) acc ⟨n, tm, ow, lm⟩ F :=
  step (lok_call1 hy hx hs hj hc (blt_lt hd)) hg rfl h

/-- A call whose result is a buffer of its own. -/
theorem lok_callN {y : Operand} {xs : Array Operand} {ats : Array TypeId} {f : FuncId} {ds caps : List D} {j q sz : Nat} {l : List (List D)} (hy : st.val y = some (.fn f caps)) (hx : st.vals xs.toList = some ds)
    (hs : FnG P f (ds ++ caps) [] (.sl j 0 q) [(j, .buf sz l)] []) (_hp : (l.all D.pureL) = true) (hd : t < st.n) :
    LOk P ⟨some t, .call ⟨.value y, xs, ats⟩, ty, pos, af, g⟩ st ⟨[], [j], .sl j 0 q, [(j, some (.buf sz l))]⟩ := by
  refine lok_callG hy hx hs (fun k b hk => by cases hk) (fun k hk => ?_) (fun k b hk => ?_) (fun k hk _ => hk) (fun bk k b hk => ?_) hd
  · simp only [D.has, Nat.beq_eq] at hk; subst hk; simp [names]
  · rw [alook_cons] at hk
    split at hk
    · cases hk
      intro i hi
      simp [Blk.has] at hi
    · cases hk
  · rw [blkOn_cons] at hk
    rw [alook_cons]
    by_cases h : j = k
    · rw [if_pos h] at hk ⊢; exact .inl hk
    · rw [if_neg h] at hk ⊢
      exact .inr ⟨by simp [names]; exact fun e => h e.symm, rfl, hk⟩
theorem cln (j : Nat) {y : Operand} {xs : Array Operand} {ats : Array TypeId} {f : FuncId} {ds caps : List D} {q sz : Nat} {l : List (List D)} (hy : St.val ⟨n, tm, ow, lm⟩ y = some (.fn f caps)) (hx : St.vals ⟨n, tm, ow, lm⟩ xs.toList = some ds)
    (hs : FnG P f (ds ++ caps) [] (.sl j 0 q) [(j, .buf sz l)] []) (hp : (l.all D.pureL) = true) (hf : St.freshB ⟨n, tm, ow, lm⟩ j = true) (hd : Nat.blt t n = true) (hg : Gd ops ⟨n, tm, ow, lm⟩ g)
    (h : WpD P ops r (⟨[], [j], .sl j 0 q, [(j, some (.buf sz l))]⟩ :: acc) ⟨n, (t, .sl j 0 q) :: tm, (j, some (.buf sz l)) :: ow, lm⟩ F) : WpD P ops (⟨some t, .call ⟨.value y, xs, ats⟩, ty, pos, af, g⟩ :: r) acc ⟨n, tm, ow, lm⟩ F :=
  step (lok_callN hy hx hs hp (blt_lt hd)) hg (by simpa using hf) h
theorem sl2 {T e : TypeId} {sz by_ : Nat} [hT : TySl P T e sz by_] {x : Operand} {low high : Option Operand} {lo' hi' : Option Int} {full : Bool} {l l2 : List (List D)} (lo hi : Nat) (hx : St.val ⟨n, tm, ow, lm⟩ x = some (.rows full l)) (h1 : St.optInt ⟨n, tm, ow, lm⟩ low = some lo')
    (h2 : St.optInt ⟨n, tm, ow, lm⟩ high = some hi') (hlo : lo'.getD 0 = (lo : Int)) (hhi : hi'.getD (l.length : Int) = (hi : Int)) (hle : lo ≤ hi ∧ hi ≤ l.length) (hr : ∀ r ∈ l, r.length = sz) (hl : (l.take hi).drop lo = l2) (hd : Nat.blt t n = true) (hg : Gd ops ⟨n, tm, ow, lm⟩ g)
    (h : WpD P ops r (⟨[], [], .rows false l2, []⟩ :: acc) ⟨n, (t, .rows false l2) :: tm, ow, lm⟩ F) : WpD P ops (⟨some t, .slice T x low high none, ty, pos, af, g⟩ :: r) acc ⟨n, tm, ow, lm⟩ F := by
  subst hl; exact step (lok_slice2 lo hi hx h1 h2 hlo hhi hle hr (blt_lt hd)) hg rfl h
theorem sl3 {T e : TypeId} {sz by_ : Nat} [hT : TySl P T e sz by_] {x hx' mx : Operand} {low : Option Operand} {lo' : Option Int} {k1 k2 : IntKind} {i1 i2 : Int} {full : Bool} {l l2 : List (List D)} (lo hi : Nat) (hx : St.val ⟨n, tm, ow, lm⟩ x = some (.rows full l))
    (h1 : St.optInt ⟨n, tm, ow, lm⟩ low = some lo') (h2 : St.val ⟨n, tm, ow, lm⟩ hx' = some (.int k1 i1)) (h3 : St.val ⟨n, tm, ow, lm⟩ mx = some (.int k2 i2)) (hlo : lo'.getD 0 = (lo : Int)) (hhi : i1 = (hi : Int)) (hmx : i2 = (hi : Int)) (hle : lo ≤ hi ∧ hi ≤ l.length)
    (hr : ∀ r ∈ l, r.length = sz) (hl : (l.take hi).drop lo = l2) (hd : Nat.blt t n = true) (hg : Gd ops ⟨n, tm, ow, lm⟩ g) (h : WpD P ops r (⟨[], [], .rows true l2, []⟩ :: acc) ⟨n, (t, .rows true l2) :: tm, ow, lm⟩ F) :
    WpD P ops (⟨some t, .slice T x low (some hx') (some mx), ty, pos, af, g⟩ :: r) acc ⟨n, tm, ow, lm⟩ F := by
  subst hl; exact step (lok_slice3 lo hi hx h1 h2 h3 hlo hhi hmx hle hr (blt_lt hd)) hg rfl h
end
end Go.Eng

/- The engine, part N: nil checks, min, max, negation. No program in sight. -/
namespace Go.Eng
open Go
section
variable {P : Program} {ops : Array Oper} {r : List Oper} {acc : List Eff} {n lm : Nat} {tm : List (Nat × D)} {ow : List (Nat × Option Blk)} {F : List Eff → St → Prop}
  {t : Nat} {ty : TypeId} {pos : String} {af : Array Edge} {g : Option (Nat × Bool)} {st : St} {d : D}

theorem lok_nilCheck {x : Operand} {j off : Nat} (hx : st.val x = some (.ptr j off)) (hd : t < st.n) : LOk P ⟨some t, .nilCheck x, ty, pos, af, g⟩ st ⟨[], [], .ptr j off, []⟩ :=
  lok_pure hd fun _ st2 _ _ a w ag hR => by
    obtain ⟨hh, h1⟩ := (hR.val ((ag.val x (by simp [Op.operands])).trans hx)).ptr_inv
    exact ⟨_, by simp [execOp, h1], .ptr j off hh⟩
theorem lok_max {x y : Operand} {T1 T2 : TypeId} {k : IntKind} {a b c : Int} (hx : st.val x = some (.int k a)) (hy : st.val y = some (.int k b)) (hc : max a b = c) (hd : t < st.n) :
    LOk P ⟨some t, .call ⟨.builtin .max, #[x, y], #[T1, T2]⟩, ty, pos, af, g⟩ st ⟨[], [], .int k c, []⟩ :=
  lok_pure hd fun _ st2 _ _ ac w ag hR => ⟨.int k c, by
    have h1 := (hR.val ((ag.val x (by simp [Op.operands, Call.operands])).trans hx)).int_inv
    have h2 := (hR.val ((ag.val y (by simp [Op.operands, Call.operands])).trans hy)).int_inv
    simp [execOp, resolve, invoke, builtin, Builtin.max_, Builtin.max2, h1, h2]
    rw [← hc, Int.max_def]
    split <;> split <;> omega, .pure (.int _ _)⟩
theorem lok_min {x y : Operand} {T1 T2 : TypeId} {k : IntKind} {a b c : Int} (hx : st.val x = some (.int k a)) (hy : st.val y = some (.int k b)) (hc : min a b = c) (hd : t < st.n) :
    LOk P ⟨some t, .call ⟨.builtin .min, #[x, y], #[T1, T2]⟩, ty, pos, af, g⟩ st ⟨[], [], .int k c, []⟩ :=
  lok_pure hd fun _ st2 _ _ ac w ag hR => ⟨.int k c, by
    have h1 := (hR.val ((ag.val x (by simp [Op.operands, Call.operands])).trans hx)).int_inv
    have h2 := (hR.val ((ag.val y (by simp [Op.operands, Call.operands])).trans hy)).int_inv
    simp [execOp, resolve, invoke, builtin, Builtin.min_, Builtin.min2, h1, h2]
    rw [← hc, Int.min_def]
    split <;> split <;> omega, .pure (.int _ _)⟩
theorem lok_neg {x : Operand} {T : TypeId} {k : IntKind} {a c : Int} (hx : st.val x = some (.int k a)) (hc : k.wrap (-a) = c) (hd : t < st.n) : LOk P ⟨some t, .unOp .neg T x, ty, pos, af, g⟩ st ⟨[], [], .int k c, []⟩ :=
  lok_pure hd fun _ st2 _ _ ac w ag hR => ⟨.int k c, by
    have h1 := (hR.val ((ag.val x (by simp [Op.operands])).trans hx)).int_inv
    simp [execOp, h1, Op.unary, Op.intArith, hc], .pure (.int _ _)⟩

theorem nck {x : Operand} {j off : Nat} (hx : St.val ⟨n, tm, ow, lm⟩ x = some (.ptr j off)) (hd : Nat.blt t n = true) (hg : Gd ops ⟨n, tm, ow, lm⟩ g) (h : WpD P ops r (⟨[], [], .ptr j off, []⟩ :: acc) ⟨n, (t, .ptr j off) :: tm, ow, lm⟩ F) :
    WpD P ops (⟨some t, .nilCheck x, ty, pos, af, g⟩ :: r) acc ⟨n, tm, ow, lm⟩ F := step (lok_nilCheck hx (blt_lt hd)) hg rfl h
theorem mx {x y : Operand} {T1 T2 : TypeId} {k : IntKind} {a b : Int} (c : Int) (hx : St.val ⟨n, tm, ow, lm⟩ x = some (.int k a)) (hy : St.val ⟨n, tm, ow, lm⟩ y = some (.int k b)) (hc : max a b = c) (hd : Nat.blt t n = true) (hg : Gd ops ⟨n, tm, ow, lm⟩ g)
    (h : WpD P ops r (⟨[], [], .int k c, []⟩ :: acc) ⟨n, (t, .int k c) :: tm, ow, lm⟩ F) : WpD P ops (⟨some t, .call ⟨.builtin .max, #[x, y], #[T1, T2]⟩, ty, pos, af, g⟩ :: r) acc ⟨n, tm, ow, lm⟩ F := step (lok_max hx hy hc (blt_lt hd)) hg rfl h
theorem mn {x y : Operand} {T1 T2 : TypeId} {k : IntKind} {a b : Int} (c : Int) (hx : St.val ⟨n, tm, ow, lm⟩ x = some (.int k a)) (hy : St.val ⟨n, tm, ow, lm⟩ y = some (.int k b)) (hc : min a b = c) (hd : Nat.blt t n = true) (hg : Gd ops ⟨n, tm, ow, lm⟩ g)
    (h : WpD P ops r (⟨[], [], .int k c, []⟩ :: acc) ⟨n, (t, .int k c) :: tm, ow, lm⟩ F) : WpD P ops (⟨some t, .call ⟨.builtin .min, #[x, y], #[T1, T2]⟩, ty, pos, af, g⟩ :: r) acc ⟨n, tm, ow, lm⟩ F := step (lok_min hx hy hc (blt_lt hd)) hg rfl h
theorem ng {x : Operand} {T : TypeId} {k : IntKind} {a : Int} (c : Int) (hx : St.val ⟨n, tm, ow, lm⟩ x = some (.int k a)) (hc : k.wrap (-a) = c) (hd : Nat.blt t n = true) (hg : Gd ops ⟨n, tm, ow, lm⟩ g)
    (h : WpD P ops r (⟨[], [], .int k c, []⟩ :: acc) ⟨n, (t, .int k c) :: tm, ow, lm⟩ F) : WpD P ops (⟨some t, .unOp .neg T x, ty, pos, af, g⟩ :: r) acc ⟨n, tm, ow, lm⟩ F := step (lok_neg hx hc (blt_lt hd)) hg rfl h
end
end Go.Eng

/- The engine, part O: buffers that are made with a length, and copied into. No program in sight. -/
namespace Go.Eng
open Go
section
variable {P : Program} {t : Nat} {ty : TypeId} {pos : String} {af : Array Edge} {g : Option (Nat × Bool)} {st : St} {d : D}

/-- make([]T, m): a buffer of zero rows. -/
theorem ofConst_pure {v : Value} {d : D} (h : D.ofConst v = some d) : d.pureB = true := by
  unfold D.ofConst at h
  split at h <;> simp at h <;> subst h <;> rfl
theorem zs_pure : ∀ {l : List Value} {zs : List D}, l.map D.ofConst = zs.map some → D.pureL zs = true
  | [], [], _ => rfl
  | [], _ :: _, h => by simp at h
  | _ :: _, [], h => by simp at h
  | v :: l, z :: zs, h => by
    simp only [List.map_cons, List.cons.injEq] at h
    simp only [D.pureL, ofConst_pure h.1, zs_pure h.2, Bool.and_self]
theorem lok_makeSlice (j : Nat) {T e : TypeId} {sz by_ : Nat} {zs : List D} {x : Operand} {k : IntKind} {i : Int} (m : Nat) [hT : TySl P T e sz by_] [hZ : TyZ P e zs] (hx : st.val x = some (.int k i)) (hi : i = (m : Int)) (hroom : by_ * m ≤ 281474976710656) (hm : m < 9223372036854775808) (hd : t < st.n) :
    LOk P ⟨some t, .makeSlice T x x, ty, pos, af, g⟩ st ⟨[], [j], .sl j 0 m, [(j, some (.buf sz (List.replicate m zs)))]⟩ := by
  intro B st2 ag
  subst hi
  have hfr := ag.fresh j (by simp)
  refine opOk_value (fun s hs => by cases hs; rw [ag.n]; exact hd) ag.fresh fun ρ H a w hR => ?_
  have h1 := (hR.val ((ag.val x (by simp [Op.operands])).trans hx)).int_inv
  obtain ⟨inf, hi1, hi2⟩ := map_some hT.info
  simp only [Prod.mk.injEq] at hi2
  obtain ⟨inf', hi3, hz1⟩ := map_some hZ.size
  have : inf' = inf := by rw [hi1] at hi3; cases hi3; rfl
  subst this
  obtain ⟨v, hv, hv2⟩ := map_some hZ.zero
  have hz : inf'.zero = some v := by simpa [hi1] using hv
  have hvs : v.cells.size = sz := by have := congrArg List.length hv2; simp at this; omega
  have hzs : zs.length = sz := by omega
  have hwrap : IntKind.i64.wrap (m : Int) = m := IntWalk.i64_in _ ⟨by omega, by omega⟩
  have hrun : (Instr.makeSlice T (.int k (m : Int)) (.int k (m : Int))).run P w = .ok (.slice (some ⟨w.heap.size, 0, none⟩) m m) (w.alloc (.cells (madeCells v.cells (m * sz)) e)) := by
    have := run_make (P := P) w T e inf' v hT.und hi1 hz k k (m : Int) (m : Int) (by omega) (Int.le_refl _) (by rw [hi2.2, ← Int.natCast_mul]; omega) (by omega)
    rw [hi2.1] at this
    simp only [Int.toNat_natCast] at this
    exact this
  refine ⟨.slice (some ⟨w.heap.size, 0, none⟩) m m, w.alloc (.cells (madeCells v.cells (m * sz)) e), setLoc ρ j ⟨w.heap.size, m, sz, true⟩, H, .inl (by simp only [execOp, h1, Sem.run_bind, hrun, Result.andThen_ok, Sem.run_pure]), ?_, GH.le_refl _, fun q hq => setLoc_ne (by simpa using hq), ?_⟩
  · exact .sl j 0 m _ m (by rw [setLoc_eq]; rfl) (by rw [setLoc_eq]; simp) (.inr ⟨by rw [setLoc_eq], by rw [setLoc_eq]; simp⟩)
  · refine hR.wr.alloc_own (hkp := hR.nokeep hfr) (b := .buf sz (List.replicate m zs)) (fun q b' hq => hfr.bl q b' hq) ⟨by rw [setLoc_eq], by rw [setLoc_eq]; simp, fun row hr => ?_, fun hh => ?_, fun _ => ⟨_, e, by rw [setLoc_eq]; exact alloc_new, ?_, fun i q row d u hi hq hu => ?_⟩, by simp; omega, by rw [List.all_eq_true]; intro r hr; rw [(List.mem_replicate.1 hr).2]; exact zs_pure hv2⟩ upd_blk
    · rw [setLoc_eq, (List.mem_replicate.1 hr).2]; exact hzs
    · rw [setLoc_eq] at hh; cases hh
    · rw [setLoc_eq]; simp [size_madeCells]
    · rw [setLoc_eq] at hu
      obtain ⟨him, rfl⟩ : i < m ∧ zs = row := by
        rw [List.getElem?_replicate] at hi
        split at hi
        · rename_i h; cases hi; exact ⟨h, rfl⟩
        · cases hi
      have hqs : q < sz := by have := (List.getElem?_eq_some_iff.1 hq).1; omega
      have hlt : i * sz + q < m * sz := by
        have : (i + 1) * sz ≤ m * sz := Nat.mul_le_mul_right _ him
        rw [Nat.succ_mul] at this; omega
      have hmod : (i * sz + q) % sz = q := by rw [Nat.mul_comm, Nat.mul_add_mod]; exact Nat.mod_eq_of_lt hqs
      have hq2 : q < v.cells.size := by omega
      have hu2 : u = v.cells[q] := by
        simp only [madeCells, Array.getElem?_map, Array.getElem?_range, if_pos hlt, Option.map_some, Option.some.injEq, hvs, hmod] at hu
        rw [← hu, getElem!_pos v.cells q hq2]
      have h3 := congrArg (·[q]?) hv2
      have h4 : v.cells.toList[q]? = some u := by rw [hu2]; simp [hq2]
      simp only [List.getElem?_map, h4, hq, Option.map_some] at h3
      exact .pure (D.ofConst_den (Option.some.inj h3))

/-- A part of an own buffer. -/
theorem lok_slice_own {T e : TypeId} {sz by_ : Nat} [hT : TySl P T e sz by_] {x : Operand} {low high : Option Operand} {lo' hi' : Option Int} {j lo0 n : Nat} {l : List (List D)} (lo hi : Nat) (hx : st.val x = some (.sl j lo0 n)) (hj : st.blk j = some (.buf sz l))
    (h1 : st.optInt low = some lo') (h2 : st.optInt high = some hi') (hlo : lo'.getD 0 = (lo : Int)) (hhi : hi'.getD (n : Int) = (hi : Int)) (hle : lo ≤ hi ∧ hi ≤ n) (hd : t < st.n) :
    LOk P ⟨some t, .slice T x low high none, ty, pos, af, g⟩ st ⟨[j], [], .sl j (lo0 + lo) (hi - lo), []⟩ :=
  lok_look hd fun _ st2 ρ H a w ag hR => by
    have hag : ∀ o : Option Operand, (∀ y, o = some y → y ∈ (Op.slice T x low high none).operands.toList) → st2.optInt o = st.optInt o := fun o ho => by
      cases o with
      | none => rfl
      | some y => simp only [St.optInt]; rw [ag.val y (ho y rfl)]
    obtain ⟨ad, c, hv, hc, hcn, ha⟩ := (hR.val ((ag.val x (by simp [Op.operands])).trans hx)).sl_inv
    obtain ⟨hsz, _⟩ := hR.wr.own j _ ((ag.blk j (by simp)).trans hj)
    have hl := optInt_val hR ((hag low (fun y hy => by subst hy; simp [Op.operands])).trans h1)
    have hh := optInt_val hR ((hag high (fun y hy => by subst hy; simp [Op.operands])).trans h2)
    have hb : (Instr.sliceBounds true n c (low.map a.eval) (high.map a.eval) none).run P w = .ok (lo, hi, c) w := by
      rcases hl with ⟨rfl, rfl⟩ | ⟨x1, k1, n1, rfl, rfl, e1⟩ <;> rcases hh with ⟨rfl, rfl⟩ | ⟨x2, k2, n2, rfl, rfl, e2⟩
      · simp at hlo hhi
        have : lo = 0 := by omega
        subst this
        have : n = hi := by omega
        simp [Instr.sliceBounds, this]
      · simp at hlo hhi
        have : lo = 0 := by omega
        subst this hhi
        simp [Instr.sliceBounds, e2, sliceBound_run (show hi ≤ c by omega)]
      · simp at hlo hhi
        subst hlo
        have : n = hi := by omega
        simp [Instr.sliceBounds, e1, this, sliceBound_run hle.1]
      · simp at hlo hhi
        subst hlo hhi
        simp [Instr.sliceBounds, e1, e2, sliceBound_run hle.1, sliceBound_run (show hi ≤ c by omega)]
    refine ⟨.slice (if c = lo then ad else ad.map (·.add (lo * sz))) (hi - lo) (c - lo), by simp [execOp, Instr.sliceAt, Instr.slice, run_underlying hT.und, hv, hb, sizeOf_run hT], ?_⟩
    refine .sl j (lo0 + lo) (hi - lo) _ _ (by omega) (by omega) ?_
    by_cases h0 : c = lo
    · exact .inl (by omega)
    · refine .inr ?_
      rcases ha with h | ⟨hh', rfl⟩
      · omega
      · refine ⟨hh', ?_⟩
        rw [if_neg h0]
        have hadd : (⟨(ρ j).blk, lo0 * (ρ j).sz, none⟩ : Addr).add (lo * sz) = ⟨(ρ j).blk, lo0 * (ρ j).sz + lo * sz, none⟩ := by unfold Addr.add; split <;> simp_all
        rw [Option.map_some, hadd, hsz, Nat.add_mul]

/-- copy of all of m into an own buffer. -/
theorem lok_copy {T T2 e : TypeId} {sz by_ : Nat} [hT : TySl P T e sz by_] {x y : Operand} {j lo n : Nat} {fy : Bool} {l m : List (List D)} (hx : st.val x = some (.sl j lo n)) (hj : st.blk j = some (.buf sz l)) (hy : st.val y = some (.rows fy m))
    (hm : RowsOk sz m) (hne : m ≠ []) (hfit : m.length ≤ n) (hln : lo + n ≤ l.length) (hd : t < st.n) :
    LOk P ⟨some t, .call ⟨.builtin .copy, #[x, y], #[T, T2]⟩, ty, pos, af, g⟩ st ⟨[j], [], .int .i64 m.length, [(j, some (.buf sz (l.take lo ++ m ++ l.drop (lo + m.length))))]⟩ := by
  intro B st2 ag
  refine opOk_value (fun s hs => by cases hs; rw [ag.n]; exact hd) ag.fresh fun ρ H a w hR => ?_
  have hx2 := hR.val ((ag.val x (by simp [Op.operands, Call.operands])).trans hx)
  have hy2 := hR.val ((ag.val y (by simp [Op.operands, Call.operands])).trans hy)
  have hj2 := (ag.blk j (by simp)).trans hj
  obtain ⟨a1, c, hv1, hc, hcn, ha⟩ := hx2.sl_inv
  obtain ⟨ho0, ho1, ho2, ho3, ho4, hoB, hoP⟩ := hR.wr.own j _ hj2
  obtain ⟨a2, c2, new, hv2, hnew, hns, hnd, hn1⟩ := src_cells (P := P) hR.wr.pers hy2 hm
  have hmpos : 0 < m.length := List.length_pos_iff.2 hne
  have hhere : (ρ j).here = true := by
    cases hh : (ρ j).here with
    | true => rfl
    | false => have := ho3 hh; omega
  have ha' : a1 = some ⟨(ρ j).blk, lo * (ρ j).sz, none⟩ := by
    rcases ha with h | ⟨_, h2⟩
    · omega
    · exact h2
  subst ha'
  obtain ⟨arr, bt, hb, hbs, hbd⟩ := ho4 hhere
  have hle : (lo + m.length) * sz ≤ arr.size := by rw [hbs, ho0]; exact Nat.mul_le_mul_right _ (by omega)
  rw [Nat.add_mul] at hle
  have hst := run_storeCells_at P (ρ j).blk (lo * sz) bt new.toList 0 arr w hb (by simp [hns]; omega) hn1
  simp only [Nat.add_zero, Array.length_toList, hns] at hst
  let arr' := (arr.toList.take (lo * sz) ++ new.toList ++ arr.toList.drop (lo * sz + m.length * sz)).toArray
  have hnw := hnew w rfl
  rw [hv2] at hnw
  have hrun : (execOp a.eval ⟨some t, .call ⟨.builtin .copy, #[x, y], #[T, T2]⟩, ty, pos, af, g⟩).run P w = .ok (.value (.int .i64 m.length)) (w.setRow (ρ j).blk arr') := by
    have hmin : Nat.min m.length n = m.length := Nat.min_eq_left hfit
    simp [execOp, resolve, invoke, builtin, Builtin.copy_, hv1, hv2, run_underlying hT.und, Builtin.lenOf, hmin, sizeOf_run hT, hnw, ho0, hst, goInt, arr']
  have hsize : arr'.size = arr.size := by simp [arr', hns]; omega
  refine ⟨.int .i64 m.length, w.setRow (ρ j).blk arr', ρ, H, .inl hrun, .pure (.int _ _), GH.le_refl _, fun _ _ => rfl, ?_⟩
  refine hR.wr.write hj2 hhere (by simp) (fun k hk => setRow_other w _ k _ hk) rfl rfl rfl (b' := .buf sz (l.take lo ++ m ++ l.drop (lo + m.length))) ⟨ho0, by simp; omega, fun row hr => ?_, ho3, fun _ => ⟨arr', bt, setRow_heap w _ arr _ bt (0, 0) hb, by rw [hsize, hbs], fun i k row d v hi hk hv => ?_⟩, by simp; omega, by
      rw [List.all_append, List.all_append, Bool.and_eq_true, Bool.and_eq_true]
      refine ⟨⟨List.all_eq_true.2 fun r hr => (List.all_eq_true.1 hoP) r (List.mem_of_mem_take hr), List.all_eq_true.2 fun r hr => ?_⟩, List.all_eq_true.2 fun r hr => (List.all_eq_true.1 hoP) r (List.mem_of_mem_drop hr)⟩
      have := (hm r hr).2
      simp only [Bool.and_eq_true] at this; exact this.2⟩ upd_blk
  · simp only [List.mem_append] at hr
    rcases hr with (hr | hr) | hr
    · exact ho2 row (List.mem_of_mem_take hr)
    · rw [ho0]; exact (hm row hr).1
    · exact ho2 row (List.mem_of_mem_drop hr)
  · rw [ho0] at hv
    have hks : k < row.length := (List.getElem?_eq_some_iff.1 hk).1
    have hlo : (l.take lo).length = lo := by simp; omega
    simp only [arr', List.getElem?_toArray] at hv
    have e1 : (arr.toList.take (lo * sz)).length = lo * sz := by simp; omega
    by_cases h1 : i < lo
    · rw [List.append_assoc, List.getElem?_append_left (by omega), List.getElem?_take, if_pos h1] at hi
      have hr := ho2 row (List.mem_of_getElem? hi)
      have : (i + 1) * sz ≤ lo * sz := Nat.mul_le_mul_right _ h1
      rw [Nat.succ_mul] at this
      rw [List.append_assoc, List.getElem?_append_left (by omega), List.getElem?_take, if_pos (by omega)] at hv
      exact hbd i k row d v hi hk (by rw [ho0]; simpa using hv)
    · have h2 : lo * sz ≤ i * sz := Nat.mul_le_mul_right _ (by omega)
      by_cases h3 : i < lo + m.length
      · rw [List.append_assoc, List.getElem?_append_right (by omega), hlo, List.getElem?_append_left (by omega)] at hi
        have hr := (hm row (List.mem_of_getElem? hi)).1
        have : (i + 1) * sz ≤ (lo + m.length) * sz := Nat.mul_le_mul_right _ h3
        rw [Nat.succ_mul, Nat.add_mul] at this
        rw [List.append_assoc, List.getElem?_append_right (by omega), e1, List.getElem?_append_left (by simp [hns]; omega)] at hv
        refine .pure (hnd (i - lo) k row d v hi hk ?_)
        rw [Nat.sub_mul, show i * sz - lo * sz + k = i * sz + k - lo * sz by omega]; simpa using hv
      · have h4 : (lo + m.length) * sz ≤ i * sz := Nat.mul_le_mul_right _ (by omega)
        rw [Nat.add_mul] at h4
        rw [List.getElem?_append_right (by simp; omega)] at hi
        rw [List.getElem?_append_right (by simp [hns]; omega)] at hv
        simp only [List.length_append, hlo, List.getElem?_drop] at hi
        simp only [List.length_append, e1, Array.length_toList, hns, List.getElem?_drop] at hv
        rw [show lo + m.length + (i - (lo + m.length)) = i by omega] at hi
        rw [show lo * sz + m.length * sz + (i * sz + k - (lo * sz + m.length * sz)) = i * sz + k by omega] at hv
        exact hbd i k row d v hi hk (by rw [ho0]; simpa using hv)
end
end Go.Eng

/- The engine, part P: steps for buffers. No program in sight. -/
namespace Go.Eng
open Go
section
variable {P : Program} {ops : Array Oper} {r : List Oper} {acc : List Eff} {n lm : Nat} {tm : List (Nat × D)} {ow : List (Nat × Option Blk)} {F : List Eff → St → Prop}
  {t : Nat} {ty : TypeId} {pos : String} {af : Array Edge} {g : Option (Nat × Bool)} {st : St} {d : D}
theorem mks (j : Nat) {T e : TypeId} {sz by_ : Nat} {zs : List D} {x : Operand} {k : IntKind} {i : Int} (m : Nat) [hT : TySl P T e sz by_] [hZ : TyZ P e zs] (hx : St.val ⟨n, tm, ow, lm⟩ x = some (.int k i)) (hi : i = (m : Int)) (hroom : by_ * m ≤ 281474976710656)
    (hm : m < 9223372036854775808) (hf : St.freshB ⟨n, tm, ow, lm⟩ j = true) (hd : Nat.blt t n = true) (hg : Gd ops ⟨n, tm, ow, lm⟩ g)
    (h : WpD P ops r (⟨[], [j], .sl j 0 m, [(j, some (.buf sz (List.replicate m zs)))]⟩ :: acc) ⟨n, (t, .sl j 0 m) :: tm, (j, some (.buf sz (List.replicate m zs))) :: ow, lm⟩ F) : WpD P ops (⟨some t, .makeSlice T x x, ty, pos, af, g⟩ :: r) acc ⟨n, tm, ow, lm⟩ F :=
  step (lok_makeSlice j m hx hi hroom hm (blt_lt hd)) hg (by simpa using hf) h
theorem slo {T e : TypeId} {sz by_ : Nat} [hT : TySl P T e sz by_] {x : Operand} {low high : Option Operand} {lo' hi' : Option Int} {j lo0 q a b : Nat} {l : List (List D)} (lo hi : Nat) (hx : St.val ⟨n, tm, ow, lm⟩ x = some (.sl j lo0 q)) (hj : St.blk ⟨n, tm, ow, lm⟩ j = some (.buf sz l))
    (h1 : St.optInt ⟨n, tm, ow, lm⟩ low = some lo') (h2 : St.optInt ⟨n, tm, ow, lm⟩ high = some hi') (hlo : lo'.getD 0 = (lo : Int)) (hhi : hi'.getD (q : Int) = (hi : Int)) (hle : lo ≤ hi ∧ hi ≤ q) (ha : lo0 + lo = a) (hb : hi - lo = b) (hd : Nat.blt t n = true) (hg : Gd ops ⟨n, tm, ow, lm⟩ g)
    (h : WpD P ops r (⟨[j], [], .sl j a b, []⟩ :: acc) ⟨n, (t, .sl j a b) :: tm, ow, lm⟩ F) : WpD P ops (⟨some t, .slice T x low high none, ty, pos, af, g⟩ :: r) acc ⟨n, tm, ow, lm⟩ F := by
  subst ha hb; exact step (lok_slice_own lo hi hx hj h1 h2 hlo hhi hle (blt_lt hd)) hg rfl h
theorem cpy {T T2 e : TypeId} {sz by_ : Nat} [hT : TySl P T e sz by_] {x y : Operand} {j lo q : Nat} {fy : Bool} {l m l2 : List (List D)} (hx : St.val ⟨n, tm, ow, lm⟩ x = some (.sl j lo q)) (hj : St.blk ⟨n, tm, ow, lm⟩ j = some (.buf sz l)) (hy : St.val ⟨n, tm, ow, lm⟩ y = some (.rows fy m))
    (hm : RowsOk sz m) (hne : m ≠ []) (hfit : m.length ≤ q) (hln : lo + q ≤ l.length) (hl : l.take lo ++ m ++ l.drop (lo + m.length) = l2) (hd : Nat.blt t n = true) (hg : Gd ops ⟨n, tm, ow, lm⟩ g)
    (h : WpD P ops r (⟨[j], [], .int .i64 m.length, [(j, some (.buf sz l2))]⟩ :: acc) ⟨n, (t, .int .i64 m.length) :: tm, (j, some (.buf sz l2)) :: ow, lm⟩ F) : WpD P ops (⟨some t, .call ⟨.builtin .copy, #[x, y], #[T, T2]⟩, ty, pos, af, g⟩ :: r) acc ⟨n, tm, ow, lm⟩ F := by
  subst hl; exact step (lok_copy hx hj hy hm hne hfit hln (blt_lt hd)) hg rfl h
end
end Go.Eng

/- The engine, part Q: an append to a full immutable slice makes an immutable slice. No program in sight. -/
namespace Go.Eng
open Go
section
variable {P : Program} {t : Nat} {ty : TypeId} {pos : String} {af : Array Edge} {g : Option (Nat × Bool)} {st : St} {d : D}
theorem lok_append_pers {x y : Operand} {T T2 e e2 : TypeId} {sz by_ sz2 by2 : Nat} {fy : Bool} {zs : List D} {l m : List (List D)} [hT : TySl P T e sz by_] [hT2 : TySl P T2 e2 sz2 by2] [hZ : TyZ P e zs] (hx : st.val x = some (.rows true l)) (hy : st.val y = some (.rows fy m))
    (hl : RowsOk sz l) (hm : RowsOk sz m) (hroom : (2 * (l.length + m.length) + 512) * by_ ≤ 281474976710656) (hb0 : Nat.blt 0 by_ = true) (hd : t < st.n) :
    LOk P ⟨some t, .call ⟨.builtin .append, #[x, y], #[T, T2]⟩, ty, pos, af, g⟩ st ⟨[], [], .rows false (l ++ m), []⟩ := by
  intro B st2 ag
  refine opOk_value (fun s hs => by cases hs; rw [ag.n]; exact hd) ag.fresh fun ρ H a w hR => ?_
  have hx2 := hR.val ((ag.val x (by simp [Op.operands, Call.operands])).trans hx)
  have hy2 := hR.val ((ag.val y (by simp [Op.operands, Call.operands])).trans hy)
  have hb0' : by_ ≠ 0 := by have := blt_lt hb0; omega
  have hruneq : (execOp a.eval ⟨some t, .call ⟨.builtin .append, #[x, y], #[T, T2]⟩, ty, pos, af, g⟩).run P w = ((Builtin.append_ #[T, T2] ty #[a.eval x, a.eval y]).run P w).andThen fun v w' => .ok (.value v) w' := by
    simp [execOp, resolve, invoke, builtin]
  obtain ⟨a1, c1, old, hv1, hold, hos, hod, _⟩ := src_cells (P := P) hR.wr.pers hx2 hl
  obtain ⟨a2, c2, new, hv2, hnew, hns, hnd, hn1⟩ := src_cells (P := P) hR.wr.pers hy2 hm
  obtain ⟨a1', c1', hv1', _, hfull, _⟩ := hx2.rows_inv
  have hcap : c1 = l.length := by rw [hv1] at hv1'; cases hv1'; exact hfull rfl
  subst hcap
  have hbl : (st2.app (some t) ⟨[], [], .rows false (l ++ m), []⟩).blk = st2.blk := by funext j; rw [St.app_blk]; rfl
  by_cases hme : m = []
  · subst hme
    have hnew0 : new = #[] := Array.eq_empty_of_size_eq_zero (by simpa using hns)
    subst hnew0
    have hrun : (Builtin.append_ #[T, T2] ty #[a.eval x, a.eval y]).run P w = .ok (a.eval x) w := by
      obtain ⟨i, hi, hi2⟩ := map_some hT.info
      simp only [Prod.mk.injEq] at hi2
      have hnw := hnew w rfl
      simp only [List.length_nil] at hnw hv2
      rw [hv2] at hnw
      rw [hv1, hv2]
      simp only [Builtin.append_, List.getElem?_toArray, List.getElem?_cons_zero, List.getElem?_cons_succ, Sem.run_bind, run_underlying hT.und, run_underlying hT2.und, Result.andThen_ok, sizeOf, typeInfo, run_program, hi, hi2.1, Sem.run_pure,
        Builtin.lenOf, Bool.false_eq_true, if_false, if_pos (show l.length + 0 ≤ l.length by omega), Bool.not_false, if_true, hnw]
      cases a1 with
      | none => rfl
      | some b => rfl
    refine ⟨a.eval x, w, ρ, H, .inl (by rw [hruneq, hrun]; rfl), ?_, GH.le_refl _, fun _ _ => rfl, by rw [hbl]; exact hR.wr⟩
    rw [List.append_nil]
    exact .pure (hx2.toP rfl).weakR
  · have hmpos : 0 < m.length := List.length_pos_iff.2 hme
    have hnsc := nsc_le (show l.length < l.length + m.length by omega)
    have hold' : ∀ w' : World, w'.heap = w.heap → (Builtin.firstCells sz l.length (.slice a1 l.length l.length)).run P w' = .ok old w' := fun w' hw => by have := hold w' hw; rwa [hv1] at this
    have hnew' : ∀ w' : World, w'.heap = w.heap → (Builtin.firstCells sz m.length (.slice a2 m.length c2)).run P w' = .ok new w' := fun w' hw => by have := hnew w' hw; rwa [hv2] at this
    obtain ⟨cap, arr, hcap, hrun, has, hget⟩ := append_grow_run (P := P) (ty := ty) hT ⟨_, hT2.und⟩ hZ hold' hnew' hos hns (by omega) (Nat.le_trans (Nat.mul_le_mul_right _ hnsc) hroom) hb0'
    have hden := den_cells (ρ := ρ) (H := H) (l := l) (m := m) (sz := sz) (fun r hr => (hl r hr).1) hos (fun i k row d v hi hk hv => .pure (hod i k row d v hi hk hv)) (fun i k row d v hi hk hv => .pure (hnd i k row d v hi hk hv))
    have hWd : WRel B st2.blk ρ H { w with drawn := w.drawn + 1 } := hR.wr.drawn rfl rfl rfl rfl
    obtain ⟨hWa, hle⟩ := hWd.alloc_pers (.cells arr e)
    refine ⟨_, _, ρ, _, .inl (by rw [hruneq, hv1, hv2, hrun]; rfl), .pure ?_, hle, fun _ _ => rfl, by rw [hbl]; exact hWa⟩
    have hne : l ++ m ≠ [] := by simp [hme]
    have hrows : ∀ r ∈ l ++ m, r.length = sz := fun r hr => by
      rcases List.mem_append.1 hr with h | h
      · exact (hl r h).1
      · exact (hm r h).1
    have hpure : ∀ r ∈ l ++ m, D.pureL r = true := fun r hr => by
      rcases List.mem_append.1 hr with h | h
      · have := (hl r h).2; simp only [Bool.and_eq_true] at this; exact this.2
      · have := (hm r h).2; simp only [Bool.and_eq_true] at this; exact this.2
    have := DenP.rowsS (H := fun b => if b = w.heap.size then some (.cells arr e) else H b) false (l ++ m) w.heap.size 0 cap sz arr e (0, 0) (by simp) hne (by simpa using hcap) (by simp) hrows
      (by rw [Nat.zero_add, has]; exact Nat.mul_le_mul_right _ (by simpa using hcap)) (fun i k row d v hi hk hv => by
        rw [Nat.zero_add] at hv
        have hil : i < (l ++ m).length := (List.getElem?_eq_some_iff.1 hi).1
        have hkl : k < sz := by have := (List.getElem?_eq_some_iff.1 hk).1; have := hrows row (List.mem_of_getElem? hi); omega
        have h1 : (i + 1) * sz ≤ (l.length + m.length) * sz := Nat.mul_le_mul_right _ (by rw [List.length_append] at hil; exact hil)
        rw [Nat.succ_mul] at h1
        exact ((hden i k row d v hi hk (hget _ _ (by omega) hv)).toP (D.pureL_mem (hpure row (List.mem_of_getElem? hi)) _ (List.mem_of_getElem? hk))).mono hle) (by
        have h1 := Nat.le_trans (Nat.le_mul_of_pos_right _ (Nat.pos_of_ne_zero hb0')) hroom
        rw [List.length_append]; omega)
    simpa using this

theorem apf {ops : Array Oper} {r : List Oper} {acc : List Eff} {n lm : Nat} {tm : List (Nat × D)} {ow : List (Nat × Option Blk)} {F : List Eff → St → Prop} {x y : Operand} {T T2 e e2 : TypeId} {sz by_ sz2 by2 : Nat} {fy : Bool} {zs : List D} {l m l2 : List (List D)}
    [hT : TySl P T e sz by_] [hT2 : TySl P T2 e2 sz2 by2] [hZ : TyZ P e zs] (hx : St.val ⟨n, tm, ow, lm⟩ x = some (.rows true l)) (hy : St.val ⟨n, tm, ow, lm⟩ y = some (.rows fy m)) (hl : RowsOk sz l) (hm : RowsOk sz m)
    (hroom : (2 * (l.length + m.length) + 512) * by_ ≤ 281474976710656) (hb0 : Nat.blt 0 by_ = true) (hl2 : l ++ m = l2) (hd : Nat.blt t n = true) (hg : Gd ops ⟨n, tm, ow, lm⟩ g)
    (h : WpD P ops r (⟨[], [], .rows false l2, []⟩ :: acc) ⟨n, (t, .rows false l2) :: tm, ow, lm⟩ F) : WpD P ops (⟨some t, .call ⟨.builtin .append, #[x, y], #[T, T2]⟩, ty, pos, af, g⟩ :: r) acc ⟨n, tm, ow, lm⟩ F := by
  subst hl2; exact step (lok_append_pers hx hy hl hm hroom hb0 (blt_lt hd)) hg rfl h
end
end Go.Eng

/- The engine, part R: a slice literal as a buffer of the call's own. No program in sight. -/
namespace Go.Eng
open Go
section
variable {P : Program} {t : Nat} {ty : TypeId} {pos : String} {af : Array Edge} {g : Option (Nat × Bool)} {st : St} {d : D}
theorem pureL_append : ∀ {l m : List D}, D.pureL (l ++ m) = true → D.pureL l = true ∧ D.pureL m = true
  | [], _, h => ⟨rfl, h⟩
  | d :: l, m, h => by
    simp only [List.cons_append, D.pureL, Bool.and_eq_true] at h ⊢
    obtain ⟨h1, h2⟩ := pureL_append h.2
    exact ⟨⟨h.1, h1⟩, h2⟩
theorem pureL_flat : ∀ {l : List (List D)}, D.pureL l.flatten = true → (l.all D.pureL) = true
  | [], _ => rfl
  | r :: l, h => by
    rw [List.flatten_cons] at h
    obtain ⟨h1, h2⟩ := pureL_append h
    simp only [List.all_cons, h1, pureL_flat h2, Bool.and_self]
theorem lok_slice_lit_own (j : Nat) {T e : TypeId} {len sz by_ : Nat} {parts : Array (Nat × Operand)} {zs : List D} {ps : List (Nat × D)} {l : List (List D)} [hT : TySl P T e sz by_] [hZ : TyZ P e zs] (hx : st.valsP parts.toList = some ps)
    (hl : bsD sz 0 ps = some l) (hn : (Nat.beq ps.length len && Nat.ble (len * sz) 16777216 && Nat.ble len 16777216) = true) (hd : t < st.n) : LOk P ⟨some t, .buildSlice T len parts, ty, pos, af, g⟩ st ⟨[], [j], .sl j 0 len, [(j, some (.buf sz l))]⟩ := by
  intro B st2 ag
  simp only [Bool.and_eq_true, Nat.beq_eq, Nat.ble_eq] at hn
  refine opOk_value (fun s hs => by cases hs; rw [ag.n]; exact hd) ag.fresh fun ρ H a w hR => ?_
  have hfr := ag.fresh j (by simp)
  have hx2 : st2.valsP parts.toList = some ps := by rw [← hx]; exact valsP_congr fun x hx => ag.val x (by simpa [Op.operands] using hx)
  obtain ⟨i, hi, hi2⟩ := map_some hZ.size
  obtain ⟨v, hv, hv2⟩ := map_some hZ.zero
  obtain ⟨i', hi', hi2'⟩ := map_some hT.info
  simp only [Prod.mk.injEq] at hi2'
  have hii : i' = i := by rw [hi] at hi'; cases hi'; rfl
  subst hii
  have hz : i'.zero = some v := by simpa [hi] using hv
  obtain ⟨⟨hn1, hn2⟩, hn3⟩ := hn
  obtain ⟨b1, b2, b3, b4⟩ := bsD_bld (sz := sz) (n := len) ps 0 l [] (List.replicate (ps.length * sz) .any) hl (by omega) (by simp) (by simp)
  simp only [List.nil_append] at b1
  have hvals : ∀ (l : List (Nat × Operand)) (ps : List (Nat × D)), st2.valsP l = some ps → (l.map fun (p : Nat × Operand) => (p.1, a.eval p.2)).length = ps.length ∧
      ∀ (k i : Nat) (d : D) (v : Nat × Value), ps[k]? = some (i, d) → (l.map fun (p : Nat × Operand) => (p.1, a.eval p.2))[k]? = some v → v.1 = i ∧ Den ρ H d v.2 := by
    intro l
    induction l with
    | nil => intro ps h; simp [St.valsP] at h; subst h; simp
    | cons p l ih =>
      obtain ⟨i, x⟩ := p
      intro ps h
      obtain ⟨d, l', h1, h2, rfl⟩ := valsP_cons h
      obtain ⟨h3, h4⟩ := ih l' h2
      refine ⟨by simpa using h3, fun k i' d' v' hk hv' => ?_⟩
      cases k with
      | zero => simp at hk hv'; obtain ⟨rfl, rfl⟩ := hk; subst hv'; exact ⟨rfl, hR.val h1⟩
      | succ k => exact h4 k i' d' v' (by simpa using hk) (by simpa using hv')
  obtain ⟨hl1, hl2⟩ := hvals parts.toList ps hx2
  have hsize : ((Array.range (len * sz)).map fun x => (if len * sz = 0 then #[] else v.cells)[x % (if len * sz = 0 then #[] else v.cells).size]!).size = (List.replicate (ps.length * sz) D.any).length := by simp [hn1]
  obtain ⟨cs, c1, c2, _, c4⟩ := fill_run (ρ := ρ) (H := H) (place := fun i => some (i * sz, sz)) (fs := (List.range len).map fun i => (i * sz, sz)) (by
      intro i p h
      rw [List.getElem?_map] at h
      obtain ⟨w, hw, rfl⟩ := map_some h
      obtain ⟨_, rfl⟩ := List.getElem?_eq_some_iff.1 hw
      simp) ps _ _ _ _ hl1 hl2 hsize
    (fun k d v hk _ => by rw [List.getElem?_replicate] at hk; split at hk <;> cases hk; exact .pure (.any _)) b1
  refine ⟨.slice (some ⟨w.heap.size, 0, none⟩) len len, w.alloc (.cells cs e), setLoc ρ j ⟨w.heap.size, len, sz, true⟩, H, .inl ?_, ?_, GH.le_refl _, fun q hq => setLoc_ne (by simpa using hq), ?_⟩
  · simp only [execOp, Instr.buildSlice, Array.toList_map, Sem.run_bind, run_underlying hT.und, Result.andThen_ok, sizeOf, typeInfo, run_program, hi, Sem.run_pure, hi2'.1]
    rw [if_neg (by omega)]
    by_cases h0 : len * sz = 0
    · simp only [h0, if_true] at c1 ⊢
      simp only [pure_bind]
      rw [c1]
      simp [newRow]
    · simp only [h0, if_false] at c1 ⊢
      simp only [Sem.run_bind, zeroValue, typeInfo, run_program, Result.andThen_ok, hi, Sem.run_pure, hz]
      rw [c1]
      simp [newRow]
  · exact .sl j 0 len _ len (by rw [setLoc_eq]; rfl) (by rw [setLoc_eq]; simp) (.inr ⟨by rw [setLoc_eq], by rw [setLoc_eq]; simp⟩)
  · have hfl : ∀ (l : List (List D)), (∀ r ∈ l, r.length = sz) → l.flatten.length = l.length * sz := by
      intro l
      induction l with
      | nil => intro _; simp
      | cons r l ih => intro h; simp [h r (.head _), ih fun r hr => h r (.tail _ hr), Nat.succ_mul]; omega
    refine hR.wr.alloc_own (hkp := hR.nokeep hfr) (b := .buf sz l) (fun q b' hq => hfr.bl q b' hq) ⟨by rw [setLoc_eq], by rw [setLoc_eq]; show l.length ≤ len; omega, fun row hr => by rw [setLoc_eq]; exact b3 row hr, fun hh => (by rw [setLoc_eq] at hh; cases hh),
      fun _ => ⟨cs, e, by rw [setLoc_eq]; exact alloc_new, by rw [setLoc_eq]; show cs.size = len * sz; rw [c2, hfl l b3, b2, hn1], fun i q row d u hi' hq hu => ?_⟩, by omega, pureL_flat b4⟩ upd_blk
    rw [setLoc_eq] at hu
    have hg := flatten_get b3 hi' hq
    exact .pure ((c4 _ d u hg hu).toP (D.pureL_mem b4 d (List.mem_of_getElem? hg)))

theorem bso (j : Nat) {ops : Array Oper} {r : List Oper} {acc : List Eff} {n lm : Nat} {tm : List (Nat × D)} {ow : List (Nat × Option Blk)} {F : List Eff → St → Prop} {T e : TypeId} {len sz by_ : Nat} {parts : Array (Nat × Operand)} {zs : List D} {ps : List (Nat × D)}
    {l : List (List D)} [hT : TySl P T e sz by_] [hZ : TyZ P e zs] (hx : St.valsP ⟨n, tm, ow, lm⟩ parts.toList = some ps) (hl : bsD sz 0 ps = some l) (hn : (Nat.beq ps.length len && Nat.ble (len * sz) 16777216 && Nat.ble len 16777216) = true) (hf : St.freshB ⟨n, tm, ow, lm⟩ j = true)
    (hd : Nat.blt t n = true) (hg : Gd ops ⟨n, tm, ow, lm⟩ g) (h : WpD P ops r (⟨[], [j], .sl j 0 len, [(j, some (.buf sz l))]⟩ :: acc) ⟨n, (t, .sl j 0 len) :: tm, (j, some (.buf sz l)) :: ow, lm⟩ F) :
    WpD P ops (⟨some t, .buildSlice T len parts, ty, pos, af, g⟩ :: r) acc ⟨n, tm, ow, lm⟩ F := step (lok_slice_lit_own j hx hl hn (blt_lt hd)) hg (by simpa using hf) h
end
end Go.Eng

/- The engine, part S: how a body with a receiver's block ends. No program in sight. -/
namespace Go.Eng
open Go
section
variable {P : Program}
/-- One block is handed back. -/
theorem EndsG.one {fn : Func} {d : D} {st : St} {ds : List D} {j : Nat} {T : TypeId} {l0 l : List D} {e : Exit} (he : e = .normal ∨ e = .ret) (h : RetG P st [j] fn.results.toList ds) (hd : d = retD ds) (hj : st.blk j = some (.cells T l0)) (hl : FzGL st [j] l0 l) :
    EndsG P fn d [(j, .cells T l)] e st := by
  refine ⟨he, ⟨ds, h, hd⟩, fun k b hk => ?_⟩
  rw [alook_cons] at hk
  split at hk
  · rename_i hjk
    subst hjk; cases hk
    exact ⟨_, hj, .cells T hl⟩
  · cases hk
/-- A new buffer is handed back. -/
theorem EndsG.buf {fn : Func} {d : D} {st : St} {ds : List D} {j sz : Nat} {l : List (List D)} {e : Exit} (he : e = .normal ∨ e = .ret) (h : RetG P st [j] fn.results.toList ds) (hd : d = retD ds) (hj : st.blk j = some (.buf sz l)) :
    EndsG P fn d [(j, .buf sz l)] e st := by
  refine ⟨he, ⟨ds, h, hd⟩, fun k b hk => ?_⟩
  rw [alook_cons] at hk
  split at hk
  · rename_i hjk
    subst hjk; cases hk
    exact ⟨_, hj, .same _⟩
  · cases hk
end
end Go.Eng

/- The engine, part T: weaker data; bounds of lengths; buffers that are left alone from now on; division, shifts. No program in sight. -/
namespace Go.Eng
open Go

mutual
/-- The same datum, with less known of it: slices may have spare capacity. -/
def D.wk : D → D
  | .rows _ l => .rows false l
  | .agg l => .agg (D.wkL l)
  | .tup l => .tup (D.wkL l)
  | d => d
def D.wkL : List D → List D
  | [] => []
  | d :: r => D.wk d :: D.wkL r
end
theorem D.wkL_get : ∀ {l : List D} {k : Nat} {d : D}, (D.wkL l)[k]? = some d → ∃ d0, l[k]? = some d0 ∧ d = d0.wk
  | [], _, _, h => by simp [D.wkL] at h
  | x :: l, 0, d, h => by simp [D.wkL] at h; exact ⟨x, rfl, h.symm⟩
  | x :: l, k + 1, d, h => by
    obtain ⟨d0, h1, h2⟩ := D.wkL_get (l := l) (k := k) (d := d) (by simpa [D.wkL] using h)
    exact ⟨d0, by simpa using h1, h2⟩
theorem D.wkL_length : ∀ l : List D, (D.wkL l).length = l.length
  | [] => rfl
  | _ :: l => by simp [D.wkL, D.wkL_length l]
theorem DenP.wk {H : GH} {d : D} {v : Value} (h : DenP H d v) : DenP H d.wk v := by
  induction h with
  | any v => exact .any v
  | int k n => exact .int k n
  | bool b => exact .bool b
  | str s => exact .str s
  | rowsE full a cap hf => exact .rowsE false a cap (by simp)
  | rowsS full l b off cap sz arr ty fz hb hne hlen hf hsz hin he hbig _ => exact .rowsS false l b off cap sz arr ty fz hb hne hlen (by simp) hsz hin he hbig
  | pp l b off arr ty fz hb hin he _ => exact .pp l b off arr ty fz hb hin he
  | agg l cs hs _ ih => exact .agg _ cs (by rw [D.wkL_length]; exact hs) fun k d v hk hv => by obtain ⟨d0, h1, rfl⟩ := D.wkL_get hk; exact ih k d0 v h1 hv
  | tup l cs hs _ ih => exact .tup _ cs (by rw [D.wkL_length]; exact hs) fun k d v hk hv => by obtain ⟨d0, h1, rfl⟩ := D.wkL_get hk; exact ih k d0 v h1 hv
  | fn f l cs hs he _ => exact .fn f l cs hs he
  | iface t d v h _ => exact .iface t d v h
  | nilIface => exact .nilIface
  | nilPtr => exact .nilPtr
  | nilFn => exact .nilFn
  | nilMap => exact .nilMap
  | pmap l l' b es clock hb hp hs hk he _ _ => exact .pmap l l' b es clock hb hp hs hk he
theorem Den.wk {ρ : Nat → Loc} {H : GH} {d : D} {v : Value} (h : Den ρ H d v) : Den ρ H d.wk v := by
  induction h with
  | pure h => exact .pure h.wk
  | ptr j off hh => exact .ptr j off hh
  | sl j lo n a c hc hn ha => exact .sl j lo n a c hc hn ha
  | bp j i off hh => exact .bp j i off hh
  | omap j hh => exact .omap j hh
  | agg l cs hs _ ih => exact .agg _ cs (by rw [D.wkL_length]; exact hs) fun k d v hk hv => by obtain ⟨d0, h1, rfl⟩ := D.wkL_get hk; exact ih k d0 v h1 hv
  | tup l cs hs _ ih => exact .tup _ cs (by rw [D.wkL_length]; exact hs) fun k d v hk hv => by obtain ⟨d0, h1, rfl⟩ := D.wkL_get hk; exact ih k d0 v h1 hv
  | fn f l cs hs he _ => exact .fn f l cs hs he
  | bfn f l cs hs he _ => exact .bfn f l cs hs he
  | iface t d v h _ => exact .iface t d v h

/-- d' says no more than d. -/
def D.Le (d d' : D) : Prop := ∀ ρ H v, Den ρ H d v → Den ρ H d' v
def D.LeL (l l' : List D) : Prop := l.length = l'.length ∧ ∀ (k : Nat) (d' : D), l'[k]? = some d' → ∃ d, l[k]? = some d ∧ D.Le d d'
theorem D.Le.refl (d : D) : D.Le d d := fun _ _ _ h => h
theorem D.LeL.refl (l : List D) : D.LeL l l := ⟨rfl, fun _ d h => ⟨d, h, .refl d⟩⟩
theorem D.Le.wk (d : D) : D.Le d d.wk := fun _ _ _ h => h.wk
theorem D.LeL.wk (l : List D) : D.LeL l (D.wkL l) := ⟨(D.wkL_length l).symm, fun k d' h => by obtain ⟨d0, h1, rfl⟩ := D.wkL_get h; exact ⟨d0, h1, .wk d0⟩⟩
theorem D.flat_wk (d : D) : D.LeL d.flat d.wk.flat := by
  cases d with
  | agg l => exact .wk l
  | rows f l => exact ⟨rfl, fun k d' h => by
      cases k with
      | zero => simp [D.wk, D.flat] at h; subst h; exact ⟨_, rfl, .wk (.rows f l)⟩
      | succ k => simp [D.wk, D.flat] at h⟩
  | tup l => exact ⟨rfl, fun k d' h => by
      cases k with
      | zero => simp [D.wk, D.flat] at h; subst h; exact ⟨_, rfl, .wk (.tup l)⟩
      | succ k => simp [D.wk, D.flat] at h⟩
  | _ => exact .refl _
theorem D.LeL.put : ∀ (l : List D) (off : Nat) (ds ds' : List D), D.LeL ds ds' → D.LeL (putL l off ds) (putL l off ds')
  | [], off, ds, ds', h => by
    have e : ∀ (x : List D), putL [] off x = [] := fun x => by cases off <;> cases x <;> simp [putL]
    rw [e, e]; exact .refl _
  | x :: l, 0, ds, ds', h => by
    obtain ⟨h1, h2⟩ := h
    match ds, ds', h1, h2 with
    | [], [], _, _ => exact .refl _
    | [], _ :: _, h1, _ => simp at h1
    | _ :: _, [], h1, _ => simp at h1
    | d :: ds, d' :: ds', h1, h2 =>
      have ih := D.LeL.put l 0 ds ds' ⟨by simpa using h1, fun k e hk => by obtain ⟨e0, h3, h4⟩ := h2 (k + 1) e (by simpa using hk); exact ⟨e0, by simpa using h3, h4⟩⟩
      simp only [putL]
      refine ⟨by simp [ih.1], fun k e hk => ?_⟩
      cases k with
      | zero => simp at hk; subst hk; obtain ⟨e0, h3, h4⟩ := h2 0 d' rfl; simp at h3; subst h3; exact ⟨_, rfl, h4⟩
      | succ k => exact ih.2 k e (by simpa using hk)
  | x :: l, n + 1, ds, ds', h => by
    have ih := D.LeL.put l n ds ds' h
    simp only [putL]
    refine ⟨by simp [ih.1], fun k e hk => ?_⟩
    cases k with
    | zero => simp at hk; subst hk; exact ⟨_, rfl, .refl _⟩
    | succ k => exact ih.2 k e (by simpa using hk)

section contracts
variable {P : Program}
theorem FnP.wk {f : FuncId} {args : List D} {d : D} (h : FnP P f (D.wkL args) d) : FnP P f args d :=
  ⟨h.fn, fun W H vs hp hs hd => h.run W H vs hp (by rw [D.wkL_length]; exact hs) fun k d v hk hv => by obtain ⟨d0, h1, rfl⟩ := D.wkL_get hk; exact (hd k d0 v h1 hv).wk⟩
theorem FnG.wk {f : FuncId} {args : List D} {pre post : List (Nat × Blk)} {d : D} {keep : List Nat} (h : FnG P f (D.wkL args) pre d post keep) : FnG P f args pre d post keep :=
  ⟨h.fn, fun W H ρ pass vs hw hs hd => h.run W H ρ pass vs hw (by rw [D.wkL_length]; exact hs) fun k d v hk hv => by obtain ⟨d0, h1, rfl⟩ := D.wkL_get hk; exact (hd k d0 v h1 hv).wk⟩
theorem FnP.to {f : FuncId} {args : List D} {d d' : D} (h : FnP P f args d) (e : d = d') : FnP P f args d' := e ▸ h
end contracts

theorem WRel.le {B : Base} {bl bl' : Nat → Option Blk} {ρ : Nat → Loc} {H : GH} {w : World} (h : WRel B bl ρ H w) (hb : ∀ j b', bl' j = some b' → ∃ b, bl j = some b ∧ (OwnOk ρ H w j b → OwnOk ρ H w j b')) : WRel B bl' ρ H w :=
  ⟨fun j b hj => by obtain ⟨b0, h1, h2⟩ := hb j b hj; exact h2 (h.own j b0 h1), fun j k b c hj hk => by obtain ⟨b0, h1, _⟩ := hb j b hj; obtain ⟨c0, h2, _⟩ := hb k c hk; exact h.sep j k b0 c0 h1 h2,
   fun j b hj => by obtain ⟨b0, h1, _⟩ := hb j b hj; exact h.new j b0 h1, fun j b hj => by obtain ⟨b0, h1, _⟩ := hb j b hj; exact h.np j b0 h1, h.pers, h.hext, h.hnew, h.size, h.frame, h.os, h.tape, h.output, h.kp⟩

theorem Rel.app_le {B : Base} {st : St} {dst : Option Tmp} {tch nw : List Nat} {d d' : D} {wr wr' : List (Nat × Option Blk)} {ρ : Nat → Loc} {H H' : GH} {a : Act} {w : World} (h : Rel B (st.app dst ⟨tch, nw, d, wr⟩) ρ H a w)
    (hle : H.le H') (hd : ∀ v, Den ρ H d v → Den ρ H' d' v) (hw : WRel B (st.app dst ⟨tch, nw, d', wr'⟩).blk ρ H' w) : Rel B (st.app dst ⟨tch, nw, d', wr'⟩) ρ H' a w := by
  refine ⟨h.sz, h.df, fun t e ht => ?_, hw, h.lm⟩
  have h1 := h.tm t
  rw [St.app_get] at ht
  simp only [St.app_get] at h1
  by_cases hdt : dst = some t
  · rw [if_pos hdt] at ht; cases ht
    obtain ⟨v, h2, h3⟩ := h1 d (by rw [if_pos hdt])
    exact ⟨v, h2, hd v h3⟩
  · rw [if_neg hdt] at ht
    obtain ⟨v, h2, h3⟩ := h1 e (by rw [if_neg hdt]; exact ht)
    exact ⟨v, h2, h3.mono hle fun _ _ => rfl⟩

theorem LOk.wk {P : Program} {o : Oper} {st : St} {tch nw : List Nat} {d : D} {wr : List (Nat × Option Blk)} (h : LOk P o st ⟨tch, nw, d, wr⟩) : LOk P o st ⟨tch, nw, d.wk, wr⟩ := by
  intro B st2 ag ρ H a w hR K Q hK
  refine h B st2 ⟨ag.n, ag.val, ag.blk, ag.fresh, ag.plus⟩ ρ H a w hR K Q fun v ρ' H' w' hR' => hK v ρ' H' w' (hR'.app_le (GH.le_refl _) (fun v h => h.wk) ?_)
  have : (st2.app o.dst ⟨tch, nw, d.wk, wr⟩).blk = (st2.app o.dst ⟨tch, nw, d, wr⟩).blk := by funext j; rw [St.app_blk, St.app_blk]
  rw [this]; exact hR'.wr

theorem LOk.cells {P : Program} {o : Oper} {st : St} {tch nw : List Nat} {d : D} {j : Nat} {bt : TypeId} {l l' : List D} (h : LOk P o st ⟨tch, nw, d, [(j, some (.cells bt l))]⟩) (hl : D.LeL l l') : LOk P o st ⟨tch, nw, d, [(j, some (.cells bt l'))]⟩ := by
  intro B st2 ag ρ H a w hR K Q hK
  refine h B st2 ⟨ag.n, ag.val, ag.blk, ag.fresh, fun _ _ _ _ h => by simp [Eff.plus?] at h⟩ ρ H a w hR K Q fun v ρ' H' w' hR' => hK v ρ' H' w' (hR'.app_le (GH.le_refl _) (fun v h => h) (hR'.wr.le fun k b' hk => ?_))
  rw [upd_blk] at hk ⊢
  by_cases hjk : j = k
  · rw [if_pos hjk] at hk ⊢
    cases hk
    refine ⟨_, rfl, fun ho => ?_⟩
    obtain ⟨hh, arr, h1, h2, h3⟩ := ho
    exact ⟨hh, arr, h1, by rw [h2, hl.1], fun q d' v hq hv => by obtain ⟨d0, h4, h5⟩ := hl.2 q d' hq; exact h5 _ _ _ (h3 q d0 v h4 hv)⟩
  · rw [if_neg hjk] at hk ⊢
    exact ⟨b', hk, fun h => h⟩

/-- An own buffer that is left alone from now on. -/
theorem WRel.freeze {B : Base} {bl : Nat → Option Blk} {ρ : Nat → Loc} {H : GH} {w : World} (h : WRel B bl ρ H w) {j sz : Nat} {l : List (List D)} (hj : bl j = some (.buf sz l)) (hp : (l.all D.pureL) = true) :
    ∃ H' : GH, H.le H' ∧ WRel B (fun k => if j = k then none else bl k) ρ H' w ∧ ∀ lo n v, lo + n ≤ l.length → Den ρ H (.sl j lo n) v → DenP H' (.rows false ((l.drop lo).take n)) v := by
  obtain ⟨ho0, ho1, ho2, ho3, ho4, hoB, hoP⟩ := h.own j _ hj
  let H' : GH := fun b => if b = (ρ j).blk ∧ (ρ j).here = true then w.heap[b]? else H b
  have hle : H.le H' := fun b o hb => by
    show (if b = (ρ j).blk ∧ (ρ j).here = true then w.heap[b]? else H b) = some o
    split
    · exact h.pers b o hb
    · exact hb
  refine ⟨H', hle, ⟨fun k b hk => ?_, fun k q b c hk hq hne => ?_, fun k b hk => ?_, fun k b hk hh => ?_, fun b o hb => ?_, GH.le_trans h.hext hle, fun b o hb => ?_, h.size, h.frame, h.os, h.tape, h.output, h.kp⟩, fun lo n v hln hd => ?_⟩
  · by_cases hjk : j = k
    · rw [if_pos hjk] at hk; cases hk
    · rw [if_neg hjk] at hk; exact (h.own k b hk).mono hle rfl (fun _ _ => rfl) (fun _ => rfl)
  · by_cases hjk : j = k
    · rw [if_pos hjk] at hk; cases hk
    · by_cases hjq : j = q
      · rw [if_pos hjq] at hq; cases hq
      · rw [if_neg hjk] at hk; rw [if_neg hjq] at hq; exact h.sep k q b c hk hq hne
  · by_cases hjk : j = k
    · rw [if_pos hjk] at hk; cases hk
    · rw [if_neg hjk] at hk; exact h.new k b hk
  · by_cases hjk : j = k
    · rw [if_pos hjk] at hk; cases hk
    · rw [if_neg hjk] at hk
      show (if (ρ k).blk = (ρ j).blk ∧ (ρ j).here = true then w.heap[(ρ k).blk]? else H (ρ k).blk) = none
      rw [if_neg fun e => h.sep k j b _ hk hj (Ne.symm hjk) hh e.2 e.1]
      exact h.np k b hk hh
  · show w.heap[b]? = some o
    have hb : (if b = (ρ j).blk ∧ (ρ j).here = true then w.heap[b]? else H b) = some o := hb
    split at hb
    · exact hb
    · exact h.pers b o hb
  · have hb : (if b = (ρ j).blk ∧ (ρ j).here = true then w.heap[b]? else H b) = some o := hb
    split at hb
    · rename_i hc
      rcases h.new j _ hj hc.2 with h1 | h1
      · exact .inr (.inl (by rw [hc.1]; exact h1))
      · exact .inr (.inr (by rw [hc.1]; exact h1))
    · exact h.hnew b o hb
  · obtain ⟨a1, c, rfl, hc, hcn, ha⟩ := hd.sl_inv
    have hlen : ((l.drop lo).take n).length = n := by simp; omega
    by_cases hn : n = 0
    · subst hn; rw [List.take_zero]; exact .rowsE false a1 c (by simp)
    · have hhere : (ρ j).here = true := by
        cases hh : (ρ j).here with
        | true => rfl
        | false => have := ho3 hh; omega
      have ha' : a1 = some ⟨(ρ j).blk, lo * (ρ j).sz, none⟩ := by
        rcases ha with h | ⟨_, h2⟩
        · omega
        · exact h2
      subst ha'
      obtain ⟨arr, bt, hb, hbs, hbd⟩ := ho4 hhere
      have hH : H' (ρ j).blk = some (.cells arr bt (0, 0)) := by
        show (if (ρ j).blk = (ρ j).blk ∧ (ρ j).here = true then w.heap[(ρ j).blk]? else H (ρ j).blk) = _
        rw [if_pos ⟨rfl, hhere⟩]; exact hb
      have hmul : (lo + n) * (ρ j).sz ≤ l.length * (ρ j).sz := Nat.mul_le_mul_right _ hln
      have hmul2 : l.length * (ρ j).sz ≤ arr.size := by rw [hbs]; exact Nat.mul_le_mul_right _ ho1
      rw [Nat.add_mul] at hmul
      have := DenP.rowsS (H := H') false ((l.drop lo).take n) (ρ j).blk (lo * (ρ j).sz) c (ρ j).sz arr bt (0, 0) hH (by intro h; rw [h] at hlen; simp at hlen; omega) (by omega) (by simp)
        (fun r hr => ho2 r (List.mem_of_mem_drop (List.mem_of_mem_take hr))) (by rw [hlen]; omega) (fun i k row d v hi hk hv => by
          rw [List.getElem?_take] at hi
          split at hi
          · rw [List.getElem?_drop] at hi
            rw [← Nat.add_mul] at hv
            exact ((hbd (lo + i) k row d v hi hk hv).toP (D.pureL_mem ((List.all_eq_true.1 hp) _ (List.mem_of_getElem? hi)) _ (List.mem_of_getElem? hk))).mono hle
          · cases hi) (by omega)
      rwa [hlen] at this

/-- What an operation makes is left alone from now on. -/
theorem LOk.freeze {P : Program} {o : Oper} {st : St} {tch nw : List Nat} {j sz n : Nat} {l : List (List D)} {wr : List (Nat × Option Blk)} (h : LOk P o st ⟨tch, nw, .sl j 0 n, (j, some (.buf sz l)) :: wr⟩) (hn : n = l.length) (hp : (l.all D.pureL) = true) (hpl : (wr.all fun p => match p.2 with | none => true | _ => false) = true) :
    LOk P o st ⟨tch, nw, .rows false l, (j, none) :: wr⟩ := by
  intro B st2 ag ρ H a w hR K Q hK
  have hpl1 : Eff.plus? ⟨tch, nw, .sl j 0 n, (j, some (.buf sz l)) :: wr⟩ = none := by cases wr <;> simp [Eff.plus?]
  refine h B st2 ⟨ag.n, ag.val, ag.blk, ag.fresh, fun _ _ _ _ h => by rw [hpl1] at h; cases h⟩ ρ H a w hR K Q fun v ρ' H' w' hR' => ?_
  have hj : (st2.app o.dst ⟨tch, nw, .sl j 0 n, (j, some (.buf sz l)) :: wr⟩).blk j = some (.buf sz l) := by rw [St.app_blk, blkOn_cons, if_pos rfl]; rfl
  obtain ⟨H'', h1, h2, h3⟩ := hR'.wr.freeze hj hp
  refine hK v ρ' H'' w' (hR'.app_le h1 (fun v hv => .pure ?_) (h2.bl_eq fun k c hk => ?_))
  · have := h3 0 n v (by omega) hv
    rwa [List.drop_zero, hn, List.take_length] at this
  · rw [St.app_blk, blkOn_cons] at hk ⊢
    by_cases hjk : j = k
    · rw [if_pos hjk] at hk; cases hk
    · rw [if_neg hjk] at hk ⊢; rw [if_neg hjk]; exact hk

/-- Between two regions: an own buffer is left alone from now on. fs: the slots that hold parts of it; ks, js: what stays. -/
def St.froz (st : St) (j : Nat) (l : List (List D)) : List Nat → Option (List (Nat × D))
  | [] => some []
  | t :: r => match st.get t, st.froz j l r with
    | some (.sl k lo n), some q => if (Nat.beq k j && Nat.ble (lo + n) l.length) = true then some ((t, .rows false ((l.drop lo).take n)) :: q) else none
    | _, _ => none
theorem froz_spec {st : St} {j : Nat} {l : List (List D)} : ∀ {fs : List Nat} {q : List (Nat × D)}, st.froz j l fs = some q → ∀ p ∈ q, ∃ lo n, st.get p.1 = some (.sl j lo n) ∧ lo + n ≤ l.length ∧ p.2 = .rows false ((l.drop lo).take n)
  | [], q, h, p, hp => by simp [St.froz] at h; subst h; cases hp
  | t :: r, q, h, p, hp => by
    simp only [St.froz] at h
    split at h
    · rename_i k lo n q' h1 h2
      split at h
      · rename_i hc
        simp only [Bool.and_eq_true, Nat.beq_eq, Nat.ble_eq] at hc
        cases h
        obtain ⟨rfl, hc⟩ := hc
        rcases List.mem_cons.1 hp with rfl | hp
        · exact ⟨lo, n, h1, hc, rfl⟩
        · exact froz_spec h2 p hp
      · cases h
    · cases h
theorem selT_spec {st : St} : ∀ {ks : List Nat} {q : List (Nat × D)}, st.selT ks = some q → ∀ p ∈ q, st.get p.1 = some p.2
  | [], q, h, p, hp => by simp [St.selT] at h; subst h; cases hp
  | t :: r, q, h, p, hp => by
    simp only [St.selT] at h
    split at h
    · rename_i d q' h1 h2
      cases h
      rcases List.mem_cons.1 hp with rfl | hp
      · exact h1
      · exact selT_spec h2 p hp
    · cases h
theorem Wp.freeze {P : Program} {Q : Exit → St → Prop} {n lm : Nat} {tm : List (Nat × D)} {ow : List (Nat × Option Blk)} {c : Code} (j : Nat) (fs ks : List Nat) {sz : Nat} {l : List (List D)} {q kt : List (Nat × D)} (hj : St.blk ⟨n, tm, ow, lm⟩ j = some (.buf sz l)) (hp : (l.all D.pureL) = true)
    (hf : St.froz ⟨n, tm, ow, lm⟩ j l fs = some q) (hk : St.selT ⟨n, tm, ow, lm⟩ ks = some kt) (h : Wp P c Q ⟨n, q ++ kt, (j, none) :: ow, lm⟩) : Wp P c Q ⟨n, tm, ow, lm⟩ := by
  intro B ρ H a w hR
  obtain ⟨H', h1, h2, h3⟩ := hR.wr.freeze hj hp
  refine h B ρ H' a w ⟨hR.sz, hR.df, fun t d ht => ?_, h2.bl_eq fun k c hk => ?_, hR.lm⟩
  · have hm := alook_mem (show alook (q ++ kt) t = some d from ht)
    rcases List.mem_append.1 hm with hm | hm
    · obtain ⟨lo, m, h4, h5, h6⟩ := froz_spec hf _ hm
      obtain ⟨v, h7, h8⟩ := hR.tm t _ h4
      simp only at h6; subst h6
      exact ⟨v, h7, .pure (h3 lo m v h5 h8)⟩
    · obtain ⟨v, h7, h8⟩ := hR.tm t d (selT_spec hk _ hm)
      exact ⟨v, h7, h8.mono h1 fun _ _ => rfl⟩
  · have hk : blkOn none ((j, none) :: ow) k = some c := hk
    rw [blkOn_cons] at hk
    by_cases hjk : j = k
    · rw [if_pos hjk] at hk; cases hk
    · rw [if_neg hjk] at hk ⊢; exact hk

mutual
/-- What is known of the lengths in a datum. -/
def D.bd : D → Prop
  | .rows _ l => l.length ≤ 9223372036854775807
  | .agg l => D.bdL l
  | .pp l => D.bdL l
  | _ => True
def D.bdL : List D → Prop
  | [] => True
  | d :: r => D.bd d ∧ D.bdL r
end
theorem D.bdL_of : ∀ {l : List D}, (∀ (k : Nat) (d : D), l[k]? = some d → d.bd) → D.bdL l
  | [], _ => trivial
  | d :: l, h => ⟨h 0 d rfl, D.bdL_of fun k e hk => h (k + 1) e (by simpa using hk)⟩
theorem DenP.bd {H : GH} {d : D} {v : Value} (h : DenP H d v) : d.bd := by
  induction h with
  | rowsE => simp [D.bd]
  | rowsS => simp only [D.bd]; assumption
  | agg l cs hs _ ih =>
    exact D.bdL_of fun k d hk => by
        have hlt : k < cs.size := by have := (List.getElem?_eq_some_iff.1 hk).1; omega
        exact ih k d cs[k] hk (by simp [hlt])
  | pp l b off arr ty fz hb hin _ ih =>
    exact D.bdL_of fun k d hk => by
        have hlt : off + k < arr.size := by have := (List.getElem?_eq_some_iff.1 hk).1; omega
        exact ih k d arr[off + k] hk (by simp [hlt])
  | _ => exact trivial
theorem Den.bd {ρ : Nat → Loc} {H : GH} {d : D} {v : Value} (h : Den ρ H d v) : d.bd := by
  induction h with
  | pure h => exact h.bd
  | agg l cs hs _ ih =>
    exact D.bdL_of fun k d hk => by
        have hlt : k < cs.size := by have := (List.getElem?_eq_some_iff.1 hk).1; omega
        exact ih k d cs[k] hk (by simp [hlt])
  | _ => exact trivial
theorem Wp.bound {P : Program} {Q : Exit → St → Prop} {st : St} {c : Code} {d : D} (t : Nat) (ht : st.get t = some d) (h : d.bd → Wp P c Q st) : Wp P c Q st := fun B ρ H a w hR => by
  obtain ⟨v, _, h2⟩ := hR.tm t d ht
  exact h h2.bd B ρ H a w hR

section
variable {P : Program} {ops : Array Oper} {r : List Oper} {acc : List Eff} {n lm : Nat} {tm : List (Nat × D)} {ow : List (Nat × Option Blk)} {F : List Eff → St → Prop}
  {t : Nat} {ty : TypeId} {pos : String} {af : Array Edge} {g : Option (Nat × Bool)} {st : St} {d : D}

def divInt : BinOp → Int → Int → Option Int
  | .quo, x, y => some (x.tdiv y)
  | .rem, x, y => some (x.tmod y)
  | _, _, _ => none
theorem lok_rem {x y : Operand} {xt yt : TypeId} {k : IntKind} {a b c : Int} (hx : st.val x = some (.int k a)) (hy : st.val y = some (.int k b)) (hb : b ≠ 0) (hc : a.tmod b = c) (hd : t < st.n) :
    LOk P ⟨some t, .binOp .rem xt x y yt, ty, pos, af, g⟩ st ⟨[], [], .int k c, []⟩ :=
  lok_pure hd fun _ st2 _ _ ac w ag hR => ⟨.int k c, by
    have h1 := (hR.val ((ag.val x (by simp [Op.operands])).trans hx)).int_inv
    have h2 := (hR.val ((ag.val y (by simp [Op.operands])).trans hy)).int_inv
    simp [execOp, h1, h2, eqGuard, binOp, Op.intDiv, hb, hc], .pure (.int _ _)⟩
theorem lok_quo {x y : Operand} {xt yt : TypeId} {k : IntKind} {a b c : Int} (hx : st.val x = some (.int k a)) (hy : st.val y = some (.int k b)) (hb : b ≠ 0) (hc : k.wrap (a.tdiv b) = c) (hd : t < st.n) :
    LOk P ⟨some t, .binOp .quo xt x y yt, ty, pos, af, g⟩ st ⟨[], [], .int k c, []⟩ :=
  lok_pure hd fun _ st2 _ _ ac w ag hR => ⟨.int k c, by
    have h1 := (hR.val ((ag.val x (by simp [Op.operands])).trans hx)).int_inv
    have h2 := (hR.val ((ag.val y (by simp [Op.operands])).trans hy)).int_inv
    simp [execOp, h1, h2, eqGuard, binOp, Op.intDiv, hb, hc], .pure (.int _ _)⟩
theorem lok_shr {x y : Operand} {xt yt : TypeId} {k k' : IntKind} {a b c : Int} (hx : st.val x = some (.int k a)) (hy : st.val y = some (.int k' b)) (hb : 0 ≤ b) (hc : a.fdiv (2 ^ (min b.toNat k.bits)) = c) (hd : t < st.n) :
    LOk P ⟨some t, .binOp .shr xt x y yt, ty, pos, af, g⟩ st ⟨[], [], .int k c, []⟩ :=
  lok_pure hd fun _ st2 _ _ ac w ag hR => ⟨.int k c, by
    have h1 := (hR.val ((ag.val x (by simp [Op.operands])).trans hx)).int_inv
    have h2 := (hR.val ((ag.val y (by simp [Op.operands])).trans hy)).int_inv
    simp [execOp, h1, h2, eqGuard, binOp, Op.shift, Int.not_lt.2 hb, hc], .pure (.int _ _)⟩
theorem rm {x y : Operand} {xt yt : TypeId} {k : IntKind} {a b : Int} (c : Int) (hx : St.val ⟨n, tm, ow, lm⟩ x = some (.int k a)) (hy : St.val ⟨n, tm, ow, lm⟩ y = some (.int k b)) (hb : b ≠ 0) (hc : a.tmod b = c) (hd : Nat.blt t n = true)
    (hg : Gd ops ⟨n, tm, ow, lm⟩ g) (h : WpD P ops r (⟨[], [], .int k c, []⟩ :: acc) ⟨n, (t, .int k c) :: tm, ow, lm⟩ F) : WpD P ops (⟨some t, .binOp .rem xt x y yt, ty, pos, af, g⟩ :: r) acc ⟨n, tm, ow, lm⟩ F := step (lok_rem hx hy hb hc (blt_lt hd)) hg rfl h
theorem qu {x y : Operand} {xt yt : TypeId} {k : IntKind} {a b : Int} (c : Int) (hx : St.val ⟨n, tm, ow, lm⟩ x = some (.int k a)) (hy : St.val ⟨n, tm, ow, lm⟩ y = some (.int k b)) (hb : b ≠ 0) (hc : k.wrap (a.tdiv b) = c) (hd : Nat.blt t n = true)
    (hg : Gd ops ⟨n, tm, ow, lm⟩ g) (h : WpD P ops r (⟨[], [], .int k c, []⟩ :: acc) ⟨n, (t, .int k c) :: tm, ow, lm⟩ F) : WpD P ops (⟨some t, .binOp .quo xt x y yt, ty, pos, af, g⟩ :: r) acc ⟨n, tm, ow, lm⟩ F := step (lok_quo hx hy hb hc (blt_lt hd)) hg rfl h
theorem sr {x y : Operand} {xt yt : TypeId} {k k' : IntKind} {a b : Int} (c : Int) (hx : St.val ⟨n, tm, ow, lm⟩ x = some (.int k a)) (hy : St.val ⟨n, tm, ow, lm⟩ y = some (.int k' b)) (hb : 0 ≤ b) (hc : a.fdiv (2 ^ (min b.toNat k.bits)) = c) (hd : Nat.blt t n = true)
    (hg : Gd ops ⟨n, tm, ow, lm⟩ g) (h : WpD P ops r (⟨[], [], .int k c, []⟩ :: acc) ⟨n, (t, .int k c) :: tm, ow, lm⟩ F) : WpD P ops (⟨some t, .binOp .shr xt x y yt, ty, pos, af, g⟩ :: r) acc ⟨n, tm, ow, lm⟩ F := step (lok_shr hx hy hb hc (blt_lt hd)) hg rfl h

theorem bdw {T : TypeId} {parts : Array (Nat × Operand)} {zs ds : List D} {fs : List (Nat × Nat)} {ps : List (Nat × D)} [hZ : TyZ P T zs] [hS : TyS P T fs] (hx : St.valsP ⟨n, tm, ow, lm⟩ parts.toList = some ps) (hb : bldD fs zs ps = some ds)
    (hd : Nat.blt t n = true) (hg : Gd ops ⟨n, tm, ow, lm⟩ g) (h : WpD P ops r (⟨[], [], .agg (D.wkL ds), []⟩ :: acc) ⟨n, (t, .agg (D.wkL ds)) :: tm, ow, lm⟩ F) : WpD P ops (⟨some t, .build T parts, ty, pos, af, g⟩ :: r) acc ⟨n, tm, ow, lm⟩ F :=
  step (LOk.wk (lok_build hx hb (blt_lt hd))) hg rfl h
theorem stw {x y : Operand} {T bt : TypeId} {agg : Bool} {m j off : Nat} {l l' : List D} [hT : TyF P T agg m] (hx : St.val ⟨n, tm, ow, lm⟩ x = some (.ptr j off)) (hj : St.blk ⟨n, tm, ow, lm⟩ j = some (.cells bt l)) (hy : St.val ⟨n, tm, ow, lm⟩ y = some d)
    (hm : d.flat.length = m) (hc : (d.flat.all D.cell && off + m ≤ l.length && d.known) = true) (hl : putL l off d.wk.flat = l') (hg : Gd ops ⟨n, tm, ow, lm⟩ g)
    (h : WpD P ops r (⟨[j], [], .any, [(j, some (.cells bt l'))]⟩ :: acc) ⟨n, tm, (j, some (.cells bt l')) :: ow, lm⟩ F) : WpD P ops (⟨none, .store T x y, ty, pos, af, g⟩ :: r) acc ⟨n, tm, ow, lm⟩ F := by
  subst hl; exact step (LOk.cells (lok_store_ptr hx hj hy hm hc rfl) (D.LeL.put l off _ _ (D.flat_wk d))) hg rfl h
end
end Go.Eng

/- The engine, part U: slices that come as a list of Lean's, element by element laid out; elements of own buffers. No program in sight. -/
namespace Go.Eng
open Go

/-- How an element is laid out in cells. -/
class Enc {α : Type} (f : α → List D) (sz : outParam Nat) : Prop where
  ok : ∀ a, (f a).length = sz ∧ ((f a).all D.cell && D.pureL (f a)) = true
theorem Enc.rows {α : Type} {f : α → List D} {sz : Nat} [h : Enc f sz] (l : List α) : RowsOk sz (l.map f) := fun r hr => by
  obtain ⟨a, _, rfl⟩ := List.mem_map.1 hr; exact h.ok a
theorem Enc.pure {α : Type} {f : α → List D} {sz : Nat} [h : Enc f sz] (l : List α) : ((l.map f).all D.pureL) = true := by
  rw [List.all_eq_true]
  intro r hr
  have := (Enc.rows (f := f) l r hr).2
  simp only [Bool.and_eq_true] at this
  exact this.2
theorem Enc.lens {α : Type} {f : α → List D} {sz : Nat} [h : Enc f sz] (l : List α) : ∀ r ∈ l.map f, r.length = sz := fun r hr => (Enc.rows l r hr).1

section
variable {P : Program} {ops : Array Oper} {r : List Oper} {acc : List Eff} {n lm : Nat} {tm : List (Nat × D)} {ow : List (Nat × Option Blk)} {F : List Eff → St → Prop}
  {t : Nat} {ty : TypeId} {pos : String} {af : Array Edge} {g : Option (Nat × Bool)} {st : St} {d : D} {α : Type} {f : α → List D}

theorem lnM {x : Operand} {xt e : TypeId} {sz by_ : Nat} {full : Bool} {l : List α} [hT : TySl P xt e sz by_] (hx : St.val ⟨n, tm, ow, lm⟩ x = some (.rows full (l.map f))) (hd : Nat.blt t n = true) (hg : Gd ops ⟨n, tm, ow, lm⟩ g)
    (h : WpD P ops r (⟨[], [], .int .i64 l.length, []⟩ :: acc) ⟨n, (t, .int .i64 l.length) :: tm, ow, lm⟩ F) : WpD P ops (⟨some t, .call ⟨.builtin .len, #[x], #[xt]⟩, ty, pos, af, g⟩ :: r) acc ⟨n, tm, ow, lm⟩ F := by
  refine ln hx hd hg ?_
  rw [List.length_map]; exact h
theorem iaE {x y : Operand} {T e : TypeId} {sz by_ : Nat} {k : IntKind} {i : Int} {full : Bool} {l : List α} [hT : TySl P T e sz by_] [hE : Enc f sz] (m : Nat) (hm : m < l.length) (hx : St.val ⟨n, tm, ow, lm⟩ x = some (.rows full (l.map f))) (hy : St.val ⟨n, tm, ow, lm⟩ y = some (.int k i))
    (hi : i = (m : Int)) (hd : Nat.blt t n = true) (hg : Gd ops ⟨n, tm, ow, lm⟩ g) (h : WpD P ops r (⟨[], [], .pp (f l[m]), []⟩ :: acc) ⟨n, (t, .pp (f l[m])) :: tm, ow, lm⟩ F) :
    WpD P ops (⟨some t, .indexAddr T x y, ty, pos, af, g⟩ :: r) acc ⟨n, tm, ow, lm⟩ F := ia m (f l[m]) hx hy hi (by simp [hm]) (hE.ok _).1 hd hg h
theorem bsM {T e : TypeId} {len sz by_ : Nat} {parts : Array (Nat × Operand)} {zs : List D} {ps : List (Nat × D)} (f : α → List D) (l : List α) [hT : TySl P T e sz by_] [hZ : TyZ P e zs] (hx : St.valsP ⟨n, tm, ow, lm⟩ parts.toList = some ps)
    (hl : bsD sz 0 ps = some (l.map f)) (hn : (Nat.beq ps.length len && Nat.ble (len * sz) 16777216 && Nat.ble len 16777216) = true) (hd : Nat.blt t n = true) (hg : Gd ops ⟨n, tm, ow, lm⟩ g) (h : WpD P ops r (⟨[], [], .rows true (l.map f), []⟩ :: acc) ⟨n, (t, .rows true (l.map f)) :: tm, ow, lm⟩ F) :
    WpD P ops (⟨some t, .buildSlice T len parts, ty, pos, af, g⟩ :: r) acc ⟨n, tm, ow, lm⟩ F := bs hx hl hn hd hg h
theorem bsoM (j : Nat) {T e : TypeId} {len sz by_ : Nat} {parts : Array (Nat × Operand)} {zs : List D} {ps : List (Nat × D)} (f : α → List D) (l : List α) [hT : TySl P T e sz by_] [hZ : TyZ P e zs] (hx : St.valsP ⟨n, tm, ow, lm⟩ parts.toList = some ps)
    (hl : bsD sz 0 ps = some (l.map f)) (hn : (Nat.beq ps.length len && Nat.ble (len * sz) 16777216 && Nat.ble len 16777216) = true) (hlen : len = l.length) (hf : St.freshB ⟨n, tm, ow, lm⟩ j = true) (hd : Nat.blt t n = true) (hg : Gd ops ⟨n, tm, ow, lm⟩ g)
    (h : WpD P ops r (⟨[], [j], .sl j 0 l.length, [(j, some (.buf sz (l.map f)))]⟩ :: acc) ⟨n, (t, .sl j 0 l.length) :: tm, (j, some (.buf sz (l.map f))) :: ow, lm⟩ F) :
    WpD P ops (⟨some t, .buildSlice T len parts, ty, pos, af, g⟩ :: r) acc ⟨n, tm, ow, lm⟩ F := by subst hlen; exact bso j hx hl hn hf hd hg h

/-- l[lo:], l[:hi], l[lo:hi]. -/
theorem sl2M {T e : TypeId} {sz by_ : Nat} [hT : TySl P T e sz by_] [hE : Enc f sz] {x : Operand} {low high : Option Operand} {lo' hi' : Option Int} {full : Bool} {l : List α} (lo hi : Nat) (l2 : List α) (hx : St.val ⟨n, tm, ow, lm⟩ x = some (.rows full (l.map f))) (h1 : St.optInt ⟨n, tm, ow, lm⟩ low = some lo')
    (h2 : St.optInt ⟨n, tm, ow, lm⟩ high = some hi') (hlo : lo'.getD 0 = (lo : Int)) (hhi : hi'.getD (l.length : Int) = (hi : Int)) (hle : lo ≤ hi ∧ hi ≤ l.length) (hl : (l.take hi).drop lo = l2) (hd : Nat.blt t n = true) (hg : Gd ops ⟨n, tm, ow, lm⟩ g)
    (h : WpD P ops r (⟨[], [], .rows false (l2.map f), []⟩ :: acc) ⟨n, (t, .rows false (l2.map f)) :: tm, ow, lm⟩ F) : WpD P ops (⟨some t, .slice T x low high none, ty, pos, af, g⟩ :: r) acc ⟨n, tm, ow, lm⟩ F :=
  sl2 lo hi hx h1 h2 hlo (by rw [List.length_map]; exact hhi) (by rw [List.length_map]; exact hle) (Enc.lens l) (by rw [← List.map_take, ← List.map_drop, hl]) hd hg h
theorem sl3M {T e : TypeId} {sz by_ : Nat} [hT : TySl P T e sz by_] [hE : Enc f sz] {x hx' mx : Operand} {low : Option Operand} {lo' : Option Int} {k1 k2 : IntKind} {i1 i2 : Int} {full : Bool} {l : List α} (lo hi : Nat) (l2 : List α) (hx : St.val ⟨n, tm, ow, lm⟩ x = some (.rows full (l.map f)))
    (h1 : St.optInt ⟨n, tm, ow, lm⟩ low = some lo') (h2 : St.val ⟨n, tm, ow, lm⟩ hx' = some (.int k1 i1)) (h3 : St.val ⟨n, tm, ow, lm⟩ mx = some (.int k2 i2)) (hlo : lo'.getD 0 = (lo : Int)) (hhi : i1 = (hi : Int)) (hmx : i2 = (hi : Int)) (hle : lo ≤ hi ∧ hi ≤ l.length)
    (hl : (l.take hi).drop lo = l2) (hd : Nat.blt t n = true) (hg : Gd ops ⟨n, tm, ow, lm⟩ g) (h : WpD P ops r (⟨[], [], .rows true (l2.map f), []⟩ :: acc) ⟨n, (t, .rows true (l2.map f)) :: tm, ow, lm⟩ F) :
    WpD P ops (⟨some t, .slice T x low (some hx') (some mx), ty, pos, af, g⟩ :: r) acc ⟨n, tm, ow, lm⟩ F :=
  sl3 lo hi hx h1 h2 h3 hlo hhi hmx (by rw [List.length_map]; exact hle) (Enc.lens l) (by rw [← List.map_take, ← List.map_drop, hl]) hd hg h
/-- An append to a full immutable slice: a new immutable one. -/
theorem apfM {x y : Operand} {T T2 e e2 : TypeId} {sz by_ sz2 by2 : Nat} {fy : Bool} {zs : List D} {l m : List α} [hT : TySl P T e sz by_] [hT2 : TySl P T2 e2 sz2 by2] [hZ : TyZ P e zs] [hE : Enc f sz] (hx : St.val ⟨n, tm, ow, lm⟩ x = some (.rows true (l.map f)))
    (hy : St.val ⟨n, tm, ow, lm⟩ y = some (.rows fy (m.map f))) (hroom : (2 * (l.length + m.length) + 512) * by_ ≤ 281474976710656) (hb0 : Nat.blt 0 by_ = true) (hd : Nat.blt t n = true) (hg : Gd ops ⟨n, tm, ow, lm⟩ g)
    (h : WpD P ops r (⟨[], [], .rows false ((l ++ m).map f), []⟩ :: acc) ⟨n, (t, .rows false ((l ++ m).map f)) :: tm, ow, lm⟩ F) : WpD P ops (⟨some t, .call ⟨.builtin .append, #[x, y], #[T, T2]⟩, ty, pos, af, g⟩ :: r) acc ⟨n, tm, ow, lm⟩ F :=
  apf hx hy (Enc.rows l) (Enc.rows m) (by rw [List.length_map, List.length_map]; exact hroom) hb0 (by rw [List.map_append]) hd hg h
/-- An append to nothing: a new immutable slice. -/
theorem apfN {x y : Operand} {T T2 e e2 : TypeId} {sz by_ sz2 by2 : Nat} {fy : Bool} {zs : List D} {m : List α} [hT : TySl P T e sz by_] [hT2 : TySl P T2 e2 sz2 by2] [hZ : TyZ P e zs] [hE : Enc f sz] (hx : St.val ⟨n, tm, ow, lm⟩ x = some (.rows true []))
    (hy : St.val ⟨n, tm, ow, lm⟩ y = some (.rows fy (m.map f))) (hroom : (2 * m.length + 512) * by_ ≤ 281474976710656) (hb0 : Nat.blt 0 by_ = true) (hd : Nat.blt t n = true) (hg : Gd ops ⟨n, tm, ow, lm⟩ g)
    (h : WpD P ops r (⟨[], [], .rows false (m.map f), []⟩ :: acc) ⟨n, (t, .rows false (m.map f)) :: tm, ow, lm⟩ F) : WpD P ops (⟨some t, .call ⟨.builtin .append, #[x, y], #[T, T2]⟩, ty, pos, af, g⟩ :: r) acc ⟨n, tm, ow, lm⟩ F :=
  apf hx hy (by intro r hr; cases hr) (Enc.rows m) (by rw [List.length_map, List.length_nil, Nat.zero_add]; exact hroom) hb0 (by rw [List.nil_append]) hd hg h
/-- An append to an own buffer. -/
theorem apoM (j' : Nat) {x y : Operand} {T T2 e e2 : TypeId} {sz by_ sz2 by2 j q : Nat} {fy : Bool} {zs : List D} {l m : List α} [hT : TySl P T e sz by_] [hT2 : TySl P T2 e2 sz2 by2] [hZ : TyZ P e zs] [hE : Enc f sz] (hx : St.val ⟨n, tm, ow, lm⟩ x = some (.sl j 0 q))
    (hj : St.blk ⟨n, tm, ow, lm⟩ j = some (.buf sz (l.map f))) (hq : q = l.length) (hy : St.val ⟨n, tm, ow, lm⟩ y = some (.rows fy (m.map f))) (hroom : (2 * (l.length + m.length) + 512) * by_ ≤ 281474976710656) (hb0 : Nat.blt 0 by_ = true)
    (hf : St.freshB ⟨n, tm, ow, lm⟩ j' = true) (hd : Nat.blt t n = true) (hg : Gd ops ⟨n, tm, ow, lm⟩ g)
    (h : WpD P ops r (⟨[j], [j'], .sl j' 0 (l ++ m).length, [(j', some (.buf sz ((l ++ m).map f))), (j, none)]⟩ :: acc) ⟨n, (t, .sl j' 0 (l ++ m).length) :: tm, (j', some (.buf sz ((l ++ m).map f))) :: (j, none) :: ow, lm⟩ F) :
    WpD P ops (⟨some t, .call ⟨.builtin .append, #[x, y], #[T, T2]⟩, ty, pos, af, g⟩ :: r) acc ⟨n, tm, ow, lm⟩ F := by
  refine apo j' (lq := (l ++ m).map f) hx hj (by rw [List.length_map]; exact hq) hy (Enc.rows m) (by rw [List.length_map, List.length_map]; exact hroom) hb0 (by rw [List.map_append]) hf hd hg ?_
  rw [List.length_map]; exact h
/-- The same; nobody writes it from then on. -/
theorem apoF (j' : Nat) {x y : Operand} {T T2 e e2 : TypeId} {sz by_ sz2 by2 j q : Nat} {fy : Bool} {zs : List D} {l m : List α} [hT : TySl P T e sz by_] [hT2 : TySl P T2 e2 sz2 by2] [hZ : TyZ P e zs] [hE : Enc f sz] (hx : St.val ⟨n, tm, ow, lm⟩ x = some (.sl j 0 q))
    (hj : St.blk ⟨n, tm, ow, lm⟩ j = some (.buf sz (l.map f))) (hq : q = l.length) (hy : St.val ⟨n, tm, ow, lm⟩ y = some (.rows fy (m.map f))) (hroom : (2 * (l.length + m.length) + 512) * by_ ≤ 281474976710656) (hb0 : Nat.blt 0 by_ = true)
    (hf : St.freshB ⟨n, tm, ow, lm⟩ j' = true) (hd : Nat.blt t n = true) (hg : Gd ops ⟨n, tm, ow, lm⟩ g)
    (h : WpD P ops r (⟨[j], [j'], .rows false ((l ++ m).map f), [(j', none), (j, none)]⟩ :: acc) ⟨n, (t, .rows false ((l ++ m).map f)) :: tm, (j', none) :: (j, none) :: ow, lm⟩ F) :
    WpD P ops (⟨some t, .call ⟨.builtin .append, #[x, y], #[T, T2]⟩, ty, pos, af, g⟩ :: r) acc ⟨n, tm, ow, lm⟩ F := by
  have h1 := lok_append_own (P := P) (ty := ty) (pos := pos) (af := af) (g := g) (T := T) (T2 := T2) j' hx hj (by rw [List.length_map]; exact hq) hy (Enc.rows m) (by rw [List.length_map, List.length_map]; exact hroom) hb0 (blt_lt hd)
  rw [← List.map_append] at h1
  exact step (h1.freeze rfl (Enc.pure _) rfl) hg (by simpa using hf) h
theorem apnM (j0 j' : Nat) {x y : Operand} {T T2 e e2 : TypeId} {sz by_ sz2 by2 : Nat} {fy : Bool} {zs : List D} {m : List α} [hT : TySl P T e sz by_] [hT2 : TySl P T2 e2 sz2 by2] [hZ : TyZ P e zs] [hE : Enc f sz] (hx : St.val ⟨n, tm, ow, lm⟩ x = some (.rows true []))
    (hy : St.val ⟨n, tm, ow, lm⟩ y = some (.rows fy (m.map f))) (hroom : (2 * m.length + 512) * by_ ≤ 281474976710656) (hne : Nat.beq j' j0 = false) (hb0 : Nat.blt 0 by_ = true)
    (hf : (St.freshB ⟨n, tm, ow, lm⟩ j' && St.freshB ⟨n, tm, ow, lm⟩ j0) = true) (hd : Nat.blt t n = true) (hg : Gd ops ⟨n, tm, ow, lm⟩ g)
    (h : WpD P ops r (⟨[], [j', j0], .sl j' 0 m.length, [(j', some (.buf sz (m.map f))), (j0, none)]⟩ :: acc) ⟨n, (t, .sl j' 0 m.length) :: tm, (j', some (.buf sz (m.map f))) :: (j0, none) :: ow, lm⟩ F) :
    WpD P ops (⟨some t, .call ⟨.builtin .append, #[x, y], #[T, T2]⟩, ty, pos, af, g⟩ :: r) acc ⟨n, tm, ow, lm⟩ F := by
  refine apn j0 j' hx hy (Enc.rows m) (by rw [List.length_map]; exact hroom) hne hb0 hf hd hg ?_
  rw [List.length_map]; exact h
theorem mksM (j : Nat) {T e : TypeId} {sz by_ : Nat} {zs : List D} {x : Operand} {k : IntKind} {i : Int} (z : α) (f : α → List D) (m : Nat) [hT : TySl P T e sz by_] [hZ : TyZ P e zs] (hz : f z = zs) (hx : St.val ⟨n, tm, ow, lm⟩ x = some (.int k i)) (hi : i = (m : Int)) (hroom : by_ * m ≤ 281474976710656)
    (hm : m < 9223372036854775808) (hf : St.freshB ⟨n, tm, ow, lm⟩ j = true) (hd : Nat.blt t n = true) (hg : Gd ops ⟨n, tm, ow, lm⟩ g)
    (h : WpD P ops r (⟨[], [j], .sl j 0 m, [(j, some (.buf sz ((List.replicate m z).map f)))]⟩ :: acc) ⟨n, (t, .sl j 0 m) :: tm, (j, some (.buf sz ((List.replicate m z).map f))) :: ow, lm⟩ F) : WpD P ops (⟨some t, .makeSlice T x x, ty, pos, af, g⟩ :: r) acc ⟨n, tm, ow, lm⟩ F := by
  refine mks j m hx hi hroom hm hf hd hg ?_
  rw [← hz, ← List.map_replicate]; exact h

/-- copy of nothing. -/
theorem lok_copy0 {T T2 e : TypeId} {sz by_ : Nat} [hT : TySl P T e sz by_] {x y : Operand} {j lo q : Nat} {fy : Bool} {l : List (List D)} (hx : st.val x = some (.sl j lo q)) (hj : st.blk j = some (.buf sz l)) (hy : st.val y = some (.rows fy [])) (hd : t < st.n) :
    LOk P ⟨some t, .call ⟨.builtin .copy, #[x, y], #[T, T2]⟩, ty, pos, af, g⟩ st ⟨[j], [], .int .i64 0, [(j, some (.buf sz l))]⟩ := by
  intro B st2 ag
  refine opOk_value (fun s hs => by cases hs; rw [ag.n]; exact hd) ag.fresh fun ρ H a w hR => ?_
  have hx2 := hR.val ((ag.val x (by simp [Op.operands, Call.operands])).trans hx)
  have hy2 := hR.val ((ag.val y (by simp [Op.operands, Call.operands])).trans hy)
  have hj2 := (ag.blk j (by simp)).trans hj
  obtain ⟨a1, c, hv1, _⟩ := hx2.sl_inv
  obtain ⟨a2, c2, new, hv2, hnew, hns, hnd, hn1⟩ := src_cells (P := P) (sz := sz) hR.wr.pers hy2 (by intro r hr; cases hr)
  have hnew0 : new = #[] := Array.eq_empty_of_size_eq_zero (by simpa using hns)
  subst hnew0
  have hnw := hnew w rfl
  simp only [List.length_nil] at hnw hv2
  rw [hv2] at hnw
  have hst : ∀ a : Addr, (storeCells a ([] : List Value)).run P w = .ok () w := fun a => by simp [storeCells]
  refine ⟨.int .i64 0, w, ρ, H, .inl ?_, .pure (.int _ _), GH.le_refl _, fun _ _ => rfl, hR.wr.bl_eq fun k b hk => ?_⟩
  · cases a1 with
    | none => simp [execOp, resolve, invoke, builtin, Builtin.copy_, hv1, hv2, run_underlying hT.und, Builtin.lenOf, sizeOf_run hT, hnw, goInt]
    | some a1 => simp [execOp, resolve, invoke, builtin, Builtin.copy_, hv1, hv2, run_underlying hT.und, Builtin.lenOf, sizeOf_run hT, hnw, goInt, hst]
  · rw [upd_blk] at hk
    by_cases h : j = k
    · subst h; rw [if_pos rfl] at hk; rw [hj2]; exact hk
    · rw [if_neg h] at hk; exact hk
theorem cpyM {T T2 e : TypeId} {sz by_ : Nat} [hT : TySl P T e sz by_] [hE : Enc f sz] {x y : Operand} {j lo q : Nat} {fy : Bool} {l m : List α} (l2 : List α) (hx : St.val ⟨n, tm, ow, lm⟩ x = some (.sl j lo q)) (hj : St.blk ⟨n, tm, ow, lm⟩ j = some (.buf sz (l.map f))) (hy : St.val ⟨n, tm, ow, lm⟩ y = some (.rows fy (m.map f)))
    (hfit : m.length ≤ q) (hln : lo + q ≤ l.length) (hl : l.take lo ++ m ++ l.drop (lo + m.length) = l2) (hd : Nat.blt t n = true) (hg : Gd ops ⟨n, tm, ow, lm⟩ g)
    (h : WpD P ops r (⟨[j], [], .int .i64 m.length, [(j, some (.buf sz (l2.map f)))]⟩ :: acc) ⟨n, (t, .int .i64 m.length) :: tm, (j, some (.buf sz (l2.map f))) :: ow, lm⟩ F) : WpD P ops (⟨some t, .call ⟨.builtin .copy, #[x, y], #[T, T2]⟩, ty, pos, af, g⟩ :: r) acc ⟨n, tm, ow, lm⟩ F := by
  by_cases hm : m = []
  · subst hm
    have : l2 = l := by rw [← hl]; simp
    subst this
    exact step (lok_copy0 hx hj hy (blt_lt hd)) hg rfl h
  · refine cpy hx hj hy (Enc.rows m) (by simpa using hm) (by rw [List.length_map]; exact hfit) (by rw [List.length_map]; exact hln) (l2 := l2.map f) (by rw [← hl]; simp [List.map_take, List.map_drop]) hd hg ?_
    rw [List.length_map]; exact h

/-- An own buffer's element. -/
theorem lok_indexAddr_own {x y : Operand} {T e : TypeId} {sz by_ : Nat} {k : IntKind} {i : Int} {m j lo q : Nat} {l : List (List D)} [hT : TySl P T e sz by_] (hx : st.val x = some (.sl j lo q)) (hj : st.blk j = some (.buf sz l)) (hy : st.val y = some (.int k i)) (hi : i = (m : Int)) (hm : m < q) (hd : t < st.n) :
    LOk P ⟨some t, .indexAddr T x y, ty, pos, af, g⟩ st ⟨[j], [], .bp j (lo + m) 0, []⟩ := by
  intro B st2 ag
  refine opOk_value (fun s hs => by cases hs; rw [ag.n]; exact hd) ag.fresh fun ρ H a w hR => ?_
  have hx2 := hR.val ((ag.val x (by simp [Op.operands])).trans hx)
  have h5 := (hR.val ((ag.val y (by simp [Op.operands])).trans hy)).int_inv
  have hj2 := (ag.blk j (by simp)).trans hj
  obtain ⟨a1, c, hv1, hc, hcn, ha⟩ := hx2.sl_inv
  obtain ⟨ho0, ho1, ho2, ho3, ho4, hoB, hoP⟩ := hR.wr.own j _ hj2
  have hhere : (ρ j).here = true := by
    cases hh : (ρ j).here with
    | true => rfl
    | false => have := ho3 hh; omega
  have ha' : a1 = some ⟨(ρ j).blk, lo * (ρ j).sz, none⟩ := by
    rcases ha with h | ⟨_, h2⟩
    · omega
    · exact h2
  subst ha'
  have hadd : (⟨(ρ j).blk, lo * (ρ j).sz, none⟩ : Addr).add (m * sz) = ⟨(ρ j).blk, (lo + m) * (ρ j).sz + 0, none⟩ := by
    have : (⟨(ρ j).blk, lo * (ρ j).sz, none⟩ : Addr).add (m * sz) = ⟨(ρ j).blk, lo * (ρ j).sz + m * sz, none⟩ := by unfold Addr.add; split <;> simp_all
    rw [this, ho0, Nat.add_mul, Nat.add_zero]
  refine ⟨.pointer (some ⟨(ρ j).blk, (lo + m) * (ρ j).sz + 0, none⟩), w, ρ, H, .inl ?_, .bp j (lo + m) 0 hhere, GH.le_refl _, fun _ _ => rfl, hR.wr.bl_eq fun k b hk => ?_⟩
  · subst hi
    simp [execOp, Instr.indexAt, hv1, h5, asIntOf, run_underlying hT.und, sizeOf_run hT, hm, hadd]
  · rw [St.app_blk] at hk; exact hk
theorem iaO {x y : Operand} {T e : TypeId} {sz by_ : Nat} {k : IntKind} {i : Int} {j lo q : Nat} {l : List (List D)} [hT : TySl P T e sz by_] (m : Nat) (hm : m < q) (hx : St.val ⟨n, tm, ow, lm⟩ x = some (.sl j lo q)) (hj : St.blk ⟨n, tm, ow, lm⟩ j = some (.buf sz l)) (hy : St.val ⟨n, tm, ow, lm⟩ y = some (.int k i))
    (hi : i = (m : Int)) (hd : Nat.blt t n = true) (hg : Gd ops ⟨n, tm, ow, lm⟩ g) (h : WpD P ops r (⟨[j], [], .bp j (lo + m) 0, []⟩ :: acc) ⟨n, (t, .bp j (lo + m) 0) :: tm, ow, lm⟩ F) :
    WpD P ops (⟨some t, .indexAddr T x y, ty, pos, af, g⟩ :: r) acc ⟨n, tm, ow, lm⟩ F := step (lok_indexAddr_own hx hj hy hi hm (blt_lt hd)) hg rfl h

theorem lok_load_bp {x : Operand} {T : TypeId} {agg : Bool} {m j i off sz : Nat} {l : List (List D)} {row : List D} [hT : TyF P T agg m] (hx : st.val x = some (.bp j i off)) (hj : st.blk j = some (.buf sz l)) (hi : l[i]? = some row) (hl : ldD agg m (row.drop off) = some d)
    (ho : off ≤ row.length) (hd : t < st.n) : LOk P ⟨some t, .load T x, ty, pos, af, g⟩ st ⟨[j], [], d, []⟩ := by
  intro B st2 ag
  refine opOk_value (fun s hs => by cases hs; rw [ag.n]; exact hd) ag.fresh fun ρ H a w hR => ?_
  obtain ⟨hh, h1⟩ := (hR.val ((ag.val x (by simp [Op.operands])).trans hx)).bp_inv
  have hj2 := (ag.blk j (by simp)).trans hj
  obtain ⟨ho0, ho1, ho2, ho3, ho4, hoB, hoP⟩ := hR.wr.own j _ hj2
  obtain ⟨arr, bt, hb, hbs, hbd⟩ := ho4 hh
  have hil := (List.getElem?_eq_some_iff.1 hi).1
  have hrl := ho2 row (List.mem_of_getElem? hi)
  have hle : (i + 1) * (ρ j).sz ≤ (ρ j).cap * (ρ j).sz := Nat.mul_le_mul_right _ (by omega)
  rw [Nat.succ_mul] at hle
  obtain ⟨v, hv, hden⟩ := load_run (P := P) (ρ := ρ) (H := H) hT hb (l := row.drop off) (off := i * (ρ j).sz + off) (by simp; omega) (fun k d v h1 h2 => hbd i (off + k) row d v hi (by simpa using h1) (by rw [← Nat.add_assoc]; exact h2)) hl
  refine ⟨v, w, ρ, H, .inl (by simp [execOp, Instr.loadAt, h1, Instr.sureAddr, hv]), hden, GH.le_refl _, fun _ _ => rfl, hR.wr.bl_eq fun k b hk => ?_⟩
  rw [St.app_blk] at hk; exact hk
end
end Go.Eng

/- The engine, part V: writes to elements of own buffers; buffers told by lists of Lean's. No program in sight. -/
namespace Go.Eng
open Go
section
variable {P : Program} {ops : Array Oper} {r : List Oper} {acc : List Eff} {n lm : Nat} {tm : List (Nat × D)} {ow : List (Nat × Option Blk)} {F : List Eff → St → Prop}
  {t : Nat} {ty : TypeId} {pos : String} {af : Array Edge} {g : Option (Nat × Bool)} {st : St} {d : D} {α : Type} {f : α → List D}

theorem laid_get {arr cs : List Value} {A m q : Nat} (hcs : cs.length = m) (hA : A + m ≤ arr.length) : (arr.take A ++ cs ++ arr.drop (A + m))[q]? = if q < A then arr[q]? else if q < A + m then cs[q - A]? else arr[q]? := by
  have e1 : (arr.take A).length = A := by simp; omega
  by_cases h1 : q < A
  · rw [if_pos h1, List.append_assoc, List.getElem?_append_left (by omega), List.getElem?_take, if_pos h1]
  · rw [if_neg h1]
    by_cases h2 : q < A + m
    · rw [if_pos h2, List.append_assoc, List.getElem?_append_right (by omega), e1, List.getElem?_append_left (by omega)]
    · rw [if_neg h2, List.getElem?_append_right (by simp; omega), List.getElem?_drop, List.length_append, e1, hcs, show A + m + (q - (A + m)) = q by omega]

theorem lok_store_bp {x y : Operand} {T : TypeId} {agg : Bool} {m j i off sz : Nat} {l : List (List D)} {row : List D} [hT : TyF P T agg m] (hx : st.val x = some (.bp j i off)) (hj : st.blk j = some (.buf sz l)) (hi : l[i]? = some row) (hy : st.val y = some d)
    (hn : d.flat.length = m) (hc : (d.flat.all D.cell && off + m ≤ row.length && d.known) = true) (hpu : D.pureL (putL row off d.flat) = true) : LOk P ⟨none, .store T x y, ty, pos, af, g⟩ st ⟨[j], [], .any, [(j, some (.buf sz (l.set i (putL row off d.flat))))]⟩ := by
  intro B st2 ag
  simp only [Bool.and_eq_true, decide_eq_true_eq] at hc
  have hany : d ≠ .any := D.known_ne hc.2
  refine opOk_value (fun s hs => by cases hs) ag.fresh fun ρ H a w hR => ?_
  obtain ⟨hh, h1⟩ := (hR.val ((ag.val x (by simp [Op.operands])).trans hx)).bp_inv
  have hj2 := (ag.blk j (by simp)).trans hj
  obtain ⟨ho0, ho1, ho2, ho3, ho4, hoB, hoP⟩ := hR.wr.own j _ hj2
  obtain ⟨arr, bt, hb, hbs, hbd⟩ := ho4 hh
  have hyv := hR.val ((ag.val y (by simp [Op.operands])).trans hy)
  have hil := (List.getElem?_eq_some_iff.1 hi).1
  have hrl := ho2 row (List.mem_of_getElem? hi)
  have hle : (i + 1) * (ρ j).sz ≤ (ρ j).cap * (ρ j).sz := Nat.mul_le_mul_right _ (by omega)
  rw [Nat.succ_mul] at hle
  have hin : i * (ρ j).sz + off + m ≤ arr.size := by have := hc.1.2; omega
  have hst := store_run (P := P) hT hyv hn hc.1.1 hb hin hany
  obtain ⟨hf1, hf2⟩ := hyv.flat hany
  have hput : putL row off d.flat = row.take off ++ d.flat ++ row.drop (off + m) := by rw [putL_eq row off d.flat (by rw [hn]; exact hc.1.2), hn]
  have hputl : (putL row off d.flat).length = row.length := by rw [hput]; simp [hn]; have := hc.1.2; omega
  let arr' := (arr.toList.take (i * (ρ j).sz + off) ++ (a.eval y).cells.toList ++ arr.toList.drop (i * (ρ j).sz + off + m)).toArray
  have hcl : (a.eval y).cells.toList.length = m := by simp [hf1, hn]
  have hget : ∀ q, arr'[q]? = if q < i * (ρ j).sz + off then arr[q]? else if q < i * (ρ j).sz + off + m then (a.eval y).cells[q - (i * (ρ j).sz + off)]? else arr[q]? := fun q => by
    have := laid_get (arr := arr.toList) (q := q) hcl (by simpa using hin)
    simp only [arr', List.getElem?_toArray]
    rw [this]
    simp
  have hsize : arr'.size = arr.size := by simp [arr', hf1, hn]; omega
  refine ⟨undef, w.setRow (ρ j).blk arr', ρ, H, .inr ⟨by simp only [execOp, Instr.storeAt, h1, Instr.sureAddr, Sem.run_bind, Sem.run_pure, Result.andThen_ok, hst]; rfl, rfl⟩, .pure (.any _), GH.le_refl _, fun _ _ => rfl, ?_⟩
  refine hR.wr.write hj2 hh (w' := w.setRow (ρ j).blk arr') (by simp [World.setRow]) (fun k hk => setRow_other w _ k _ hk) rfl rfl rfl (b' := .buf sz (l.set i (putL row off d.flat)))
    ⟨ho0, by simpa using ho1, fun row' hr => ?_, ho3, fun _ => ⟨arr', bt, setRow_heap w _ arr _ bt (0, 0) hb, by rw [hsize, hbs], fun i' k row' d' v hi' hk hv => ?_⟩, by simpa using hoB, List.all_eq_true.2 fun r hr => by
      rcases List.mem_or_eq_of_mem_set hr with h | h
      · exact (List.all_eq_true.1 hoP) r h
      · rw [h]; exact hpu⟩ upd_blk
  · rcases List.mem_or_eq_of_mem_set hr with h | h
    · exact ho2 row' h
    · rw [h, hputl]; exact hrl
  · rw [hget] at hv
    by_cases hii : i = i'
    · subst hii
      rw [List.getElem?_set_self hil] at hi'
      cases hi'
      rw [hput, List.append_assoc] at hk
      have e1 : (row.take off).length = off := by have := hc.1.2; simp; omega
      by_cases h2 : k < off
      · rw [if_pos (by omega)] at hv
        rw [List.getElem?_append_left (by omega), List.getElem?_take, if_pos h2] at hk
        exact hbd i k row d' v hi hk hv
      · rw [if_neg (by omega)] at hv
        rw [List.getElem?_append_right (by omega), e1] at hk
        by_cases h3 : k < off + m
        · rw [if_pos (by omega)] at hv
          rw [List.getElem?_append_left (by omega)] at hk
          exact hf2 (k - off) d' v hk (by rw [show k - off = i * (ρ j).sz + k - (i * (ρ j).sz + off) by omega]; exact hv)
        · rw [if_neg (by omega)] at hv
          rw [List.getElem?_append_right (by omega), hn, List.getElem?_drop, show off + m + (k - off - m) = k by omega] at hk
          exact hbd i k row d' v hi hk hv
    · rw [List.getElem?_set_ne hii] at hi'
      have hk2 : k < (ρ j).sz := by have := (List.getElem?_eq_some_iff.1 hk).1; rw [ho2 row' (List.mem_of_getElem? hi')] at this; exact this
      have hoff : off + m ≤ (ρ j).sz := by have := hc.1.2; omega
      have hv' : arr[i' * (ρ j).sz + k]? = some v := by
        rcases Nat.lt_or_gt_of_ne hii with h2 | h2
        · have h3 : (i + 1) * (ρ j).sz ≤ i' * (ρ j).sz := Nat.mul_le_mul_right _ h2
          rw [Nat.succ_mul] at h3
          rw [if_neg (by omega), if_neg (by omega)] at hv
          exact hv
        · have h3 : (i' + 1) * (ρ j).sz ≤ i * (ρ j).sz := Nat.mul_le_mul_right _ h2
          rw [Nat.succ_mul] at h3
          rw [if_pos (by omega)] at hv
          exact hv
      exact hbd i' k row' d' v hi' hk hv'

/-- Reads and writes of an own buffer's element. -/
theorem ldb {x : Operand} {T : TypeId} {agg : Bool} {m j i off sz : Nat} {l : List α} [hT : TyF P T agg m] (hi : i < l.length) (hx : St.val ⟨n, tm, ow, lm⟩ x = some (.bp j i off)) (hj : St.blk ⟨n, tm, ow, lm⟩ j = some (.buf sz (l.map f))) (hl : ldD agg m ((f l[i]).drop off) = some d)
    (ho : Nat.ble off (f l[i]).length = true) (hd : Nat.blt t n = true) (hg : Gd ops ⟨n, tm, ow, lm⟩ g) (h : WpD P ops r (⟨[j], [], d, []⟩ :: acc) ⟨n, (t, d) :: tm, ow, lm⟩ F) :
    WpD P ops (⟨some t, .load T x, ty, pos, af, g⟩ :: r) acc ⟨n, tm, ow, lm⟩ F := step (lok_load_bp (row := f l[i]) hx hj (by simp [hi]) hl (by simpa using ho) (blt_lt hd)) hg rfl h
theorem stb {x y : Operand} {T : TypeId} {agg : Bool} {m j i off sz : Nat} {l : List α} (a : α) [hT : TyF P T agg m] [hE : Enc f sz] (hi : i < l.length) (hx : St.val ⟨n, tm, ow, lm⟩ x = some (.bp j i off)) (hj : St.blk ⟨n, tm, ow, lm⟩ j = some (.buf sz (l.map f))) (hy : St.val ⟨n, tm, ow, lm⟩ y = some d)
    (hm : d.flat.length = m) (hc : (d.flat.all D.cell && off + m ≤ (f l[i]).length && d.known) = true) (ha : putL (f l[i]) off d.flat = f a) (hg : Gd ops ⟨n, tm, ow, lm⟩ g)
    (h : WpD P ops r (⟨[j], [], .any, [(j, some (.buf sz ((l.set i a).map f)))]⟩ :: acc) ⟨n, tm, (j, some (.buf sz ((l.set i a).map f))) :: ow, lm⟩ F) : WpD P ops (⟨none, .store T x y, ty, pos, af, g⟩ :: r) acc ⟨n, tm, ow, lm⟩ F := by
  refine step (e := ⟨[j], [], .any, [(j, some (.buf sz ((l.set i a).map f)))]⟩) ?_ hg rfl h
  have := lok_store_bp (P := P) (T := T) (ty := ty) (pos := pos) (af := af) (g := g) (row := f l[i]) hx hj (by simp [hi]) hy hm hc (by rw [ha]; have := (hE.ok a).2; simp only [Bool.and_eq_true] at this; exact this.2)
  rw [ha, ← List.map_set] at this
  exact this
end
end Go.Eng

/- The engine, part W: a slice held against nil; what is known behind a test. No program in sight. -/
namespace Go.Eng
open Go
section
variable {P : Program} {n lm : Nat} {tm : List (Nat × D)} {ow : List (Nat × Option Blk)} {Q : Exit → St → Prop}

/-- 's == nil' as a region of its own: either way, but for a slice with elements. -/
theorem Wp.nilTest {id t3 t4 : Nat} {x : Operand} {T T2 ty3 ty4 : TypeId} {p3 p4 : String} {a3 a4 : Array Edge} {fl : Bool} {l : List (List D)} {e : TypeId} {sz by_ : Nat} [hT : TySl P T e sz by_] (hx : St.val ⟨n, tm, ow, lm⟩ x = some (.rows fl l)) (h3 : Nat.blt t3 n = true) (h4 : Nat.blt t4 n = true)
    (h : ∀ b : Bool, (l ≠ [] → b = false) → Q .normal ⟨n, (t4, .bool b) :: (t3, .rows fl l) :: tm, ow, lm⟩) :
    Wp P (.region id #[⟨some t3, .move x, ty3, p3, a3, none⟩, ⟨some t4, .binOp .eql T (.tmp t3) (.const (.slice none 0 0)) T2, ty4, p4, a4, none⟩] false) Q ⟨n, tm, ow, lm⟩ := by
  intro B ρ H a w hR
  refine wp_region_lit (l := [⟨some t3, .move x, ty3, p3, a3, none⟩, ⟨some t4, .binOp .eql T (.tmp t3) (.const (.slice none 0 0)) T2, ty4, p4, a4, none⟩]) ?_
  have g1 : GOk P #[⟨some t3, .move x, ty3, p3, a3, none⟩, ⟨some t4, .binOp .eql T (.tmp t3) (.const (.slice none 0 0)) T2, ty4, p4, a4, none⟩] ⟨some t3, .move x, ty3, p3, a3, none⟩ ⟨n, tm, ow, lm⟩ ⟨[], [], .rows fl l, []⟩ := .plain rfl (lok_move hx (blt_lt h3))
  refine g1.run (agree_refl rfl) (fun _ _ => rfl) hR fun v ρ' H' w' hR' => ?_
  obtain ⟨u, hu, hd⟩ := hR'.tm t3 (.rows fl l) (by simp [St.app, St.get, alook_cons])
  obtain ⟨ad, cap, hv, h1, h2, h5⟩ := hd.rows_inv
  let b : Bool := match ad with | none => true | some _ => false
  have hb : l ≠ [] → b = false := fun hne => by
    obtain ⟨bk, off, sz, arr, ty, fz, rfl, _⟩ := h5 hne
    rfl
  have hrun : (execOp (a.put (some t3) v).eval ⟨some t4, .binOp .eql T (.tmp t3) (.const (.slice none 0 0)) T2, ty4, p4, a4, none⟩).run P w' = .ok (.value (.bool b)) w' := by
    have he : (a.put (some t3) v).eval (.tmp t3) = .slice ad l.length cap := by
      simp only [Act.eval, Array.getD_eq_getD_getElem?, hu, Option.getD_some]; exact hv
    have he2 : (a.put (some t3) v).eval (.const (.slice none 0 0)) = .slice none 0 0 := rfl
    have hg : (eqGuard .eql T (.tmp t3) (.const (.slice none 0 0)) (.slice ad l.length cap) (.slice none 0 0)).run P w' = .ok () w' := by simp [eqGuard]
    have hb1 : (binOp .eql T (.slice ad l.length cap) (.slice none 0 0)).run P w' = .ok (.bool ad.isNone) w' := by
      simp only [binOp, Sem.run_bind, run_equal_slice_nil w' T e ad _ _ hT.und, Result.andThen_ok, Sem.run_pure]
    have hbe : ad.isNone = b := by cases ad <;> rfl
    simp only [execOp, he, he2, Sem.run_bind, hg, Result.andThen_ok, hb1, hbe, Sem.run_pure]
  have hR2 := rel_put (dst := some t4) (v := .bool b) (d := .bool b) hR' (fun s hs => by cases hs; exact blt_lt h4) (.pure (.bool b))
  show if Region.wanted _ _ then _ ∨ _ else _
  rw [if_pos (by simp [Region.wanted])]
  refine .inl ?_
  unfold Oper.wp
  rw [hrun]
  exact ⟨_, ρ', H', hR2, h b hb⟩
end
end Go.Eng

/- The engine, part X: contracts that hand back a new buffer, under whatever name. No program in sight. -/
namespace Go.Eng
open Go
section
variable {P : Program}

theorem one_blk {j : Nat} {b : Blk} {k : Nat} : preB [(j, b)] k = if j = k then some b else none := by
  simp only [preB, alook_cons]; split <;> rfl

/-- The buffer that comes back, under another name. -/
theorem FnG.ren {f : FuncId} {args : List D} {j j' n sz : Nat} {l : List (List D)} (_hp : (l.all D.pureL) = true) (h : FnG P f args [] (.sl j 0 n) [(j, .buf sz l)] []) : FnG P f args [] (.sl j' 0 n) [(j', .buf sz l)] [] := by
  refine ⟨h.fn, fun W H ρ pass vs hW hs hd => (h.run W H ρ pass vs hW hs hd).mono fun e w' ⟨v, ρ', H', he, hv, _, hw⟩ => ⟨v, setLoc ρ' j' (ρ' j), H', he, ?_, (fun _ h => by cases h), ?_⟩⟩
  · obtain ⟨a, c, rfl, h1, h2, h3⟩ := hv.sl_inv
    exact .sl j' 0 n a c (by rw [setLoc_eq]; exact h1) (by rw [setLoc_eq]; exact h2) (by rw [setLoc_eq]; exact h3)
  · have hj : preB [(j, .buf sz l)] j = some (.buf sz l) := by rw [one_blk, if_pos rfl]
    have only : ∀ k b, preB [(j', .buf sz l)] k = some b → k = j' ∧ b = .buf sz l := fun k b hk => by
      rw [one_blk] at hk
      split at hk
      · rename_i e; cases hk; exact ⟨e.symm, rfl⟩
      · cases hk
    have nohas : ∀ k, (Blk.buf sz l).has k = false := fun k => rfl
    refine ⟨fun k b hk => ?_, fun k q b c hk hq hne => ?_, fun k b hk hh => ?_, fun k b hk hh => ?_, hw.pers, hw.hext, hw.hnew, hw.size, hw.frame, hw.os, hw.tape, hw.output, fun _ _ h => by cases h⟩
    · obtain ⟨rfl, rfl⟩ := only k b hk
      exact (hw.own j _ hj).name setLoc_eq fun q hq => by rw [nohas] at hq; cases hq
    · obtain ⟨rfl, rfl⟩ := only k b hk; obtain ⟨rfl, rfl⟩ := only q c hq; exact absurd rfl hne
    · obtain ⟨rfl, rfl⟩ := only k b hk
      rw [setLoc_eq] at hh ⊢; exact hw.new j _ hj hh
    · obtain ⟨rfl, rfl⟩ := only k b hk
      rw [setLoc_eq] at hh ⊢; exact hw.np j _ hj hh

/-- A contract: it hands back a new buffer, that is the caller's own from then on. -/
def FnO (P : Program) (f : FuncId) (args : List D) (sz : Nat) (l : List (List D)) : Prop := (l.all D.pureL) = true ∧ ∀ j, FnG P f args [] (.sl j 0 l.length) [(j, .buf sz l)] []
theorem FnO.of {f : FuncId} {args : List D} {j sz n : Nat} {l : List (List D)} (hp : (l.all D.pureL) = true) (hn : n = l.length) (h : FnG P f args [] (.sl j 0 n) [(j, .buf sz l)] []) : FnO P f args sz l := by subst hn; exact ⟨hp, fun _ => h.ren hp⟩
theorem FnO.wk {f : FuncId} {args : List D} {sz : Nat} {l : List (List D)} (h : FnO P f (D.wkL args) sz l) : FnO P f args sz l := ⟨h.1, fun j => (h.2 j).wk⟩
/-- The same for a caller that never writes it. -/
theorem FnO.toP {f : FuncId} {args : List D} {sz : Nat} {l : List (List D)} (h : FnO P f args sz l) : FnP P f args (.rows false l) := by
  refine ⟨(h.2 0).fn, fun W H vs hp hs hd => ((h.2 0).run W H (fun _ => ⟨0, 0, 0, false⟩) [] vs ⟨by simp [preB, alook], by simp [preB, alook], by simp [preB, alook], by simp [preB, alook], hp, GH.le_refl _, fun _ _ h => .inl h, Nat.le_refl _, fun _ _ _ => rfl, rfl, rfl, rfl, fun _ _ h => by cases h⟩ hs
    fun k d v hk hv => .pure (hd k d v hk hv)).mono fun e w' ⟨v, ρ', H', he, hv, _, hw⟩ => ?_⟩
  obtain ⟨H'', h1, h2, h3⟩ := hw.freeze (j := 0) (sz := sz) (l := l) (by rw [one_blk, if_pos rfl]) h.1
  refine ⟨v, H'', he, ?_, GH.le_trans hw.hext h1, h2.pers, fun b o hb => ?_, h2.size, fun k hk => h2.frame k hk (by simp), h2.os, h2.tape, h2.output⟩
  · have := h3 0 l.length v (by omega) hv
    rwa [List.drop_zero, List.take_length] at this
  · rcases h2.hnew b o hb with h4 | h4 | h4
    · exact .inl h4
    · exact .inr h4
    · cases h4

/-- A function without own blocks: as a contract with none. -/
theorem FnO.body {f : FuncId} {fn : Func} {c : Code} {args : List D} {sz : Nat} {l : List (List D)} (j : Nat) (hp : (l.all D.pureL) = true) (hf : P.funcs[f]? = some fn) (hb : fn.body = some c) (hnm : (fn.name == "runtime.NumGoroutine") = false) (hn : Nat.ble args.length fn.ntmps = true)
    (h : Wp P c (EndsG P fn (.sl j 0 l.length) [(j, .buf sz l)]) ⟨fn.ntmps, argTmps 0 args, [], 0⟩) : FnO P f args sz l := .of (j := j) hp rfl (FnG.of_body (pre := []) 0 hf hb hnm hn rfl rfl h)
end
section
variable {P : Program} {ops : Array Oper} {r : List Oper} {acc : List Eff} {n lm : Nat} {tm : List (Nat × D)} {ow : List (Nat × Option Blk)} {F : List Eff → St → Prop}
  {t : Nat} {ty : TypeId} {pos : String} {af : Array Edge} {g : Option (Nat × Bool)} {α : Type} {f : α → List D}
/-- A call whose result is a new own buffer. -/
theorem clo (j : Nat) {y : Operand} {xs : Array Operand} {ats : Array TypeId} {fn : FuncId} {ds caps : List D} {sz : Nat} {l : List α} (hy : St.val ⟨n, tm, ow, lm⟩ y = some (.fn fn caps)) (hx : St.vals ⟨n, tm, ow, lm⟩ xs.toList = some ds)
    (hs : FnO P fn (D.wkL (ds ++ caps)) sz (l.map f)) (hf : St.freshB ⟨n, tm, ow, lm⟩ j = true) (hd : Nat.blt t n = true) (hg : Gd ops ⟨n, tm, ow, lm⟩ g)
    (h : WpD P ops r (⟨[], [j], .sl j 0 l.length, [(j, some (.buf sz (l.map f)))]⟩ :: acc) ⟨n, (t, .sl j 0 l.length) :: tm, (j, some (.buf sz (l.map f))) :: ow, lm⟩ F) :
    WpD P ops (⟨some t, .call ⟨.value y, xs, ats⟩, ty, pos, af, g⟩ :: r) acc ⟨n, tm, ow, lm⟩ F := by
  refine cln j hy hx (hs.wk.2 j) hs.1 hf hd hg ?_
  rw [List.length_map]; exact h
/-- A call by a contract with less known of the arguments. -/
theorem clw {y : Operand} {xs : Array Operand} {ats : Array TypeId} {fn : FuncId} {ds caps : List D} {d : D} (hy : St.val ⟨n, tm, ow, lm⟩ y = some (.fn fn caps)) (hx : St.vals ⟨n, tm, ow, lm⟩ xs.toList = some ds) (hs : FnP P fn (D.wkL (ds ++ caps)) d)
    (hp : (D.pureL (ds ++ caps) && d.pureB) = true) (hd : Nat.blt t n = true) (hg : Gd ops ⟨n, tm, ow, lm⟩ g) (h : WpD P ops r (⟨[], [], d, []⟩ :: acc) ⟨n, (t, d) :: tm, ow, lm⟩ F) :
    WpD P ops (⟨some t, .call ⟨.value y, xs, ats⟩, ty, pos, af, g⟩ :: r) acc ⟨n, tm, ow, lm⟩ F := cl hy hx hs.wk hp hd hg h
theorem clmw {y : Operand} {xs : Array Operand} {ats : Array TypeId} {fn : FuncId} {ds caps : List D} {d : D} (j : Nat) {T : TypeId} {l l' : List D} (hy : St.val ⟨n, tm, ow, lm⟩ y = some (.fn fn caps)) (hx : St.vals ⟨n, tm, ow, lm⟩ xs.toList = some ds)
    (hj : St.blk ⟨n, tm, ow, lm⟩ j = some (.cells T l)) (hs : FnG P fn (D.wkL (ds ++ caps)) [(j, .cells T l)] d [(j, .cells T l')] [j]) (hc : (d.pureB && D.pureL l') = true) (hd : Nat.blt t n = true) (hg : Gd ops ⟨n, tm, ow, lm⟩ g)
    (h : WpD P ops r (⟨[j], [], d, [(j, some (.cells T l'))]⟩ :: acc) ⟨n, (t, d) :: tm, (j, some (.cells T l')) :: ow, lm⟩ F) : WpD P ops (⟨some t, .call ⟨.value y, xs, ats⟩, ty, pos, af, g⟩ :: r) acc ⟨n, tm, ow, lm⟩ F :=
  clm j hy hx hj hs.wk hc hd hg h
end
/-- How a body ends that hands back a new buffer. -/
theorem EndsG.bufM {P : Program} {α : Type} {f : α → List D} {fn : Func} {st : St} {j sz : Nat} {l : List α} {q : Nat} {e : Exit} {t : Nat} (he : e = .normal ∨ e = .ret) (hr : fn.results.toList = [.tmp t]) (h : st.get t = some (.sl j 0 q)) (hq : q = l.length) (hj : st.blk j = some (.buf sz (l.map f))) :
    EndsG P fn (.sl j 0 (l.map f).length) [(j, .buf sz (l.map f))] e st := by
  rw [List.length_map, ← hq]
  refine EndsG.buf he (ds := [.sl j 0 q]) ?_ rfl hj
  rw [hr]; exact .cons (.tmp h .same) .nil
end Go.Eng

/- The engine, part Y: cells that are left alone from now on; bound method values; calls that hand back closures over a new cell. No program in sight. -/
namespace Go.Eng
open Go

/-- An own block of cells that is left alone from now on. -/
theorem WRel.freezeC {B : Base} {bl : Nat → Option Blk} {ρ : Nat → Loc} {H : GH} {w : World} (h : WRel B bl ρ H w) {j : Nat} {T : TypeId} {l : List D} (hj : bl j = some (.cells T l)) (hp : D.pureL l = true) :
    ∃ H' : GH, H.le H' ∧ WRel B (fun k => if j = k then none else bl k) ρ H' w ∧ ∀ off v, off ≤ l.length → Den ρ H (.ptr j off) v → DenP H' (.pp (l.drop off)) v := by
  obtain ⟨hhere, arr, hb, hsz, he⟩ := h.own j _ hj
  let H' : GH := fun b => if b = (ρ j).blk then w.heap[b]? else H b
  have hle : H.le H' := fun b o hb => by
    show (if b = (ρ j).blk then w.heap[b]? else H b) = some o
    split
    · exact h.pers b o hb
    · exact hb
  refine ⟨H', hle, ⟨fun k b hk => ?_, fun k q b c hk hq hne => ?_, fun k b hk => ?_, fun k b hk hh => ?_, fun b o hb => ?_, GH.le_trans h.hext hle, fun b o hb => ?_, h.size, h.frame, h.os, h.tape, h.output, h.kp⟩, fun off v hoff hd => ?_⟩
  · by_cases hjk : j = k
    · rw [if_pos hjk] at hk; cases hk
    · rw [if_neg hjk] at hk; exact (h.own k b hk).mono hle rfl (fun _ _ => rfl) (fun _ => rfl)
  · by_cases hjk : j = k
    · rw [if_pos hjk] at hk; cases hk
    · by_cases hjq : j = q
      · rw [if_pos hjq] at hq; cases hq
      · rw [if_neg hjk] at hk; rw [if_neg hjq] at hq; exact h.sep k q b c hk hq hne
  · by_cases hjk : j = k
    · rw [if_pos hjk] at hk; cases hk
    · rw [if_neg hjk] at hk; exact h.new k b hk
  · by_cases hjk : j = k
    · rw [if_pos hjk] at hk; cases hk
    · rw [if_neg hjk] at hk
      show (if (ρ k).blk = (ρ j).blk then w.heap[(ρ k).blk]? else H (ρ k).blk) = none
      rw [if_neg fun e => h.sep k j b _ hk hj (Ne.symm hjk) hh hhere e]
      exact h.np k b hk hh
  · show w.heap[b]? = some o
    have hb : (if b = (ρ j).blk then w.heap[b]? else H b) = some o := hb
    split at hb
    · exact hb
    · exact h.pers b o hb
  · have hb : (if b = (ρ j).blk then w.heap[b]? else H b) = some o := hb
    split at hb
    · rename_i hc
      rcases h.new j _ hj hhere with h1 | h1
      · exact .inr (.inl (by rw [hc]; exact h1))
      · exact .inr (.inr (by rw [hc]; exact h1))
    · exact h.hnew b o hb
  · obtain ⟨_, rfl⟩ := hd.ptr_inv
    have hH : H' (ρ j).blk = some (.cells arr T (0, 0)) := by
      show (if (ρ j).blk = (ρ j).blk then w.heap[(ρ j).blk]? else H (ρ j).blk) = _
      rw [if_pos rfl]; exact hb
    exact .pp _ _ off arr T (0, 0) hH (by simp; omega) fun k d v hk hv => by
      rw [List.getElem?_drop] at hk
      exact ((he (off + k) d v hk hv).toP (D.pureL_mem hp d (List.mem_of_getElem? hk))).mono hle

def St.frozC (st : St) (j : Nat) (l : List D) : List Nat → Option (List (Nat × D))
  | [] => some []
  | t :: r => match st.get t, st.frozC j l r with
    | some (.ptr k off), some q => if (Nat.beq k j && Nat.ble off l.length) = true then some ((t, .pp (l.drop off)) :: q) else none
    | _, _ => none
theorem frozC_spec {st : St} {j : Nat} {l : List D} : ∀ {fs : List Nat} {q : List (Nat × D)}, st.frozC j l fs = some q → ∀ p ∈ q, ∃ off, st.get p.1 = some (.ptr j off) ∧ off ≤ l.length ∧ p.2 = .pp (l.drop off)
  | [], q, h, p, hp => by simp [St.frozC] at h; subst h; cases hp
  | t :: r, q, h, p, hp => by
    simp only [St.frozC] at h
    split at h
    · rename_i k off q' h1 h2
      split at h
      · rename_i hc
        simp only [Bool.and_eq_true, Nat.beq_eq, Nat.ble_eq] at hc
        cases h
        obtain ⟨rfl, hc⟩ := hc
        rcases List.mem_cons.1 hp with rfl | hp
        · exact ⟨off, h1, hc, rfl⟩
        · exact frozC_spec h2 p hp
      · cases h
    · cases h
theorem Wp.freezeC {P : Program} {Q : Exit → St → Prop} {n lm : Nat} {tm : List (Nat × D)} {ow : List (Nat × Option Blk)} {c : Code} (j : Nat) (fs ks : List Nat) {T : TypeId} {l : List D} {q kt : List (Nat × D)} (hj : St.blk ⟨n, tm, ow, lm⟩ j = some (.cells T l)) (hp : D.pureL l = true)
    (hf : St.frozC ⟨n, tm, ow, lm⟩ j l fs = some q) (hk : St.selT ⟨n, tm, ow, lm⟩ ks = some kt) (h : Wp P c Q ⟨n, q ++ kt, (j, none) :: ow, lm⟩) : Wp P c Q ⟨n, tm, ow, lm⟩ := by
  intro B ρ H a w hR
  obtain ⟨H', h1, h2, h3⟩ := hR.wr.freezeC hj hp
  refine h B ρ H' a w ⟨hR.sz, hR.df, fun t d ht => ?_, h2.bl_eq fun k c hk => ?_, hR.lm⟩
  · have hm := alook_mem (show alook (q ++ kt) t = some d from ht)
    rcases List.mem_append.1 hm with hm | hm
    · obtain ⟨off, h4, h5, h6⟩ := frozC_spec hf _ hm
      obtain ⟨v, h7, h8⟩ := hR.tm t _ h4
      simp only at h6; subst h6
      exact ⟨v, h7, .pure (h3 off v h5 h8)⟩
    · obtain ⟨v, h7, h8⟩ := hR.tm t d (selT_spec hk _ hm)
      exact ⟨v, h7, h8.mono h1 fun _ _ => rfl⟩
  · have hk : blkOn none ((j, none) :: ow) k = some c := hk
    rw [blkOn_cons] at hk
    by_cases hjk : j = k
    · rw [if_pos hjk] at hk; cases hk
    · rw [if_neg hjk] at hk ⊢; exact hk

theorem Fz.wk {st : St} {d : D} (hp : d.pureB = true) : Fz st d d.wk := fun _ _ _ _ _ _ _ _ _ hd hle _ => ((hd.toP hp).mono hle).wk
theorem FzG.wk {st : St} {ns : List Nat} {d : D} : FzG st ns d d.wk := fun _ _ _ _ _ _ _ _ hd hle _ => (hd.mono hle fun _ _ => rfl).wk
theorem FzGL.of_eq {st : St} {ns : List Nat} {l l' : List D} (h : l = l') : FzGL st ns l l' := h ▸ .refl l
section
variable {P : Program} {ops : Array Oper} {r : List Oper} {acc : List Eff} {n lm : Nat} {tm : List (Nat × D)} {ow : List (Nat × Option Blk)} {F : List Eff → St → Prop}
  {t : Nat} {ty : TypeId} {pos : String} {af : Array Edge} {g : Option (Nat × Bool)} {st : St} {d : D}
theorem lok_bfunc {fn : FuncId} {xs : Array Operand} {caps : List D} (hx : st.vals xs.toList = some caps) (hd : t < st.n) : LOk P ⟨some t, .makeFunc (.func fn) xs #[], ty, pos, af, g⟩ st ⟨[], [], .bfn fn caps, []⟩ :=
  lok_pure hd fun _ st2 ρ H a w ag hR => by
    have hx2 : st2.vals xs.toList = some caps := by rw [← hx]; exact vals_congr fun x hx => ag.val x (by simpa [Op.operands] using hx)
    obtain ⟨h1, h2⟩ := hR.vals hx2
    exact ⟨.func (.func fn) (xs.map a.eval) #[], by simp [execOp, Instr.makeFunc], .bfn _ _ _ (by simpa using h1.symm) fun k d v hk hv => h2 k d v hk (by simpa using hv)⟩
theorem mkb {fn : FuncId} {xs : Array Operand} {caps : List D} (hx : St.vals ⟨n, tm, ow, lm⟩ xs.toList = some caps) (hd : Nat.blt t n = true) (hg : Gd ops ⟨n, tm, ow, lm⟩ g) (h : WpD P ops r (⟨[], [], .bfn fn caps, []⟩ :: acc) ⟨n, (t, .bfn fn caps) :: tm, ow, lm⟩ F) :
    WpD P ops (⟨some t, .makeFunc (.func fn) xs #[], ty, pos, af, g⟩ :: r) acc ⟨n, tm, ow, lm⟩ F := step (lok_bfunc hx (blt_lt hd)) hg rfl h

/-- A call of a bound method value, whose receiver is an own block of cells. -/
theorem lok_call1b {y : Operand} {ats : Array TypeId} {f : FuncId} {bs : List D} {j : Nat} {T : TypeId} {l l' : List D} (hy : st.val y = some (.bfn f bs))
    (hs : FnG P f bs [(j, .cells T l)] d [(j, .cells T l')] [j]) (hj : st.blk j = some (.cells T l)) (hc : (d.pureB && D.pureL l') = true) (hd : t < st.n) :
    LOk P ⟨some t, .call ⟨.value y, #[], ats⟩, ty, pos, af, g⟩ st ⟨[j], [], d, [(j, some (.cells T l'))]⟩ := by
  simp only [Bool.and_eq_true] at hc
  intro B st2 ag ρ H a w hR K Q hK
  obtain ⟨fn, hf, hb, hn⟩ := hs.fn
  obtain ⟨cs, h1, h2, h3⟩ := (hR.val ((ag.val y (by simp [Op.operands, Call.operands])).trans hy)).bfn_inv
  have hj2 : st2.blk j = some (.cells T l) := (ag.blk j (by simp)).trans hj
  have hpre : ∀ k b, alook [(j, Blk.cells T l)] k = some b → st2.blk k = some b := fun k b hk => by
    rw [alook_cons] at hk
    split at hk
    · rename_i e; subst e; cases hk; exact hj2
    · cases hk
  obtain ⟨hh, _⟩ := hR.wr.own j _ hj2
  have hW0 : WRel ⟨w, H, [(ρ j).blk], fun _ => none⟩ (preB [(j, .cells T l)]) ρ H w := ⟨fun k b hk => hR.wr.own k b (hpre k b hk), fun k q b c hk hq => hR.wr.sep k q b c (hpre k b hk) (hpre q c hq),
    fun k b hk hh => .inr (by rw [one_blk] at hk; split at hk; (rename_i e; subst e; simp); cases hk), fun k b hk => hR.wr.np k b (hpre k b hk), hR.wr.pers, GH.le_refl _, fun _ _ h => .inl h, Nat.le_refl _, fun _ _ _ => rfl, rfl, rfl, rfl, fun _ _ h => by cases h⟩
  have hrun : (execOp a.eval ⟨some t, .call ⟨.value y, #[], ats⟩, ty, pos, af, g⟩).run P w = .ok (.enter f cs) w := by
    simp [execOp, resolve, h1, Deferred.ofValue, invoke, callFunc_run hf hb hn]
  unfold Oper.wp
  rw [hrun]
  refine (hs.run w H ρ [(ρ j).blk] cs hW0 h2 h3).mono fun e w' ⟨v, ρ', H', he, hv, hkp, hw⟩ => ?_
  subst he
  have hW := hR.wr.called hpre (fun p hp => ⟨j, _, by rw [alook_cons, if_pos rfl], hh, by simpa using hp⟩) hkp hw (fun k hk hn => absurd (by simpa [names] using hk) (by simpa using hn)) (fun k hk hn => absurd (by simpa [names] using hk) (by simpa using hn))
    (fun k b hk => by
      rw [alook_cons] at hk
      split at hk
      · cases hk; exact closed_cells hc.2
      · cases hk) (bl' := (st2.app (some t) ⟨[j], [], d, [(j, some (.cells T l'))]⟩).blk) fun k b hk => by
      rw [St.app_blk, blkOn_cons] at hk
      rw [alook_cons, alook_cons]
      by_cases h : j = k
      · rw [if_pos h] at hk ⊢; exact .inl hk
      · rw [if_neg h] at hk ⊢
        exact .inr ⟨by simp [names]; exact fun e => h e.symm, by rw [if_neg h]; rfl, hk⟩
  have hsame : (fun k => if k ∈ names [(j, Blk.cells T l')] then ρ' k else ρ k) = ρ := by
    funext k
    by_cases hk : k ∈ names [(j, Blk.cells T l')]
    · rw [if_pos hk]
      have : k = j := by simpa [names] using hk
      subst this; exact hkp k (by simp)
    · rw [if_neg hk]
  rw [hsame] at hW
  refine hK v ρ H' w' ⟨by simp [Act.put, St.app, hR.sz], by simp [Act.put, hR.df], fun s d' hs' => ?_, hW, hR.lm⟩
  rw [St.app_get] at hs'
  by_cases hdt : some t = some s
  · rw [if_pos hdt] at hs'; cases hs'
    cases hdt
    exact ⟨v, by simp [Act.put, hR.sz, ag.n, hd], .pure (hv.toP hc.1)⟩
  · rw [if_neg hdt] at hs'
    obtain ⟨u, e1, e2⟩ := hR.tm s d' hs'
    exact ⟨u, by simp only [Act.put]; rw [Array.getElem?_setIfInBounds_ne (fun h => hdt (by rw [h]))]; exact e1, e2.mono hw.hext fun _ _ => rfl⟩
theorem clb {y : Operand} {ats : Array TypeId} {f : FuncId} {bs : List D} (j : Nat) {T : TypeId} {l l' : List D} (hy : St.val ⟨n, tm, ow, lm⟩ y = some (.bfn f bs)) (hj : St.blk ⟨n, tm, ow, lm⟩ j = some (.cells T l))
    (hs : FnG P f bs [(j, .cells T l)] d [(j, .cells T l')] [j]) (hc : (d.pureB && D.pureL l') = true) (hd : Nat.blt t n = true) (hg : Gd ops ⟨n, tm, ow, lm⟩ g)
    (h : WpD P ops r (⟨[j], [], d, [(j, some (.cells T l'))]⟩ :: acc) ⟨n, (t, d) :: tm, (j, some (.cells T l')) :: ow, lm⟩ F) : WpD P ops (⟨some t, .call ⟨.value y, #[], ats⟩, ty, pos, af, g⟩ :: r) acc ⟨n, tm, ow, lm⟩ F :=
  step (lok_call1b hy hs hj hc (blt_lt hd)) hg rfl h

/-- A call that hands back a closure over a new cell: the own block 0. -/
theorem lok_callC {y : Operand} {xs : Array Operand} {ats : Array TypeId} {f q : FuncId} {ds caps cs : List D} {T : TypeId} {l : List D} (hy : st.val y = some (.fn f caps)) (hx : st.vals xs.toList = some ds)
    (hs : FnG P f (ds ++ caps) [] (.fn q (.ptr 0 0 :: cs)) [(0, .cells T l)] []) (hp : (D.pureL cs && D.pureL l) = true) (hd : t < st.n) :
    LOk P ⟨some t, .call ⟨.value y, xs, ats⟩, ty, pos, af, g⟩ st ⟨[], [0], .fn q (.ptr 0 0 :: cs), [(0, some (.cells T l))]⟩ := by
  simp only [Bool.and_eq_true] at hp
  refine lok_callG hy hx hs (fun k b hk => by cases hk) (fun k hk => ?_) (fun k b hk => ?_) (fun k hk _ => hk) (fun bk k b hk => ?_) hd
  · simp only [D.has, D.hasL, Bool.or_eq_true, D.pureL_has k cs hp.1, Bool.false_eq_true, or_false, Nat.beq_eq] at hk; subst hk; simp [names]
  · rw [alook_cons] at hk
    split at hk
    · cases hk; exact closed_cells hp.2
    · cases hk
  · rw [blkOn_cons] at hk
    rw [alook_cons]
    by_cases h : 0 = k
    · rw [if_pos h] at hk ⊢; exact .inl hk
    · rw [if_neg h] at hk ⊢
      exact .inr ⟨by simp [names]; exact fun e => h e.symm, rfl, hk⟩
theorem clc {y : Operand} {xs : Array Operand} {ats : Array TypeId} {f q : FuncId} {ds caps cs : List D} {T : TypeId} {l : List D} (hy : St.val ⟨n, tm, ow, lm⟩ y = some (.fn f caps)) (hx : St.vals ⟨n, tm, ow, lm⟩ xs.toList = some ds)
    (hs : FnG P f (D.wkL (ds ++ caps)) [] (.fn q (.ptr 0 0 :: cs)) [(0, .cells T l)] []) (hp : (D.pureL cs && D.pureL l) = true) (hf : St.freshB ⟨n, tm, ow, lm⟩ 0 = true) (hd : Nat.blt t n = true) (hg : Gd ops ⟨n, tm, ow, lm⟩ g)
    (h : WpD P ops r (⟨[], [0], .fn q (.ptr 0 0 :: cs), [(0, some (.cells T l))]⟩ :: acc) ⟨n, (t, .fn q (.ptr 0 0 :: cs)) :: tm, (0, some (.cells T l)) :: ow, lm⟩ F) :
    WpD P ops (⟨some t, .call ⟨.value y, xs, ats⟩, ty, pos, af, g⟩ :: r) acc ⟨n, tm, ow, lm⟩ F := step (lok_callC hy hx hs.wk hp (blt_lt hd)) hg (by simpa using hf) h
end
end Go.Eng

/- The engine, part Z: nil as an own buffer without a block; elements by a default. No program in sight. -/
namespace Go.Eng
open Go
theorem Wp.nilBuf {P : Program} {Q : Exit → St → Prop} {n lm : Nat} {tm : List (Nat × D)} {ow : List (Nat × Option Blk)} {c : Code} (j t sz : Nat) (ks : List Nat) {kt : List (Nat × D)} (ht : St.get ⟨n, tm, ow, lm⟩ t = some (.rows true [])) (hk : St.selT ⟨n, tm, ow, lm⟩ ks = some kt)
    (hf : St.freshB ⟨n, tm, ow, lm⟩ j = true) (h : Wp P c Q ⟨n, (t, .sl j 0 0) :: kt, (j, some (.buf sz [])) :: ow, lm⟩) : Wp P c Q ⟨n, tm, ow, lm⟩ := by
  intro B ρ H a w hR
  have hfr := St.fresh_of hf
  have hW := hR.wr.empty_buf (sz := sz) (hR.nokeep hfr) (fun k b' hk => hfr.bl k b' hk) (bl' := fun k => if j = k then some (.buf sz []) else St.blk ⟨n, tm, ow, lm⟩ k) fun k => rfl
  refine h B (setLoc ρ j ⟨0, 0, sz, false⟩) H a w ⟨hR.sz, hR.df, fun s d hs => ?_, hW.bl_eq fun k b hk => ?_, hR.lm⟩
  · have h2 : (if t = s then some (D.sl j 0 0) else alook kt s) = some d := by rw [← alook_cons]; exact hs
    by_cases e : t = s
    · rw [if_pos e] at h2
      subst e
      have h3 := Option.some.inj h2
      subst h3
      obtain ⟨v, h1, h2⟩ := hR.tm t _ ht
      obtain ⟨a1, c1, rfl, _, hc, _⟩ := h2.rows_inv
      have : c1 = 0 := by simpa using hc rfl
      subst this
      exact ⟨_, h1, .sl j 0 0 a1 0 (by simp [setLoc_eq]) (by simp) (.inl rfl)⟩
    · rw [if_neg e] at h2
      have hg := selT_spec hk _ (alook_mem h2)
      obtain ⟨v, h1, h2⟩ := hR.tm s d hg
      exact ⟨v, h1, h2.mono (GH.le_refl _) fun q hq => setLoc_ne (by rintro rfl; rw [hfr.tm s d hg] at hq; cases hq)⟩
  · have hk : blkOn none ((j, some (.buf sz [])) :: ow) k = some b := hk
    rw [blkOn_cons] at hk
    by_cases hjk : j = k
    · rw [if_pos hjk] at hk ⊢; exact hk
    · rw [if_neg hjk] at hk ⊢; exact hk
section
variable {P : Program} {ops : Array Oper} {r : List Oper} {acc : List Eff} {n lm : Nat} {tm : List (Nat × D)} {ow : List (Nat × Option Blk)} {F : List Eff → St → Prop}
  {t : Nat} {ty : TypeId} {pos : String} {af : Array Edge} {g : Option (Nat × Bool)} {α : Type} {f : α → List D}
theorem iaD {x y : Operand} {T e : TypeId} {sz by_ : Nat} {k : IntKind} {i : Int} {full : Bool} {l : List α} [hT : TySl P T e sz by_] [hE : Enc f sz] (z : α) (m : Nat) (hm : m < l.length) (hx : St.val ⟨n, tm, ow, lm⟩ x = some (.rows full (l.map f))) (hy : St.val ⟨n, tm, ow, lm⟩ y = some (.int k i))
    (hi : i = (m : Int)) (hd : Nat.blt t n = true) (hg : Gd ops ⟨n, tm, ow, lm⟩ g) (h : WpD P ops r (⟨[], [], .pp (f (l.getD m z)), []⟩ :: acc) ⟨n, (t, .pp (f (l.getD m z))) :: tm, ow, lm⟩ F) :
    WpD P ops (⟨some t, .indexAddr T x y, ty, pos, af, g⟩ :: r) acc ⟨n, tm, ow, lm⟩ F := by
  have e : l[m] = l.getD m z := by simp [List.getD, hm]
  refine iaE m hm hx hy hi hd hg ?_
  rw [e]; exact h
end
end Go.Eng

/- The engine, part AA: clear; buffers cut short; calls that are handed an own buffer. No program in sight. -/
namespace Go.Eng
open Go
theorem OwnOk.trunc {ρ : Nat → Loc} {H : GH} {w : World} {j sz k : Nat} {l : List (List D)} (h : OwnOk ρ H w j (.buf sz l)) : OwnOk ρ H w j (.buf sz (l.take k)) := by
  obtain ⟨h0, h1, h2, h3, h4, hB, hP⟩ := h
  refine ⟨h0, by simp; omega, fun r hr => h2 r (List.mem_of_mem_take hr), h3, fun hh => ?_, by simp; omega, List.all_eq_true.2 fun r hr => (List.all_eq_true.1 hP) r (List.mem_of_mem_take hr)⟩
  obtain ⟨arr, ty, h5, h6, h7⟩ := h4 hh
  refine ⟨arr, ty, h5, h6, fun i q row d v hi hk hv => h7 i q row d v ?_ hk hv⟩
  rw [List.getElem?_take] at hi
  split at hi
  · exact hi
  · cases hi
theorem Wp.trunc {P : Program} {Q : Exit → St → Prop} {n lm : Nat} {tm : List (Nat × D)} {ow : List (Nat × Option Blk)} {c : Code} {α : Type} {f : α → List D} {sz : Nat} {l : List α} (j : Nat) (l2 : List α) (hj : St.blk ⟨n, tm, ow, lm⟩ j = some (.buf sz (l.map f))) (hl : ∃ k, l.take k = l2)
    (h : Wp P c Q ⟨n, tm, (j, some (.buf sz (l2.map f))) :: ow, lm⟩) : Wp P c Q ⟨n, tm, ow, lm⟩ := by
  intro B ρ H a w hR
  obtain ⟨k, rfl⟩ := hl
  refine h B ρ H a w ⟨hR.sz, hR.df, hR.tm, hR.wr.le fun q b hq => ?_, hR.lm⟩
  have hq : blkOn none ((j, some (.buf sz ((l.take k).map f))) :: ow) q = some b := hq
  rw [blkOn_cons] at hq
  by_cases hjq : j = q
  · rw [if_pos hjq] at hq
    subst hjq
    cases hq
    exact ⟨_, hj, fun ho => by rw [List.map_take]; exact ho.trunc⟩
  · rw [if_neg hjq] at hq; exact ⟨b, hq, fun h => h⟩

section
variable {P : Program} {ops : Array Oper} {r : List Oper} {acc : List Eff} {n lm : Nat} {tm : List (Nat × D)} {ow : List (Nat × Option Blk)} {F : List Eff → St → Prop}
  {t : Nat} {ty : TypeId} {pos : String} {af : Array Edge} {g : Option (Nat × Bool)} {st : St} {d : D} {α : Type} {f : α → List D}

theorem zeroCells_one {v : Value} {zs : List D} (hz : v.cells.toList.map D.ofConst = zs.map some) (q : Nat) : ∀ x ∈ (Builtin.zeroCells v.cells q).toList, x.oneCell' = true := by
  intro x hx
  simp only [Builtin.zeroCells, Array.toList_map, List.mem_map] at hx
  obtain ⟨i, hi, rfl⟩ := hx
  have hi' : i < q * v.cells.size := by simpa using hi
  have h0 : 0 < v.cells.size := by rcases Nat.eq_zero_or_pos v.cells.size with h | h; rw [h] at hi'; simp at hi'; exact h
  have hlt : i % v.cells.size < v.cells.size := Nat.mod_lt _ h0
  rw [getElem!_pos v.cells _ hlt]
  have h1 := congrArg (·[i % v.cells.size]?) hz
  simp only [List.getElem?_map] at h1
  have h2 : v.cells.toList[i % v.cells.size]? = some v.cells[i % v.cells.size] := by simp [hlt]
  rw [h2] at h1
  simp only [Option.map_some] at h1
  cases hzz : zs[i % v.cells.size]? with
  | none => rw [hzz] at h1; cases h1
  | some d =>
    rw [hzz] at h1
    have h3 := Option.some.inj h1
    unfold D.ofConst at h3
    split at h3 <;> simp_all [Value.oneCell']
theorem lok_clear {T e : TypeId} {sz by_ : Nat} {zs : List D} [hT : TySl P T e sz by_] [hZ : TyZ P e zs] {x : Operand} {j lo q : Nat} {l : List (List D)} (hx : st.val x = some (.sl j lo q)) (hj : st.blk j = some (.buf sz l)) :
    LOk P ⟨none, .call ⟨.builtin .clear, #[x], #[T]⟩, ty, pos, af, g⟩ st ⟨[j], [], .any, [(j, some (.buf sz (l.take lo)))]⟩ := by
  intro B st2 ag
  refine opOk_value (fun s hs => by cases hs) ag.fresh fun ρ H a w hR => ?_
  have hx2 := hR.val ((ag.val x (by simp [Op.operands, Call.operands])).trans hx)
  have hj2 := (ag.blk j (by simp)).trans hj
  obtain ⟨a1, c, hv1, hc, hcn, ha⟩ := hx2.sl_inv
  have hown := hR.wr.own j _ hj2
  have htr := OwnOk.trunc (k := lo) hown
  obtain ⟨ho0, ho1, ho2, ho3, ho4, hoB, hoP⟩ := hown
  obtain ⟨inf, hi, hi2⟩ := map_some hT.info
  simp only [Prod.mk.injEq] at hi2
  obtain ⟨inf', hi', hz1⟩ := map_some hZ.size
  have : inf' = inf := by rw [hi] at hi'; cases hi'; rfl
  subst this
  obtain ⟨v, hv, hv2⟩ := map_some hZ.zero
  have hz : inf'.zero = some v := by simpa [hi] using hv
  have hvs : v.cells.size = sz := by have := congrArg List.length hv2; simp at this; omega
  have hbl : ∀ k b, (st2.app none ⟨[j], [], D.any, [(j, some (.buf sz (l.take lo)))]⟩).blk k = some b → ∃ b0, st2.blk k = some b0 ∧ (OwnOk ρ H w k b0 → OwnOk ρ H w k b) := fun k b hk => by
    rw [upd_blk] at hk
    by_cases h : j = k
    · subst h; rw [if_pos rfl] at hk; cases hk; exact ⟨_, hj2, fun h => h.trunc⟩
    · rw [if_neg h] at hk; exact ⟨b, hk, fun h => h⟩
  by_cases hq : q = 0
  · subst hq
    refine ⟨.tuple #[], w, ρ, H, .inl ?_, .pure (.any _), GH.le_refl _, fun _ _ => rfl, hR.wr.le hbl⟩
    cases a1 <;> simp [execOp, resolve, invoke, builtin, Builtin.clear_, hv1, run_underlying hT.und]
  · have hhere : (ρ j).here = true := by
      cases hh : (ρ j).here with
      | true => rfl
      | false => have := ho3 hh; omega
    have ha' : a1 = some ⟨(ρ j).blk, lo * (ρ j).sz, none⟩ := by
      rcases ha with h | ⟨_, h2⟩
      · omega
      · exact h2
    subst ha'
    obtain ⟨arr, bt, hb, hbs, hbd⟩ := ho4 hhere
    have hle : (lo + q) * sz ≤ arr.size := by rw [hbs, ho0]; exact Nat.mul_le_mul_right _ hcn
    rw [Nat.add_mul] at hle
    have hzs : (Builtin.zeroCells v.cells q).toList.length = q * sz := by simp [zeroCells_size, hvs]
    have hst := run_storeCells_at P (ρ j).blk (lo * (ρ j).sz) bt (Builtin.zeroCells v.cells q).toList 0 arr w hb (by rw [hzs, ho0]; omega) (zeroCells_one hv2 q)
    simp only [Nat.add_zero] at hst
    let arr' := (arr.toList.take (lo * (ρ j).sz) ++ (Builtin.zeroCells v.cells q).toList ++ arr.toList.drop (lo * (ρ j).sz + (Builtin.zeroCells v.cells q).toList.length)).toArray
    have hrun : (execOp a.eval ⟨none, .call ⟨.builtin .clear, #[x], #[T]⟩, ty, pos, af, g⟩).run P w = .ok (.value (.tuple #[])) (w.setRow (ρ j).blk arr') := by
      obtain ⟨q', rfl⟩ : ∃ q', q = q' + 1 := ⟨q - 1, by omega⟩
      simp [execOp, resolve, invoke, builtin, Builtin.clear_, hv1, run_underlying hT.und, zeroValue, typeInfo, hi, hz, hst, arr']
    have hsize : arr'.size = arr.size := by
      simp only [arr', List.size_toArray, List.length_append, List.length_take, List.length_drop, hzs, Array.length_toList]
      rw [ho0]; omega
    refine ⟨.tuple #[], w.setRow (ρ j).blk arr', ρ, H, .inl hrun, .pure (.any _), GH.le_refl _, fun _ _ => rfl, ?_⟩
    refine hR.wr.write hj2 hhere (by simp [World.setRow]) (fun k hk => setRow_other w _ k _ hk) rfl rfl rfl (b' := .buf sz (l.take lo)) ⟨ho0, by simp; omega, fun row hr => ho2 row (List.mem_of_mem_take hr), ho3, fun _ => ⟨arr', bt, setRow_heap w _ arr _ bt (0, 0) hb, by rw [hsize, hbs], fun i k row d' v' hi' hk hv' => ?_⟩,
      by simp; omega, List.all_eq_true.2 fun r hr => (List.all_eq_true.1 hoP) r (List.mem_of_mem_take hr)⟩ upd_blk
    rw [List.getElem?_take] at hi'
    split at hi'
    · rename_i hlt
      have hkl : k < (ρ j).sz := by have := (List.getElem?_eq_some_iff.1 hk).1; rw [ho2 row (List.mem_of_getElem? hi')] at this; exact this
      have h3 : (i + 1) * (ρ j).sz ≤ lo * (ρ j).sz := Nat.mul_le_mul_right _ hlt
      rw [Nat.succ_mul] at h3
      refine hbd i k row d' v' hi' hk ?_
      have : arr'[i * (ρ j).sz + k]? = arr[i * (ρ j).sz + k]? := by
        simp only [arr', List.getElem?_toArray, List.append_assoc]
        rw [List.getElem?_append_left (by simp; rw [ho0] at *; omega), List.getElem?_take, if_pos (by omega), Array.getElem?_toList]
      rw [← this]; exact hv'
    · cases hi'
theorem clr {T e : TypeId} {sz by_ : Nat} {zs : List D} [hT : TySl P T e sz by_] [hZ : TyZ P e zs] {x : Operand} {j lo q : Nat} {l : List α} (hx : St.val ⟨n, tm, ow, lm⟩ x = some (.sl j lo q)) (hj : St.blk ⟨n, tm, ow, lm⟩ j = some (.buf sz (l.map f))) (hg : Gd ops ⟨n, tm, ow, lm⟩ g)
    (h : WpD P ops r (⟨[j], [], .any, [(j, some (.buf sz ((l.take lo).map f)))]⟩ :: acc) ⟨n, tm, (j, some (.buf sz ((l.take lo).map f))) :: ow, lm⟩ F) : WpD P ops (⟨none, .call ⟨.builtin .clear, #[x], #[T]⟩, ty, pos, af, g⟩ :: r) acc ⟨n, tm, ow, lm⟩ F := by
  have h1 := lok_clear (P := P) (T := T) (ty := ty) (pos := pos) (af := af) (g := g) hx hj
  rw [← List.map_take] at h1
  exact step h1 hg rfl h

/-- A call that is handed an own buffer, and hands it back. -/
theorem lok_callB {y : Operand} {xs : Array Operand} {ats : Array TypeId} {fn : FuncId} {ds caps : List D} {j sz : Nat} {l l' : List (List D)} (hy : st.val y = some (.fn fn caps)) (hx : st.vals xs.toList = some ds)
    (hs : FnG P fn (ds ++ caps) [(j, .buf sz l)] d [(j, .buf sz l')] [j]) (hj : st.blk j = some (.buf sz l)) (hc : closedD [j] d) (hd : t < st.n) :
    LOk P ⟨some t, .call ⟨.value y, xs, ats⟩, ty, pos, af, g⟩ st ⟨[j], [], d, [(j, some (.buf sz l'))]⟩ := by
  refine lok_callG hy hx hs (fun k b hk => ?_) (fun k hk => by simpa [names] using hc k hk) (fun k b hk => ?_) (fun k hk hn => ?_) (fun bk k b hk => ?_) hd
  · rw [alook_cons] at hk
    split at hk
    · rename_i h; subst h; cases hk; exact hj
    · cases hk
  · rw [alook_cons] at hk
    split at hk
    · cases hk; intro i hi; cases hi
    · cases hk
  · exact absurd (by simpa [names] using hk) (by simpa using hn)
  · rw [blkOn_cons] at hk
    rw [alook_cons, alook_cons]
    by_cases h : j = k
    · rw [if_pos h] at hk ⊢; exact .inl hk
    · rw [if_neg h] at hk ⊢
      refine .inr ⟨by simp [names]; exact fun e => h e.symm, ?_, hk⟩
      rw [if_neg h]; rfl
theorem closed_sl {j lo q : Nat} : closedD [j] (.sl j lo q) := fun k hk => by simp only [D.has, Nat.beq_eq] at hk; subst hk; simp
theorem clB (j : Nat) {y : Operand} {xs : Array Operand} {ats : Array TypeId} {fn : FuncId} {ds caps : List D} {sz : Nat} {l l' : List (List D)} (hy : St.val ⟨n, tm, ow, lm⟩ y = some (.fn fn caps)) (hx : St.vals ⟨n, tm, ow, lm⟩ xs.toList = some ds) (hj : St.blk ⟨n, tm, ow, lm⟩ j = some (.buf sz l))
    (hs : FnG P fn (D.wkL (ds ++ caps)) [(j, .buf sz l)] d [(j, .buf sz l')] [j]) (hc : closedD [j] d) (hd : Nat.blt t n = true) (hg : Gd ops ⟨n, tm, ow, lm⟩ g)
    (h : WpD P ops r (⟨[j], [], d, [(j, some (.buf sz l'))]⟩ :: acc) ⟨n, (t, d) :: tm, (j, some (.buf sz l')) :: ow, lm⟩ F) : WpD P ops (⟨some t, .call ⟨.value y, xs, ats⟩, ty, pos, af, g⟩ :: r) acc ⟨n, tm, ow, lm⟩ F :=
  step (lok_callB hy hx hs.wk hj hc (blt_lt hd)) hg rfl h
theorem iaO0 {x y : Operand} {T e : TypeId} {sz by_ : Nat} {k : IntKind} {i : Int} {j q : Nat} {l : List (List D)} [hT : TySl P T e sz by_] (m : Nat) (hm : m < q) (hx : St.val ⟨n, tm, ow, lm⟩ x = some (.sl j 0 q)) (hj : St.blk ⟨n, tm, ow, lm⟩ j = some (.buf sz l)) (hy : St.val ⟨n, tm, ow, lm⟩ y = some (.int k i))
    (hi : i = (m : Int)) (hd : Nat.blt t n = true) (hg : Gd ops ⟨n, tm, ow, lm⟩ g) (h : WpD P ops r (⟨[j], [], .bp j m 0, []⟩ :: acc) ⟨n, (t, .bp j m 0) :: tm, ow, lm⟩ F) :
    WpD P ops (⟨some t, .indexAddr T x y, ty, pos, af, g⟩ :: r) acc ⟨n, tm, ow, lm⟩ F := by
  refine iaO m hm hx hj hy hi hd hg ?_
  rw [Nat.zero_add]; exact h
theorem ldbD {x : Operand} {T : TypeId} {agg : Bool} {m j i off sz : Nat} {l : List α} [hT : TyF P T agg m] (z : α) (hi : i < l.length) (hx : St.val ⟨n, tm, ow, lm⟩ x = some (.bp j i off)) (hj : St.blk ⟨n, tm, ow, lm⟩ j = some (.buf sz (l.map f))) (hl : ldD agg m ((f (l.getD i z)).drop off) = some d)
    (ho : Nat.ble off (f (l.getD i z)).length = true) (hd : Nat.blt t n = true) (hg : Gd ops ⟨n, tm, ow, lm⟩ g) (h : WpD P ops r (⟨[j], [], d, []⟩ :: acc) ⟨n, (t, d) :: tm, ow, lm⟩ F) :
    WpD P ops (⟨some t, .load T x, ty, pos, af, g⟩ :: r) acc ⟨n, tm, ow, lm⟩ F := by
  have e : l.getD i z = l[i] := by simp [List.getD, hi]
  rw [e] at hl ho
  exact ldb hi hx hj hl ho hd hg h
end
end Go.Eng

/- The engine, part AB: capacities, room made ahead, copies within a buffer, bits. No program in sight. -/
namespace Go.Eng
open Go
section
variable {P : Program} {ops : Array Oper} {r : List Oper} {acc : List Eff} {n lm : Nat} {tm : List (Nat × D)} {ow : List (Nat × Option Blk)} {F : List Eff → St → Prop}
  {t : Nat} {ty : TypeId} {pos : String} {af : Array Edge} {g : Option (Nat × Bool)} {st : St} {d : D} {α : Type} {f : α → List D}

/-- cap(nil). -/
theorem lok_cap_nil {x : Operand} {T e : TypeId} {sz by_ : Nat} [hT : TySl P T e sz by_] (hx : st.val x = some (.rows true [])) (hd : t < st.n) : LOk P ⟨some t, .call ⟨.builtin .cap, #[x], #[T]⟩, ty, pos, af, g⟩ st ⟨[], [], .int .i64 0, []⟩ :=
  lok_pure hd fun _ st2 ρ H a w ag hR => by
    obtain ⟨ad, cap, h1, _, h2, _⟩ := (hR.val ((ag.val x (by simp [Op.operands, Call.operands])).trans hx)).rows_inv
    have h3 : cap = 0 := by simpa using h2 rfl
    subst h3
    exact ⟨.int .i64 0, by simp [execOp, resolve, invoke, builtin, Builtin.cap_, h1, run_underlying hT.und, goInt], .pure (.int _ _)⟩
theorem cpn {x : Operand} {T e : TypeId} {sz by_ : Nat} [hT : TySl P T e sz by_] (hx : St.val ⟨n, tm, ow, lm⟩ x = some (.rows true [])) (hd : Nat.blt t n = true) (hg : Gd ops ⟨n, tm, ow, lm⟩ g)
    (h : WpD P ops r (⟨[], [], .int .i64 0, []⟩ :: acc) ⟨n, (t, .int .i64 0) :: tm, ow, lm⟩ F) : WpD P ops (⟨some t, .call ⟨.builtin .cap, #[x], #[T]⟩, ty, pos, af, g⟩ :: r) acc ⟨n, tm, ow, lm⟩ F := step (lok_cap_nil hx (blt_lt hd)) hg rfl h

/-- nil[:0]. -/
theorem lok_slice_nil {T e : TypeId} {sz by_ : Nat} [hT : TySl P T e sz by_] {x hx' : Operand} {k : IntKind} (hx : st.val x = some (.rows true [])) (h1 : st.val hx' = some (.int k 0)) (hd : t < st.n) :
    LOk P ⟨some t, .slice T x none (some hx') none, ty, pos, af, g⟩ st ⟨[], [], .rows true [], []⟩ :=
  lok_pure hd fun _ st2 ρ H a w ag hR => by
    obtain ⟨ad, cap, h2, _, h3, _⟩ := (hR.val ((ag.val x (by simp [Op.operands])).trans hx)).rows_inv
    have h4 := (hR.val ((ag.val hx' (by simp [Op.operands])).trans h1)).int_inv
    have h5 : cap = 0 := by simpa using h3 rfl
    subst h5
    refine ⟨.slice ad 0 0, ?_, .pure (.rowsE true ad 0 fun _ => rfl)⟩
    have hb : (Instr.sliceBounds true 0 0 none (some (.int k 0)) none).run P w = .ok (0, 0, 0) w := by
      simp [Instr.sliceBounds, Instr.sliceBound, asIntOf]
    simp [execOp, Instr.sliceAt, Instr.slice, run_underlying hT.und, h2, h4, hb, sizeOf_run hT]
theorem sln {T e : TypeId} {sz by_ : Nat} [hT : TySl P T e sz by_] {x hx' : Operand} {k : IntKind} (hx : St.val ⟨n, tm, ow, lm⟩ x = some (.rows true [])) (h1 : St.val ⟨n, tm, ow, lm⟩ hx' = some (.int k 0)) (hd : Nat.blt t n = true) (hg : Gd ops ⟨n, tm, ow, lm⟩ g)
    (h : WpD P ops r (⟨[], [], .rows true [], []⟩ :: acc) ⟨n, (t, .rows true []) :: tm, ow, lm⟩ F) : WpD P ops (⟨some t, .slice T x none (some hx') none, ty, pos, af, g⟩ :: r) acc ⟨n, tm, ow, lm⟩ F := step (lok_slice_nil hx h1 (blt_lt hd)) hg rfl h

/-- append(nil, make([]T, m)...): an own buffer with room for m at least. -/
theorem lok_append_make (j : Nat) {x y : Operand} {T T2 e : TypeId} {k : IntKind} {sz by_ m : Nat} {zs : List D} [hT : TySl P T e sz by_] [hT2 : TyI P T2 k] [hZ : TyZ P e zs] (hx : st.val x = some (.rows true [])) (hy : st.val y = some (.int .i64 (m : Int))) (hm : 0 < m)
    (hroom : (2 * m + 512) * by_ ≤ 281474976710656) (hb0 : Nat.blt 0 by_ = true) (hd : t < st.n) :
    LOk P ⟨some t, .call ⟨.builtin .append, #[x, y], #[T, T2]⟩, ty, pos, af, g⟩ st ⟨[], [j], .sl j 0 m, [(j, some (.buf sz []))]⟩ := by
  intro B st2 ag
  have hfr := ag.fresh j (by simp)
  refine opOk_value (fun s hs => by cases hs; rw [ag.n]; exact hd) ag.fresh fun ρ H a w hR => ?_
  have hx2 := hR.val ((ag.val x (by simp [Op.operands, Call.operands])).trans hx)
  have hy2 := (hR.val ((ag.val y (by simp [Op.operands, Call.operands])).trans hy)).int_inv
  have hb0' : by_ ≠ 0 := by have := blt_lt hb0; omega
  obtain ⟨a1, c1, old, hv1, hold, hos, _, _⟩ := src_cells (P := P) (sz := sz) hR.wr.pers hx2 (by intro r hr; cases hr)
  obtain ⟨a1', c1', hv1', _, hfull, _⟩ := hx2.rows_inv
  have hc0 : c1 = 0 := by rw [hv1] at hv1'; cases hv1'; simpa using hfull rfl
  subst hc0
  simp only [List.length_nil] at hv1 hold hos
  obtain ⟨i, hi, hi2⟩ := map_some hT.info
  simp only [Prod.mk.injEq] at hi2
  obtain ⟨i', hi', hz1⟩ := map_some hZ.size
  have : i' = i := by rw [hi] at hi'; cases hi'; rfl
  subst this
  obtain ⟨v, hv, hv2⟩ := map_some hZ.zero
  have hz : i'.zero = some v := by simpa [hi] using hv
  have hvs : v.cells.size = sz := by have := congrArg List.length hv2; simp at this; omega
  have hml : m ≤ 281474976710656 := by
    have h1 := Nat.le_trans (Nat.le_mul_of_pos_right _ (Nat.pos_of_ne_zero hb0')) hroom
    omega
  have hnsc := nsc_le (show 0 < m from hm)
  have hns : ¬ (Builtin.nextslicecap m 0 * by_ > 2 ^ 48) := Nat.not_lt.2 (Nat.le_trans (Nat.mul_le_mul_right _ hnsc) hroom)
  have hwrap : IntKind.i64.wrap (m : Int) = m := IntWalk.i64_in _ ⟨by omega, by omega⟩
  have hmb : m * by_ ≤ 281474976710656 := Nat.le_trans (Nat.mul_le_mul_right _ (by omega)) hroom
  have hsz : ¬ ((m : Int) * (by_ : Int) > 2 ^ 48) := by
    have : ((m * by_ : Nat) : Int) ≤ ((281474976710656 : Nat) : Int) := Int.ofNat_le.2 hmb
    rw [Int.natCast_mul] at this
    rw [show (2 : Int) ^ 48 = 281474976710656 by decide]; omega
  let cap := m + w.tape w.drawn (.appendCap m 0 e) % (2 ^ 63 - m)
  have hcap : m ≤ cap := Nat.le_add_right _ _
  have hmx : ¬ ((m : Int) > IntKind.i64.max ∧ True) := by
    rw [show IntKind.i64.max = 9223372036854775807 from rfl]; omega
  obtain ⟨arr, hrun, hsize⟩ : ∃ arr : Array Value, (Builtin.append_ #[T, T2] ty #[.slice a1 0 0, .int .i64 m]).run P w = .ok (.slice (some ⟨w.heap.size, 0, none⟩) (0 + m) cap) ({ w with drawn := w.drawn + 1 }.alloc (.cells arr e)) ∧ arr.size = cap * sz := by
    have ho' := hold { w with drawn := w.drawn + 1 } rfl
    rw [hv1] at ho'
    have hold0 : old = #[] := Array.eq_empty_of_size_eq_zero (by simpa using hos)
    subst hold0
    by_cases hs0 : m * sz = 0
    · refine ⟨#[] ++ #[] ++ Builtin.zeroCells v.cells (cap - m), ?_, ?_⟩
      · simp only [Builtin.append_, List.getElem?_toArray, List.getElem?_cons_zero, List.getElem?_cons_succ, Sem.run_bind, run_underlying hT.und, run_underlying hT2.und, Result.andThen_ok, sizeOf, typeInfo, run_program, hi, hi2.1, hi2.2, Sem.run_pure, asInt, asIntOf, hwrap, hsz, if_false, if_true,
          show ¬ ((m : Int) < 0) by omega, Int.toNat_natCast, Nat.zero_add, Nat.not_le.2 hm, true_or, hmx, hns, run_choose, Question.forced, run_askRoom, ho', Bool.not_true, Bool.false_eq_true, hs0, zeroValue, hz, newRow, run_newObj]
        rfl
      · have h1 : sz = 0 := by rcases Nat.mul_eq_zero.1 hs0 with h | h; omega; exact h
        simp [zeroCells_size, hvs, h1]
    · refine ⟨#[] ++ Builtin.zeroCells v.cells m ++ Builtin.zeroCells v.cells (cap - m), ?_, ?_⟩
      · simp only [Builtin.append_, List.getElem?_toArray, List.getElem?_cons_zero, List.getElem?_cons_succ, Sem.run_bind, run_underlying hT.und, run_underlying hT2.und, Result.andThen_ok, sizeOf, typeInfo, run_program, hi, hi2.1, hi2.2, Sem.run_pure, asInt, asIntOf, hwrap, hsz, if_false, if_true,
          show ¬ ((m : Int) < 0) by omega, Int.toNat_natCast, Nat.zero_add, Nat.not_le.2 hm, true_or, hmx, hns, run_choose, Question.forced, run_askRoom, ho', Bool.not_true, Bool.false_eq_true, hs0, zeroValue, hz, newRow, run_newObj]
        rfl
      · simp [zeroCells_size, hvs, ← Nat.add_mul, show m + (cap - m) = cap by omega]
  have hruneq : (execOp a.eval ⟨some t, .call ⟨.builtin .append, #[x, y], #[T, T2]⟩, ty, pos, af, g⟩).run P w = ((Builtin.append_ #[T, T2] ty #[a.eval x, a.eval y]).run P w).andThen fun v w' => .ok (.value v) w' := by
    simp [execOp, resolve, invoke, builtin]
  have hWd : WRel B st2.blk ρ H { w with drawn := w.drawn + 1 } := hR.wr.drawn rfl rfl rfl rfl
  refine ⟨.slice (some ⟨w.heap.size, 0, none⟩) (0 + m) cap, _, setLoc ρ j ⟨w.heap.size, cap, sz, true⟩, H, .inl (by rw [hruneq, hv1, hy2, hrun]; rfl), ?_, GH.le_refl _, fun q hq => setLoc_ne (by simpa using hq), ?_⟩
  · have := Den.sl (ρ := setLoc ρ j ⟨w.heap.size, cap, sz, true⟩) (H := H) j 0 m (some ⟨w.heap.size, 0, none⟩) cap (by rw [setLoc_eq]; rfl) (by rw [setLoc_eq]; simpa using hcap) (.inr ⟨by rw [setLoc_eq], by rw [setLoc_eq]; simp⟩)
    simpa using this
  · refine hWd.alloc_own (hkp := hR.nokeep hfr) (b := .buf sz []) (fun q b' hq => hfr.bl q b' hq) ⟨by rw [setLoc_eq], by simp, by simp, fun hh => (by rw [setLoc_eq] at hh; cases hh), fun _ => ⟨arr, e, by rw [setLoc_eq]; exact alloc_new, by rw [setLoc_eq]; exact hsize, by simp⟩, by simp, rfl⟩ upd_blk
theorem apk (j : Nat) {x y : Operand} {T T2 e : TypeId} {k : IntKind} {sz by_ : Nat} {i : Int} {zs : List D} (f : α → List D) (m : Nat) [hT : TySl P T e sz by_] [hT2 : TyI P T2 k] [hZ : TyZ P e zs] (hx : St.val ⟨n, tm, ow, lm⟩ x = some (.rows true [])) (hy : St.val ⟨n, tm, ow, lm⟩ y = some (.int .i64 i)) (hi : i = (m : Int)) (hm : 0 < m)
    (hroom : (2 * m + 512) * by_ ≤ 281474976710656) (hb0 : Nat.blt 0 by_ = true) (hf : St.freshB ⟨n, tm, ow, lm⟩ j = true) (hd : Nat.blt t n = true) (hg : Gd ops ⟨n, tm, ow, lm⟩ g)
    (h : WpD P ops r (⟨[], [j], .sl j 0 m, [(j, some (.buf sz (([] : List α).map f)))]⟩ :: acc) ⟨n, (t, .sl j 0 m) :: tm, (j, some (.buf sz (([] : List α).map f))) :: ow, lm⟩ F) : WpD P ops (⟨some t, .call ⟨.builtin .append, #[x, y], #[T, T2]⟩, ty, pos, af, g⟩ :: r) acc ⟨n, tm, ow, lm⟩ F := by
  subst hi; exact step (lok_append_make j hx hy hm hroom hb0 (blt_lt hd)) hg (by simpa using hf) h

theorem lok_and {x y : Operand} {xt yt : TypeId} {k : IntKind} {a b c : Int} (hx : st.val x = some (.int k a)) (hy : st.val y = some (.int k b)) (hc : k.wrap (((a % 2 ^ k.bits).toNat &&& (b % 2 ^ k.bits).toNat : Nat) : Int) = c) (hd : t < st.n) :
    LOk P ⟨some t, .binOp .and xt x y yt, ty, pos, af, g⟩ st ⟨[], [], .int k c, []⟩ :=
  lok_pure hd fun _ st2 _ _ ac w ag hR => ⟨.int k c, by
    have h1 := (hR.val ((ag.val x (by simp [Op.operands])).trans hx)).int_inv
    have h2 := (hR.val ((ag.val y (by simp [Op.operands])).trans hy)).int_inv
    simp [execOp, h1, h2, eqGuard, binOp, Op.intBits, hc], .pure (.int _ _)⟩
theorem an {x y : Operand} {xt yt : TypeId} {k : IntKind} {a b : Int} (c : Int) (hx : St.val ⟨n, tm, ow, lm⟩ x = some (.int k a)) (hy : St.val ⟨n, tm, ow, lm⟩ y = some (.int k b)) (hc : k.wrap (((a % 2 ^ k.bits).toNat &&& (b % 2 ^ k.bits).toNat : Nat) : Int) = c) (hd : Nat.blt t n = true)
    (hg : Gd ops ⟨n, tm, ow, lm⟩ g) (h : WpD P ops r (⟨[], [], .int k c, []⟩ :: acc) ⟨n, (t, .int k c) :: tm, ow, lm⟩ F) : WpD P ops (⟨some t, .binOp .and xt x y yt, ty, pos, af, g⟩ :: r) acc ⟨n, tm, ow, lm⟩ F := step (lok_and hx hy hc (blt_lt hd)) hg rfl h

/-- A copy within one own buffer. -/
theorem lok_copy_self {T T2 e : TypeId} {sz by_ : Nat} [hT : TySl P T e sz by_] {x y : Operand} {j lo q lo2 q2 m : Nat} {l : List (List D)} (hx : st.val x = some (.sl j lo q)) (hj : st.blk j = some (.buf sz l)) (hy : st.val y = some (.sl j lo2 q2)) (hcl : ∀ r ∈ l, r.all D.cell = true)
    (hm : m = min q2 q) (hm0 : 0 < m) (hln : lo + q ≤ l.length) (hln2 : lo2 + q2 ≤ l.length) (hd : t < st.n) :
    LOk P ⟨some t, .call ⟨.builtin .copy, #[x, y], #[T, T2]⟩, ty, pos, af, g⟩ st ⟨[j], [], .int .i64 m, [(j, some (.buf sz (l.take lo ++ (l.drop lo2).take m ++ l.drop (lo + m))))]⟩ := by
  intro B st2 ag
  refine opOk_value (fun s hs => by cases hs; rw [ag.n]; exact hd) ag.fresh fun ρ H a w hR => ?_
  have hx2 := hR.val ((ag.val x (by simp [Op.operands, Call.operands])).trans hx)
  have hy2 := hR.val ((ag.val y (by simp [Op.operands, Call.operands])).trans hy)
  have hj2 := (ag.blk j (by simp)).trans hj
  obtain ⟨a1, c, hv1, hc, hcn, ha⟩ := hx2.sl_inv
  obtain ⟨a2, c2, hv2, hc2, hcn2, ha2⟩ := hy2.sl_inv
  obtain ⟨ho0, ho1, ho2, ho3, ho4, hoB, hoP⟩ := hR.wr.own j _ hj2
  have hmq : m ≤ q := by omega
  have hmq2 : m ≤ q2 := by omega
  have hhere : (ρ j).here = true := by
    cases hh : (ρ j).here with
    | true => rfl
    | false => have := ho3 hh; omega
  have ha' : a1 = some ⟨(ρ j).blk, lo * (ρ j).sz, none⟩ := by
    rcases ha with h | ⟨_, h2⟩
    · omega
    · exact h2
  have ha2' : a2 = some ⟨(ρ j).blk, lo2 * (ρ j).sz, none⟩ := by
    rcases ha2 with h | ⟨_, h2⟩
    · omega
    · exact h2
  subst ha' ha2'
  obtain ⟨arr, bt, hb, hbs, hbd⟩ := ho4 hhere
  have hle : (lo + m) * sz ≤ arr.size := by rw [hbs, ho0]; exact Nat.mul_le_mul_right _ (by omega)
  have hle2 : (lo2 + m) * sz ≤ arr.size := by rw [hbs, ho0]; exact Nat.mul_le_mul_right _ (by omega)
  rw [Nat.add_mul] at hle hle2
  have hload := load_cells (P := P) (w := w) (b := (ρ j).blk) (off := lo2 * sz) (n := m * sz) hb hle2
  have hns : (arr.extract (lo2 * sz) (lo2 * sz + m * sz)).toList.length = m * sz := by simp; omega
  have hnew : ∀ (i k : Nat) (row : List D) (d : D) (v : Value), ((l.drop lo2).take m)[i]? = some row → row[k]? = some d → (arr.extract (lo2 * sz) (lo2 * sz + m * sz)).toList[i * sz + k]? = some v → Den ρ H d v := by
    intro i k row d v hi hk hv
    rw [List.getElem?_take] at hi
    split at hi
    · rw [List.getElem?_drop] at hi
      rw [Array.getElem?_toList, Array.getElem?_extract] at hv
      split at hv
      · refine hbd (lo2 + i) k row d v hi hk ?_
        rw [ho0, Nat.add_mul, Nat.add_assoc]; exact hv
      · cases hv
    · cases hi
  have hn1 : ∀ x ∈ (arr.extract (lo2 * sz) (lo2 * sz + m * sz)).toList, x.oneCell' = true := by
    intro x hx
    obtain ⟨p, hp⟩ := List.mem_iff_getElem?.1 hx
    have hpl : p < m * sz := by have := (List.getElem?_eq_some_iff.1 hp).1; rw [hns] at this; exact this
    have hs0 : 0 < sz := by rcases Nat.eq_zero_or_pos sz with h | h; subst h; simp at hpl; exact h
    have hdiv : p / sz < m := by rw [Nat.div_lt_iff_lt_mul hs0]; exact hpl
    have hmod : p % sz < sz := Nat.mod_lt _ hs0
    have hil : p / sz < ((l.drop lo2).take m).length := by simp; omega
    have hrow : ((l.drop lo2).take m)[p / sz] ∈ l := List.mem_of_mem_drop (List.mem_of_mem_take (List.getElem_mem hil))
    have hrl := ho2 _ hrow
    have hk : p % sz < (((l.drop lo2).take m)[p / sz]).length := by rw [hrl, ho0]; exact hmod
    have hden := hnew (p / sz) (p % sz) _ (((l.drop lo2).take m)[p / sz])[p % sz] x (List.getElem?_eq_getElem hil) (List.getElem?_eq_getElem hk) (by rw [Nat.mul_comm (p / sz) sz, Nat.div_add_mod]; exact hp)
    have hc := hden.cell ((List.all_eq_true.1 (hcl _ hrow)) _ (List.getElem_mem hk))
    cases x <;> simp [Value.oneCell'] <;> first | exact hc.1 _ rfl | exact hc.2 _ rfl
  generalize arr.extract (lo2 * sz) (lo2 * sz + m * sz) = new at *
  have hst := run_storeCells_at P (ρ j).blk (lo * sz) bt new.toList 0 arr w hb (by rw [hns]; omega) hn1
  simp only [Nat.add_zero, hns] at hst
  let arr' := (arr.toList.take (lo * sz) ++ new.toList ++ arr.toList.drop (lo * sz + m * sz)).toArray
  have hmin : Nat.min q2 q = m := hm.symm
  have hrun : (execOp a.eval ⟨some t, .call ⟨.builtin .copy, #[x, y], #[T, T2]⟩, ty, pos, af, g⟩).run P w = .ok (.value (.int .i64 m)) (w.setRow (ρ j).blk arr') := by
    have hfc : (Builtin.firstCells sz m (.slice (some ⟨(ρ j).blk, lo2 * sz, none⟩) q2 c2)).run P w = .ok (new) w := by simp only [Builtin.firstCells]; exact hload
    rw [ho0] at hv1 hv2
    simp [execOp, resolve, invoke, builtin, Builtin.copy_, hv1, hv2, run_underlying hT.und, Builtin.lenOf, hmin, sizeOf_run hT, hfc, hst, goInt, arr']
  have hsize : arr'.size = arr.size := by simp only [arr', List.size_toArray, List.length_append, hns, List.length_take, List.length_drop, Array.length_toList]; omega
  refine ⟨.int .i64 m, w.setRow (ρ j).blk arr', ρ, H, .inl hrun, .pure (.int _ _), GH.le_refl _, fun _ _ => rfl, ?_⟩
  refine hR.wr.write hj2 hhere (by simp [World.setRow]) (fun k hk => setRow_other w _ k _ hk) rfl rfl rfl (b' := .buf sz (l.take lo ++ (l.drop lo2).take m ++ l.drop (lo + m))) ⟨ho0, by simp; omega, fun row hr => ?_, ho3, fun _ => ⟨arr', bt, setRow_heap w _ arr _ bt (0, 0) hb, by rw [hsize, hbs], fun i k row d v hi hk hv => ?_⟩, by simp; omega, List.all_eq_true.2 fun r hr => (List.all_eq_true.1 hoP) r ?_⟩ upd_blk
  · simp only [List.mem_append] at hr
    rcases hr with (hr | hr) | hr
    · exact ho2 row (List.mem_of_mem_take hr)
    · exact ho2 row (List.mem_of_mem_drop (List.mem_of_mem_take hr))
    · exact ho2 row (List.mem_of_mem_drop hr)
  · rw [ho0] at hv
    have hrl : row.length = sz := by
      rw [← ho0]
      have hr := List.mem_of_getElem? hi
      simp only [List.mem_append] at hr
      rcases hr with (hr | hr) | hr
      · exact ho2 row (List.mem_of_mem_take hr)
      · exact ho2 row (List.mem_of_mem_drop (List.mem_of_mem_take hr))
      · exact ho2 row (List.mem_of_mem_drop hr)
    have hks : k < sz := by have := (List.getElem?_eq_some_iff.1 hk).1; omega
    have hlo : (l.take lo).length = lo := by simp; omega
    have hml : ((l.drop lo2).take m).length = m := by simp; omega
    have hg := laid_get (arr := arr.toList) (cs := new.toList) (A := lo * sz) (m := m * sz) (q := i * sz + k) hns (by simpa using hle)
    simp only [arr', List.getElem?_toArray] at hv
    rw [hg] at hv
    by_cases h1 : i < lo
    · have h2 : (i + 1) * sz ≤ lo * sz := Nat.mul_le_mul_right _ h1
      rw [Nat.succ_mul] at h2
      rw [List.append_assoc, List.getElem?_append_left (by omega), List.getElem?_take, if_pos h1] at hi
      rw [if_pos (by omega)] at hv
      exact hbd i k row d v hi hk (by rw [ho0]; simpa using hv)
    · have h2 : lo * sz ≤ i * sz := Nat.mul_le_mul_right _ (by omega)
      by_cases h3 : i < lo + m
      · have h4 : (i + 1) * sz ≤ (lo + m) * sz := Nat.mul_le_mul_right _ h3
        rw [Nat.succ_mul, Nat.add_mul] at h4
        rw [List.append_assoc, List.getElem?_append_right (by omega), hlo, List.getElem?_append_left (by omega)] at hi
        rw [if_neg (by omega), if_pos (by omega)] at hv
        exact hnew (i - lo) k row d v hi hk (by rw [Nat.sub_mul, show i * sz - lo * sz + k = i * sz + k - lo * sz by omega]; exact hv)
      · have h4 : (lo + m) * sz ≤ i * sz := Nat.mul_le_mul_right _ (by omega)
        rw [Nat.add_mul] at h4
        rw [List.getElem?_append_right (by simp; omega), List.length_append, hlo, hml, List.getElem?_drop, show lo + m + (i - (lo + m)) = i by omega] at hi
        rw [if_neg (by omega), if_neg (by omega)] at hv
        exact hbd i k row d v hi hk (by rw [ho0]; simpa using hv)
  · simp only [List.mem_append] at hr
    rcases hr with (hr | hr) | hr
    · exact List.mem_of_mem_take hr
    · exact List.mem_of_mem_drop (List.mem_of_mem_take hr)
    · exact List.mem_of_mem_drop hr
theorem cps {T T2 e : TypeId} {sz by_ : Nat} [hT : TySl P T e sz by_] [hE : Enc f sz] {x y : Operand} {j lo q lo2 q2 : Nat} {l : List α} (m : Nat) (l2 : List α) (hx : St.val ⟨n, tm, ow, lm⟩ x = some (.sl j lo q)) (hj : St.blk ⟨n, tm, ow, lm⟩ j = some (.buf sz (l.map f))) (hy : St.val ⟨n, tm, ow, lm⟩ y = some (.sl j lo2 q2))
    (hm : m = min q2 q) (hm0 : 0 < m) (hln : lo + q ≤ l.length) (hln2 : lo2 + q2 ≤ l.length) (hl : l.take lo ++ (l.drop lo2).take m ++ l.drop (lo + m) = l2) (hd : Nat.blt t n = true) (hg : Gd ops ⟨n, tm, ow, lm⟩ g)
    (h : WpD P ops r (⟨[j], [], .int .i64 m, [(j, some (.buf sz (l2.map f)))]⟩ :: acc) ⟨n, (t, .int .i64 m) :: tm, (j, some (.buf sz (l2.map f))) :: ow, lm⟩ F) : WpD P ops (⟨some t, .call ⟨.builtin .copy, #[x, y], #[T, T2]⟩, ty, pos, af, g⟩ :: r) acc ⟨n, tm, ow, lm⟩ F := by
  have h1 := lok_copy_self (P := P) (T := T) (T2 := T2) (ty := ty) (pos := pos) (af := af) (g := g) hx hj hy (fun r hr => by have := (Enc.rows (f := f) l r hr).2; simp only [Bool.and_eq_true] at this; exact this.1) hm hm0 (by rw [List.length_map]; exact hln) (by rw [List.length_map]; exact hln2) (blt_lt hd)
  rw [← List.map_take, ← List.map_drop, ← List.map_take, ← List.map_drop, ← List.map_append, ← List.map_append, hl] at h1
  exact step h1 hg rfl h
end
end Go.Eng

/- The engine, part AC: ghost steps on one slot (a buffer left alone, a buffer renamed). No program in sight. -/
namespace Go.Eng
open Go
section
variable {P : Program} {Q : Exit → St → Prop} {n lm : Nat} {tm : List (Nat × D)} {ow : List (Nat × Option Blk)} {c : Code} {α : Type} {f : α → List D}
theorem Wp.freezeM {sz q : Nat} {l : List α} {kt : List (Nat × D)} [hE : Enc f sz] (j t : Nat) (ks : List Nat) (ht : St.get ⟨n, tm, ow, lm⟩ t = some (.sl j 0 q)) (hj : St.blk ⟨n, tm, ow, lm⟩ j = some (.buf sz (l.map f))) (hq : q = l.length) (hk : St.selT ⟨n, tm, ow, lm⟩ ks = some kt)
    (h : Wp P c Q ⟨n, (t, .rows false (l.map f)) :: kt, (j, none) :: ow, lm⟩) : Wp P c Q ⟨n, tm, ow, lm⟩ := by
  intro B ρ H a w hR
  obtain ⟨H', h1, h2, h3⟩ := hR.wr.freeze hj (Enc.pure l)
  refine h B ρ H' a w ⟨hR.sz, hR.df, fun s d hs => ?_, h2.bl_eq fun k c hk => ?_, hR.lm⟩
  · have h4 : (if t = s then some (D.rows false (l.map f)) else alook kt s) = some d := by rw [← alook_cons]; exact hs
    by_cases e : t = s
    · rw [if_pos e] at h4
      subst e
      have h5 := Option.some.inj h4
      subst h5
      obtain ⟨v, h6, h7⟩ := hR.tm t _ ht
      have h8 := h3 0 q v (by rw [List.length_map]; omega) h7
      rw [List.drop_zero, List.take_of_length_le (by rw [List.length_map]; omega)] at h8
      exact ⟨v, h6, .pure h8⟩
    · rw [if_neg e] at h4
      obtain ⟨v, h6, h7⟩ := hR.tm s d (selT_spec hk _ (alook_mem h4))
      exact ⟨v, h6, h7.mono h1 fun _ _ => rfl⟩
  · have hk : blkOn none ((j, none) :: ow) k = some c := hk
    rw [blkOn_cons] at hk
    by_cases hjk : j = k
    · rw [if_pos hjk] at hk; cases hk
    · rw [if_neg hjk] at hk ⊢; exact hk

theorem selB_spec {st : St} : ∀ {js : List Nat} {q : List (Nat × Option Blk)}, st.selB js = some q → ∀ p ∈ q, st.blk p.1 = p.2
  | [], q, h, p, hp => by simp [St.selB] at h; subst h; cases hp
  | j :: r, q, h, p, hp => by
    simp only [St.selB] at h
    split at h
    · rename_i b q' h1 h2
      cases h
      rcases List.mem_cons.1 hp with rfl | hp
      · exact h1
      · exact selB_spec h2 p hp
    · cases h
/-- The buffer j' under the name j0; only what is named stays. -/
theorem Wp.rename {sz q : Nat} {l : List (List D)} {kt : List (Nat × D)} {ko : List (Nat × Option Blk)} (j' j0 t : Nat) (ks js : List Nat) (ht : St.get ⟨n, tm, ow, lm⟩ t = some (.sl j' 0 q)) (hj : St.blk ⟨n, tm, ow, lm⟩ j' = some (.buf sz l)) (hk : St.selT ⟨n, tm, ow, lm⟩ ks = some kt)
    (ho : St.selB ⟨n, tm, ow, lm⟩ js = some ko) (hf : St.freshB ⟨n, kt, ko, lm⟩ j0 = true) (hne : (Nat.beq j0 j' || ko.any fun p => Nat.beq p.1 j0 || Nat.beq p.1 j') = false) (h : Wp P c Q ⟨n, (t, .sl j0 0 q) :: kt, (j0, some (.buf sz l)) :: ko, lm⟩) : Wp P c Q ⟨n, tm, ow, lm⟩ := by
  intro B ρ H a w hR
  have hfr := St.fresh_of hf
  simp only [Bool.or_eq_false_iff, List.any_eq_false] at hne
  have hne1 : j0 ≠ j' := by rintro rfl; simp at hne
  have hko : ∀ k b, St.blk ⟨n, kt, ko, lm⟩ k = some b → St.blk ⟨n, tm, ow, lm⟩ k = some b ∧ k ≠ j0 ∧ k ≠ j' := fun k b hb => by
    have hsub : (⟨n, [], ko, lm⟩ : St).Sub ⟨n, tm, ow, lm⟩ := St.sub_of rfl trivial (by
      have hs := selB_spec ho
      clear hb hf hfr hne h ho
      induction ko with
      | nil => trivial
      | cons p r ih => obtain ⟨k, b⟩ := p; exact ⟨hs _ (.head _), ih fun p hp => hs p (.tail _ hp)⟩)
    refine ⟨hsub.bl k b hb, ?_, ?_⟩
    · rintro rfl
      cases ha : alook ko k with
      | none => have := blkOn_none (b := none) ha; rw [show St.blk ⟨n, kt, ko, lm⟩ k = blkOn none ko k from rfl, this] at hb; cases hb
      | some x => have := hne.2 _ (alook_mem ha); simp at this
    · rintro rfl
      cases ha : alook ko k with
      | none => have := blkOn_none (b := none) ha; rw [show St.blk ⟨n, kt, ko, lm⟩ k = blkOn none ko k from rfl, this] at hb; cases hb
      | some x => have := hne.2 _ (alook_mem ha); simp at this
  have hW0 : WRel B (fun k => if j' = k then some (.buf sz l) else St.blk ⟨n, kt, ko, lm⟩ k) ρ H w := hR.wr.bl_eq fun k b hb => by
    by_cases e : j' = k
    · rw [if_pos e] at hb; subst e; rw [hj]; exact hb
    · rw [if_neg e] at hb; exact (hko k b hb).1
  have hW := hW0.rename (j := j') (j' := j0) (b := .buf sz l) (by rw [if_pos rfl]) (by
    cases hkk : B.keep j0 with
    | none => rfl
    | some l => have h1 := hR.lm j0 l hkk; have h2 := hfr.lm; simp only at h1 h2; omega) hne1 (fun k b' hb => by
    by_cases e : j' = k
    · rw [if_pos e] at hb; cases hb; rfl
    · rw [if_neg e] at hb; exact hfr.bl k b' hb) (bl' := fun k => if j0 = k then some (.buf sz l) else if j' = k then none else if j' = k then some (.buf sz l) else St.blk ⟨n, kt, ko, lm⟩ k) fun k => rfl
  refine h B (setLoc ρ j0 (ρ j')) H a w ⟨hR.sz, hR.df, fun s d hs => ?_, hW.bl_eq fun k b hb => ?_, hR.lm⟩
  · have h4 : (if t = s then some (D.sl j0 0 q) else alook kt s) = some d := by rw [← alook_cons]; exact hs
    by_cases e : t = s
    · rw [if_pos e] at h4
      subst e
      have h5 := Option.some.inj h4
      subst h5
      obtain ⟨v, h6, h7⟩ := hR.tm t _ ht
      obtain ⟨a1, c1, rfl, e1, e2, e3⟩ := h7.sl_inv
      exact ⟨_, h6, .sl j0 0 q a1 c1 (by rw [setLoc_eq]; exact e1) (by rw [setLoc_eq]; exact e2) (by rw [setLoc_eq]; exact e3)⟩
    · rw [if_neg e] at h4
      obtain ⟨v, h6, h7⟩ := hR.tm s d (selT_spec hk _ (alook_mem h4))
      exact ⟨v, h6, h7.mono (GH.le_refl _) fun p hp => setLoc_ne (by rintro rfl; rw [hfr.tm s d h4] at hp; cases hp)⟩
  · have hb2 : (if j0 = k then plusOn (some (.buf sz l)) (blkOn none ko k) else blkOn none ko k) = some b := by rw [← blkOn_cons]; exact hb
    by_cases e : j0 = k
    · rw [if_pos e] at hb2 ⊢; exact hb2
    · rw [if_neg e] at hb2 ⊢
      have h5 := hko k b hb2
      rw [if_neg (Ne.symm h5.2.2), if_neg (Ne.symm h5.2.2)]; exact hb2
end
section
variable {P : Program} {ops : Array Oper} {r : List Oper} {acc : List Eff} {n lm : Nat} {tm : List (Nat × D)} {ow : List (Nat × Option Blk)} {F : List Eff → St → Prop}
  {t : Nat} {ty : TypeId} {pos : String} {af : Array Edge} {g : Option (Nat × Bool)} {α : Type} {f : α → List D}
theorem clo0 (j : Nat) {y : Operand} {xs : Array Operand} {ats : Array TypeId} {fn : FuncId} {ds caps : List D} {sz : Nat} {l : List α} (hy : St.val ⟨n, tm, ow, lm⟩ y = some (.fn fn caps)) (hx : St.vals ⟨n, tm, ow, lm⟩ xs.toList = some ds)
    (hs : FnO P fn (ds ++ caps) sz (l.map f)) (hf : St.freshB ⟨n, tm, ow, lm⟩ j = true) (hd : Nat.blt t n = true) (hg : Gd ops ⟨n, tm, ow, lm⟩ g)
    (h : WpD P ops r (⟨[], [j], .sl j 0 l.length, [(j, some (.buf sz (l.map f)))]⟩ :: acc) ⟨n, (t, .sl j 0 l.length) :: tm, (j, some (.buf sz (l.map f))) :: ow, lm⟩ F) :
    WpD P ops (⟨some t, .call ⟨.value y, xs, ats⟩, ty, pos, af, g⟩ :: r) acc ⟨n, tm, ow, lm⟩ F := by
  refine cln j hy hx (hs.2 j) hs.1 hf hd hg ?_
  rw [List.length_map]; exact h
end
end Go.Eng

/- The engine, part AD: arrays of plain values. No program in sight. -/
namespace Go.Eng
open Go
/-- An array of n elements, one cell each. -/
class TyA (P : Program) (t : TypeId) (e : outParam TypeId) (n : outParam Nat) : Prop where
  und : P.underlying t = some (.array n e)
  info : (P.info? e).map (·.size) = some 1
  plain : (P.underlying e).map (fun u => match u with | .struct _ | .array _ _ => true | _ => false) = some false
section
variable {P : Program} {ops : Array Oper} {r : List Oper} {acc : List Eff} {n lm : Nat} {tm : List (Nat × D)} {ow : List (Nat × Option Blk)} {F : List Eff → St → Prop}
  {t : Nat} {ty : TypeId} {pos : String} {af : Array Edge} {g : Option (Nat × Bool)} {st : St} {d : D}
theorem lok_build_arr {T e : TypeId} {len : Nat} {parts : Array (Nat × Operand)} {zs ds : List D} {ps : List (Nat × D)} [hZ : TyZ P T zs] [hA : TyA P T e len] (hx : st.valsP parts.toList = some ps)
    (hb : bldD ((List.range len).map fun i => (i * 1, 1)) zs ps = some ds) (hd : t < st.n) : LOk P ⟨some t, .build T parts, ty, pos, af, g⟩ st ⟨[], [], .agg ds, []⟩ :=
  lok_pure hd fun _ st2 ρ H a w ag hR => by
    have hx2 : st2.valsP parts.toList = some ps := by
      rw [← hx]; exact valsP_congr fun x hx => ag.val x (by simpa [Op.operands] using hx)
    obtain ⟨i, hi, hi2⟩ := map_some hZ.size
    obtain ⟨v, hv, hv2⟩ := map_some hZ.zero
    have hz : i.zero = some v := by simpa [hi] using hv
    have hlen : v.cells.size = zs.length := by have := congrArg List.length hv2; simpa using this
    obtain ⟨ie, hie, hie2⟩ := map_some hA.info
    have hvals : ∀ (l : List (Nat × Operand)) (ps : List (Nat × D)), st2.valsP l = some ps → (l.map fun (p : Nat × Operand) => (p.1, a.eval p.2)).length = ps.length ∧
        ∀ (k i : Nat) (d : D) (v : Nat × Value), ps[k]? = some (i, d) → (l.map fun (p : Nat × Operand) => (p.1, a.eval p.2))[k]? = some v → v.1 = i ∧ Den ρ H d v.2 := by
      intro l
      induction l with
      | nil => intro ps h; simp [St.valsP] at h; subst h; simp
      | cons p l ih =>
        obtain ⟨i, x⟩ := p
        intro ps h
        obtain ⟨d, l', h1, h2, rfl⟩ := valsP_cons h
        obtain ⟨h3, h4⟩ := ih l' h2
        refine ⟨by simpa using h3, fun k i' d' v' hk hv' => ?_⟩
        cases k with
        | zero => simp at hk hv'; obtain ⟨rfl, rfl⟩ := hk; subst hv'; exact ⟨rfl, hR.val h1⟩
        | succ k => exact h4 k i' d' v' (by simpa using hk) (by simpa using hv')
    obtain ⟨hl1, hl2⟩ := hvals parts.toList ps hx2
    obtain ⟨cs, c1, c2, _, c4⟩ := fill_run (ρ := ρ) (H := H) (place := fun i => some (i * 1, 1)) (fs := (List.range len).map fun i => (i * 1, 1)) (by
        intro i p h
        rw [List.getElem?_map] at h
        obtain ⟨w, hw, rfl⟩ := map_some h
        obtain ⟨_, rfl⟩ := List.getElem?_eq_some_iff.1 hw
        simp) ps _ v.cells zs ds hl1 hl2 hlen (fun k d v' hk hv' => by
      have h1 := congrArg (·[k]?) hv2
      have h2 : v.cells.toList[k]? = some v' := by simpa using hv'
      simp only [List.getElem?_map, h2, hk, Option.map_some] at h1
      exact .pure (D.ofConst_den (Option.some.inj h1))) hb
    refine ⟨.agg cs, ?_, .agg _ _ c2 c4⟩
    simp only [Nat.mul_one] at c1
    simp [execOp, Instr.build, zeroValue, typeInfo, hi, hz, run_underlying hA.und, sizeOf, hie, hie2, c1]
theorem bda {T e : TypeId} {len : Nat} {parts : Array (Nat × Operand)} {zs ds : List D} {ps : List (Nat × D)} [hZ : TyZ P T zs] [hA : TyA P T e len] (hx : St.valsP ⟨n, tm, ow, lm⟩ parts.toList = some ps) (hb : bldD ((List.range len).map fun i => (i * 1, 1)) zs ps = some ds)
    (hd : Nat.blt t n = true) (hg : Gd ops ⟨n, tm, ow, lm⟩ g) (h : WpD P ops r (⟨[], [], .agg ds, []⟩ :: acc) ⟨n, (t, .agg ds) :: tm, ow, lm⟩ F) : WpD P ops (⟨some t, .build T parts, ty, pos, af, g⟩ :: r) acc ⟨n, tm, ow, lm⟩ F :=
  step (lok_build_arr hx hb (blt_lt hd)) hg rfl h
theorem lok_index_arr {x y : Operand} {T e : TypeId} {len m : Nat} {k : IntKind} {i : Int} {l : List D} [hA : TyA P T e len] (hx : st.val x = some (.agg l)) (hy : st.val y = some (.int k i)) (hi : i = (m : Int)) (hm : m < len) (hl : l[m]? = some d) (hd : t < st.n) :
    LOk P ⟨some t, .index T x y, ty, pos, af, g⟩ st ⟨[], [], d, []⟩ :=
  lok_pure hd fun _ st2 ρ H a w ag hR => by
    obtain ⟨cs, h1, h2, h3⟩ := (hR.val ((ag.val x (by simp [Op.operands])).trans hx)).agg_inv
    have h4 := (hR.val ((ag.val y (by simp [Op.operands])).trans hy)).int_inv
    obtain ⟨ie, hie, hie2⟩ := map_some hA.info
    obtain ⟨u, hu, hu2⟩ := map_some hA.plain
    have hml : m < cs.size := by rw [h2]; exact (List.getElem?_eq_some_iff.1 hl).1
    refine ⟨cs[m], ?_, h3 m d _ hl (by simp [hml])⟩
    subst hi
    have hagg : (isAgg e).run P w = .ok false w := by
      unfold isAgg
      simp only [Sem.run_bind, run_underlying hu, Result.andThen_ok]
      cases u <;> first | (simp at hu2; done) | rfl
    simp [execOp, Instr.index, h1, h4, asIntOf, run_underlying hA.und, sizeOf, typeInfo, hie, hie2, part, hagg, hm, hml]
theorem ixA {x y : Operand} {T e : TypeId} {len : Nat} {k : IntKind} {i : Int} {l : List D} [hA : TyA P T e len] (m : Nat) (hx : St.val ⟨n, tm, ow, lm⟩ x = some (.agg l)) (hy : St.val ⟨n, tm, ow, lm⟩ y = some (.int k i)) (hi : i = (m : Int)) (hm : m < len) (hl : l[m]? = some d) (hd : Nat.blt t n = true)
    (hg : Gd ops ⟨n, tm, ow, lm⟩ g) (h : WpD P ops r (⟨[], [], d, []⟩ :: acc) ⟨n, (t, d) :: tm, ow, lm⟩ F) : WpD P ops (⟨some t, .index T x y, ty, pos, af, g⟩ :: r) acc ⟨n, tm, ow, lm⟩ F := step (lok_index_arr hx hy hi hm hl (blt_lt hd)) hg rfl h
end
/-! Side conditions that are met by one word each. -/
theorem Bd {p : Prop} (h : p := by first | omega | (simp only [List.length_append, List.length_replicate, List.length_take, List.length_drop, List.length_cons, List.length_nil, List.length_set, List.length_map] <;> omega) | (simp only [List.length_append, List.length_replicate, List.length_take, List.length_drop, List.length_cons, List.length_nil, List.length_set, List.length_map] at * <;> omega)) : p := h
theorem Eq' {p : Prop} (h : p := by first | rfl | omega | (simp only [List.length_append, List.length_replicate, List.length_take, List.length_drop, List.length_cons, List.length_nil, List.length_set, List.length_map] <;> omega)) : p := h
theorem Og {p : Prop} (h : p := by first | rfl | (simp only [Option.getD_some, Option.getD_none]; omega) | (simp only [Option.getD_some, Option.getD_none, List.length_append, List.length_replicate, List.length_take, List.length_drop, List.length_cons, List.length_nil, List.length_set, List.length_map] <;> omega)) : p := h
theorem Dis {p : Prop} (h : p := by first | assumption | omega | (simp_all; done)) : p := h
theorem Rp {p : Prop} (h : p := by repeat (first | exact trivial | refine ⟨rfl, ?_⟩)) : p := h
/-- A fact in its plain form. -/
theorem Nz {p q : Prop} (h : p) (e : p = q := by first | (simp only [decide_eq_true_eq, decide_eq_false_iff_not, beq_iff_eq, bne_iff_ne, ne_eq, Bool.not_eq_true', Bool.not_eq_false', Bool.not_eq_true, Bool.not_eq_false, Bool.and_eq_true, Bool.and_eq_false_iff, Bool.or_eq_true, Bool.or_eq_false_iff, beq_eq_false_iff_ne, bne_eq_false_iff_eq, Bool.not_true, Bool.not_false, Decidable.not_not, Int.not_lt, Int.not_le]; exact rfl) | exact rfl) : q := e ▸ h
end Go.Eng

/- The engine, part AE: buffers of a known capacity; what grows; slices that do not overlap. No program in sight. -/
namespace Go.Eng
open Go
section
variable {P : Program} {Q : Exit → St → Prop} {n lm : Nat} {tm : List (Nat × D)} {ow : List (Nat × Option Blk)} {c : Code} {sz : Nat} {l : List (List D)}
theorem Wp.capKnown (j : Nat) (hj : St.blk ⟨n, tm, ow, lm⟩ j = some (.buf sz l)) (h : ∀ k : Nat, l.length ≤ k → Wp P c Q ⟨n, tm, (j, some (.bufc sz l k)) :: ow, lm⟩) : Wp P c Q ⟨n, tm, ow, lm⟩ := by
  intro B ρ H a w hR
  have ho := hR.wr.own j _ hj
  refine h (ρ j).cap ho.2.1 B ρ H a w ⟨hR.sz, hR.df, hR.tm, hR.wr.le fun q b hq => ?_, hR.lm⟩
  have hq : blkOn none ((j, some (.bufc sz l (ρ j).cap)) :: ow) q = some b := hq
  rw [blkOn_cons] at hq
  by_cases hjq : j = q
  · rw [if_pos hjq] at hq
    subst hjq
    cases hq
    exact ⟨_, hj, fun ho => ⟨ho, rfl⟩⟩
  · rw [if_neg hjq] at hq; exact ⟨b, hq, fun h => h⟩
theorem Wp.capForget (j : Nat) {k : Nat} (hj : St.blk ⟨n, tm, ow, lm⟩ j = some (.bufc sz l k)) (h : Wp P c Q ⟨n, tm, (j, some (.buf sz l)) :: ow, lm⟩) : Wp P c Q ⟨n, tm, ow, lm⟩ := by
  intro B ρ H a w hR
  refine h B ρ H a w ⟨hR.sz, hR.df, hR.tm, hR.wr.le fun q b hq => ?_, hR.lm⟩
  have hq : blkOn none ((j, some (.buf sz l)) :: ow) q = some b := hq
  rw [blkOn_cons] at hq
  by_cases hjq : j = q
  · rw [if_pos hjq] at hq
    subst hjq
    cases hq
    exact ⟨_, hj, fun ho => ho.1⟩
  · rw [if_neg hjq] at hq; exact ⟨b, hq, fun h => h⟩
theorem pureL_any : ∀ n : Nat, D.pureL (List.replicate n .any) = true
  | 0 => rfl
  | n + 1 => by simp only [List.replicate_succ, D.pureL, D.pureB, pureL_any n, Bool.and_self]
theorem OwnOk.more {ρ : Nat → Loc} {H : GH} {w : World} {j k m : Nat} (h : OwnOk ρ H w j (.bufc sz l k)) (hm : l.length + m ≤ k) (hb : l.length + m ≤ 9223372036854775807) : OwnOk ρ H w j (.buf sz (l ++ List.replicate m (List.replicate sz .any))) := by
  obtain ⟨⟨h0, h1, h2, h3, h4, hB, hP⟩, hC⟩ := h
  refine ⟨h0, by rw [hC]; simpa using hm, fun row hr => ?_, h3, fun hh => ?_, by simpa using hb, ?_⟩
  · rcases List.mem_append.1 hr with hr | hr
    · exact h2 row hr
    · rw [(List.mem_replicate.1 hr).2, List.length_replicate, h0]
  · obtain ⟨arr, ty, h5, h6, h7⟩ := h4 hh
    refine ⟨arr, ty, h5, h6, fun i q row d v hi hq hv => ?_⟩
    by_cases hil : i < l.length
    · rw [List.getElem?_append_left hil] at hi; exact h7 i q row d v hi hq hv
    · rw [List.getElem?_append_right (by omega)] at hi
      have hr := (List.mem_replicate.1 (List.mem_of_getElem? hi)).2
      subst hr
      have hd := (List.mem_replicate.1 (List.mem_of_getElem? hq)).2
      subst hd
      exact .pure (.any v)
  · rw [List.all_append, hP, Bool.true_and, List.all_eq_true]
    intro r hr
    rw [(List.mem_replicate.1 hr).2]; exact pureL_any sz
theorem Wp.capMore (j m : Nat) {k : Nat} (hj : St.blk ⟨n, tm, ow, lm⟩ j = some (.bufc sz l k)) (hm : l.length + m ≤ k) (hb : l.length + m ≤ 9223372036854775807) (h : Wp P c Q ⟨n, tm, (j, some (.buf sz (l ++ List.replicate m (List.replicate sz .any)))) :: ow, lm⟩) : Wp P c Q ⟨n, tm, ow, lm⟩ := by
  intro B ρ H a w hR
  refine h B ρ H a w ⟨hR.sz, hR.df, hR.tm, hR.wr.le fun q b hq => ?_, hR.lm⟩
  have hq : blkOn none ((j, some (.buf sz (l ++ List.replicate m (List.replicate sz .any)))) :: ow) q = some b := hq
  rw [blkOn_cons] at hq
  by_cases hjq : j = q
  · rw [if_pos hjq] at hq
    subst hjq
    cases hq
    exact ⟨_, hj, fun ho => ho.more hm hb⟩
  · rw [if_neg hjq] at hq; exact ⟨b, hq, fun h => h⟩
end
section
variable {P : Program} {ops : Array Oper} {r : List Oper} {acc : List Eff} {n lm : Nat} {tm : List (Nat × D)} {ow : List (Nat × Option Blk)} {F : List Eff → St → Prop}
  {t : Nat} {ty : TypeId} {pos : String} {af : Array Edge} {g : Option (Nat × Bool)} {st : St} {d : D} {α : Type} {f : α → List D}

/-- The capacity of a part of a buffer of known capacity. -/
theorem lok_cap_own {T e : TypeId} {sz by_ : Nat} [hT : TySl P T e sz by_] {x : Operand} {j lo q k : Nat} {l : List (List D)} (hx : st.val x = some (.sl j lo q)) (hj : st.blk j = some (.bufc sz l k)) (hd : t < st.n) :
    LOk P ⟨some t, .call ⟨.builtin .cap, #[x], #[T]⟩, ty, pos, af, g⟩ st ⟨[j], [], .int .i64 ((k - lo : Nat) : Int), []⟩ :=
  lok_look hd fun _ st2 ρ H a w ag hR => by
    obtain ⟨ad, c, h1, hc, _, _⟩ := (hR.val ((ag.val x (by simp [Op.operands, Call.operands])).trans hx)).sl_inv
    obtain ⟨_, hk⟩ := hR.wr.own j _ ((ag.blk j (by simp)).trans hj)
    rw [hk] at hc
    subst hc
    exact ⟨.int .i64 ((k - lo : Nat) : Int), by simp [execOp, resolve, invoke, builtin, Builtin.cap_, h1, run_underlying hT.und, goInt], .pure (.int _ _)⟩
theorem cpo {T e : TypeId} {sz by_ : Nat} [hT : TySl P T e sz by_] {x : Operand} {j lo q k : Nat} {l : List (List D)} (hx : St.val ⟨n, tm, ow, lm⟩ x = some (.sl j lo q)) (hj : St.blk ⟨n, tm, ow, lm⟩ j = some (.bufc sz l k)) (hd : Nat.blt t n = true) (hg : Gd ops ⟨n, tm, ow, lm⟩ g)
    (h : WpD P ops r (⟨[j], [], .int .i64 ((k - lo : Nat) : Int), []⟩ :: acc) ⟨n, (t, .int .i64 ((k - lo : Nat) : Int)) :: tm, ow, lm⟩ F) : WpD P ops (⟨some t, .call ⟨.builtin .cap, #[x], #[T]⟩, ty, pos, af, g⟩ :: r) acc ⟨n, tm, ow, lm⟩ F := step (lok_cap_own hx hj (blt_lt hd)) hg rfl h

/-- s[:hi], within what is known of the buffer. -/
theorem lok_slice_up {T e : TypeId} {sz by_ : Nat} [hT : TySl P T e sz by_] {x high : Operand} {hi' : Int} {k : IntKind} {j lo0 q : Nat} {l : List (List D)} (hi : Nat) (hx : st.val x = some (.sl j lo0 q)) (hj : st.blk j = some (.buf sz l))
    (h2 : st.val high = some (.int k hi')) (hhi : hi' = (hi : Int)) (hle : lo0 + hi ≤ l.length) (hd : t < st.n) :
    LOk P ⟨some t, .slice T x none (some high) none, ty, pos, af, g⟩ st ⟨[j], [], .sl j lo0 hi, []⟩ :=
  lok_look hd fun _ st2 ρ H a w ag hR => by
    obtain ⟨ad, c, hv, hc, hcn, ha⟩ := (hR.val ((ag.val x (by simp [Op.operands])).trans hx)).sl_inv
    obtain ⟨hsz, hcap, _⟩ := hR.wr.own j _ ((ag.blk j (by simp)).trans hj)
    have hh := (hR.val ((ag.val high (by simp [Op.operands])).trans h2)).int_inv
    subst hhi
    have hb : (Instr.sliceBounds true q c none (some (a.eval high)) none).run P w = .ok (0, hi, c) w := by
      rw [hh]
      simp [Instr.sliceBounds, sliceBound_run (show hi ≤ c by omega)]
    refine ⟨.slice (if c = 0 then ad else ad.map (·.add (0 * sz))) (hi - 0) (c - 0), by simp [execOp, Instr.sliceAt, Instr.slice, run_underlying hT.und, hv, hb, sizeOf_run hT], ?_⟩
    rw [Nat.sub_zero, Nat.sub_zero]
    refine .sl j lo0 hi _ _ hc (by omega) ?_
    by_cases h0 : c = 0
    · exact .inl h0
    · refine .inr ?_
      rcases ha with h | ⟨hh', rfl⟩
      · omega
      · refine ⟨hh', ?_⟩
        rw [if_neg h0]
        have hadd : (⟨(ρ j).blk, lo0 * (ρ j).sz, none⟩ : Addr).add (0 * sz) = ⟨(ρ j).blk, lo0 * (ρ j).sz, none⟩ := by unfold Addr.add; split <;> simp_all
        rw [Option.map_some, hadd]
theorem slu {T e : TypeId} {sz by_ : Nat} [hT : TySl P T e sz by_] {x high : Operand} {hi' : Int} {k : IntKind} {j lo0 q : Nat} {l : List (List D)} (hi : Nat) (hx : St.val ⟨n, tm, ow, lm⟩ x = some (.sl j lo0 q)) (hj : St.blk ⟨n, tm, ow, lm⟩ j = some (.buf sz l))
    (h2 : St.val ⟨n, tm, ow, lm⟩ high = some (.int k hi')) (hhi : hi' = (hi : Int)) (hle : lo0 + hi ≤ l.length) (hd : Nat.blt t n = true) (hg : Gd ops ⟨n, tm, ow, lm⟩ g)
    (h : WpD P ops r (⟨[j], [], .sl j lo0 hi, []⟩ :: acc) ⟨n, (t, .sl j lo0 hi) :: tm, ow, lm⟩ F) : WpD P ops (⟨some t, .slice T x none (some high) none, ty, pos, af, g⟩ :: r) acc ⟨n, tm, ow, lm⟩ F := step (lok_slice_up hi hx hj h2 hhi hle (blt_lt hd)) hg rfl h

/-- s[:hi] of a buffer of known capacity. -/
theorem lok_slice_cap {T e : TypeId} {sz by_ : Nat} [hT : TySl P T e sz by_] {x high : Operand} {hi' : Int} {k : IntKind} {j lo0 q : Nat} {l : List (List D)} (hi cp : Nat) (hx : st.val x = some (.sl j lo0 q)) (hj : st.blk j = some (.bufc sz l cp))
    (h2 : st.val high = some (.int k hi')) (hhi : hi' = (hi : Int)) (hle : lo0 + hi ≤ l.length) (hd : t < st.n) :
    LOk P ⟨some t, .slice T x none (some high) none, ty, pos, af, g⟩ st ⟨[j], [], .sl j lo0 hi, []⟩ :=
  lok_look hd fun _ st2 ρ H a w ag hR => by
    obtain ⟨ad, c, hv, hc, hcn, ha⟩ := (hR.val ((ag.val x (by simp [Op.operands])).trans hx)).sl_inv
    obtain ⟨⟨hsz, hcap, _⟩, _⟩ := hR.wr.own j _ ((ag.blk j (by simp)).trans hj)
    have hh := (hR.val ((ag.val high (by simp [Op.operands])).trans h2)).int_inv
    subst hhi
    have hb : (Instr.sliceBounds true q c none (some (a.eval high)) none).run P w = .ok (0, hi, c) w := by
      rw [hh]
      simp [Instr.sliceBounds, sliceBound_run (show hi ≤ c by omega)]
    refine ⟨.slice (if c = 0 then ad else ad.map (·.add (0 * sz))) (hi - 0) (c - 0), by simp [execOp, Instr.sliceAt, Instr.slice, run_underlying hT.und, hv, hb, sizeOf_run hT], ?_⟩
    rw [Nat.sub_zero, Nat.sub_zero]
    refine .sl j lo0 hi _ _ hc (by omega) ?_
    by_cases h0 : c = 0
    · exact .inl h0
    · refine .inr ?_
      rcases ha with h | ⟨hh', rfl⟩
      · omega
      · refine ⟨hh', ?_⟩
        rw [if_neg h0]
        have hadd : (⟨(ρ j).blk, lo0 * (ρ j).sz, none⟩ : Addr).add (0 * sz) = ⟨(ρ j).blk, lo0 * (ρ j).sz, none⟩ := by unfold Addr.add; split <;> simp_all
        rw [Option.map_some, hadd]
theorem slc {T e : TypeId} {sz by_ : Nat} [hT : TySl P T e sz by_] {x high : Operand} {hi' : Int} {k : IntKind} {j lo0 q : Nat} {l : List (List D)} (hi cp : Nat) (hx : St.val ⟨n, tm, ow, lm⟩ x = some (.sl j lo0 q)) (hj : St.blk ⟨n, tm, ow, lm⟩ j = some (.bufc sz l cp))
    (h2 : St.val ⟨n, tm, ow, lm⟩ high = some (.int k hi')) (hhi : hi' = (hi : Int)) (hle : lo0 + hi ≤ l.length) (hd : Nat.blt t n = true) (hg : Gd ops ⟨n, tm, ow, lm⟩ g)
    (h : WpD P ops r (⟨[j], [], .sl j lo0 hi, []⟩ :: acc) ⟨n, (t, .sl j lo0 hi) :: tm, ow, lm⟩ F) : WpD P ops (⟨some t, .slice T x none (some high) none, ty, pos, af, g⟩ :: r) acc ⟨n, tm, ow, lm⟩ F := step (lok_slice_cap hi cp hx hj h2 hhi hle (blt_lt hd)) hg rfl h

/-- append(s[:i], make([]T, m)...) where there is no room: a new row, its last m rows unknown. -/
theorem lok_append_more (j' : Nat) {x y : Operand} {T T2 e : TypeId} {k : IntKind} {sz by_ m j i cap : Nat} {iy : Int} {zs : List D} {l : List (List D)} [hT : TySl P T e sz by_] [hT2 : TyI P T2 k] [hZ : TyZ P e zs] (hx : st.val x = some (.sl j 0 i)) (hj : st.blk j = some (.bufc sz l cap)) (hil : i ≤ l.length)
    (hy : st.val y = some (.int .i64 iy)) (hiy : iy = (m : Int)) (hm : 0 < m) (hgt : cap < i + m) (hroom : (2 * (i + m) + 512) * by_ ≤ 281474976710656) (hb0 : Nat.blt 0 by_ = true) (hsz0 : Nat.blt 0 sz = true) (hd : t < st.n) :
    LOk P ⟨some t, .call ⟨.builtin .append, #[x, y], #[T, T2]⟩, ty, pos, af, g⟩ st ⟨[j], [j'], .sl j' 0 (i + m), [(j', some (.buf sz (l.take i ++ List.replicate m (List.replicate sz .any))))]⟩ := by
  intro B st2 ag
  subst hiy
  have hfr := ag.fresh j' (by simp)
  refine opOk_value (fun s hs => by cases hs; rw [ag.n]; exact hd) ag.fresh fun ρ H a w hR => ?_
  have hx2 := hR.val ((ag.val x (by simp [Op.operands, Call.operands])).trans hx)
  have hy2 := (hR.val ((ag.val y (by simp [Op.operands, Call.operands])).trans hy)).int_inv
  obtain ⟨⟨ho0, ho1, ho2, ho3, ho4, hoB, hoP⟩, hoC⟩ := hR.wr.own j _ ((ag.blk j (by simp)).trans hj)
  obtain ⟨a1, c1, hv1, hc, hcn, ha⟩ := hx2.sl_inv
  rw [Nat.sub_zero, hoC] at hc
  subst hc
  have hb0' : by_ ≠ 0 := by have := blt_lt hb0; omega
  have hsz' : sz ≠ 0 := by have := blt_lt hsz0; omega
  obtain ⟨inf, hi, hi2⟩ := map_some hT.info
  simp only [Prod.mk.injEq] at hi2
  obtain ⟨inf', hi', hz1⟩ := map_some hZ.size
  have : inf' = inf := by rw [hi] at hi'; cases hi'; rfl
  subst this
  obtain ⟨v, hv, hv2⟩ := map_some hZ.zero
  have hz : inf'.zero = some v := by simpa [hi] using hv
  have hvs : v.cells.size = sz := by have := congrArg List.length hv2; simp at this; omega
  have hml : i + m ≤ 281474976710656 := by
    have h1 := Nat.le_trans (Nat.le_mul_of_pos_right _ (Nat.pos_of_ne_zero hb0')) hroom
    omega
  have hnsc := nsc_le hgt
  have hns : ¬ (Builtin.nextslicecap (i + m) c1 * by_ > 2 ^ 48) := Nat.not_lt.2 (Nat.le_trans (Nat.mul_le_mul_right _ hnsc) hroom)
  have hwrap : IntKind.i64.wrap (m : Int) = m := IntWalk.i64_in _ ⟨by omega, by omega⟩
  have hmb : m * by_ ≤ 281474976710656 := Nat.le_trans (Nat.mul_le_mul_right _ (by omega)) hroom
  have hsz : ¬ ((m : Int) * (by_ : Int) > 2 ^ 48) := by
    have : ((m * by_ : Nat) : Int) ≤ ((281474976710656 : Nat) : Int) := Int.ofNat_le.2 hmb
    rw [Int.natCast_mul] at this
    rw [show (2 : Int) ^ 48 = 281474976710656 by decide]; omega
  obtain ⟨old, hold, hos, hod⟩ : ∃ old : Array Value, (∀ w' : World, w'.heap = w.heap → (Builtin.firstCells sz i (.slice a1 i c1)).run P w' = .ok old w') ∧ old.size = i * sz ∧
      ∀ (q k : Nat) (row : List D) (d : D) (v : Value), (l.take i)[q]? = some row → row[k]? = some d → old[q * sz + k]? = some v → Den ρ H d v := by
    by_cases hl0 : i * sz = 0
    · have hi0 : i = 0 := by rcases Nat.mul_eq_zero.1 hl0 with h | h; exact h; exact absurd h hsz'
      refine ⟨#[], fun w' _ => ?_, by rw [hl0]; rfl, by simp⟩
      cases a1 with
      | none => simp [Builtin.firstCells]
      | some b =>
        have := run_loadCells_list (P := P) w' b [] (by simp)
        simpa [Builtin.firstCells, hl0] using this
    · have hlpos : 0 < i := Nat.pos_of_ne_zero fun h => hl0 (by rw [h]; simp)
      have hhere : (ρ j).here = true := by
        cases hh : (ρ j).here with
        | true => rfl
        | false => have := ho3 hh; omega
      have ha' : a1 = some ⟨(ρ j).blk, 0, none⟩ := by
        rcases ha with h | ⟨_, h2⟩
        · omega
        · simpa using h2
      subst ha'
      obtain ⟨arr, bt, hb, hbs, hbd⟩ := ho4 hhere
      have hle : i * sz ≤ arr.size := by rw [hbs, ho0]; exact Nat.mul_le_mul_right _ (by omega)
      refine ⟨arr.extract 0 (i * sz), fun w' hw => ?_, by simp; omega, fun q k row d v hq hk hv => ?_⟩
      · have := load_cells (P := P) (w := w') (b := (ρ j).blk) (off := 0) (n := i * sz) (by rw [hw]; exact hb) (by omega)
        simp only [Builtin.firstCells]
        rw [this, Nat.zero_add]
      · rw [Array.getElem?_extract] at hv
        rw [List.getElem?_take] at hq
        split at hv
        · split at hq
          · rw [Nat.zero_add] at hv; exact hbd q k row d v hq hk (by rw [ho0]; exact hv)
          · cases hq
        · cases hv
  let cap := i + m + w.tape w.drawn (.appendCap (i + m) c1 e) % (2 ^ 63 - (i + m))
  have hcap : i + m ≤ cap := Nat.le_add_right _ _
  have hmx : ¬ (((i + m : Nat) : Int) > IntKind.i64.max ∧ True) := by
    rw [show IntKind.i64.max = 9223372036854775807 from rfl]; omega
  have hmsz : ¬ (m * sz = 0) := by rw [Nat.mul_eq_zero]; omega
  have hrun : (Builtin.append_ #[T, T2] ty #[.slice a1 i c1, .int .i64 m]).run P w = .ok (.slice (some ⟨w.heap.size, 0, none⟩) (i + m) cap) ({ w with drawn := w.drawn + 1 }.alloc (.cells (old ++ Builtin.zeroCells v.cells m ++ Builtin.zeroCells v.cells (cap - (i + m))) e)) := by
    have ho' := hold { w with drawn := w.drawn + 1 } rfl
    simp only [Builtin.append_, List.getElem?_toArray, List.getElem?_cons_zero, List.getElem?_cons_succ, Sem.run_bind, run_underlying hT.und, run_underlying hT2.und, Result.andThen_ok, sizeOf, typeInfo, run_program, hi, hi2.1, hi2.2, Sem.run_pure, asInt, asIntOf, hwrap, hsz, if_false, if_true,
      show ¬ ((m : Int) < 0) by omega, Int.toNat_natCast, Nat.not_le.2 hgt, true_or, hmx, hns, run_choose, Question.forced, run_askRoom, ho', Bool.not_true, Bool.false_eq_true, hmsz, zeroValue, hz, newRow, run_newObj]
    rfl
  have hsize : (old ++ Builtin.zeroCells v.cells m ++ Builtin.zeroCells v.cells (cap - (i + m))).size = cap * sz := by
    have : i + (m + (cap - (i + m))) = cap := by omega
    simp [hos, zeroCells_size, hvs, ← Nat.add_mul, this]
  have hruneq : (execOp a.eval ⟨some t, .call ⟨.builtin .append, #[x, y], #[T, T2]⟩, ty, pos, af, g⟩).run P w = ((Builtin.append_ #[T, T2] ty #[a.eval x, a.eval y]).run P w).andThen fun v w' => .ok (.value v) w' := by
    simp [execOp, resolve, invoke, builtin]
  have hWd : WRel B st2.blk ρ H { w with drawn := w.drawn + 1 } := hR.wr.drawn rfl rfl rfl rfl
  have hlt : (l.take i).length = i := by simp; omega
  refine ⟨.slice (some ⟨w.heap.size, 0, none⟩) (i + m) cap, _, setLoc ρ j' ⟨w.heap.size, cap, sz, true⟩, H, .inl (by rw [hruneq, hv1, hy2, hrun]; rfl), ?_, GH.le_refl _, fun q hq => setLoc_ne (by simpa using hq), ?_⟩
  · exact .sl j' 0 (i + m) (some ⟨w.heap.size, 0, none⟩) cap (by rw [setLoc_eq]; rfl) (by rw [setLoc_eq]; simpa using hcap) (.inr ⟨by rw [setLoc_eq], by rw [setLoc_eq]; simp⟩)
  · refine hWd.alloc_own (hkp := hR.nokeep hfr) (b := .buf sz (l.take i ++ List.replicate m (List.replicate sz .any))) (fun q b' hq => hfr.bl q b' hq) ⟨by rw [setLoc_eq], by rw [setLoc_eq, List.length_append, hlt, List.length_replicate]; exact hcap, fun row hr => ?_, fun hh => (by rw [setLoc_eq] at hh; cases hh),
      fun _ => ⟨_, e, by rw [setLoc_eq]; exact alloc_new, by rw [setLoc_eq]; exact hsize, fun q k row d u hq hk hu => ?_⟩, by rw [List.length_append, hlt, List.length_replicate]; omega, ?_⟩ upd_blk
    · rw [setLoc_eq]
      rcases List.mem_append.1 hr with hr | hr
      · rw [ho2 row (List.mem_of_mem_take hr)]; exact ho0
      · rw [(List.mem_replicate.1 hr).2, List.length_replicate]
    · rw [setLoc_eq] at hu
      by_cases hqi : q < i
      · rw [List.getElem?_append_left (by omega)] at hq
        have hmem := List.mem_of_mem_take (List.mem_of_getElem? hq)
        have hrl := ho2 row hmem
        have hks : k < sz := by have := (List.getElem?_eq_some_iff.1 hk).1; omega
        have h1 : (q + 1) * sz ≤ i * sz := Nat.mul_le_mul_right _ hqi
        rw [Nat.succ_mul] at h1
        have hlt2 : q * sz + k < old.size := by rw [hos]; omega
        have hu : (old ++ Builtin.zeroCells v.cells m ++ Builtin.zeroCells v.cells (cap - (i + m)))[q * sz + k]? = some u := hu
        rw [Array.getElem?_append_left (by rw [Array.size_append]; omega), Array.getElem?_append_left hlt2] at hu
        refine (hod q k row d u hq hk hu).mono (GH.le_refl _) fun z hz => ?_
        rw [D.pure_has z d (D.pureL_mem ((List.all_eq_true.1 hoP) _ hmem) _ (List.mem_of_getElem? hk))] at hz; cases hz
      · rw [List.getElem?_append_right (by omega)] at hq
        have hr := (List.mem_replicate.1 (List.mem_of_getElem? hq)).2
        subst hr
        have hd := (List.mem_replicate.1 (List.mem_of_getElem? hk)).2
        subst hd
        exact .pure (.any u)
    · rw [List.all_append, Bool.and_eq_true, List.all_eq_true, List.all_eq_true]
      refine ⟨fun r hr => (List.all_eq_true.1 hoP) r (List.mem_of_mem_take hr), fun r hr => ?_⟩
      rw [(List.mem_replicate.1 hr).2]; exact pureL_any sz
theorem apm (j' : Nat) {x y : Operand} {T T2 e : TypeId} {k : IntKind} {sz by_ j i cap : Nat} {iy : Int} {zs : List D} {l : List (List D)} (m : Nat) [hT : TySl P T e sz by_] [hT2 : TyI P T2 k] [hZ : TyZ P e zs] (hx : St.val ⟨n, tm, ow, lm⟩ x = some (.sl j 0 i)) (hj : St.blk ⟨n, tm, ow, lm⟩ j = some (.bufc sz l cap)) (hil : i ≤ l.length)
    (hy : St.val ⟨n, tm, ow, lm⟩ y = some (.int .i64 iy)) (hiy : iy = (m : Int)) (hm : 0 < m) (hgt : cap < i + m) (hroom : (2 * (i + m) + 512) * by_ ≤ 281474976710656) (hb0 : Nat.blt 0 by_ = true) (hsz0 : Nat.blt 0 sz = true) (hf : St.freshB ⟨n, tm, ow, lm⟩ j' = true) (hd : Nat.blt t n = true) (hg : Gd ops ⟨n, tm, ow, lm⟩ g)
    (h : WpD P ops r (⟨[j], [j'], .sl j' 0 (i + m), [(j', some (.buf sz (l.take i ++ List.replicate m (List.replicate sz .any))))]⟩ :: acc) ⟨n, (t, .sl j' 0 (i + m)) :: tm, (j', some (.buf sz (l.take i ++ List.replicate m (List.replicate sz .any)))) :: ow, lm⟩ F) :
    WpD P ops (⟨some t, .call ⟨.builtin .append, #[x, y], #[T, T2]⟩, ty, pos, af, g⟩ :: r) acc ⟨n, tm, ow, lm⟩ F := step (lok_append_more j' hx hj hil hy hiy hm hgt hroom hb0 hsz0 (blt_lt hd)) hg (by simpa using hf) h
/-- A copy within one own buffer; of what is not copied nothing need be known. -/
theorem lok_copy_self2 {T T2 e : TypeId} {sz by_ : Nat} [hT : TySl P T e sz by_] {x y : Operand} {j lo q lo2 q2 m : Nat} {l : List (List D)} (hx : st.val x = some (.sl j lo q)) (hj : st.blk j = some (.buf sz l)) (hy : st.val y = some (.sl j lo2 q2)) (hcl : ∀ r ∈ (l.drop lo2).take m, r.all D.cell = true)
    (hm : m = min q2 q) (hm0 : 0 < m) (hln : lo + q ≤ l.length) (hln2 : lo2 + q2 ≤ l.length) (hd : t < st.n) :
    LOk P ⟨some t, .call ⟨.builtin .copy, #[x, y], #[T, T2]⟩, ty, pos, af, g⟩ st ⟨[j], [], .int .i64 m, [(j, some (.buf sz (l.take lo ++ (l.drop lo2).take m ++ l.drop (lo + m))))]⟩ := by
  intro B st2 ag
  refine opOk_value (fun s hs => by cases hs; rw [ag.n]; exact hd) ag.fresh fun ρ H a w hR => ?_
  have hx2 := hR.val ((ag.val x (by simp [Op.operands, Call.operands])).trans hx)
  have hy2 := hR.val ((ag.val y (by simp [Op.operands, Call.operands])).trans hy)
  have hj2 := (ag.blk j (by simp)).trans hj
  obtain ⟨a1, c, hv1, hc, hcn, ha⟩ := hx2.sl_inv
  obtain ⟨a2, c2, hv2, hc2, hcn2, ha2⟩ := hy2.sl_inv
  obtain ⟨ho0, ho1, ho2, ho3, ho4, hoB, hoP⟩ := hR.wr.own j _ hj2
  have hmq : m ≤ q := by omega
  have hmq2 : m ≤ q2 := by omega
  have hhere : (ρ j).here = true := by
    cases hh : (ρ j).here with
    | true => rfl
    | false => have := ho3 hh; omega
  have ha' : a1 = some ⟨(ρ j).blk, lo * (ρ j).sz, none⟩ := by
    rcases ha with h | ⟨_, h2⟩
    · omega
    · exact h2
  have ha2' : a2 = some ⟨(ρ j).blk, lo2 * (ρ j).sz, none⟩ := by
    rcases ha2 with h | ⟨_, h2⟩
    · omega
    · exact h2
  subst ha' ha2'
  obtain ⟨arr, bt, hb, hbs, hbd⟩ := ho4 hhere
  have hle : (lo + m) * sz ≤ arr.size := by rw [hbs, ho0]; exact Nat.mul_le_mul_right _ (by omega)
  have hle2 : (lo2 + m) * sz ≤ arr.size := by rw [hbs, ho0]; exact Nat.mul_le_mul_right _ (by omega)
  rw [Nat.add_mul] at hle hle2
  have hload := load_cells (P := P) (w := w) (b := (ρ j).blk) (off := lo2 * sz) (n := m * sz) hb hle2
  have hns : (arr.extract (lo2 * sz) (lo2 * sz + m * sz)).toList.length = m * sz := by simp; omega
  have hnew : ∀ (i k : Nat) (row : List D) (d : D) (v : Value), ((l.drop lo2).take m)[i]? = some row → row[k]? = some d → (arr.extract (lo2 * sz) (lo2 * sz + m * sz)).toList[i * sz + k]? = some v → Den ρ H d v := by
    intro i k row d v hi hk hv
    rw [List.getElem?_take] at hi
    split at hi
    · rw [List.getElem?_drop] at hi
      rw [Array.getElem?_toList, Array.getElem?_extract] at hv
      split at hv
      · refine hbd (lo2 + i) k row d v hi hk ?_
        rw [ho0, Nat.add_mul, Nat.add_assoc]; exact hv
      · cases hv
    · cases hi
  have hn1 : ∀ x ∈ (arr.extract (lo2 * sz) (lo2 * sz + m * sz)).toList, x.oneCell' = true := by
    intro x hx
    obtain ⟨p, hp⟩ := List.mem_iff_getElem?.1 hx
    have hpl : p < m * sz := by have := (List.getElem?_eq_some_iff.1 hp).1; rw [hns] at this; exact this
    have hs0 : 0 < sz := by rcases Nat.eq_zero_or_pos sz with h | h; subst h; simp at hpl; exact h
    have hdiv : p / sz < m := by rw [Nat.div_lt_iff_lt_mul hs0]; exact hpl
    have hmod : p % sz < sz := Nat.mod_lt _ hs0
    have hil : p / sz < ((l.drop lo2).take m).length := by simp; omega
    have hrow : ((l.drop lo2).take m)[p / sz] ∈ l := List.mem_of_mem_drop (List.mem_of_mem_take (List.getElem_mem hil))
    have hrl := ho2 _ hrow
    have hk : p % sz < (((l.drop lo2).take m)[p / sz]).length := by rw [hrl, ho0]; exact hmod
    have hden := hnew (p / sz) (p % sz) _ (((l.drop lo2).take m)[p / sz])[p % sz] x (List.getElem?_eq_getElem hil) (List.getElem?_eq_getElem hk) (by rw [Nat.mul_comm (p / sz) sz, Nat.div_add_mod]; exact hp)
    have hc := hden.cell ((List.all_eq_true.1 (hcl _ (List.getElem_mem hil))) _ (List.getElem_mem hk))
    cases x <;> simp [Value.oneCell'] <;> first | exact hc.1 _ rfl | exact hc.2 _ rfl
  generalize arr.extract (lo2 * sz) (lo2 * sz + m * sz) = new at *
  have hst := run_storeCells_at P (ρ j).blk (lo * sz) bt new.toList 0 arr w hb (by rw [hns]; omega) hn1
  simp only [Nat.add_zero, hns] at hst
  let arr' := (arr.toList.take (lo * sz) ++ new.toList ++ arr.toList.drop (lo * sz + m * sz)).toArray
  have hmin : Nat.min q2 q = m := hm.symm
  have hrun : (execOp a.eval ⟨some t, .call ⟨.builtin .copy, #[x, y], #[T, T2]⟩, ty, pos, af, g⟩).run P w = .ok (.value (.int .i64 m)) (w.setRow (ρ j).blk arr') := by
    have hfc : (Builtin.firstCells sz m (.slice (some ⟨(ρ j).blk, lo2 * sz, none⟩) q2 c2)).run P w = .ok (new) w := by simp only [Builtin.firstCells]; exact hload
    rw [ho0] at hv1 hv2
    simp [execOp, resolve, invoke, builtin, Builtin.copy_, hv1, hv2, run_underlying hT.und, Builtin.lenOf, hmin, sizeOf_run hT, hfc, hst, goInt, arr']
  have hsize : arr'.size = arr.size := by simp only [arr', List.size_toArray, List.length_append, hns, List.length_take, List.length_drop, Array.length_toList]; omega
  refine ⟨.int .i64 m, w.setRow (ρ j).blk arr', ρ, H, .inl hrun, .pure (.int _ _), GH.le_refl _, fun _ _ => rfl, ?_⟩
  refine hR.wr.write hj2 hhere (by simp [World.setRow]) (fun k hk => setRow_other w _ k _ hk) rfl rfl rfl (b' := .buf sz (l.take lo ++ (l.drop lo2).take m ++ l.drop (lo + m))) ⟨ho0, by simp; omega, fun row hr => ?_, ho3, fun _ => ⟨arr', bt, setRow_heap w _ arr _ bt (0, 0) hb, by rw [hsize, hbs], fun i k row d v hi hk hv => ?_⟩, by simp; omega, List.all_eq_true.2 fun r hr => (List.all_eq_true.1 hoP) r ?_⟩ upd_blk
  · simp only [List.mem_append] at hr
    rcases hr with (hr | hr) | hr
    · exact ho2 row (List.mem_of_mem_take hr)
    · exact ho2 row (List.mem_of_mem_drop (List.mem_of_mem_take hr))
    · exact ho2 row (List.mem_of_mem_drop hr)
  · rw [ho0] at hv
    have hrl : row.length = sz := by
      rw [← ho0]
      have hr := List.mem_of_getElem? hi
      simp only [List.mem_append] at hr
      rcases hr with (hr | hr) | hr
      · exact ho2 row (List.mem_of_mem_take hr)
      · exact ho2 row (List.mem_of_mem_drop (List.mem_of_mem_take hr))
      · exact ho2 row (List.mem_of_mem_drop hr)
    have hks : k < sz := by have := (List.getElem?_eq_some_iff.1 hk).1; omega
    have hlo : (l.take lo).length = lo := by simp; omega
    have hml : ((l.drop lo2).take m).length = m := by simp; omega
    have hg := laid_get (arr := arr.toList) (cs := new.toList) (A := lo * sz) (m := m * sz) (q := i * sz + k) hns (by simpa using hle)
    simp only [arr', List.getElem?_toArray] at hv
    rw [hg] at hv
    by_cases h1 : i < lo
    · have h2 : (i + 1) * sz ≤ lo * sz := Nat.mul_le_mul_right _ h1
      rw [Nat.succ_mul] at h2
      rw [List.append_assoc, List.getElem?_append_left (by omega), List.getElem?_take, if_pos h1] at hi
      rw [if_pos (by omega)] at hv
      exact hbd i k row d v hi hk (by rw [ho0]; simpa using hv)
    · have h2 : lo * sz ≤ i * sz := Nat.mul_le_mul_right _ (by omega)
      by_cases h3 : i < lo + m
      · have h4 : (i + 1) * sz ≤ (lo + m) * sz := Nat.mul_le_mul_right _ h3
        rw [Nat.succ_mul, Nat.add_mul] at h4
        rw [List.append_assoc, List.getElem?_append_right (by omega), hlo, List.getElem?_append_left (by omega)] at hi
        rw [if_neg (by omega), if_pos (by omega)] at hv
        exact hnew (i - lo) k row d v hi hk (by rw [Nat.sub_mul, show i * sz - lo * sz + k = i * sz + k - lo * sz by omega]; exact hv)
      · have h4 : (lo + m) * sz ≤ i * sz := Nat.mul_le_mul_right _ (by omega)
        rw [Nat.add_mul] at h4
        rw [List.getElem?_append_right (by simp; omega), List.length_append, hlo, hml, List.getElem?_drop, show lo + m + (i - (lo + m)) = i by omega] at hi
        rw [if_neg (by omega), if_neg (by omega)] at hv
        exact hbd i k row d v hi hk (by rw [ho0]; simpa using hv)
  · simp only [List.mem_append] at hr
    rcases hr with (hr | hr) | hr
    · exact List.mem_of_mem_take hr
    · exact List.mem_of_mem_drop (List.mem_of_mem_take hr)
    · exact List.mem_of_mem_drop hr
theorem cps2 {T T2 e : TypeId} {sz by_ : Nat} [hT : TySl P T e sz by_] {x y : Operand} {j lo q lo2 q2 : Nat} {l : List (List D)} (m : Nat) (l2 : List (List D)) (hx : St.val ⟨n, tm, ow, lm⟩ x = some (.sl j lo q)) (hj : St.blk ⟨n, tm, ow, lm⟩ j = some (.buf sz l)) (hy : St.val ⟨n, tm, ow, lm⟩ y = some (.sl j lo2 q2))
    (hcl : ∀ r ∈ (l.drop lo2).take m, r.all D.cell = true) (hm : m = min q2 q) (hm0 : 0 < m) (hln : lo + q ≤ l.length) (hln2 : lo2 + q2 ≤ l.length) (hl : l.take lo ++ (l.drop lo2).take m ++ l.drop (lo + m) = l2) (hd : Nat.blt t n = true) (hg : Gd ops ⟨n, tm, ow, lm⟩ g)
    (h : WpD P ops r (⟨[j], [], .int .i64 m, [(j, some (.buf sz l2))]⟩ :: acc) ⟨n, (t, .int .i64 m) :: tm, (j, some (.buf sz l2)) :: ow, lm⟩ F) : WpD P ops (⟨some t, .call ⟨.builtin .copy, #[x, y], #[T, T2]⟩, ty, pos, af, g⟩ :: r) acc ⟨n, tm, ow, lm⟩ F := by
  subst hl; exact step (lok_copy_self2 hx hj hy hcl hm hm0 hln hln2 (blt_lt hd)) hg rfl h
/-- slices.overlaps, of a buffer of the call's own and a part of another one. -/
theorem lok_overlaps {xs : Array Operand} {ats : Array TypeId} {fid : FuncId} {fn : Func} {tS tR e : TypeId} {sz by_ j1 n1 j2 lo q : Nat} {l1 l2 : List (List D)} {y : Operand} [hT : TySl P tS e sz by_] (hf : P.funcs[fid]? = some fn) (hname : (fn.name == "runtime.NumGoroutine") = false) (hb : fn.body.isNone = true) (hn : Extern.findNext fn = none)
    (he : Extern.find fn = some (Extern.SlicesOverlaps.overlaps #[tS, tS] #[tR])) (hy : st.val y = some (.fn fid [])) (hx : st.vals xs.toList = some [.sl j1 0 n1, .sl j2 lo q]) (hne : j1 ≠ j2) (h1 : st.blk j1 = some (.buf sz l1)) (h2 : st.blk j2 = some (.buf sz l2)) (hl1 : 0 < l1.length) (hl2 : lo < l2.length) (hsz : Nat.blt 0 sz = true) (hd : t < st.n) :
    LOk P ⟨some t, .call ⟨.value y, xs, ats⟩, ty, pos, af, g⟩ st ⟨[j1, j2], [], .bool false, []⟩ := by
  intro B st2 ag
  refine opOk_value (fun s hs => by cases hs; rw [ag.n]; exact hd) ag.fresh fun ρ H a w hR => ?_
  have hs0 := blt_lt hsz
  have hx2 : st2.vals xs.toList = some [.sl j1 0 n1, .sl j2 lo q] := by rw [← hx]; exact vals_congr fun x hx => ag.val x (by simp [Op.operands, Call.operands] at hx ⊢; exact .inr hx)
  obtain ⟨cs, e1, e2, e3⟩ := (hR.val ((ag.val y (by simp [Op.operands, Call.operands])).trans hy)).fn_inv
  obtain rfl : cs = #[] := Array.eq_empty_of_size_eq_zero (by simpa using e2)
  obtain ⟨h4, h5⟩ := hR.vals hx2
  have hl : xs.size = 2 := by simpa using h4.symm
  obtain ⟨x1, x2, rfl⟩ : ∃ x1 x2, xs = #[x1, x2] := by
    obtain ⟨l⟩ := xs
    match l, hl with
    | [a, b], _ => exact ⟨a, b, rfl⟩
  have g1 := h5 0 _ (a.eval x1) rfl rfl
  have g2 := h5 1 _ (a.eval x2) rfl rfl
  obtain ⟨a1, c1, k1, k2, k3, k4⟩ := g1.sl_inv
  obtain ⟨a2, c2, m1, m2, m3, m4⟩ := g2.sl_inv
  have o1 := hR.wr.own j1 _ ((ag.blk j1 (by simp)).trans h1)
  have o2 := hR.wr.own j2 _ ((ag.blk j2 (by simp)).trans h2)
  obtain ⟨p0, p1, p2, p3, p4, pB, pP⟩ := o1
  obtain ⟨q0, q1, q2, q3, q4, qB, qP⟩ := o2
  have hh1 : (ρ j1).here = true := by
    cases hh : (ρ j1).here with
    | true => rfl
    | false => have := p3 hh; omega
  have hh2 : (ρ j2).here = true := by
    cases hh : (ρ j2).here with
    | true => rfl
    | false => have := q3 hh; omega
  have ha1 : a1 = some ⟨(ρ j1).blk, 0, none⟩ := by
    rcases k4 with h | ⟨_, h⟩
    · omega
    · simpa using h
  have ha2 : a2 = some ⟨(ρ j2).blk, lo * (ρ j2).sz, none⟩ := by
    rcases m4 with h | ⟨_, h⟩
    · omega
    · exact h
  subst ha1 ha2
  obtain ⟨arr1, t1, w1, w2, _⟩ := p4 hh1
  obtain ⟨arr2, t2, v1, v2, _⟩ := q4 hh2
  have hbn := hR.wr.sep j1 j2 _ _ ((ag.blk j1 (by simp)).trans h1) ((ag.blk j2 (by simp)).trans h2) hne hh1 hh2
  have hpos2 : arr2.size ≠ 0 := by rw [v2]; exact Nat.pos_iff_ne_zero.1 (Nat.mul_pos (by omega) (by omega))
  have hov := Lib.run_overlaps_apart (P := P) w tS tR e hT.und sz (fun w => sizeOf_run hT) ⟨(ρ j1).blk, 0, none⟩ ⟨(ρ j2).blk, lo * (ρ j2).sz, none⟩ n1 c1 q c2 hbn t1 t2 arr1.size arr2.size (by simp [World.shape?, w1]) (by simp [World.shape?, v1]) hpos2 (by simp [World.frozen?, w1]) (by simp [World.frozen?, w1])
  refine ⟨.bool false, w, ρ, H, .inl ?_, .pure (.bool _), GH.le_refl _, fun _ _ => rfl, hR.wr.bl_eq fun k c hk => by rw [St.app_blk] at hk; exact hk⟩
  have hcall := run_callFunc_extern hf hname hb hn he #[.slice (some ⟨(ρ j1).blk, 0, none⟩) n1 c1, .slice (some ⟨(ρ j2).blk, lo * (ρ j2).sz, none⟩) q c2] w
  rw [hov] at hcall
  simp [execOp, resolve, e1, Deferred.ofValue, invoke, k1, m1, hcall, Result.andThen]
theorem ovl {xs : Array Operand} {ats : Array TypeId} {fid : FuncId} {fn : Func} {tS tR e : TypeId} {sz by_ j1 n1 j2 lo q : Nat} {l1 l2 : List (List D)} {y : Operand} [hT : TySl P tS e sz by_] (hf : P.funcs[fid]? = some fn) (hname : (fn.name == "runtime.NumGoroutine") = false) (hb : fn.body.isNone = true) (hn : Extern.findNext fn = none)
    (he : Extern.find fn = some (Extern.SlicesOverlaps.overlaps #[tS, tS] #[tR])) (hy : St.val ⟨n, tm, ow, lm⟩ y = some (.fn fid [])) (hx : St.vals ⟨n, tm, ow, lm⟩ xs.toList = some [.sl j1 0 n1, .sl j2 lo q]) (hne : j1 ≠ j2) (h1 : St.blk ⟨n, tm, ow, lm⟩ j1 = some (.buf sz l1)) (h2 : St.blk ⟨n, tm, ow, lm⟩ j2 = some (.buf sz l2)) (hl1 : 0 < l1.length)
    (hl2 : lo < l2.length) (hsz : Nat.blt 0 sz = true) (hd : Nat.blt t n = true) (hg : Gd ops ⟨n, tm, ow, lm⟩ g) (h : WpD P ops r (⟨[j1, j2], [], .bool false, []⟩ :: acc) ⟨n, (t, .bool false) :: tm, ow, lm⟩ F) : WpD P ops (⟨some t, .call ⟨.value y, xs, ats⟩, ty, pos, af, g⟩ :: r) acc ⟨n, tm, ow, lm⟩ F :=
  step (lok_overlaps hf hname hb hn he hy hx hne h1 h2 hl1 hl2 hsz (blt_lt hd)) hg rfl h
/-- A call that is handed two own buffers, and hands none back. -/
theorem clBB (j1 j2 : Nat) {y : Operand} {xs : Array Operand} {ats : Array TypeId} {fn : FuncId} {ds caps : List D} {sz1 sz2 : Nat} {l1 l2 : List (List D)} (hy : St.val ⟨n, tm, ow, lm⟩ y = some (.fn fn caps)) (hx : St.vals ⟨n, tm, ow, lm⟩ xs.toList = some ds) (h1 : St.blk ⟨n, tm, ow, lm⟩ j1 = some (.buf sz1 l1)) (h2 : St.blk ⟨n, tm, ow, lm⟩ j2 = some (.buf sz2 l2))
    (hs : FnG P fn (ds ++ caps) [(j1, .buf sz1 l1), (j2, .buf sz2 l2)] d [] []) (hp : d.pureB = true) (hd : Nat.blt t n = true) (hg : Gd ops ⟨n, tm, ow, lm⟩ g)
    (h : WpD P ops r (⟨[j1, j2], [], d, [(j1, none), (j2, none)]⟩ :: acc) ⟨n, (t, d) :: tm, (j1, none) :: (j2, none) :: ow, lm⟩ F) : WpD P ops (⟨some t, .call ⟨.value y, xs, ats⟩, ty, pos, af, g⟩ :: r) acc ⟨n, tm, ow, lm⟩ F := by
  refine step (lok_callG (nw := []) (wr := [(j1, none), (j2, none)]) hy hx hs (fun j b hj => ?_) (fun j hj => by rw [D.pure_has j d hp] at hj; cases hj) (fun j b hj => by cases hj) (fun j hj => by cases hj) (fun bk j b hb => ?_) (blt_lt hd)) hg rfl h
  · rw [alook_cons, alook_cons] at hj
    split at hj
    · rename_i e; cases hj; subst e; exact h1
    · split at hj
      · rename_i e; cases hj; subst e; exact h2
      · cases hj
  · rw [blkOn_cons, blkOn_cons] at hb
    refine .inr ⟨by simp [names], ?_, ?_⟩
    · rw [alook_cons, alook_cons]
      by_cases e1 : j1 = j
      · rw [if_pos e1] at hb; cases hb
      · rw [if_neg e1] at hb ⊢
        by_cases e2 : j2 = j
        · rw [if_pos e2] at hb; cases hb
        · rw [if_neg e2]; rfl
    · by_cases e1 : j1 = j
      · rw [if_pos e1] at hb; cases hb
      · rw [if_neg e1] at hb
        by_cases e2 : j2 = j
        · rw [if_pos e2] at hb; cases hb
        · rw [if_neg e2] at hb; exact hb
end
end Go.Eng
