/- The engine, part B: what one operation does to the abstract state; a region, in whatever order its edges allow. No program in sight. -/
import Derived.Test.YtoleablcjdbeiaaEngA
namespace Go.Eng
open Go

/-- What an operation does: which own blocks it looks at, which names it gives to new ones, what its slot holds, what becomes of own blocks. -/
structure Eff where
  touch : List Nat
  new : List Nat
  dst : D
  wr : List (Nat × Option Blk)

def St.app (st : St) (dst : Option Tmp) (e : Eff) : St :=
  { n := st.n, tmps := match dst with | some t => (t, e.dst) :: st.tmps | none => st.tmps, own := e.wr ++ st.own }

/-- An entry that is laid into a map of the call's own, whatever else is laid into it. -/
def Eff.plus? (e : Eff) : Option (Nat × Option (List Nat) × D × D) := match e.wr with
  | [(j, some (.plus o kd vd))] => some (j, o, kd, vd)
  | _ => none
/-- One map is the other's, and else has keys that are not this one. -/
def PlusRel (o : Option (List Nat)) (kd : D) (b b2 : Option Blk) : Prop := ∀ l, b = some (.map l) → ∃ l2, b2 = some (.map l2) ∧ ∀ q ∈ l2, q ∈ l ∨ eqKD o kd q.1 = some false

structure Agree (o : Oper) (e : Eff) (st st2 : St) : Prop where
  n : st2.n = st.n
  val : ∀ x ∈ o.op.operands.toList, st2.val x = st.val x
  blk : ∀ j ∈ e.touch, st2.blk j = st.blk j
  fresh : ∀ j ∈ e.new, st2.Fresh j
  plus : ∀ j q kd vd, e.plus? = some (j, q, kd, vd) → PlusRel q kd (st.blk j) (st2.blk j)

theorem PlusRel.refl (o : Option (List Nat)) (kd : D) (b : Option Blk) : PlusRel o kd b b := fun l h => ⟨l, h, fun _ hq => .inl hq⟩
theorem PlusRel.both {o : Option (List Nat)} {kd k v : D} {b b2 : Option Blk} (h : PlusRel o kd b b2) : PlusRel o kd (addP b k v) (addP b2 k v) := by
  intro l hl
  unfold addP at hl
  split at hl
  · cases hl
    rename_i l0
    obtain ⟨l2, rfl, h2⟩ := h l0 rfl
    refine ⟨l2 ++ [(k, v)], rfl, fun q hq => ?_⟩
    rcases List.mem_append.1 hq with hq | hq
    · rcases h2 q hq with h3 | h3
      · exact .inl (List.mem_append_left _ h3)
      · exact .inr h3
    · exact .inl (List.mem_append_right _ hq)
  · cases hl
theorem PlusRel.left {o : Option (List Nat)} {kd k v : D} {b b2 : Option Blk} (h : PlusRel o kd b b2) : PlusRel o kd (addP b k v) b2 := by
  intro l hl
  unfold addP at hl
  split at hl
  · cases hl
    rename_i l0
    obtain ⟨l2, h1, h2⟩ := h l0 rfl
    refine ⟨l2, h1, fun q hq => ?_⟩
    rcases h2 q hq with h3 | h3
    · exact .inl (List.mem_append_left _ h3)
    · exact .inr h3
  · cases hl
theorem PlusRel.right {o : Option (List Nat)} {kd k v : D} {b b2 : Option Blk} (h : PlusRel o kd b b2) (hk : eqKD o kd k = some false) : PlusRel o kd b (addP b2 k v) := by
  intro l hl
  obtain ⟨l2, rfl, h2⟩ := h l hl
  refine ⟨l2 ++ [(k, v)], rfl, fun q hq => ?_⟩
  rcases List.mem_append.1 hq with hq | hq
  · exact h2 q hq
  · simp only [List.mem_singleton] at hq; subst hq; exact .inr hk
theorem PlusRel.blkOn {o : Option (List Nat)} {kd : D} {b b2 : Option Blk} (h : PlusRel o kd b b2) (l : List (Nat × Option Blk)) (j : Nat) : PlusRel o kd (blkOn b l j) (blkOn b2 l j) := by
  induction l with
  | nil => exact h
  | cons p l ih =>
    obtain ⟨s, x⟩ := p
    simp only [blkOn_cons]
    split
    · unfold plusOn
      split
      · exact ih.both
      · exact .refl _ _ _
    · exact ih

/-- Blocks that are the same, but for the order of maps' entries. -/
def OPerm (b b' : Option Blk) : Prop := b = b' ∨ ∃ l l', b = some (.map l) ∧ b' = some (.map l') ∧ l.Perm l'
theorem OPerm.refl (b : Option Blk) : OPerm b b := .inl rfl
theorem OPerm.trans {a b c : Option Blk} (h : OPerm a b) (h' : OPerm b c) : OPerm a c := by
  rcases h with rfl | ⟨l, l', rfl, rfl, hp⟩
  · exact h'
  · rcases h' with rfl | ⟨m, m', h1, rfl, hq⟩
    · exact .inr ⟨l, l', rfl, rfl, hp⟩
    · cases h1; exact .inr ⟨l, m', rfl, rfl, hp.trans hq⟩
theorem OPerm.addP {b b' : Option Blk} {k v : D} (h : OPerm b b') : OPerm (addP b k v) (addP b' k v) := by
  rcases h with rfl | ⟨l, l', rfl, rfl, hp⟩
  · exact .refl _
  · exact .inr ⟨_, _, rfl, rfl, hp.append_right _⟩
theorem OPerm.swap (b : Option Blk) (k v k' v' : D) : OPerm (Eng.addP (Eng.addP b k v) k' v') (Eng.addP (Eng.addP b k' v') k v) := by
  match b with
  | some (.map l) =>
    refine .inr ⟨_, _, rfl, rfl, ?_⟩
    simp only [List.append_assoc, List.cons_append, List.nil_append]
    exact List.Perm.append_left _ (List.Perm.swap _ _ _)
  | some (.cells _ _) => exact .refl _
  | some (.buf _ _) => exact .refl _
  | some (.plus _ _ _) => exact .refl _
  | none => exact .refl _

def OpOk (P : Program) (B : Base) (o : Oper) (st : St) (e : Eff) : Prop :=
  ∀ ρ H a w, Rel B st ρ H a w → ∀ (K : Act → World → Prop) (Q : Exit → Act → World → Prop),
    (∀ v ρ' H' w', Rel B (st.app o.dst e) ρ' H' (a.put o.dst v) w' → K (a.put o.dst v) w') → o.wp P a w K Q

/-- The operation does so in every state that agrees with this one on what it looks at. -/
def LOk (P : Program) (o : Oper) (st : St) (e : Eff) : Prop := ∀ B st2, Agree o e st st2 → OpOk P B o st2 e

def skipEff : Eff := ⟨[], [], .tup [], []⟩

inductive GOk (P : Program) (ops : Array Oper) (o : Oper) (st : St) (e : Eff) : Prop
  | plain (hg : o.guard = none) (h : LOk P o st e)
  | wanted (g : Nat) (want : Bool) (s : Nat) (hg : o.guard = some (g, want)) (hs : (ops[g]?).bind (·.dst) = some s) (hb : st.get s = some (.bool want)) (h : LOk P o st e)
  | passed (g : Nat) (want : Bool) (s : Nat) (hg : o.guard = some (g, want)) (hs : (ops[g]?).bind (·.dst) = some s)
      (hb : st.get s = some (.bool (!want)) ∨ st.get s = some (.tup [])) (hd : ∀ t, o.dst = some t → t < st.n) (he : e = skipEff)

def WpD (P : Program) (ops : Array Oper) : List Oper → List Eff → St → (List Eff → St → Prop) → Prop
  | [], acc, st, F => F acc.reverse st
  | o :: r, acc, st, F => ∃ e, GOk P ops o st e ∧ e.new.all st.freshB = true ∧ WpD P ops r (e :: acc) (st.app o.dst e) F

def Wp (P : Program) (c : Code) (Q : Exit → St → Prop) (st : St) : Prop :=
  ∀ B ρ H a w, Rel B st ρ H a w → c.wp P (fun e a' w' => ∃ st' ρ' H', Rel B st' ρ' H' a' w' ∧ Q e st') a w

theorem Rel.congr {B : Base} {st st' : St} {ρ : Nat → Loc} {H : GH} {a : Act} {w : World} (h : Rel B st ρ H a w) (hn : st'.n = st.n)
    (hg : ∀ t d, st'.get t = some d → st.get t = some d) (hb : ∀ j b, st'.blk j = some b → st.blk j = some b) : Rel B st' ρ H a w :=
  ⟨by rw [hn]; exact h.sz, h.df, fun t d ht => h.tm t d (hg t d ht),
   ⟨fun j b hj => h.wr.own j b (hb j b hj), fun j k b c hj hk => h.wr.sep j k b c (hb j b hj) (hb k c hk), fun j b hj => h.wr.new j b (hb j b hj),
    fun j b hj => h.wr.np j b (hb j b hj), h.wr.pers, h.wr.hext, h.wr.hnew, h.wr.size, h.wr.frame, h.wr.os, h.wr.tape, h.wr.output⟩⟩
theorem Rel.congrP {B : Base} {st st' : St} {ρ : Nat → Loc} {H : GH} {a : Act} {w : World} (h : Rel B st ρ H a w) (hn : st'.n = st.n)
    (hg : ∀ t, st'.get t = st.get t) (hb : ∀ j, OPerm (st.blk j) (st'.blk j)) : Rel B st' ρ H a w := by
  have key : ∀ j b, st'.blk j = some b → ∃ b0, st.blk j = some b0 ∧ BlkPerm b0 b := fun j b hj => by
    rcases hb j with h1 | ⟨l, l', h1, h2, hp⟩
    · exact ⟨b, by rw [h1]; exact hj, .inl rfl⟩
    · rw [h2] at hj; cases hj; exact ⟨_, h1, .inr ⟨l, l', rfl, rfl, hp⟩⟩
  refine ⟨by rw [hn]; exact h.sz, h.df, fun t d ht => h.tm t d (by rw [← hg]; exact ht), ⟨fun j b hj => ?_, fun j k b c hj hk => ?_, fun j b hj => ?_, fun j b hj => ?_, h.wr.pers, h.wr.hext, h.wr.hnew, h.wr.size, h.wr.frame, h.wr.os, h.wr.tape, h.wr.output⟩⟩
  · obtain ⟨b0, h1, h2⟩ := key j b hj; exact (h.wr.own j b0 h1).perm h2
  · obtain ⟨b0, h1, _⟩ := key j b hj; obtain ⟨c0, h2, _⟩ := key k c hk; exact h.wr.sep j k b0 c0 h1 h2
  · obtain ⟨b0, h1, _⟩ := key j b hj; exact h.wr.new j b0 h1
  · obtain ⟨b0, h1, _⟩ := key j b hj; exact h.wr.np j b0 h1

theorem Rel.drawn {B : Base} {st : St} {ρ : Nat → Loc} {H : GH} {a : Act} {w w' : World} (h : Rel B st ρ H a w) (hh : w'.heap = w.heap) (ho : w'.os = w.os) (ht : w'.tape = w.tape)
    (hp : w'.output = w.output) : Rel B st ρ H a w' := by
  refine ⟨h.sz, h.df, h.tm, ?_⟩
  have k := h.wr
  refine ⟨fun j b hj => ?_, k.sep, k.new, k.np, by rw [hh]; exact k.pers, k.hext, k.hnew, by rw [hh]; exact k.size, by rw [hh]; exact k.frame, by rw [ho]; exact k.os, by rw [ht]; exact k.tape, by rw [hp]; exact k.output⟩
  exact (k.own j b hj).mono (GH.le_refl _) rfl (fun _ _ => rfl) (fun _ => by rw [hh])

theorem St.app_get (st : St) (dst : Option Tmp) (e : Eff) (t : Nat) : (st.app dst e).get t = if dst = some t then some e.dst else st.get t := by
  cases dst with
  | none => simp [St.app, St.get]
  | some s => simp only [St.app, St.get, alook_cons, Option.some.injEq]
theorem St.app_blk (st : St) (dst : Option Tmp) (e : Eff) (j : Nat) : (st.app dst e).blk j = blkOn (st.blk j) e.wr j := by
  simp only [St.app, St.blk, blkOn_append]

/-- The guard's word, on a frame that the state describes. -/
theorem wanted_of {B : Base} {st : St} {ρ : Nat → Loc} {H : GH} {a : Act} {w : World} (h : Rel B st ρ H a w) {ops : Array Oper} {o : Oper} {g s : Nat} {want : Bool}
    (hg : o.guard = some (g, want)) (hs : (ops[g]?).bind (·.dst) = some s) :
    (st.get s = some (.bool want) → Region.wanted o (yielded ops a.tmps) = true) ∧
    (st.get s = some (.bool (!want)) ∨ st.get s = some (.tup []) → Region.wanted o (yielded ops a.tmps) = false) := by
  simp only [Region.wanted, hg, yielded, hs, Option.bind_some]
  constructor
  · intro hb
    obtain ⟨v, hv, hd⟩ := h.tm _ _ hb
    rw [hv, hd.bool_inv]; simp
  · rintro (hb | hb)
    · obtain ⟨v, hv, hd⟩ := h.tm _ _ hb
      rw [hv, hd.bool_inv]; cases want <;> simp
    · obtain ⟨v, hv, hd⟩ := h.tm _ _ hb
      obtain ⟨cs, rfl, _, _⟩ := hd.tup_inv
      rw [hv]; simp

theorem rel_put {B : Base} {st : St} {ρ : Nat → Loc} {H : GH} {a : Act} {w : World} (h : Rel B st ρ H a w) {dst : Option Tmp} {v : Value} {d : D} (hd : ∀ t, dst = some t → t < st.n)
    (hv : Den ρ H d v) : Rel B (st.app dst ⟨[], [], d, []⟩) ρ H (a.put dst v) w := by
  refine ⟨?_, ?_, fun t d' ht => ?_, ?_⟩
  · cases dst <;> simp [Act.put, St.app, h.sz]
  · cases dst <;> simp [Act.put, h.df]
  · rw [St.app_get] at ht
    cases dst with
    | none => simp at ht; exact h.tm t d' ht
    | some s =>
      by_cases hst : s = t
      · subst hst; simp at ht; subst ht
        exact ⟨v, by simp [Act.put, h.sz, hd s rfl], hv⟩
      · simp [hst] at ht
        obtain ⟨v', h1, h2⟩ := h.tm t d' ht
        exact ⟨v', by simp [Act.put, Array.getElem?_setIfInBounds_ne hst, h1], h2⟩
  · have : (st.app dst ⟨[], [], d, []⟩).blk = st.blk := by funext j; rw [St.app_blk]; rfl
    rw [this]; exact h.wr

section order
variable {P : Program} {ops : Array Oper} {effs : List Eff} {st0 : St}

def stX (ops : Array Oper) (effs : List Eff) (st0 : St) (X : Nat → Bool) : Nat → St
  | 0 => st0
  | m + 1 => if X m then (match ops[m]?, effs[m]? with | some o, some e => (stX ops effs st0 X m).app o.dst e | _, _ => stX ops effs st0 X m) else stX ops effs st0 X m

def wT (ops : Array Oper) (effs : List Eff) (k t : Nat) : Prop := ∃ o e, ops[k]? = some o ∧ effs[k]? = some e ∧ o.dst = some t
def wB (ops : Array Oper) (effs : List Eff) (k j : Nat) : Prop := ∃ o e, ops[k]? = some o ∧ effs[k]? = some e ∧ (alook e.wr j).isSome = true

theorem stX_n (X : Nat → Bool) (m : Nat) : (stX ops effs st0 X m).n = st0.n := by
  induction m with
  | zero => rfl
  | succ m ih => simp only [stX]; split; (split <;> simp [St.app, ih]); exact ih

theorem stX_get_congr {X Y : Nat → Bool} {t : Nat} : ∀ m, (∀ k, k < m → wT ops effs k t → X k = Y k) → (stX ops effs st0 X m).get t = (stX ops effs st0 Y m).get t := by
  intro m
  induction m with
  | zero => intro _; rfl
  | succ m ih =>
    intro h
    have ih' := ih fun k hk => h k (by omega)
    simp only [stX]
    cases ho : ops[m]? with
    | none => simp [ih']
    | some o =>
      cases he : effs[m]? with
      | none => simp [ih']
      | some e =>
        by_cases hd : o.dst = some t
        · rw [h m (by omega) ⟨o, e, ho, he, hd⟩]
          split
          · simp [St.app_get, hd]
          · exact ih'
        · have key : ∀ (s : St) (b : Bool), (if b = true then s.app o.dst e else s).get t = s.get t := by intro s b; split <;> simp [St.app_get, hd]
          simp only [key]; exact ih'

theorem stX_blk_congr {X Y : Nat → Bool} {j : Nat} : ∀ m, (∀ k, k < m → wB ops effs k j → X k = Y k) → (stX ops effs st0 X m).blk j = (stX ops effs st0 Y m).blk j := by
  intro m
  induction m with
  | zero => intro _; rfl
  | succ m ih =>
    intro h
    have ih' := ih fun k hk => h k (by omega)
    simp only [stX]
    cases ho : ops[m]? with
    | none => simp [ih']
    | some o =>
      cases he : effs[m]? with
      | none => simp [ih']
      | some e =>
        cases hw : alook e.wr j with
        | some b =>
          rw [h m (by omega) ⟨o, e, ho, he, by simp [hw]⟩]
          split
          · simp [St.app_blk, ih']
          · exact ih'
        | none =>
          have key : ∀ (s : St) (b : Bool), (if b = true then s.app o.dst e else s).blk j = s.blk j := by intro s b; split <;> simp [St.app_blk, blkOn_none hw]
          simp only [key]; exact ih'

theorem stX_prefix {i : Nat} : ∀ m, i ≤ m → stX ops effs st0 (fun k => decide (k < i)) m = stX ops effs st0 (fun _ => true) i := by
  have low : ∀ m, m ≤ i → stX ops effs st0 (fun k => decide (k < i)) m = stX ops effs st0 (fun _ => true) m := by
    intro m
    induction m with
    | zero => intro _; rfl
    | succ m ih => intro h; simp only [stX, ih (by omega)]; simp [show m < i by omega]
  intro m
  induction m with
  | zero => intro h; obtain rfl : i = 0 := by omega
            exact low 0 (Nat.le_refl _)
  | succ m ih =>
    intro h
    by_cases hi : i ≤ m
    · simp only [stX]; rw [if_neg (by simp; omega)]; exact ih hi
    · exact low _ (by omega) |>.trans (by rw [show m + 1 = i by omega])

theorem stX_get_from {X : Nat → Bool} {t : Nat} {d : D} : ∀ m, (stX ops effs st0 X m).get t = some d → st0.get t = some d ∨ ∃ k e, k < m ∧ X k = true ∧ effs[k]? = some e ∧ e.dst = d := by
  intro m
  induction m with
  | zero => intro h; exact .inl h
  | succ m ih =>
    intro h
    simp only [stX] at h
    split at h
    · rename_i hx
      split at h
      · rename_i o e ho he
        rw [St.app_get] at h
        split at h
        · simp at h; exact .inr ⟨m, e, by omega, hx, he, h⟩
        · rcases ih h with h | ⟨k, e, h1, h2⟩
          · exact .inl h
          · exact .inr ⟨k, e, by omega, h2⟩
      · rcases ih h with h | ⟨k, e, h1, h2⟩
        · exact .inl h
        · exact .inr ⟨k, e, by omega, h2⟩
    · rcases ih h with h | ⟨k, e, h1, h2⟩
      · exact .inl h
      · exact .inr ⟨k, e, by omega, h2⟩

theorem stX_blk_from {X : Nat → Bool} {k j : Nat} : ∀ m, optHas j ((stX ops effs st0 X m).blk k) = true → optHas j (st0.blk k) = true ∨ ∃ q e, q < m ∧ X q = true ∧ effs[q]? = some e ∧ (e.wr.any fun p => optHas j p.2) = true := by
  intro m
  induction m with
  | zero => intro h; exact .inl h
  | succ m ih =>
    intro h
    have lift : (optHas j (st0.blk k) = true ∨ ∃ q e, q < m ∧ X q = true ∧ effs[q]? = some e ∧ (e.wr.any fun p => optHas j p.2) = true) →
        optHas j (st0.blk k) = true ∨ ∃ q e, q < m + 1 ∧ X q = true ∧ effs[q]? = some e ∧ (e.wr.any fun p => optHas j p.2) = true := by
      rintro (h | ⟨q, e, h1, h2⟩)
      · exact .inl h
      · exact .inr ⟨q, e, by omega, h2⟩
    simp only [stX] at h
    split at h
    · rename_i hx
      split at h
      · rename_i o e ho he
        rw [St.app_blk] at h
        rcases blkOn_has h with ⟨p, hp, _, h1⟩ | h1
        · exact .inr ⟨m, e, by omega, hx, he, List.any_eq_true.2 ⟨p, hp, h1⟩⟩
        · exact lift (ih h1)
      · exact lift (ih h)
    · exact lift (ih h)

def Eff.mention (e : Eff) (j : Nat) : Bool := D.has j e.dst || e.touch.contains j || e.wr.any fun p => Nat.beq p.1 j || optHas j p.2
def Eff.writes (e : Eff) (j : Nat) : Bool := (alook e.wr j).isSome
/-- Two entries of one map, with keys that are not one. -/
def Eff.commute (x y : Eff) : Bool := match x.plus?, y.plus? with
  | some (j, o, kd, _), some (j', o', kd', _) => Nat.beq j j' && eqKD o kd kd' == some false && eqKD o' kd' kd == some false
  | _, _ => false
def Eff.clash (x y : Eff) : Bool := x.wr.any (fun p => y.touch.contains p.1 || (y.writes p.1 && !x.commute y)) || y.wr.any (fun p => x.touch.contains p.1) || x.new.any y.mention
def pairOk (bs : Array Nat) (ops : Array Oper) (effs : List Eff) (i k : Nat) : Bool :=
  match ops[i]?, ops[k]?, effs[i]?, effs[k]? with
  | some oi, some ok, some ei, some ek => ((oi.apart ops ok && !ei.clash ek) || (bs.getD k 0).testBit i) && !ek.new.any ei.mention
  | _, _, _, _ => true
/-- Whatever the order: two operations that the edges leave open do not look at one another's work. -/
def okDraw (ops : Array Oper) (effs : List Eff) : Bool :=
  let bs := Region.before ops
  (List.range ops.size).all fun k => (List.range k).all fun i => pairOk bs ops effs i k

def edgesIn (ops : Array Oper) (X : Nat → Bool) (k : Nat) : Prop := ∀ o, ops[k]? = some o → ∀ e ∈ o.after, Region.binds .any e = true → X e.on = true
def Closed (ops : Array Oper) (X : Nat → Bool) : Prop := ∀ k, X k = true → edgesIn ops X k

theorem after_fold_bit (acc : Array Nat) (X : Nat → Bool) (i : Nat) : ∀ (l : List Edge) (s : Nat),
    (l.foldl (fun s e => if Region.binds .any e then s ||| 2 ^ e.on ||| acc.getD e.on 0 else s) s).testBit i = true →
      s.testBit i = true ∨ ∃ e ∈ l, Region.binds .any e = true ∧ (e.on = i ∨ (acc.getD e.on 0).testBit i = true)
  | [], s, h => .inl h
  | e :: l, s, h => by
    simp only [List.foldl_cons] at h
    rcases after_fold_bit acc X i l _ h with h1 | ⟨e', he', h2⟩
    · split at h1
      · rename_i hb
        simp only [Nat.testBit_or, Bool.or_eq_true, Nat.testBit_two_pow] at h1
        rcases h1 with (h1 | h1) | h1
        · exact .inl h1
        · exact .inr ⟨e, .head _, hb, .inl (by simpa using h1)⟩
        · exact .inr ⟨e, .head _, hb, .inr h1⟩
      · exact .inl h1
    · exact .inr ⟨e', .tail _ he', h2⟩

theorem before_spec (ops : Array Oper) : ∀ k i, ((Region.before ops).getD k 0).testBit i = true → ∀ X, Closed ops X → edgesIn ops X k → X i = true := by
  have key : ∀ (l : List Oper) (acc : Array Nat), (∀ k i, (acc.getD k 0).testBit i = true → ∀ X, Closed ops X → edgesIn ops X k → X i = true) →
      (∀ j, l[j]? = ops[acc.size + j]?) → ∀ k i, ((l.foldl (fun acc o => acc.push (o.after.foldl (fun s e => if Region.binds .any e then s ||| 2 ^ e.on ||| acc.getD e.on 0 else s) 0)) acc).getD k 0).testBit i = true →
        ∀ X, Closed ops X → edgesIn ops X k → X i = true := by
    intro l
    induction l with
    | nil => intro acc h _; exact h
    | cons o l ih =>
      intro acc h hl
      simp only [List.foldl_cons]
      refine ih _ ?_ (fun j => by have := hl (j + 1); simp only [List.getElem?_cons_succ] at this; rw [this, Array.size_push]; congr 1; omega)
      intro k i hb X hC hE
      by_cases hk : k = acc.size
      · subst hk
        have ho : ops[acc.size]? = some o := by simpa using (hl 0).symm
        rw [Array.getD_eq_getD_getElem?] at hb
        simp only [Array.getElem?_push_size, Option.getD_some] at hb
        rw [← Array.foldl_toList] at hb
        rcases after_fold_bit acc X i _ _ hb with h0 | ⟨e, he, hbind, h1⟩
        · simp at h0
        · have hon := hE o ho e (Array.mem_toList_iff.1 he) hbind
          rcases h1 with rfl | h1
          · exact hon
          · exact h _ _ h1 X hC (hC _ hon)
      · rw [Array.getD_eq_getD_getElem?, Array.getElem?_push, if_neg (by omega), ← Array.getD_eq_getD_getElem?] at hb
        exact h k i hb X hC hE
  intro k i hb
  have h0 := key ops.toList #[] (fun k i hb => by simp at hb) (by simp) k i
  apply h0
  rw [Region.before, ← Array.foldl_toList] at hb
  exact hb

theorem apart_symm {x y : Oper} (h : x.apart ops y = true) : y.apart ops x = true := by
  obtain ⟨h1, h2, h3⟩ := Oper.apart_spec h
  unfold Oper.apart
  cases hx : x.dst with
  | none => cases hy : y.dst with
    | none => simp
    | some e => simp; exact h3 e hy
  | some d => cases hy : y.dst with
    | none => simp; exact h1 d hx
    | some e => simp; exact ⟨⟨h3 e hy, fun h => h2 d hx (by rw [hy, h])⟩, h1 d hx⟩

theorem looksAt_val {o : Oper} {x : Operand} {t : Nat} (hx : x ∈ o.op.operands.toList) (ht : x = .tmp t) : t ∈ o.looksAt ops := by
  subst ht
  simp only [Oper.looksAt, List.mem_append, List.mem_filterMap]
  exact .inl ⟨_, hx, rfl⟩

theorem looksAt_guard {o : Oper} {g s : Nat} {want : Bool} (hg : o.guard = some (g, want)) (hs : (ops[g]?).bind (·.dst) = some s) : s ∈ o.looksAt ops := by
  simp only [Oper.looksAt, List.mem_append, hg]
  exact .inr (by simp [hs])

/-- The region's text-order proof, made a list. -/
theorem wpD_spec {F : List Eff → St → Prop} : ∀ (l : List Oper) (acc : List Eff) (st : St), WpD P ops l acc st F →
    ∃ es : List Eff, es.length = l.length ∧ F (acc.reverse ++ es) (stX l.toArray es st (fun _ => true) l.length) ∧
      ∀ (i : Nat) (o : Oper) (e : Eff), l[i]? = some o → es[i]? = some e → GOk P ops o (stX l.toArray es st (fun _ => true) i) e ∧ e.new.all (stX l.toArray es st (fun _ => true) i).freshB = true := by
  intro l
  induction l with
  | nil => intro acc st h; exact ⟨[], rfl, by simpa [WpD, stX] using h, by simp⟩
  | cons o l ih =>
    intro acc st h
    obtain ⟨e, hg, hf, hr⟩ := h
    obtain ⟨es, h1, h2, h3⟩ := ih _ _ hr
    have shift : ∀ m, stX (o :: l).toArray (e :: es) st (fun _ => true) (m + 1) = stX l.toArray es (st.app o.dst e) (fun _ => true) m := by
      intro m
      induction m with
      | zero => simp [stX]
      | succ m ihm => rw [stX, ihm]; simp [stX]
    refine ⟨e :: es, by simp [h1], ?_, fun i o' e' hi he => ?_⟩
    · rw [List.length_cons, shift]; simpa using h2
    · cases i with
      | zero => simp at hi he; subst hi; subst he; exact ⟨hg, hf⟩
      | succ i => simp at hi he; rw [shift]; exact h3 i o' e' hi he

theorem GOk.run {o : Oper} {st st2 : St} {e : Eff} (h : GOk P ops o st e) (hag : Agree o e st st2) (hgd : ∀ s, s ∈ o.looksAt ops → st2.get s = st.get s)
    {B : Base} {ρ : Nat → Loc} {H : GH} {a : Act} {w : World} (hR : Rel B st2 ρ H a w) {K : Act → World → Prop} {Q : Exit → Act → World → Prop}
    (hK : ∀ v ρ' H' w', Rel B (st2.app o.dst e) ρ' H' (a.put o.dst v) w' → K (a.put o.dst v) w') :
    if Region.wanted o (yielded ops a.tmps) then o.wp P a w K Q ∨ (o.asks P a w ∧ LetsOut Q) else K (a.put o.dst undef) w := by
  cases h with
  | plain hg h =>
    rw [if_pos (by simp [Region.wanted, hg])]
    exact .inl (h B st2 hag ρ H a w hR K Q hK)
  | wanted g want s hg hs hb h =>
    have hw := (wanted_of hR hg hs).1 (by rw [hgd s (looksAt_guard hg hs)]; exact hb)
    rw [if_pos hw]
    exact .inl (h B st2 hag ρ H a w hR K Q hK)
  | passed g want s hg hs hb hd he =>
    have hw := (wanted_of hR hg hs).2 (by rw [hgd s (looksAt_guard hg hs)]; exact hb)
    rw [if_neg (by simp [hw])]
    subst he
    exact hK undef ρ H w (rel_put hR (fun t ht => by rw [hag.n]; exact hd t ht) (.pure (.tup [] #[] rfl (by simp))))

theorem agree_refl {o : Oper} {st : St} {e : Eff} (hf : e.new.all st.freshB = true) : Agree o e st st :=
  ⟨rfl, fun _ _ => rfl, fun _ _ => rfl, fun j hj => St.fresh_of (by simpa using (List.all_eq_true.1 hf) j hj), fun _ _ _ _ _ => .refl _ _ _⟩

/-- A region in the order of its text. -/
theorem wpD_list {B : Base} {F : List Eff → St → Prop} {Q : Exit → Act → World → Prop} : ∀ (l : List Oper) (acc : List Eff) (st : St), WpD P ops l acc st F →
    (∀ es st' ρ H a w, F es st' → Rel B st' ρ H a w → Q .normal a w) → ∀ ρ H a w, Rel B st ρ H a w → wpList P ops Q l a w := by
  intro l
  induction l with
  | nil => intro acc st h hQ ρ H a w hR; exact hQ _ _ _ _ _ _ h hR
  | cons o l ih =>
    intro acc st h hQ ρ H a w hR
    obtain ⟨e, hg, hf, hr⟩ := h
    exact hg.run (agree_refl hf) (fun _ _ => rfl) hR (fun v ρ' H' w' hR' => ih _ _ hr hQ _ _ _ _ hR')

theorem Wp.region {id : Nat} {l : List Oper} {Q : Exit → St → Prop} {st : St} (h : WpD P l.toArray l [] st fun _ st' => Q .normal st') : Wp P (.region id l.toArray false) Q st :=
  fun _ _ _ _ _ hR => wp_region_lit (wpD_list l [] st h (fun _ st' ρ H _ _ hF hR' => ⟨st', ρ, H, hR', hF⟩) _ _ _ _ hR)

theorem freshB_sub {X : Nat → Bool} {j : Nat} : ∀ m, (stX ops effs st0 X m).freshB j = true → st0.freshB j = true := by
  intro m
  induction m with
  | zero => exact id
  | succ m ih =>
    intro h
    simp only [stX] at h
    split at h
    · split at h
      · refine ih ?_
        rename_i o e _ _
        simp only [St.freshB, St.app, Bool.and_eq_true, List.all_append] at h ⊢
        refine ⟨?_, h.2.2⟩
        cases hd : o.dst with
        | none => simpa [hd] using h.1
        | some t => have := h.1; simp [hd] at this; simpa using this.2
      · exact ih h
    · exact ih h

section any
variable {B : Base} {n : Nat} (hn : n = ops.size) (hlen : effs.length = n) (hok : okDraw ops effs = true)
  (hall : ∀ (i : Nat) (o : Oper) (e : Eff), ops[i]? = some o → effs[i]? = some e → GOk P ops o (stX ops effs st0 (fun _ => true) i) e ∧ e.new.all (stX ops effs st0 (fun _ => true) i).freshB = true)
include hok in
theorem pair_of {i k : Nat} {oi ok : Oper} {ei ek : Eff} (hik : i < k) (hi : ops[i]? = some oi) (hk : ops[k]? = some ok) (hei : effs[i]? = some ei) (hek : effs[k]? = some ek) :
    ((oi.apart ops ok = true ∧ ei.clash ek = false) ∨ ((Region.before ops).getD k 0).testBit i = true) ∧ ek.new.any ei.mention = false := by
  have hks : k < ops.size := by rcases Nat.lt_or_ge k ops.size with h | h; exact h; simp [Array.getElem?_eq_none h] at hk
  have h := List.all_eq_true.1 hok k (List.mem_range.2 hks)
  have h := List.all_eq_true.1 h i (List.mem_range.2 hik)
  simp only [pairOk, hi, hk, hei, hek, Bool.and_eq_true, Bool.or_eq_true, Bool.not_eq_true'] at h
  exact h

include hok in
/-- An operation that is ready: whoever may not be exchanged with it is listed just if it stands ahead of it. -/
theorem side {X : Nat → Bool} (hC : Closed ops X) {i k : Nat} (hE : edgesIn ops X i) (hXi : X i = false) {oi ok : Oper} {ei ek : Eff} (hi : ops[i]? = some oi) (hk : ops[k]? = some ok)
    (hei : effs[i]? = some ei) (hek : effs[k]? = some ek) (hne : k ≠ i)
    (hc : (k < i → oi.apart ops ok = false ∨ ok.apart ops oi = false ∨ ek.clash ei = true) ∧ (i < k → oi.apart ops ok = false ∨ ok.apart ops oi = false ∨ ei.clash ek = true)) : X k = decide (k < i) := by
  rcases Nat.lt_or_gt_of_ne hne with h | h
  · have hp := (pair_of hok h hk hi hek hei).1
    rw [decide_eq_true h]
    rcases hp with ⟨h1, h2⟩ | hb
    · rcases hc.1 h with h3 | h3 | h3
      · have := apart_symm h1; rw [h3] at this; cases this
      · rw [h3] at h1; cases h1
      · rw [h3] at h2; cases h2
    · exact before_spec ops i k hb X hC hE
  · have hp := (pair_of hok h hi hk hei hek).1
    rw [decide_eq_false (by omega)]
    rcases hp with ⟨h1, h2⟩ | hb
    · rcases hc.2 h with h3 | h3 | h3
      · rw [h3] at h1; cases h1
      · have := apart_symm h1; rw [h3] at this; cases this
      · rw [h3] at h2; cases h2
    · by_cases hx : X k = true
      · have := before_spec ops k i hb X hC (hC k hx); rw [hXi] at this; cases this
      · simpa using hx

theorem apart_looks {x y : Oper} {t : Nat} (hx : x.dst = some t) (hy : t ∈ y.looksAt ops) : x.apart ops y = false := by
  by_cases h : x.apart ops y = true
  · exact absurd hy ((Oper.apart_spec h).1 t hx)
  · simpa using h
theorem apart_dst {x y : Oper} {t : Nat} (hx : x.dst = some t) (hy : y.dst = some t) : x.apart ops y = false := by
  by_cases h : x.apart ops y = true
  · exact absurd hy ((Oper.apart_spec h).2.1 t hx)
  · simpa using h

theorem alook_isSome_mem {α : Type} {l : List (Nat × α)} {j : Nat} (h : (alook l j).isSome = true) : ∃ x, (j, x) ∈ l := by
  cases hx : alook l j with
  | none => simp [hx] at h
  | some x => exact ⟨x, alook_mem hx⟩

theorem clash_touch {x y : Eff} {j : Nat} (hx : (alook x.wr j).isSome = true) (hy : j ∈ y.touch) : x.clash y = true := by
  obtain ⟨b, hb⟩ := alook_isSome_mem hx
  simp only [Eff.clash, Bool.or_eq_true, List.any_eq_true]
  exact .inl (.inl ⟨_, hb, .inl (by simpa using hy)⟩)
theorem clash_touch' {x y : Eff} {j : Nat} (hx : (alook x.wr j).isSome = true) (hy : j ∈ y.touch) : y.clash x = true := by
  obtain ⟨b, hb⟩ := alook_isSome_mem hx
  simp only [Eff.clash, Bool.or_eq_true, List.any_eq_true]
  exact .inl (.inr ⟨_, hb, by simpa using hy⟩)
theorem clash_writes {x y : Eff} {j : Nat} (hx : (alook x.wr j).isSome = true) (hy : (alook y.wr j).isSome = true) : x.clash y = true ∨ x.commute y = true := by
  obtain ⟨b, hb⟩ := alook_isSome_mem hx
  cases hc : x.commute y with
  | true => exact .inr rfl
  | false =>
    refine .inl ?_
    simp only [Eff.clash, Bool.or_eq_true, List.any_eq_true]
    exact .inl (.inl ⟨_, hb, .inr (by simp [Eff.writes, hy, hc])⟩)
theorem plus_wr {e : Eff} {j : Nat} {o : Option (List Nat)} {kd vd : D} (h : e.plus? = some (j, o, kd, vd)) : e.wr = [(j, some (.plus o kd vd))] := by
  unfold Eff.plus? at h
  split at h
  · rename_i hw; cases h; exact hw
  · cases h
theorem commute_spec {x y : Eff} {j : Nat} (h : x.commute y = true) (hx : (alook x.wr j).isSome = true) : ∃ o kd vd o' kd' vd', x.plus? = some (j, o, kd, vd) ∧ y.plus? = some (j, o', kd', vd') ∧ eqKD o kd kd' = some false ∧ eqKD o' kd' kd = some false := by
  unfold Eff.commute at h
  split at h
  · rename_i j1 o kd vd j2 o' kd' vd' h1 h2
    simp only [Bool.and_eq_true, Nat.beq_eq, beq_iff_eq] at h
    obtain ⟨⟨rfl, h3⟩, h4⟩ := h
    have hw := plus_wr h1
    rw [hw, alook_cons] at hx
    split at hx
    · rename_i hj; subst hj; exact ⟨_, _, _, _, _, _, h1, h2, h3, h4⟩
    · simp [alook] at hx
  · cases h
theorem clash_new {x y : Eff} {j : Nat} (hx : j ∈ x.new) (hy : y.mention j = true) : x.clash y = true := by
  simp only [Eff.clash, Bool.or_eq_true, List.any_eq_true]
  exact .inr ⟨j, hx, hy⟩

section one
variable {X : Nat → Bool} (hC : Closed ops X) {i : Nat} (hE : edgesIn ops X i) (hXi : X i = false) {o : Oper} {e : Eff} (hi : ops[i]? = some o) (he : effs[i]? = some e) (hin : i < ops.size)
include hok hC hE hXi hi he hin

theorem get_at {t : Nat} (ht : t ∈ o.looksAt ops) : (stX ops effs st0 X ops.size).get t = (stX ops effs st0 (fun _ => true) i).get t := by
  rw [← stX_prefix ops.size (Nat.le_of_lt hin)]
  refine stX_get_congr _ fun k hk ⟨ok, ek, hok', hek, hd⟩ => ?_
  by_cases hne : k = i
  · subst hne; rw [hXi]; simp
  · exact side hok hC hE hXi hi hok' he hek hne ⟨fun _ => .inr (.inl (apart_looks hd ht)), fun _ => .inr (.inl (apart_looks hd ht))⟩

theorem blk_at {j : Nat} (hj : j ∈ e.touch) : (stX ops effs st0 X ops.size).blk j = (stX ops effs st0 (fun _ => true) i).blk j := by
  rw [← stX_prefix ops.size (Nat.le_of_lt hin)]
  refine stX_blk_congr _ fun k hk ⟨ok, ek, hok', hek, hd⟩ => ?_
  by_cases hne : k = i
  · subst hne; rw [hXi]; simp
  · exact side hok hC hE hXi hi hok' he hek hne ⟨fun _ => .inr (.inr (clash_touch hd hj)), fun _ => .inr (.inr (clash_touch' hd hj))⟩

theorem fresh_at (hf : e.new.all (stX ops effs st0 (fun _ => true) i).freshB = true) {j : Nat} (hj : j ∈ e.new) : (stX ops effs st0 X ops.size).Fresh j := by
  have h0 : st0.Fresh j := St.fresh_of (freshB_sub i ((List.all_eq_true.1 hf) j hj))
  have no : ∀ k ek, k < ops.size → X k = true → effs[k]? = some ek → ek.mention j = false := by
    intro k ek hk hx hek
    obtain ⟨ok, hok'⟩ : ∃ ok, ops[k]? = some ok := ⟨_, Array.getElem?_eq_getElem hk⟩
    rcases Nat.lt_trichotomy k i with h | h | h
    · have := (pair_of hok h hok' hi hek he).2
      rw [List.any_eq_false] at this
      simpa using this j hj
    · subst h; rw [hXi] at hx; cases hx
    · by_cases hm : ek.mention j = true
      · rcases (pair_of hok h hi hok' he hek).1 with ⟨_, h2⟩ | hb
        · rw [clash_new hj hm] at h2; cases h2
        · have := before_spec ops k i hb X hC (hC k hx); rw [hXi] at this; cases this
      · simpa using hm
  refine ⟨fun t d hd => ?_, fun k b hb => ?_⟩
  · rcases stX_get_from _ hd with h | ⟨k, ek, hk, hx, hek, rfl⟩
    · exact h0.tm t d h
    · have := no k ek hk hx hek
      simp only [Eff.mention, Bool.or_eq_false_iff] at this
      exact this.1.1
  · cases hbj : b.has j with
    | false => rfl
    | true =>
      have hh : optHas j ((stX ops effs st0 X ops.size).blk k) = true := by rw [hb]; exact hbj
      rcases stX_blk_from _ hh with h | ⟨q, ek, hk, hx, hek, hw⟩
      · cases hs : st0.blk k with
        | none => rw [hs] at h; cases h
        | some b0 => rw [hs] at h; have := h0.bl k b0 hs; simp only [optHas] at h; rw [this] at h; cases h
      · have hm := no q ek hk hx hek
        simp only [Eff.mention, Bool.or_eq_false_iff, List.any_eq_false] at hm
        obtain ⟨p, hp, h1⟩ := List.any_eq_true.1 hw
        have := hm.2 p hp
        simp [h1] at this

omit hin in
/-- Who writes j beside an operation that is ready: on its own side, or an entry that may be exchanged with it. -/
theorem writer {j k : Nat} {ok : Oper} {ek : Eff} (hok' : ops[k]? = some ok) (hek : effs[k]? = some ek) (hne : k ≠ i) (hwk : (alook ek.wr j).isSome = true) (hwi : (alook e.wr j).isSome = true) :
    X k = decide (k < i) ∨ ∃ q kd vd q' kd' vd', e.plus? = some (j, q, kd, vd) ∧ ek.plus? = some (j, q', kd', vd') ∧ eqKD q kd kd' = some false := by
  by_cases h1 : ek.commute e = true
  · obtain ⟨o1, k1, v1, o2, k2, v2, h2, h3, h4, h5⟩ := commute_spec h1 hwk
    exact .inr ⟨_, _, _, _, _, _, h3, h2, h5⟩
  · by_cases h1' : e.commute ek = true
    · obtain ⟨o1, k1, v1, o2, k2, v2, h2, h3, h4, h5⟩ := commute_spec h1' hwi
      exact .inr ⟨_, _, _, _, _, _, h2, h3, h4⟩
    · refine .inl (side hok hC hE hXi hi hok' he hek hne ⟨fun _ => .inr (.inr ?_), fun _ => .inr (.inr ?_)⟩)
      · rcases clash_writes hwk hwi with h | h
        · exact h
        · exact absurd h h1
      · rcases clash_writes hwi hwk with h | h
        · exact h
        · exact absurd h h1'

theorem plus_at {j : Nat} {q : Option (List Nat)} {kd vd : D} (hp : e.plus? = some (j, q, kd, vd)) : PlusRel q kd ((stX ops effs st0 (fun _ => true) i).blk j) ((stX ops effs st0 X ops.size).blk j) := by
  rw [← stX_prefix ops.size (Nat.le_of_lt hin)]
  have hwi : (alook e.wr j).isSome = true := by rw [plus_wr hp, alook_cons, if_pos rfl]; rfl
  suffices key : ∀ m, PlusRel q kd ((stX ops effs st0 (fun k => decide (k < i)) m).blk j) ((stX ops effs st0 X m).blk j) from key _
  intro m
  induction m with
  | zero => exact .refl _ _ _
  | succ m ih =>
    simp only [stX]
    cases ho : ops[m]? with
    | none => simpa using ih
    | some om =>
      cases hem : effs[m]? with
      | none => simpa using ih
      | some em =>
        cases hw : alook em.wr j with
        | none =>
          have key : ∀ (s : St) (b : Bool), (if b = true then s.app om.dst em else s).blk j = s.blk j := by intro s b; split <;> simp [St.app_blk, blkOn_none hw]
          simp only [key]; exact ih
        | some b =>
          by_cases hmi : m = i
          · subst hmi
            rw [if_neg (by simp), if_neg (by simp [hXi])]; exact ih
          · rcases writer hok hC hE hXi hi he ho hem hmi (by simp [hw]) hwi with h1 | ⟨q1, kd1, vd1, q2, kd2, vd2, h1, h2, h3⟩
            · rw [h1]
              split
              · simp only [St.app_blk]; exact ih.blkOn _ _
              · exact ih
            · rw [hp] at h1; cases h1
              have hb : ∀ s : St, (s.app om.dst em).blk j = addP (s.blk j) kd2 vd2 := fun s => by rw [St.app_blk, plus_wr h2, blkOn_cons, if_pos rfl]; rfl
              have key : ∀ (s : St) (b : Bool), (if b = true then s.app om.dst em else s).blk j = if b = true then addP (s.blk j) kd2 vd2 else s.blk j := by intro s b; cases b <;> simp [hb]
              simp only [key]
              generalize decide (m < i) = b1
              generalize X m = b2
              cases b1 <;> cases b2
              · exact ih
              · exact ih.right h3
              · exact ih.left
              · exact ih.both

theorem next_get (t : Nat) : (stX ops effs st0 (fun k => X k || k == i) ops.size).get t = ((stX ops effs st0 X ops.size).app o.dst e).get t := by
  rw [St.app_get]
  by_cases hd : o.dst = some t
  · rw [if_pos hd]
    have h1 : (stX ops effs st0 (fun k => X k || k == i) ops.size).get t = (stX ops effs st0 (fun k => decide (k < i + 1)) ops.size).get t := by
      refine stX_get_congr _ fun k hk ⟨ok, ek, hok', hek, hdk⟩ => ?_
      by_cases hne : k = i
      · subst hne; simp
      · have hs := side hok hC hE hXi hi hok' he hek hne ⟨fun _ => .inr (.inl (apart_dst hdk hd)), fun _ => .inr (.inl (apart_dst hdk hd))⟩
        show (X k || k == i) = decide (k < i + 1)
        rw [hs, beq_eq_false_iff_ne.2 hne, Bool.or_false]
        exact decide_eq_decide.2 (by omega)
    rw [h1, stX_prefix ops.size (by omega)]
    simp [stX, hi, he, St.app_get, hd]
  · rw [if_neg hd]
    refine stX_get_congr _ fun k hk ⟨ok, ek, hok', hek, hdk⟩ => ?_
    have : k ≠ i := by rintro rfl; rw [hi] at hok'; cases hok'; exact hd hdk
    simp [this]

theorem next_blk (j : Nat) : OPerm ((stX ops effs st0 (fun k => X k || k == i) ops.size).blk j) (((stX ops effs st0 X ops.size).app o.dst e).blk j) := by
  rw [St.app_blk]
  cases hw : alook e.wr j with
  | none =>
    rw [blkOn_none hw]
    refine .inl (stX_blk_congr _ fun k hk ⟨ok, ek, hok', hek, hdk⟩ => ?_)
    have : k ≠ i := by rintro rfl; rw [he] at hek; cases hek; simp [hw] at hdk
    simp [this]
  | some b =>
    have hwi : (alook e.wr j).isSome = true := by simp [hw]
    by_cases hpl : ∃ q kd vd, e.plus? = some (j, q, kd, vd)
    · obtain ⟨q, kd, vd, hp⟩ := hpl
      rw [plus_wr hp, blkOn_cons, if_pos rfl]
      show OPerm _ (addP ((stX ops effs st0 X ops.size).blk j) kd vd)
      have low : ∀ m, m ≤ i → (stX ops effs st0 (fun k => X k || k == i) m).blk j = (stX ops effs st0 X m).blk j := fun m hm => stX_blk_congr m fun k hk _ => by simp [show k ≠ i by omega]
      suffices key : ∀ m, i < m → OPerm ((stX ops effs st0 (fun k => X k || k == i) m).blk j) (addP ((stX ops effs st0 X m).blk j) kd vd) from key _ hin
      intro m
      induction m with
      | zero => intro h; omega
      | succ m ih =>
        intro hm
        by_cases hmi : m = i
        · subst hmi
          simp only [stX]
          rw [if_pos (by simp), if_neg (by simp [hXi])]
          simp only [hi, he]
          rw [St.app_blk, low m (Nat.le_refl _), plus_wr hp, blkOn_cons, if_pos rfl]
          exact .refl _
        · have ih' := ih (by omega)
          simp only [stX]
          have hx : (X m || m == i) = X m := by simp [hmi]
          simp only [hx]
          cases ho : ops[m]? with
          | none => simpa using ih'
          | some om =>
            cases hem : effs[m]? with
            | none => simpa using ih'
            | some em =>
              cases hwm : alook em.wr j with
              | none =>
                have key : ∀ (s : St) (b : Bool), (if b = true then s.app om.dst em else s).blk j = s.blk j := by intro s b; split <;> simp [St.app_blk, blkOn_none hwm]
                simp only [key]; exact ih'
              | some b =>
                rcases writer hok hC hE hXi hi he ho hem hmi (by simp [hwm]) hwi with h1 | ⟨q1, kd1, vd1, q2, kd2, vd2, h1, h2, h3⟩
                · rw [h1, decide_eq_false (by omega)]
                  simpa using ih'
                · have hb : ∀ s : St, (s.app om.dst em).blk j = addP (s.blk j) kd2 vd2 := fun s => by rw [St.app_blk, plus_wr h2, blkOn_cons, if_pos rfl]; rfl
                  split
                  · simp only [hb]; exact ih'.addP.trans (OPerm.swap _ _ _ _ _)
                  · exact ih'
    · have hside : ∀ k ok ek, k ≠ i → ops[k]? = some ok → effs[k]? = some ek → (alook ek.wr j).isSome = true → X k = decide (k < i) := fun k ok ek hne hok' hek hdk => by
        rcases writer hok hC hE hXi hi he hok' hek hne hdk hwi with h1 | ⟨q1, kd1, vd1, q2, kd2, vd2, h1, _⟩
        · exact h1
        · exact absurd ⟨_, _, _, h1⟩ hpl
      have h1 : (stX ops effs st0 (fun k => X k || k == i) ops.size).blk j = (stX ops effs st0 (fun k => decide (k < i + 1)) ops.size).blk j := by
        refine stX_blk_congr _ fun k hk ⟨ok, ek, hok', hek, hdk⟩ => ?_
        by_cases hne : k = i
        · subst hne; simp
        · show (X k || k == i) = decide (k < i + 1)
          rw [hside k ok ek hne hok' hek hdk, beq_eq_false_iff_ne.2 hne, Bool.or_false]
          exact decide_eq_decide.2 (by omega)
      have h2 : (stX ops effs st0 X ops.size).blk j = (stX ops effs st0 (fun k => decide (k < i)) ops.size).blk j := by
        refine stX_blk_congr _ fun k hk ⟨ok, ek, hok', hek, hdk⟩ => ?_
        by_cases hne : k = i
        · subst hne; simp [hXi]
        · exact hside k ok ek hne hok' hek hdk
      rw [h1, h2, stX_prefix ops.size (by omega), stX_prefix ops.size (Nat.le_of_lt hin)]
      refine .inl ?_
      simp only [stX, hi, he, if_true]
      rw [St.app_blk]
end one

def cnt (f : Nat → Bool) : Nat → Nat
  | 0 => 0
  | n + 1 => cnt f n + (f n).toNat
theorem cnt_le {f g : Nat → Bool} (h : ∀ k, f k = true → g k = true) : ∀ n, cnt f n ≤ cnt g n
  | 0 => Nat.le_refl _
  | n + 1 => by
    have := cnt_le h n
    simp only [cnt]
    cases hf : f n with
    | false => simp; omega
    | true => rw [h n hf]; omega
theorem cnt_lt {f g : Nat → Bool} (h : ∀ k, f k = true → g k = true) {i : Nat} (hi : g i = true) (hi' : f i = false) : ∀ n, i < n → cnt f n < cnt g n
  | 0, h0 => by omega
  | n + 1, hn => by
    simp only [cnt]
    by_cases hin : i = n
    · subst hin; rw [hi, hi']; have := cnt_le h i; simp; omega
    · have h1 := cnt_lt h hi hi' n (by omega)
      cases hf : f n with
      | false => simp; omega
      | true => rw [h n hf]; omega
theorem cnt_pos {f : Nat → Bool} {i : Nat} (hi : f i = true) : ∀ n, i < n → 0 < cnt f n
  | 0, h0 => by omega
  | n + 1, hn => by
    simp only [cnt]
    by_cases hin : i = n
    · subst hin; rw [hi]; simp
    · have := cnt_pos hi n (by omega); omega

def edgesBack (ops : Array Oper) : Bool := (List.range ops.size).all fun k => match ops[k]? with | some o => o.after.all fun e => !Region.binds .any e || decide (e.on < k) | none => true

include hok hall hlen hn in
theorem wpAny_of (hback : edgesBack ops = true) {Q : Exit → Act → World → Prop} (hQ : ∀ ρ H a w, Rel B (stX ops effs st0 (fun _ => true) ops.size) ρ H a w → Q .normal a w) :
    ∀ (fuel : Nat) (listed : Array Bool) (a : Act) (w : World) (ρ : Nat → Loc) (H : GH), listed.size = ops.size → Closed ops (fun k => listed.getD k false) →
      Rel B (stX ops effs st0 (fun k => listed.getD k false) ops.size) ρ H a w → cnt (fun k => !listed.getD k false) ops.size ≤ fuel → wpAny P .any ops Q fuel listed a w := by
  have fin : ∀ (listed : Array Bool) (a : Act) (w : World) (ρ : Nat → Loc) (H : GH), listed.size = ops.size → Rel B (stX ops effs st0 (fun k => listed.getD k false) ops.size) ρ H a w →
      Region.ready .any ops listed = [] → Q .normal a w := by
    intro listed a w ρ H hsz hR hr
    have allin : ∀ k, k < ops.size → listed.getD k false = true := by
      intro k
      induction k using Nat.strongRecOn with
      | _ k ih =>
        intro hk
        by_cases hx : listed.getD k false = true
        · exact hx
        · exfalso
          obtain ⟨o, ho⟩ : ∃ o, ops[k]? = some o := ⟨_, Array.getElem?_eq_getElem hk⟩
          have hm : k ∈ Region.ready .any ops listed := by
            refine mem_ready.2 ⟨?_, o, ho, fun e he hb => ?_⟩
            · have hk' : k < listed.size := by omega
              simp [Array.getD, hk'] at hx ⊢; exact hx
            · have hb' := List.all_eq_true.1 hback k (List.mem_range.2 hk)
              simp only [ho, Array.all_eq_true_iff_forall_mem, Bool.or_eq_true, Bool.not_eq_true', decide_eq_true_eq] at hb'
              have := hb' e he
              rw [hb] at this; simp at this
              exact ih e.on this (by omega)
          rw [hr] at hm; cases hm
    refine hQ ρ H a w (hR.congr (by rw [stX_n, stX_n]) (fun t d h => ?_) (fun j b h => ?_))
    · rw [← h]; exact stX_get_congr _ fun k hk _ => by simp [allin k hk]
    · rw [← h]; exact stX_blk_congr _ fun k hk _ => by simp [allin k hk]
  intro fuel
  induction fuel with
  | zero =>
    intro listed a w ρ H hsz hC hR hc
    have hr : Region.ready .any ops listed = [] := by
      rw [List.eq_nil_iff_forall_not_mem]
      intro i hi
      obtain ⟨h1, o, ho, _⟩ := mem_ready.1 hi
      have hin : i < ops.size := by rcases Nat.lt_or_ge i ops.size with h | h; exact h; simp [Array.getElem?_eq_none h] at ho
      have hin' : i < listed.size := by omega
      have := cnt_pos (f := fun k => !listed.getD k false) (i := i) (by simp [Array.getD, hin'] at h1 ⊢; exact h1) ops.size hin
      omega
    exact ⟨hr, fin listed a w ρ H hsz hR hr⟩
  | succ fuel ih =>
    intro listed a w ρ H hsz hC hR hc
    refine ⟨fin listed a w ρ H hsz hR, fun i hi => ?_⟩
    obtain ⟨h1, o, ho, hE⟩ := mem_ready.1 hi
    have hin : i < ops.size := by rcases Nat.lt_or_ge i ops.size with h | h; exact h; simp [Array.getElem?_eq_none h] at ho
    have hin' : i < listed.size := by omega
    have hXi : listed.getD i false = false := by simp [Array.getD, hin'] at h1 ⊢; exact h1
    obtain ⟨e, he⟩ : ∃ e, effs[i]? = some e := ⟨_, List.getElem?_eq_getElem (by omega)⟩
    have hE' : edgesIn ops (fun k => listed.getD k false) i := fun o' ho' => by rw [ho] at ho'; cases ho'; exact hE
    have hg := hall i o e ho he
    unfold wpOp
    simp only [ho]
    have hag : Agree o e (stX ops effs st0 (fun _ => true) i) (stX ops effs st0 (fun k => listed.getD k false) ops.size) := by
      refine ⟨by rw [stX_n, stX_n], fun x hx => ?_, fun j hj => blk_at hok hC hE' hXi ho he hin hj, fun j hj => fresh_at hok hC hE' hXi ho he hin hg.2 hj, fun j q kd vd hp => plus_at hok hC hE' hXi ho he hin hp⟩
      cases x with
      | tmp t => exact get_at hok hC hE' hXi ho he hin (looksAt_val hx rfl)
      | _ => rfl
    refine hg.1.run hag (fun s hs => get_at hok hC hE' hXi ho he hin hs) hR fun v ρ' H' w' hR' => ?_
    have hX' : (fun k => (listed.setIfInBounds i true).getD k false) = fun k => listed.getD k false || k == i := by
      funext k
      by_cases hk : k = i
      · subst hk; simp [Array.getD, hin']
      · rw [getD_set_ne false (Ne.symm hk)]; simp [hk]
    refine ih _ _ _ ρ' H' (by simp [hsz]) ?_ ?_ ?_
    · intro k hk
      rw [hX'] at hk ⊢
      simp only [Bool.or_eq_true, beq_iff_eq] at hk
      rcases hk with hk | rfl
      · exact fun o' ho' e' he' hb => by simp [hC k hk o' ho' e' he' hb]
      · exact fun o' ho' e' he' hb => by simp [hE' o' ho' e' he' hb]
    · rw [hX']
      refine hR'.congrP (by simp [stX_n, St.app]) (fun t => next_get hok hC hE' hXi ho he hin t) (fun j => ?_)
      rcases next_blk hok hC hE' hXi ho he hin j with h | ⟨l, l', h1, h2, hp⟩
      · exact .inl h.symm
      · exact .inr ⟨l', l, h2, h1, hp.symm⟩
    · rw [show (fun k => !(listed.setIfInBounds i true).getD k false) = fun k => !(listed.getD k false || k == i) from funext fun k => congrArg Bool.not (congrFun hX' k)]
      have := cnt_lt (f := fun k => !(listed.getD k false || k == i)) (g := fun k => !listed.getD k false) (fun k hk => by simp at hk ⊢; exact hk.1) (i := i) (by simp [hXi]) (by simp) ops.size hin
      omega
end any

/-- A region that draws its order: walked once, in the order of its text. -/
theorem Wp.draw {id : Nat} {l : List Oper} {Q : Exit → St → Prop} {st : St} (hm : P.follows .mixedOrders = true)
    (h : WpD P l.toArray l [] st fun es st' => edgesBack l.toArray = true ∧ okDraw l.toArray es = true ∧ Q .normal st') : Wp P (.region id l.toArray true) Q st := by
  intro B ρ H a w hR
  obtain ⟨es, h1, h2, h3⟩ := wpD_spec l [] st h
  simp only [List.reverse_nil, List.nil_append] at h2
  obtain ⟨hb, hok, hQ⟩ := h2
  refine wp_region_any hm ?_
  refine wpAny_of (st0 := st) (effs := es) (B := B) (n := l.length) (by simp) h1 hok (fun i o e hi he => h3 i o e (by simpa using hi) he) hb
    (fun ρ' H' a' w' hR' => ⟨_, ρ', H', by simpa using hR', hQ⟩) _ _ _ _ ρ H (by simp) (fun k hk => by
      exfalso
      by_cases hkl : k < l.length
      · simp [Array.getD, hkl] at hk
      · simp [Array.getD, hkl] at hk) ?_ ?_
  · refine (hR.drawn (w' := { w with drawn := w.drawn + 1 }) rfl rfl rfl rfl).congr (by rw [stX_n]) (fun t d ht => ?_) (fun j b hj => ?_)
    · rw [stX_get_congr (Y := fun _ => false) _ (fun k hk _ => by simp [Array.getD])] at ht
      rwa [show stX l.toArray es st (fun _ => false) l.toArray.size = st from by
        generalize l.toArray.size = m
        induction m with
        | zero => rfl
        | succ m ih => simp [stX, ih]] at ht
    · rw [stX_blk_congr (Y := fun _ => false) _ (fun k hk _ => by simp [Array.getD])] at hj
      rwa [show stX l.toArray es st (fun _ => false) l.toArray.size = st from by
        generalize l.toArray.size = m
        induction m with
        | zero => rfl
        | succ m ih => simp [stX, ih]] at hj
  · have : ∀ (f : Nat → Bool) (n : Nat), cnt f n ≤ n := by
      intro f n
      induction n with
      | zero => simp [cnt]
      | succ n ih => simp only [cnt]; cases f n <;> simp <;> omega
    exact this _ _
end order

end Go.Eng
