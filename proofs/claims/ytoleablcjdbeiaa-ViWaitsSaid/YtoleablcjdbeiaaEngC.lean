/- The engine, part C: what each operation does to the abstract state. No program in sight. -/
import Derived.Test.YtoleablcjdbeiaaEngB
namespace Go.Eng
open Go

/-- What the operations ask of a type: is it a struct or an array, and how many cells has it? -/
class TyF (P : Program) (t : TypeId) (agg : outParam Bool) (n : outParam Nat) : Prop where
  und : (P.underlying t).map (fun u => match u with | .struct _ | .array _ _ => true | _ => false) = some agg
  info : (P.info? t).map (·.size) = some n
/-- Its zero value, cell by cell. -/
class TyZ (P : Program) (t : TypeId) (zs : outParam (List D)) : Prop where
  zero : ((P.info? t).bind (·.zero)).map (fun v => v.cells.toList.map D.ofConst) = some (zs.map some)
  form : ((P.info? t).bind (·.zero)).map (fun v => match v with | .agg _ => true | _ => false) = (P.underlying t).map (fun u => match u with | .struct _ | .array _ _ => true | _ => false)
  size : (P.info? t).map (·.size) = some zs.length
/-- A struct's fields: where each begins, and how many cells it has. -/
class TyS (P : Program) (t : TypeId) (fs : outParam (List (Nat × Nat))) : Prop where
  und : (P.underlying t).map (fun u => match u with | .struct fields => some (fields.toList.map fun f => (f.offset, (P.info? f.type).map (·.size))) | _ => none) = some (some (fs.map fun p => (p.1, some p.2)))
/-- A slice's elements: their type, how many cells and bytes each has. -/
class TySl (P : Program) (t : TypeId) (e : outParam TypeId) (sz bytes : outParam Nat) : Prop where
  und : P.underlying t = some (.slice e)
  info : (P.info? e).map (fun i => (i.size, i.bytes)) = some (sz, bytes)

class TyM (P : Program) (t : TypeId) (k e : outParam TypeId) : Prop where
  und : P.underlying t = some (.map k e)
class TyI (P : Program) (t : TypeId) (k : outParam IntKind) : Prop where
  und : P.underlying t = some (.int k)

theorem map_some {α β : Type} {o : Option α} {f : α → β} {b : β} (h : o.map f = some b) : ∃ a, o = some a ∧ f a = b := by
  cases o with
  | none => simp at h
  | some a => simp at h; exact ⟨a, rfl, h⟩

section upd
variable {B : Base} {bl bl' : Nat → Option Blk} {ρ : Nat → Loc} {H : GH} {w w' : World}

def setLoc (ρ : Nat → Loc) (j : Nat) (l : Loc) : Nat → Loc := fun k => if k = j then l else ρ k
theorem setLoc_ne {j k : Nat} {l : Loc} (h : k ≠ j) : setLoc ρ j l k = ρ k := by simp [setLoc, h]
theorem setLoc_eq {j : Nat} {l : Loc} : setLoc ρ j l j = l := by simp [setLoc]

theorem OwnOk.lt {j : Nat} {b : Blk} (h : OwnOk ρ H w j b) (hh : (ρ j).here = true) : (ρ j).blk < w.heap.size := by
  have : ∃ o, w.heap[(ρ j).blk]? = some o := by
    cases b with
    | cells ty l => obtain ⟨_, arr, h1, _⟩ := h; exact ⟨_, h1⟩
    | buf sz l => obtain ⟨_, _, _, _, h4⟩ := h; obtain ⟨arr, ty, h1, _⟩ := h4 hh; exact ⟨_, h1⟩
    | map l => obtain ⟨_, es, c, l', h1, _⟩ := h; exact ⟨_, h1⟩
    | plus o kd vd => exact h.elim
  obtain ⟨o, ho⟩ := this
  rcases Nat.lt_or_ge (ρ j).blk w.heap.size with h | h
  · exact h
  · simp [Array.getElem?_eq_none h] at ho

theorem alloc_heap {o : Obj} {k : Nat} (hk : k < w.heap.size) : (w.alloc o).heap[k]? = w.heap[k]? := by
  show (w.heap.push o)[k]? = _
  rw [Array.getElem?_push, if_neg (by omega)]
theorem alloc_new {o : Obj} : (w.alloc o).heap[w.heap.size]? = some o := by
  show (w.heap.push o)[w.heap.size]? = _
  rw [Array.getElem?_push, if_pos rfl]
theorem alloc_size {o : Obj} : (w.alloc o).heap.size = w.heap.size + 1 := Array.size_push ..

theorem WRel.lt (h : WRel B bl ρ H w) {b : Nat} {o : Obj} (hb : H b = some o) : b < w.heap.size := by
  have := h.pers b o hb
  rcases Nat.lt_or_ge b w.heap.size with h | h
  · exact h
  · simp [Array.getElem?_eq_none h] at this

/-- A new block of the call's own, under the name j. -/
theorem WRel.alloc_own (h : WRel B bl ρ H w) {j : Nat} {b : Blk} {o : Obj} {cap sz : Nat} (hf : ∀ k b', bl k = some b' → b'.has j = false)
    (hok : OwnOk (setLoc ρ j ⟨w.heap.size, cap, sz, true⟩) H (w.alloc o) j b) (hbl : ∀ k, bl' k = if j = k then some b else bl k) :
    WRel B bl' (setLoc ρ j ⟨w.heap.size, cap, sz, true⟩) H (w.alloc o) := by
  have old : ∀ k b', bl' k = some b' → k ≠ j → bl k = some b' := fun k b' hk hne => by rw [hbl, if_neg (Ne.symm hne)] at hk; exact hk
  have new : ∀ b', bl' j = some b' → b' = b := fun b' hk => by rw [hbl, if_pos rfl] at hk; exact (Option.some.inj hk).symm
  refine ⟨fun k b' hk => ?_, fun k q b' c hk hq hne h1 h2 => ?_, fun k b' hk h1 => ?_, fun k b' hk h1 => ?_, fun k o' hk => ?_, h.hext, h.hnew, ?_, fun k hk hp => ?_, h.os, h.tape, h.output⟩
  · by_cases hkj : k = j
    · subst hkj; rw [new b' hk]; exact hok
    · have hb := old k b' hk hkj
      exact (h.own k b' hb).mono (GH.le_refl _) (setLoc_ne hkj) (fun q hq => setLoc_ne (by rintro rfl; rw [hf k b' hb] at hq; cases hq)) (fun hh => alloc_heap ((h.own k b' hb).lt hh))
  · by_cases hkj : k = j
    · subst hkj
      have hqj : q ≠ k := Ne.symm hne
      have hb := old q c hq hqj
      rw [setLoc_ne hqj] at h2 ⊢
      rw [setLoc_eq]
      have := (h.own q c hb).lt h2
      simp; omega
    · have hb := old k b' hk hkj
      rw [setLoc_ne hkj] at h1 ⊢
      by_cases hqj : q = j
      · subst hqj
        rw [setLoc_eq]
        have := (h.own k b' hb).lt h1
        simp; omega
      · rw [setLoc_ne hqj] at h2 ⊢
        exact h.sep k q b' c hb (old q c hq hqj) hne h1 h2
  · by_cases hkj : k = j
    · subst hkj; rw [setLoc_eq]; exact .inl h.size
    · rw [setLoc_ne hkj] at h1 ⊢; exact h.new k b' (old k b' hk hkj) h1
  · by_cases hkj : k = j
    · subst hkj; rw [setLoc_eq]
      cases hH : H w.heap.size with
      | none => rfl
      | some o' => have := h.lt hH; omega
    · rw [setLoc_ne hkj] at h1 ⊢; exact h.np k b' (old k b' hk hkj) h1
  · rw [alloc_heap (h.lt hk)]; exact h.pers k o' hk
  · rw [alloc_size]; have := h.size; omega
  · rw [alloc_heap (by have := h.size; omega)]; exact h.frame k hk hp

/-- A new block that is immutable from the first. -/
theorem WRel.alloc_pers (h : WRel B bl ρ H w) (o : Obj) : WRel B bl ρ (fun b => if b = w.heap.size then some o else H b) (w.alloc o) ∧ H.le (fun b => if b = w.heap.size then some o else H b) := by
  have hle : H.le (fun b => if b = w.heap.size then some o else H b) := fun b o' hb => by have := h.lt hb; show (if b = w.heap.size then some o else H b) = _; rw [if_neg (by omega)]; exact hb
  refine ⟨⟨fun k b' hk => ?_, h.sep, h.new, fun k b' hk h1 => ?_, fun k o' hk => ?_, GH.le_trans h.hext hle, fun k o' hk => ?_, ?_, fun k hk hp => ?_, h.os, h.tape, h.output⟩, hle⟩
  · exact (h.own k b' hk).mono hle rfl (fun _ _ => rfl) (fun hh => alloc_heap ((h.own k b' hk).lt hh))
  · have := (h.own k b' hk).lt h1
    show (if (ρ k).blk = w.heap.size then some o else H (ρ k).blk) = _
    rw [if_neg (by omega)]; exact h.np k b' hk h1
  · replace hk : (if k = w.heap.size then some o else H k) = some o' := hk
    split at hk
    · rename_i he; subst he; simp at hk; subst hk; exact alloc_new
    · rw [alloc_heap (h.lt hk)]; exact h.pers k o' hk
  · replace hk : (if k = w.heap.size then some o else H k) = some o' := hk
    split at hk
    · rename_i he; subst he; exact .inr (.inl h.size)
    · exact h.hnew k o' hk
  · rw [alloc_size]; have := h.size; omega
  · rw [alloc_heap (by have := h.size; omega)]; exact h.frame k hk hp

/-- A write to the own block j. -/
theorem WRel.write (h : WRel B bl ρ H w) {j : Nat} {b b' : Blk} (hj : bl j = some b) (hh : (ρ j).here = true) (hs : w'.heap.size = w.heap.size) (ho : ∀ k, k ≠ (ρ j).blk → w'.heap[k]? = w.heap[k]?)
    (hos : w'.os = w.os) (ht : w'.tape = w.tape) (hp : w'.output = w.output) (hok : OwnOk ρ H w' j b') (hbl : ∀ k, bl' k = if j = k then some b' else bl k) : WRel B bl' ρ H w' := by
  have old : ∀ k c, bl' k = some c → k ≠ j → bl k = some c := fun k c hk hne => by rw [hbl, if_neg (Ne.symm hne)] at hk; exact hk
  have any : ∀ k c, bl' k = some c → ∃ c', bl k = some c' := fun k c hk => by
    by_cases hkj : k = j
    · subst hkj; exact ⟨b, hj⟩
    · exact ⟨c, old k c hk hkj⟩
  refine ⟨fun k c hk => ?_, fun k q c d hk hq => ?_, fun k c hk => ?_, fun k c hk => ?_, fun k o' hk => ?_, h.hext, h.hnew, by rw [hs]; exact h.size, fun k hk hn => ?_, by rw [hos]; exact h.os, by rw [ht]; exact h.tape, by rw [hp]; exact h.output⟩
  · by_cases hkj : k = j
    · subst hkj; rw [hbl, if_pos rfl] at hk; cases hk; exact hok
    · have hb := old k c hk hkj
      exact (h.own k c hb).mono (GH.le_refl _) rfl (fun _ _ => rfl) (fun h1 => ho _ (h.sep k j c b hb hj hkj h1 hh))
  · obtain ⟨c', hc⟩ := any k c hk; obtain ⟨d', hd⟩ := any q d hq; exact h.sep k q c' d' hc hd
  · obtain ⟨c', hc⟩ := any k c hk; exact h.new k c' hc
  · obtain ⟨c', hc⟩ := any k c hk; exact h.np k c' hc
  · rw [ho k (by rintro rfl; rw [h.np j b hj hh] at hk; cases hk)]; exact h.pers k o' hk
  · rw [ho k (by rintro rfl; rcases h.new j b hj hh with h1 | h1; omega; exact hn h1)]; exact h.frame k hk hn

theorem WRel.bl_eq (h : WRel B bl ρ H w) (hb : ∀ k c, bl' k = some c → bl k = some c) : WRel B bl' ρ H w :=
  ⟨fun k c hk => h.own k c (hb k c hk), fun k q c d hk hq => h.sep k q c d (hb k c hk) (hb q d hq), fun k c hk => h.new k c (hb k c hk), fun k c hk => h.np k c (hb k c hk), h.pers, h.hext, h.hnew, h.size, h.frame, h.os, h.tape, h.output⟩
end upd

section ops
variable {P : Program}

/-- From what an operation gives to the state behind it. -/
theorem opOk_value {B : Base} {o : Oper} {st : St} {e : Eff} (hd : ∀ t, o.dst = some t → t < st.n) (hfr : ∀ j ∈ e.new, st.Fresh j)
    (h : ∀ ρ H a w, Rel B st ρ H a w → ∃ v w' ρ' H', ((execOp a.eval o).run P w = .ok (.value v) w' ∨ ((execOp a.eval o).run P w = .ok .skip w' ∧ v = undef)) ∧ Den ρ' H' e.dst v ∧ H.le H' ∧
      (∀ k, k ∉ e.new → ρ' k = ρ k) ∧ WRel B (st.app o.dst e).blk ρ' H' w') : OpOk P B o st e := by
  intro ρ H a w hR K Q hK
  obtain ⟨v, w', ρ', H', hrun, hv, hle, hρ, hw⟩ := h ρ H a w hR
  have key : Rel B (st.app o.dst e) ρ' H' (a.put o.dst v) w' := by
    refine ⟨?_, ?_, fun t d ht => ?_, hw⟩
    · cases ho : o.dst <;> simp [Act.put, St.app, hR.sz]
    · cases ho : o.dst <;> simp [Act.put, hR.df]
    · rw [St.app_get] at ht
      by_cases hdt : o.dst = some t
      · rw [if_pos hdt] at ht
        cases ht
        exact ⟨v, by rw [hdt]; simp [Act.put, hR.sz, hd t hdt], hv⟩
      · rw [if_neg hdt] at ht
        obtain ⟨u, h1, h2⟩ := hR.tm t d ht
        refine ⟨u, ?_, h2.mono hle fun j hj => hρ j fun hn => by rw [(hfr j hn).tm t d ht] at hj; cases hj⟩
        cases ho : o.dst with
        | none => simpa [Act.put] using h1
        | some s => rw [ho] at hdt; simp only [Act.put, Option.some.injEq] at hdt ⊢; rw [Array.getElem?_setIfInBounds_ne hdt]; exact h1
  unfold Oper.wp
  rcases hrun with hrun | ⟨hrun, rfl⟩
  · rw [hrun]; exact hK v ρ' H' w' key
  · rw [hrun]; exact hK undef ρ' H' w' key

/-- An operation that only reckons. -/
theorem lok_pure {t : Nat} {op : Op} {ty : TypeId} {pos : String} {af : Array Edge} {g : Option (Nat × Bool)} {st : St} {d : D} (hd : t < st.n)
    (h : ∀ B st2 ρ H a w, Agree ⟨some t, op, ty, pos, af, g⟩ ⟨[], [], d, []⟩ st st2 → Rel B st2 ρ H a w → ∃ v, (execOp a.eval ⟨some t, op, ty, pos, af, g⟩).run P w = .ok (.value v) w ∧ Den ρ H d v) :
    LOk P ⟨some t, op, ty, pos, af, g⟩ st ⟨[], [], d, []⟩ := by
  intro B st2 ag
  refine opOk_value (fun s hs => by cases hs; rw [ag.n]; exact hd) (by simp) fun ρ H a w hR => ?_
  obtain ⟨v, h1, h2⟩ := h B st2 ρ H a w ag hR
  refine ⟨v, w, ρ, H, .inl h1, h2, GH.le_refl _, fun _ _ => rfl, hR.wr.bl_eq fun k c hk => ?_⟩
  rw [St.app_blk] at hk; exact hk

section
variable {t : Nat} {ty : TypeId} {pos : String} {af : Array Edge} {g : Option (Nat × Bool)} {st : St} {d : D}

theorem lok_move {x : Operand} (hx : st.val x = some d) (hd : t < st.n) : LOk P ⟨some t, .move x, ty, pos, af, g⟩ st ⟨[], [], d, []⟩ :=
  lok_pure hd fun _ st2 _ _ a _ ag hR => ⟨a.eval x, rfl, hR.val ((ag.val x (by simp [Op.operands])).trans hx)⟩
theorem lok_assign {x : Operand} (hx : st.val x = some d) (hd : t < st.n) : LOk P ⟨some t, .assign x, ty, pos, af, g⟩ st ⟨[], [], d, []⟩ :=
  lok_pure hd fun _ st2 _ _ a _ ag hR => ⟨a.eval x, rfl, hR.val ((ag.val x (by simp [Op.operands])).trans hx)⟩

theorem lok_pick_t {c x y : Operand} (hc : st.val c = some (.bool true)) (hx : st.val x = some d) (hd : t < st.n) : LOk P ⟨some t, .pick c x y, ty, pos, af, g⟩ st ⟨[], [], d, []⟩ :=
  lok_pure hd fun _ st2 _ _ a w ag hR => ⟨a.eval x, by
    have h := (hR.val ((ag.val c (by simp [Op.operands])).trans hc)).bool_inv
    simp [execOp, h, asBool], hR.val ((ag.val x (by simp [Op.operands])).trans hx)⟩
theorem lok_pick_f {c x y : Operand} (hc : st.val c = some (.bool false)) (hy : st.val y = some d) (hd : t < st.n) : LOk P ⟨some t, .pick c x y, ty, pos, af, g⟩ st ⟨[], [], d, []⟩ :=
  lok_pure hd fun _ st2 _ _ a w ag hR => ⟨a.eval y, by
    have h := (hR.val ((ag.val c (by simp [Op.operands])).trans hc)).bool_inv
    simp [execOp, h, asBool], hR.val ((ag.val y (by simp [Op.operands])).trans hy)⟩

/-- A comparison of two integers. -/
def cmpInt : BinOp → Int → Int → Option Bool
  | .eql, x, y => some (x == y)
  | .neq, x, y => some (x != y)
  | .lss, x, y => some (decide (x < y))
  | .leq, x, y => some (decide (x ≤ y))
  | .gtr, x, y => some (decide (y < x))
  | .geq, x, y => some (decide (y ≤ x))
  | _, _, _ => none
theorem lok_cmp {op : BinOp} {x y : Operand} {xt yt : TypeId} {k : IntKind} {m n : Int} {b : Bool} (hx : st.val x = some (.int k m)) (hy : st.val y = some (.int k n)) (hb : cmpInt op m n = some b) (hd : t < st.n) :
    LOk P ⟨some t, .binOp op xt x y yt, ty, pos, af, g⟩ st ⟨[], [], .bool b, []⟩ :=
  lok_pure hd fun _ st2 _ _ a w ag hR => ⟨.bool b, by
    have h1 := (hR.val ((ag.val x (by simp [Op.operands])).trans hx)).int_inv
    have h2 := (hR.val ((ag.val y (by simp [Op.operands])).trans hy)).int_inv
    cases op <;> simp [cmpInt] at hb <;> subst hb <;> simp [execOp, h1, h2, eqGuard, binOp, Op.intCmp], .pure (.bool b)⟩

def arInt : BinOp → Int → Int → Option Int
  | .add, x, y => some (x + y)
  | .sub, x, y => some (x - y)
  | .mul, x, y => some (x * y)
  | _, _, _ => none
theorem lok_ar {op : BinOp} {x y : Operand} {xt yt : TypeId} {k : IntKind} {m n r s : Int} (hx : st.val x = some (.int k m)) (hy : st.val y = some (.int k n)) (hb : arInt op m n = some r) (hw : k.wrap r = s) (hd : t < st.n) :
    LOk P ⟨some t, .binOp op xt x y yt, ty, pos, af, g⟩ st ⟨[], [], .int k s, []⟩ :=
  lok_pure hd fun _ st2 _ _ a w ag hR => ⟨.int k s, by
    have h1 := (hR.val ((ag.val x (by simp [Op.operands])).trans hx)).int_inv
    have h2 := (hR.val ((ag.val y (by simp [Op.operands])).trans hy)).int_inv
    cases op <;> simp [arInt] at hb <;> subst hb <;> simp [execOp, h1, h2, eqGuard, binOp, Op.intArith, hw], .pure (.int k s)⟩

theorem lok_not {x : Operand} {xt : TypeId} {b : Bool} (hx : st.val x = some (.bool b)) (hd : t < st.n) : LOk P ⟨some t, .unOp .not xt x, ty, pos, af, g⟩ st ⟨[], [], .bool (!b), []⟩ :=
  lok_pure hd fun _ st2 _ _ a w ag hR => ⟨.bool (!b), by
    have h1 := (hR.val ((ag.val x (by simp [Op.operands])).trans hx)).bool_inv
    simp [execOp, h1, Op.unary], .pure (.bool _)⟩

theorem lok_extract {x : Operand} {i : Nat} {l : List D} (hx : st.val x = some (.tup l)) (hi : l[i]? = some d) (hd : t < st.n) : LOk P ⟨some t, .extract x i, ty, pos, af, g⟩ st ⟨[], [], d, []⟩ :=
  lok_pure hd fun _ st2 _ _ a w ag hR => by
    obtain ⟨cs, h1, h2, h3⟩ := (hR.val ((ag.val x (by simp [Op.operands])).trans hx)).tup_inv
    have hlt : i < cs.size := by rw [h2]; exact (List.getElem?_eq_some_iff.1 hi).1
    exact ⟨cs[i], by simp [execOp, h1, Instr.extract, hlt], h3 i d _ hi (by simp [hlt])⟩

theorem lok_len {x : Operand} {xt e : TypeId} {sz by_ : Nat} {full : Bool} {l : List (List D)} [hT : TySl P xt e sz by_] (hx : st.val x = some (.rows full l)) (hd : t < st.n) :
    LOk P ⟨some t, .call ⟨.builtin .len, #[x], #[xt]⟩, ty, pos, af, g⟩ st ⟨[], [], .int .i64 l.length, []⟩ :=
  lok_pure hd fun _ st2 _ _ a w ag hR => by
    obtain ⟨b, cap, h1, _⟩ := (hR.val ((ag.val x (by simp [Op.operands, Call.operands])).trans hx)).rows_inv
    exact ⟨.int .i64 l.length, by simp [execOp, resolve, invoke, builtin, Builtin.len_, h1, run_underlying hT.und, goInt], .pure (.int _ _)⟩

theorem lok_fieldAddr_ptr {x : Operand} {xt : TypeId} {f j off fo fn : Nat} {fs : List (Nat × Nat)} [hT : TyS P xt fs] (hx : st.val x = some (.ptr j off)) (hf : fs[f]? = some (fo, fn + 1)) (hd : t < st.n) :
    LOk P ⟨some t, .fieldAddr xt x f, ty, pos, af, g⟩ st ⟨[], [], .ptr j (off + fo), []⟩ :=
  lok_pure hd fun _ st2 ρ H a w ag hR => by
    obtain ⟨hh, h1⟩ := (hR.val ((ag.val x (by simp [Op.operands])).trans hx)).ptr_inv
    obtain ⟨u, hu, hu2⟩ := map_some hT.und
    cases u with
    | struct fields =>
      simp only [Option.some.injEq] at hu2
      have h2 := congrArg (·[f]?) hu2
      simp only [List.getElem?_map, hf, Option.map_some] at h2
      obtain ⟨fd, hfd, h3⟩ := map_some h2
      simp only [Prod.mk.injEq] at h3
      obtain ⟨i, hi, hi2⟩ := map_some h3.2
      have hfd' : fields[f]? = some fd := by simpa using hfd
      refine ⟨.pointer (some ⟨(ρ j).blk, off + fo, none⟩), ?_, .ptr j (off + fo) hh⟩
      simp [execOp, h1, Instr.fieldAt, run_underlying hu, hfd', Instr.sureAddr, fieldPlace, sizeOf, typeInfo, hi, hi2, h3.1, Addr.add]
    | _ => simp at hu2

theorem drop_getElem? {l : List D} {k n : Nat} : (l.drop n)[k]? = l[n + k]? := by simp

theorem lok_fieldAddr_pp {x : Operand} {xt : TypeId} {f fo fn : Nat} {fs : List (Nat × Nat)} {l : List D} [hT : TyS P xt fs] (hx : st.val x = some (.pp l)) (hf : fs[f]? = some (fo, fn + 1)) (hl : fo ≤ l.length) (hd : t < st.n) :
    LOk P ⟨some t, .fieldAddr xt x f, ty, pos, af, g⟩ st ⟨[], [], .pp (l.drop fo), []⟩ :=
  lok_pure hd fun _ st2 ρ H a w ag hR => by
    obtain ⟨b, off, arr, aty, fz, h1, hb, hin, he⟩ := (hR.val ((ag.val x (by simp [Op.operands])).trans hx)).pp_inv
    obtain ⟨u, hu, hu2⟩ := map_some hT.und
    cases u with
    | struct fields =>
      simp only [Option.some.injEq] at hu2
      have h2 := congrArg (·[f]?) hu2
      simp only [List.getElem?_map, hf, Option.map_some] at h2
      obtain ⟨fd, hfd, h3⟩ := map_some h2
      simp only [Prod.mk.injEq] at h3
      obtain ⟨i, hi, hi2⟩ := map_some h3.2
      have hfd' : fields[f]? = some fd := by simpa using hfd
      refine ⟨.pointer (some ⟨b, off + fo, none⟩), ?_, .pure (.pp _ b (off + fo) arr aty fz hb (by simp; omega) fun k d v hk hv => he (fo + k) d v (by simpa using hk) (by rw [← Nat.add_assoc]; exact hv))⟩
      simp [execOp, h1, Instr.fieldAt, run_underlying hu, hfd', Instr.sureAddr, fieldPlace, sizeOf, typeInfo, hi, hi2, h3.1, Addr.add]
    | _ => simp at hu2

/-- Is anything known of it? -/
def D.known : D → Bool
  | .any => false
  | _ => true
theorem D.known_ne {d : D} (h : d.known = true) : d ≠ .any := by rintro rfl; cases h

/-- What a load gives: the cells from a place on. -/
def ldD (agg : Bool) (n : Nat) (l : List D) : Option D := if agg then (if n ≤ l.length then some (.agg (l.take n)) else none) else l[0]?

theorem load_cells {w : World} {b off n : Nat} {arr : Array Value} {aty : TypeId} {fz : Nat × Nat} (hb : w.heap[b]? = some (.cells arr aty fz)) (hin : off + n ≤ arr.size) :
    (loadCells ⟨b, off, none⟩ n).run P w = .ok (arr.extract off (off + n)) w := by
  have h := run_loadCells_list (P := P) w ⟨b, off, none⟩ (arr.extract off (off + n)).toList (fun j v hj => by
    have hj' : j < n ∧ arr[off + j]? = some v := by
      have hlt := (List.getElem?_eq_some_iff.1 hj).1
      simp at hlt
      refine ⟨by omega, ?_⟩
      simp only [Array.getElem?_toList, Array.getElem?_extract] at hj
      split at hj
      · exact hj
      · cases hj
    have hadd : (⟨b, off, none⟩ : Addr).add j = ⟨b, off + j, none⟩ := by unfold Addr.add; split <;> simp_all
    rw [hadd]; simp [World.cell?, hb, hj'.2])
  have hlen : (arr.extract off (off + n)).toList.length = n := by simp; omega
  rw [hlen, Array.toArray_toList] at h
  exact h

theorem load_run {w : World} {b off n : Nat} {arr : Array Value} {aty : TypeId} {fz : Nat × Nat} {T : TypeId} {agg : Bool} (hT : TyF P T agg n) {l : List D} {ρ : Nat → Loc} {H : GH}
    (hb : w.heap[b]? = some (.cells arr aty fz)) (hin : off + l.length ≤ arr.size) (he : ∀ (k : Nat) (d : D) (v : Value), l[k]? = some d → arr[off + k]? = some v → Den ρ H d v) (hl : ldD agg n l = some d) :
    ∃ v, (loadVar T ⟨b, off, none⟩).run P w = .ok v w ∧ Den ρ H d v := by
  obtain ⟨u, hu, hu2⟩ := map_some hT.und
  obtain ⟨i, hi, hi2⟩ := map_some hT.info
  have hagg : (isAgg T).run P w = .ok agg w := by
    simp only [isAgg, Sem.run_bind, run_underlying hu, Result.andThen_ok]
    cases u <;> simp at hu2 <;> subst hu2 <;> rfl
  cases agg with
  | true =>
    simp only [ldD, if_true] at hl
    split at hl
    · rename_i hle
      cases hl
      refine ⟨.agg (arr.extract off (off + n)), ?_, .agg _ _ (by simp; omega) fun k d v hk hv => ?_⟩
      · simp [loadVar, hagg, sizeOf, typeInfo, hi, hi2, load_cells hb (show off + n ≤ arr.size by omega)]
      · simp only [List.getElem?_take] at hk
        split at hk
        · refine he k d v hk ?_
          simp only [Array.getElem?_extract] at hv
          split at hv
          · exact hv
          · cases hv
        · cases hk
    · cases hl
  | false =>
    simp only [ldD, Bool.false_eq_true, if_false] at hl
    have hlt : 0 < l.length := (List.getElem?_eq_some_iff.1 hl).1
    have h0 : off < arr.size := by omega
    refine ⟨arr[off], ?_, he 0 d _ hl (by simp [h0])⟩
    have hc : w.cell? ⟨b, off, none⟩ = some arr[off] := by simp [World.cell?, hb, h0]
    simp [loadVar, hagg, hc]

theorem lok_load_pp {x : Operand} {T : TypeId} {agg : Bool} {n : Nat} {l : List D} [hT : TyF P T agg n] (hx : st.val x = some (.pp l)) (hl : ldD agg n l = some d) (hd : t < st.n) :
    LOk P ⟨some t, .load T x, ty, pos, af, g⟩ st ⟨[], [], d, []⟩ :=
  lok_pure hd fun _ st2 ρ H a w ag hR => by
    obtain ⟨b, off, arr, aty, fz, h1, hb, hin, he⟩ := (hR.val ((ag.val x (by simp [Op.operands])).trans hx)).pp_inv
    obtain ⟨v, hv, hden⟩ := load_run (ρ := ρ) hT (hR.wr.pers _ _ hb) hin (fun k d v h1 h2 => Den.pure (he k d v h1 h2)) hl
    exact ⟨v, by simp [execOp, Instr.loadAt, h1, Instr.sureAddr, hv], hden⟩

/-- An operation that only looks at the own block j. -/
theorem lok_look {op : Op} {j : Nat} (hd : t < st.n)
    (h : ∀ B st2 ρ H a w, Agree ⟨some t, op, ty, pos, af, g⟩ ⟨[j], [], d, []⟩ st st2 → Rel B st2 ρ H a w → ∃ v, (execOp a.eval ⟨some t, op, ty, pos, af, g⟩).run P w = .ok (.value v) w ∧ Den ρ H d v) :
    LOk P ⟨some t, op, ty, pos, af, g⟩ st ⟨[j], [], d, []⟩ := by
  intro B st2 ag
  refine opOk_value (fun s hs => by cases hs; rw [ag.n]; exact hd) (by simp) fun ρ H a w hR => ?_
  obtain ⟨v, h1, h2⟩ := h B st2 ρ H a w ag hR
  refine ⟨v, w, ρ, H, .inl h1, h2, GH.le_refl _, fun _ _ => rfl, hR.wr.bl_eq fun k c hk => ?_⟩
  rw [St.app_blk] at hk; exact hk

theorem lok_load_ptr {x : Operand} {T : TypeId} {agg : Bool} {n j off : Nat} {bt : TypeId} {l : List D} [hT : TyF P T agg n] (hx : st.val x = some (.ptr j off)) (hj : st.blk j = some (.cells bt l)) (hl : ldD agg n (l.drop off) = some d)
    (ho : off ≤ l.length) (hd : t < st.n) : LOk P ⟨some t, .load T x, ty, pos, af, g⟩ st ⟨[j], [], d, []⟩ :=
  lok_look hd fun _ st2 ρ H a w ag hR => by
    obtain ⟨hh, h1⟩ := (hR.val ((ag.val x (by simp [Op.operands])).trans hx)).ptr_inv
    obtain ⟨_, arr, hb, hsz, he⟩ := hR.wr.own j _ ((ag.blk j (by simp)).trans hj)
    obtain ⟨v, hv, hden⟩ := load_run (ρ := ρ) (H := H) hT hb (l := l.drop off) (off := off) (by simp; omega) (fun k d v h1 h2 => he (off + k) d v (by simpa using h1) h2) hl
    exact ⟨v, by simp [execOp, Instr.loadAt, h1, Instr.sureAddr, hv], hden⟩

/-- Some cells laid over others. -/
def putL : List D → Nat → List D → List D
  | [], _, _ => []
  | x :: l, 0, [] => x :: l
  | _ :: l, 0, d :: ds => d :: putL l 0 ds
  | x :: l, n + 1, ds => x :: putL l n ds
theorem putL_eq : ∀ (l : List D) (off : Nat) (ds : List D), off + ds.length ≤ l.length → putL l off ds = l.take off ++ ds ++ l.drop (off + ds.length)
  | [], off, ds, h => by
    simp at h
    obtain ⟨rfl, rfl⟩ := h
    rfl
  | x :: l, 0, [], _ => by simp [putL]
  | x :: l, 0, d :: ds, h => by
    have := putL_eq l 0 ds (by simp at h ⊢; omega)
    simp [putL, this]
  | x :: l, n + 1, ds, h => by
    have := putL_eq l n ds (by simp at h ⊢; omega)
    simp only [putL, this, List.take_succ_cons, List.cons_append, Nat.add_right_comm n 1, List.drop_succ_cons]

theorem store_run {w : World} {b off : Nat} {arr : Array Value} {aty : TypeId} {T : TypeId} {agg : Bool} {n : Nat} (hT : TyF P T agg n) {ρ : Nat → Loc} {H : GH} {v : Value} (hv : Den ρ H d v) (hdn : d.flat.length = n)
    (hcell : d.flat.all D.cell = true) (hb : w.heap[b]? = some (.cells arr aty (0, 0))) (hin : off + n ≤ arr.size) (hany : d ≠ .any) :
    (storeVar T ⟨b, off, none⟩ v).run P w = .ok () (w.setRow b (arr.toList.take off ++ v.cells.toList ++ arr.toList.drop (off + n)).toArray) := by
  obtain ⟨i, hi, hi2⟩ := map_some hT.info
  obtain ⟨h1, h2⟩ := hv.flat hany
  have hone : ∀ x ∈ v.cells.toList, x.oneCell' = true := by
    intro x hx
    obtain ⟨k, hk⟩ := List.mem_iff_getElem?.1 hx
    have hkl : k < d.flat.length := by have := (List.getElem?_eq_some_iff.1 hk).1; simp at this; omega
    have hd' := h2 k d.flat[k] x (by simp [hkl]) (by simpa using hk)
    have hc := hd'.cell ((List.all_eq_true.1 hcell) _ (List.getElem_mem hkl))
    cases x <;> simp [Value.oneCell'] <;> first | exact hc.1 _ rfl | exact hc.2 _ rfl
  have hst := run_storeCells_at P b off aty v.cells.toList 0 arr w hb (by simp [h1, hdn]; omega) hone
  have hlen : v.cells.toList.length = n := by simp [h1, hdn]
  simp only [Nat.add_zero, hlen] at hst
  simp [storeVar, sizeOf, typeInfo, hi, hi2, h1, hdn, hst]

theorem lok_store_ptr {x y : Operand} {T : TypeId} {agg : Bool} {n j off : Nat} {bt : TypeId} {l l' : List D} [hT : TyF P T agg n] (hx : st.val x = some (.ptr j off)) (hj : st.blk j = some (.cells bt l)) (hy : st.val y = some d)
    (hn : d.flat.length = n) (hc : (d.flat.all D.cell && off + n ≤ l.length && d.known) = true) (hl : putL l off d.flat = l') :
    LOk P ⟨none, .store T x y, ty, pos, af, g⟩ st ⟨[j], [], .any, [(j, some (.cells bt l'))]⟩ := by
  intro B st2 ag
  simp only [Bool.and_eq_true, decide_eq_true_eq] at hc
  have hany : d ≠ .any := D.known_ne hc.2
  refine opOk_value (fun s hs => by cases hs) (by simp) fun ρ H a w hR => ?_
  obtain ⟨hh, h1⟩ := (hR.val ((ag.val x (by simp [Op.operands])).trans hx)).ptr_inv
  have hj2 := (ag.blk j (by simp)).trans hj
  obtain ⟨_, arr, hb, hsz, he⟩ := hR.wr.own j _ hj2
  have hyv := hR.val ((ag.val y (by simp [Op.operands])).trans hy)
  have hin : off + n ≤ arr.size := by rw [hsz]; exact hc.1.2
  have hst := store_run (P := P) hT hyv hn hc.1.1 hb hin hany
  obtain ⟨hf1, hf2⟩ := hyv.flat hany
  refine ⟨undef, _, ρ, H, .inr ⟨by simp [execOp, Instr.storeAt, h1, Instr.sureAddr, hst]; rfl, rfl⟩, .pure (.any _), GH.le_refl _, fun _ _ => rfl, ?_⟩
  have hlt : (ρ j).blk < w.heap.size := (hR.wr.own j _ hj2).lt hh
  refine hR.wr.write hj2 hh (w' := w.setRow (ρ j).blk _) ?_ (fun k hk => ?_) rfl rfl rfl (b' := .cells bt l') ⟨hh, _, setRow_heap w _ arr _ bt (0, 0) hb, ?_, fun k d' v' hk hv' => ?_⟩ (fun k => ?_)
  · simp [World.setRow]
  · exact setRow_other w _ k _ hk
  · subst hl
    rw [putL_eq l off d.flat (by rw [hn]; exact hc.1.2)]
    simp [hf1, hn, hsz]
  · subst hl
    rw [putL_eq l off d.flat (by rw [hn]; exact hc.1.2)] at hk
    have hcl : v'.cells = v'.cells := rfl
    simp only [List.getElem?_toArray, List.append_assoc, List.getElem?_append, List.length_take, List.getElem?_take, List.getElem?_drop] at hk hv'
    have e1 : min off l.length = off := by omega
    have e2 : min off arr.toList.length = off := by simp; omega
    rw [e1] at hk
    rw [e2] at hv'
    split at hk
    · rename_i hko
      rw [if_pos hko] at hv'
      simp only [hko, if_true] at hk hv'
      exact he k d' v' hk (by simpa using hv')
    · rename_i hko
      rw [if_neg hko] at hv'
      split at hk
      · rename_i hk2
        rw [if_pos (by simp [hf1]; exact hk2)] at hv'
        exact hf2 _ d' v' hk (by simpa using hv')
      · rename_i hk2
        rw [if_neg (by simp [hf1]; omega)] at hv'
        have e3 : (a.eval y).cells.toList.length = d.flat.length := by simp [hf1]
        rw [e3] at hv'
        rw [hn] at hk hv'
        exact he _ d' v' hk (by simpa using hv')
  · rw [St.app_blk, blkOn_cons]
    by_cases hjk : j = k
    · rw [if_pos hjk, if_pos hjk]; rfl
    · rw [if_neg hjk, if_neg hjk]; rfl

end
end ops
end Go.Eng
