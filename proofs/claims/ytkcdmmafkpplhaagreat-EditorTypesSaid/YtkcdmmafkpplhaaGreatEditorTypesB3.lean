/- Own texts of this claim, laid together: EngAG, Ty, SpA, E1, SpB, E2, SpC, E3, SpD, E4, E5, SpE, E6, SpF. -/
import Derived.Test.YtkcdmmafkpplhaaGreatProg
import Derived.KernelRfl
import Derived.Test.YtkcdmmafkpplhaaGreatEditorTypesB2
set_option linter.unusedVariables false
set_option linter.unusedSimpArgs false
/- The engine, part AG: the steps once more, with what is met by computing as a default. No program in sight. (Printed by mkAG.py out of the lemmas of before; XEngAG0.lean is its head.) -/
namespace Go.Eng
open Go
def faD (fo : Nat) : D → Option D
  | .ptr j off => some (.ptr j (off + fo))
  | .pp l => match Nat.ble fo l.length with | true => some (.pp (l.drop fo)) | false => none
  | _ => none
def ldB (agg : Bool) (m j off : Nat) : Option Blk → Option (List Nat × D)
  | some (.cells _ l) => match Nat.ble off l.length with
    | true => (match ldD agg m (l.drop off) with | some d => some ([j], d) | none => none)
    | false => none
  | _ => none
def ldX (st : St) (agg : Bool) (m : Nat) : D → Option (List Nat × D)
  | .ptr j off => ldB agg m j off (St.blk st j)
  | .pp l => match ldD agg m l with | some d => some ([], d) | none => none
  | _ => none
section
variable {P : Program} {ops : Array Oper} {r : List Oper} {acc : List Eff} {n lm : Nat} {tm : List (Nat × D)} {ow : List (Nat × Option Blk)} {F : List Eff → St → Prop}
  {t : Nat} {ty : TypeId} {pos : String} {af : Array Edge} {g : Option (Nat × Bool)} {d : D} {α : Type} {f : α → List D}
theorem faA {x : Operand} {xt : TypeId} {f fo fn : Nat} {fs : List (Nat × Nat)} {d0 : D} [hT : TyS P xt fs] (hx : St.val ⟨n, tm, ow, lm⟩ x = some d0) (hf : fs[f]? = some (fo, fn + 1)) (h0 : faD fo d0 = some d) (hd : Nat.blt t n = true) (hg : Gd ops ⟨n, tm, ow, lm⟩ g)
    (h : WpD P ops r (⟨[], [], d, []⟩ :: acc) ⟨n, (t, d) :: tm, ow, lm⟩ F) : WpD P ops (⟨some t, .fieldAddr xt x f, ty, pos, af, g⟩ :: r) acc ⟨n, tm, ow, lm⟩ F := by
  unfold faD at h0
  split at h0
  · cases h0; exact fa hx hf hd hg h
  · split at h0
    · rename_i hb; cases h0; exact fap hx hf hb hd hg h
    · cases h0
  · cases h0
theorem ldA {x : Operand} {T : TypeId} {agg : Bool} {m : Nat} {d0 : D} {js : List Nat} [hT : TyF P T agg m] (hx : St.val ⟨n, tm, ow, lm⟩ x = some d0) (hl : ldX ⟨n, tm, ow, lm⟩ agg m d0 = some (js, d)) (hd : Nat.blt t n = true) (hg : Gd ops ⟨n, tm, ow, lm⟩ g)
    (h : WpD P ops r (⟨js, [], d, []⟩ :: acc) ⟨n, (t, d) :: tm, ow, lm⟩ F) : WpD P ops (⟨some t, .load T x, ty, pos, af, g⟩ :: r) acc ⟨n, tm, ow, lm⟩ F := by
  unfold ldX at hl
  split at hl
  · rename_i j off
    unfold ldB at hl
    split at hl
    · rename_i bt l hj
      split at hl
      · rename_i hb
        split at hl
        · rename_i dd hdd; cases hl; exact ld hx hj hdd hb hd hg h
        · cases hl
      · cases hl
    · cases hl
  · split at hl
    · rename_i dd hdd; cases hl; exact ldp hx hdd hd hg h
    · cases hl
  · cases hl
theorem mv0 {x : Operand} (e_ : (St.val ⟨n, tm, ow, lm⟩ x, Nat.blt t n) = (some d, true)) (h : WpD P ops r (⟨[], [], d, []⟩ :: acc) ⟨n, (t, d) :: tm, ow, lm⟩ F) : WpD P ops (⟨some t, .move x, ty, pos, af, none⟩ :: r) acc ⟨n, tm, ow, lm⟩ F := mv (Prod.mk.inj e_).1 (Prod.mk.inj e_).2 .none h
theorem mv1 {gi_ gs_ : Nat} {gw_ gb_ : Bool} {x : Operand} (eg_ : ((ops[gi_]?).bind (·.dst), St.get ⟨n, tm, ow, lm⟩ gs_) = (some gs_, some (.bool gb_))) (hw_ : gb_ = gw_) (e_ : (St.val ⟨n, tm, ow, lm⟩ x, Nat.blt t n) = (some d, true)) (h : WpD P ops r (⟨[], [], d, []⟩ :: acc) ⟨n, (t, d) :: tm, ow, lm⟩ F) : WpD P ops (⟨some t, .move x, ty, pos, af, some (gi_, gw_)⟩ :: r) acc ⟨n, tm, ow, lm⟩ F := mv (Prod.mk.inj e_).1 (Prod.mk.inj e_).2 (.want (Prod.mk.inj eg_).1 (Prod.mk.inj eg_).2 hw_) h
theorem asg0 {x : Operand} (e_ : (St.val ⟨n, tm, ow, lm⟩ x, Nat.blt t n) = (some d, true)) (h : WpD P ops r (⟨[], [], d, []⟩ :: acc) ⟨n, (t, d) :: tm, ow, lm⟩ F) : WpD P ops (⟨some t, .assign x, ty, pos, af, none⟩ :: r) acc ⟨n, tm, ow, lm⟩ F := asg (Prod.mk.inj e_).1 (Prod.mk.inj e_).2 .none h
theorem asg1 {gi_ gs_ : Nat} {gw_ gb_ : Bool} {x : Operand} (eg_ : ((ops[gi_]?).bind (·.dst), St.get ⟨n, tm, ow, lm⟩ gs_) = (some gs_, some (.bool gb_))) (hw_ : gb_ = gw_) (e_ : (St.val ⟨n, tm, ow, lm⟩ x, Nat.blt t n) = (some d, true)) (h : WpD P ops r (⟨[], [], d, []⟩ :: acc) ⟨n, (t, d) :: tm, ow, lm⟩ F) : WpD P ops (⟨some t, .assign x, ty, pos, af, some (gi_, gw_)⟩ :: r) acc ⟨n, tm, ow, lm⟩ F := asg (Prod.mk.inj e_).1 (Prod.mk.inj e_).2 (.want (Prod.mk.inj eg_).1 (Prod.mk.inj eg_).2 hw_) h
theorem pkt0 {c x y : Operand} {b : Bool} (e_ : (St.val ⟨n, tm, ow, lm⟩ c, St.val ⟨n, tm, ow, lm⟩ x, Nat.blt t n) = (some (.bool b), some d, true)) (hb : b = true) (h : WpD P ops r (⟨[], [], d, []⟩ :: acc) ⟨n, (t, d) :: tm, ow, lm⟩ F) : WpD P ops (⟨some t, .pick c x y, ty, pos, af, none⟩ :: r) acc ⟨n, tm, ow, lm⟩ F := pkt (Prod.mk.inj e_).1 hb (Prod.mk.inj (Prod.mk.inj e_).2).1 (Prod.mk.inj (Prod.mk.inj e_).2).2 .none h
theorem pkt1 {gi_ gs_ : Nat} {gw_ gb_ : Bool} {c x y : Operand} {b : Bool} (eg_ : ((ops[gi_]?).bind (·.dst), St.get ⟨n, tm, ow, lm⟩ gs_) = (some gs_, some (.bool gb_))) (hw_ : gb_ = gw_) (e_ : (St.val ⟨n, tm, ow, lm⟩ c, St.val ⟨n, tm, ow, lm⟩ x, Nat.blt t n) = (some (.bool b), some d, true)) (hb : b = true) (h : WpD P ops r (⟨[], [], d, []⟩ :: acc) ⟨n, (t, d) :: tm, ow, lm⟩ F) : WpD P ops (⟨some t, .pick c x y, ty, pos, af, some (gi_, gw_)⟩ :: r) acc ⟨n, tm, ow, lm⟩ F := pkt (Prod.mk.inj e_).1 hb (Prod.mk.inj (Prod.mk.inj e_).2).1 (Prod.mk.inj (Prod.mk.inj e_).2).2 (.want (Prod.mk.inj eg_).1 (Prod.mk.inj eg_).2 hw_) h
theorem pkf0 {c x y : Operand} {b : Bool} (e_ : (St.val ⟨n, tm, ow, lm⟩ c, St.val ⟨n, tm, ow, lm⟩ y, Nat.blt t n) = (some (.bool b), some d, true)) (hb : b = false) (h : WpD P ops r (⟨[], [], d, []⟩ :: acc) ⟨n, (t, d) :: tm, ow, lm⟩ F) : WpD P ops (⟨some t, .pick c x y, ty, pos, af, none⟩ :: r) acc ⟨n, tm, ow, lm⟩ F := pkf (Prod.mk.inj e_).1 hb (Prod.mk.inj (Prod.mk.inj e_).2).1 (Prod.mk.inj (Prod.mk.inj e_).2).2 .none h
theorem pkf1 {gi_ gs_ : Nat} {gw_ gb_ : Bool} {c x y : Operand} {b : Bool} (eg_ : ((ops[gi_]?).bind (·.dst), St.get ⟨n, tm, ow, lm⟩ gs_) = (some gs_, some (.bool gb_))) (hw_ : gb_ = gw_) (e_ : (St.val ⟨n, tm, ow, lm⟩ c, St.val ⟨n, tm, ow, lm⟩ y, Nat.blt t n) = (some (.bool b), some d, true)) (hb : b = false) (h : WpD P ops r (⟨[], [], d, []⟩ :: acc) ⟨n, (t, d) :: tm, ow, lm⟩ F) : WpD P ops (⟨some t, .pick c x y, ty, pos, af, some (gi_, gw_)⟩ :: r) acc ⟨n, tm, ow, lm⟩ F := pkf (Prod.mk.inj e_).1 hb (Prod.mk.inj (Prod.mk.inj e_).2).1 (Prod.mk.inj (Prod.mk.inj e_).2).2 (.want (Prod.mk.inj eg_).1 (Prod.mk.inj eg_).2 hw_) h
theorem cmp0 {op : BinOp} {x y : Operand} {xt yt : TypeId} {k : IntKind} {a b : Int} {c : Bool} (e_ : (St.val ⟨n, tm, ow, lm⟩ x, St.val ⟨n, tm, ow, lm⟩ y, cmpInt op a b, Nat.blt t n) = (some (.int k a), some (.int k b), some c, true)) (h : WpD P ops r (⟨[], [], .bool c, []⟩ :: acc) ⟨n, (t, .bool c) :: tm, ow, lm⟩ F) : WpD P ops (⟨some t, .binOp op xt x y yt, ty, pos, af, none⟩ :: r) acc ⟨n, tm, ow, lm⟩ F := cmp (Prod.mk.inj e_).1 (Prod.mk.inj (Prod.mk.inj e_).2).1 (Prod.mk.inj (Prod.mk.inj (Prod.mk.inj e_).2).2).1 (Prod.mk.inj (Prod.mk.inj (Prod.mk.inj e_).2).2).2 .none h
theorem cmp1 {gi_ gs_ : Nat} {gw_ gb_ : Bool} {op : BinOp} {x y : Operand} {xt yt : TypeId} {k : IntKind} {a b : Int} {c : Bool} (eg_ : ((ops[gi_]?).bind (·.dst), St.get ⟨n, tm, ow, lm⟩ gs_) = (some gs_, some (.bool gb_))) (hw_ : gb_ = gw_) (e_ : (St.val ⟨n, tm, ow, lm⟩ x, St.val ⟨n, tm, ow, lm⟩ y, cmpInt op a b, Nat.blt t n) = (some (.int k a), some (.int k b), some c, true)) (h : WpD P ops r (⟨[], [], .bool c, []⟩ :: acc) ⟨n, (t, .bool c) :: tm, ow, lm⟩ F) : WpD P ops (⟨some t, .binOp op xt x y yt, ty, pos, af, some (gi_, gw_)⟩ :: r) acc ⟨n, tm, ow, lm⟩ F := cmp (Prod.mk.inj e_).1 (Prod.mk.inj (Prod.mk.inj e_).2).1 (Prod.mk.inj (Prod.mk.inj (Prod.mk.inj e_).2).2).1 (Prod.mk.inj (Prod.mk.inj (Prod.mk.inj e_).2).2).2 (.want (Prod.mk.inj eg_).1 (Prod.mk.inj eg_).2 hw_) h
theorem ar0 {op : BinOp} {x y : Operand} {xt yt : TypeId} {k : IntKind} {a b c : Int} {s : Int} (e_ : (St.val ⟨n, tm, ow, lm⟩ x, St.val ⟨n, tm, ow, lm⟩ y, arInt op a b, Nat.blt t n) = (some (.int k a), some (.int k b), some c, true)) (hw : k.wrap c = s) (h : WpD P ops r (⟨[], [], .int k s, []⟩ :: acc) ⟨n, (t, .int k s) :: tm, ow, lm⟩ F) : WpD P ops (⟨some t, .binOp op xt x y yt, ty, pos, af, none⟩ :: r) acc ⟨n, tm, ow, lm⟩ F := ar s (Prod.mk.inj e_).1 (Prod.mk.inj (Prod.mk.inj e_).2).1 (Prod.mk.inj (Prod.mk.inj (Prod.mk.inj e_).2).2).1 hw (Prod.mk.inj (Prod.mk.inj (Prod.mk.inj e_).2).2).2 .none h
theorem ar1 {gi_ gs_ : Nat} {gw_ gb_ : Bool} {op : BinOp} {x y : Operand} {xt yt : TypeId} {k : IntKind} {a b c : Int} {s : Int} (eg_ : ((ops[gi_]?).bind (·.dst), St.get ⟨n, tm, ow, lm⟩ gs_) = (some gs_, some (.bool gb_))) (hw_ : gb_ = gw_) (e_ : (St.val ⟨n, tm, ow, lm⟩ x, St.val ⟨n, tm, ow, lm⟩ y, arInt op a b, Nat.blt t n) = (some (.int k a), some (.int k b), some c, true)) (hw : k.wrap c = s) (h : WpD P ops r (⟨[], [], .int k s, []⟩ :: acc) ⟨n, (t, .int k s) :: tm, ow, lm⟩ F) : WpD P ops (⟨some t, .binOp op xt x y yt, ty, pos, af, some (gi_, gw_)⟩ :: r) acc ⟨n, tm, ow, lm⟩ F := ar s (Prod.mk.inj e_).1 (Prod.mk.inj (Prod.mk.inj e_).2).1 (Prod.mk.inj (Prod.mk.inj (Prod.mk.inj e_).2).2).1 hw (Prod.mk.inj (Prod.mk.inj (Prod.mk.inj e_).2).2).2 (.want (Prod.mk.inj eg_).1 (Prod.mk.inj eg_).2 hw_) h
theorem nt0 {x : Operand} {xt : TypeId} {b : Bool} (e_ : (St.val ⟨n, tm, ow, lm⟩ x, Nat.blt t n) = (some (.bool b), true)) (h : WpD P ops r (⟨[], [], .bool (!b), []⟩ :: acc) ⟨n, (t, .bool (!b)) :: tm, ow, lm⟩ F) : WpD P ops (⟨some t, .unOp .not xt x, ty, pos, af, none⟩ :: r) acc ⟨n, tm, ow, lm⟩ F := nt (Prod.mk.inj e_).1 (Prod.mk.inj e_).2 .none h
theorem nt1 {gi_ gs_ : Nat} {gw_ gb_ : Bool} {x : Operand} {xt : TypeId} {b : Bool} (eg_ : ((ops[gi_]?).bind (·.dst), St.get ⟨n, tm, ow, lm⟩ gs_) = (some gs_, some (.bool gb_))) (hw_ : gb_ = gw_) (e_ : (St.val ⟨n, tm, ow, lm⟩ x, Nat.blt t n) = (some (.bool b), true)) (h : WpD P ops r (⟨[], [], .bool (!b), []⟩ :: acc) ⟨n, (t, .bool (!b)) :: tm, ow, lm⟩ F) : WpD P ops (⟨some t, .unOp .not xt x, ty, pos, af, some (gi_, gw_)⟩ :: r) acc ⟨n, tm, ow, lm⟩ F := nt (Prod.mk.inj e_).1 (Prod.mk.inj e_).2 (.want (Prod.mk.inj eg_).1 (Prod.mk.inj eg_).2 hw_) h
theorem xt0 {x : Operand} {i : Nat} {l : List D} (e_ : (St.val ⟨n, tm, ow, lm⟩ x, l[i]?, Nat.blt t n) = (some (.tup l), some d, true)) (h : WpD P ops r (⟨[], [], d, []⟩ :: acc) ⟨n, (t, d) :: tm, ow, lm⟩ F) : WpD P ops (⟨some t, .extract x i, ty, pos, af, none⟩ :: r) acc ⟨n, tm, ow, lm⟩ F := xt (Prod.mk.inj e_).1 (Prod.mk.inj (Prod.mk.inj e_).2).1 (Prod.mk.inj (Prod.mk.inj e_).2).2 .none h
theorem xt1 {gi_ gs_ : Nat} {gw_ gb_ : Bool} {x : Operand} {i : Nat} {l : List D} (eg_ : ((ops[gi_]?).bind (·.dst), St.get ⟨n, tm, ow, lm⟩ gs_) = (some gs_, some (.bool gb_))) (hw_ : gb_ = gw_) (e_ : (St.val ⟨n, tm, ow, lm⟩ x, l[i]?, Nat.blt t n) = (some (.tup l), some d, true)) (h : WpD P ops r (⟨[], [], d, []⟩ :: acc) ⟨n, (t, d) :: tm, ow, lm⟩ F) : WpD P ops (⟨some t, .extract x i, ty, pos, af, some (gi_, gw_)⟩ :: r) acc ⟨n, tm, ow, lm⟩ F := xt (Prod.mk.inj e_).1 (Prod.mk.inj (Prod.mk.inj e_).2).1 (Prod.mk.inj (Prod.mk.inj e_).2).2 (.want (Prod.mk.inj eg_).1 (Prod.mk.inj eg_).2 hw_) h
theorem ln0 {x : Operand} {xt e : TypeId} {sz by_ : Nat} {full : Bool} {l : List (List D)} [hT : TySl P xt e sz by_] (e_ : (St.val ⟨n, tm, ow, lm⟩ x, Nat.blt t n) = (some (.rows full l), true)) (h : WpD P ops r (⟨[], [], .int .i64 l.length, []⟩ :: acc) ⟨n, (t, .int .i64 l.length) :: tm, ow, lm⟩ F) : WpD P ops (⟨some t, .call ⟨.builtin .len, #[x], #[xt]⟩, ty, pos, af, none⟩ :: r) acc ⟨n, tm, ow, lm⟩ F := ln (Prod.mk.inj e_).1 (Prod.mk.inj e_).2 .none h
theorem ln1 {gi_ gs_ : Nat} {gw_ gb_ : Bool} {x : Operand} {xt e : TypeId} {sz by_ : Nat} {full : Bool} {l : List (List D)} [hT : TySl P xt e sz by_] (eg_ : ((ops[gi_]?).bind (·.dst), St.get ⟨n, tm, ow, lm⟩ gs_) = (some gs_, some (.bool gb_))) (hw_ : gb_ = gw_) (e_ : (St.val ⟨n, tm, ow, lm⟩ x, Nat.blt t n) = (some (.rows full l), true)) (h : WpD P ops r (⟨[], [], .int .i64 l.length, []⟩ :: acc) ⟨n, (t, .int .i64 l.length) :: tm, ow, lm⟩ F) : WpD P ops (⟨some t, .call ⟨.builtin .len, #[x], #[xt]⟩, ty, pos, af, some (gi_, gw_)⟩ :: r) acc ⟨n, tm, ow, lm⟩ F := ln (Prod.mk.inj e_).1 (Prod.mk.inj e_).2 (.want (Prod.mk.inj eg_).1 (Prod.mk.inj eg_).2 hw_) h
theorem lnM0 {x : Operand} {xt e : TypeId} {sz by_ : Nat} {full : Bool} {l : List α} [hT : TySl P xt e sz by_] (e_ : (St.val ⟨n, tm, ow, lm⟩ x, Nat.blt t n) = (some (.rows full (l.map f)), true)) (h : WpD P ops r (⟨[], [], .int .i64 l.length, []⟩ :: acc) ⟨n, (t, .int .i64 l.length) :: tm, ow, lm⟩ F) : WpD P ops (⟨some t, .call ⟨.builtin .len, #[x], #[xt]⟩, ty, pos, af, none⟩ :: r) acc ⟨n, tm, ow, lm⟩ F := lnM (Prod.mk.inj e_).1 (Prod.mk.inj e_).2 .none h
theorem lnM1 {gi_ gs_ : Nat} {gw_ gb_ : Bool} {x : Operand} {xt e : TypeId} {sz by_ : Nat} {full : Bool} {l : List α} [hT : TySl P xt e sz by_] (eg_ : ((ops[gi_]?).bind (·.dst), St.get ⟨n, tm, ow, lm⟩ gs_) = (some gs_, some (.bool gb_))) (hw_ : gb_ = gw_) (e_ : (St.val ⟨n, tm, ow, lm⟩ x, Nat.blt t n) = (some (.rows full (l.map f)), true)) (h : WpD P ops r (⟨[], [], .int .i64 l.length, []⟩ :: acc) ⟨n, (t, .int .i64 l.length) :: tm, ow, lm⟩ F) : WpD P ops (⟨some t, .call ⟨.builtin .len, #[x], #[xt]⟩, ty, pos, af, some (gi_, gw_)⟩ :: r) acc ⟨n, tm, ow, lm⟩ F := lnM (Prod.mk.inj e_).1 (Prod.mk.inj e_).2 (.want (Prod.mk.inj eg_).1 (Prod.mk.inj eg_).2 hw_) h
theorem lns0 {x : Operand} {T e : TypeId} {sz by_ j lo m : Nat} [hT : TySl P T e sz by_] (e_ : (St.val ⟨n, tm, ow, lm⟩ x, Nat.blt t n) = (some (.sl j lo m), true)) (h : WpD P ops r (⟨[], [], .int .i64 m, []⟩ :: acc) ⟨n, (t, .int .i64 m) :: tm, ow, lm⟩ F) : WpD P ops (⟨some t, .call ⟨.builtin .len, #[x], #[T]⟩, ty, pos, af, none⟩ :: r) acc ⟨n, tm, ow, lm⟩ F := lns (Prod.mk.inj e_).1 (Prod.mk.inj e_).2 .none h
theorem lns1 {gi_ gs_ : Nat} {gw_ gb_ : Bool} {x : Operand} {T e : TypeId} {sz by_ j lo m : Nat} [hT : TySl P T e sz by_] (eg_ : ((ops[gi_]?).bind (·.dst), St.get ⟨n, tm, ow, lm⟩ gs_) = (some gs_, some (.bool gb_))) (hw_ : gb_ = gw_) (e_ : (St.val ⟨n, tm, ow, lm⟩ x, Nat.blt t n) = (some (.sl j lo m), true)) (h : WpD P ops r (⟨[], [], .int .i64 m, []⟩ :: acc) ⟨n, (t, .int .i64 m) :: tm, ow, lm⟩ F) : WpD P ops (⟨some t, .call ⟨.builtin .len, #[x], #[T]⟩, ty, pos, af, some (gi_, gw_)⟩ :: r) acc ⟨n, tm, ow, lm⟩ F := lns (Prod.mk.inj e_).1 (Prod.mk.inj e_).2 (.want (Prod.mk.inj eg_).1 (Prod.mk.inj eg_).2 hw_) h
theorem faA0 {x : Operand} {xt : TypeId} {f fo fn : Nat} {fs : List (Nat × Nat)} {d0 : D} [hT : TyS P xt fs] (e_ : (St.val ⟨n, tm, ow, lm⟩ x, fs[f]?, faD fo d0, Nat.blt t n) = (some d0, some (fo, fn + 1), some d, true)) (h : WpD P ops r (⟨[], [], d, []⟩ :: acc) ⟨n, (t, d) :: tm, ow, lm⟩ F) : WpD P ops (⟨some t, .fieldAddr xt x f, ty, pos, af, none⟩ :: r) acc ⟨n, tm, ow, lm⟩ F := faA (Prod.mk.inj e_).1 (Prod.mk.inj (Prod.mk.inj e_).2).1 (Prod.mk.inj (Prod.mk.inj (Prod.mk.inj e_).2).2).1 (Prod.mk.inj (Prod.mk.inj (Prod.mk.inj e_).2).2).2 .none h
theorem faA1 {gi_ gs_ : Nat} {gw_ gb_ : Bool} {x : Operand} {xt : TypeId} {f fo fn : Nat} {fs : List (Nat × Nat)} {d0 : D} [hT : TyS P xt fs] (eg_ : ((ops[gi_]?).bind (·.dst), St.get ⟨n, tm, ow, lm⟩ gs_) = (some gs_, some (.bool gb_))) (hw_ : gb_ = gw_) (e_ : (St.val ⟨n, tm, ow, lm⟩ x, fs[f]?, faD fo d0, Nat.blt t n) = (some d0, some (fo, fn + 1), some d, true)) (h : WpD P ops r (⟨[], [], d, []⟩ :: acc) ⟨n, (t, d) :: tm, ow, lm⟩ F) : WpD P ops (⟨some t, .fieldAddr xt x f, ty, pos, af, some (gi_, gw_)⟩ :: r) acc ⟨n, tm, ow, lm⟩ F := faA (Prod.mk.inj e_).1 (Prod.mk.inj (Prod.mk.inj e_).2).1 (Prod.mk.inj (Prod.mk.inj (Prod.mk.inj e_).2).2).1 (Prod.mk.inj (Prod.mk.inj (Prod.mk.inj e_).2).2).2 (.want (Prod.mk.inj eg_).1 (Prod.mk.inj eg_).2 hw_) h
theorem ldA0 {x : Operand} {T : TypeId} {agg : Bool} {m : Nat} {d0 : D} {js : List Nat} [hT : TyF P T agg m] (e_ : (St.val ⟨n, tm, ow, lm⟩ x, ldX ⟨n, tm, ow, lm⟩ agg m d0, Nat.blt t n) = (some d0, some (js, d), true)) (h : WpD P ops r (⟨js, [], d, []⟩ :: acc) ⟨n, (t, d) :: tm, ow, lm⟩ F) : WpD P ops (⟨some t, .load T x, ty, pos, af, none⟩ :: r) acc ⟨n, tm, ow, lm⟩ F := ldA (Prod.mk.inj e_).1 (Prod.mk.inj (Prod.mk.inj e_).2).1 (Prod.mk.inj (Prod.mk.inj e_).2).2 .none h
theorem ldA1 {gi_ gs_ : Nat} {gw_ gb_ : Bool} {x : Operand} {T : TypeId} {agg : Bool} {m : Nat} {d0 : D} {js : List Nat} [hT : TyF P T agg m] (eg_ : ((ops[gi_]?).bind (·.dst), St.get ⟨n, tm, ow, lm⟩ gs_) = (some gs_, some (.bool gb_))) (hw_ : gb_ = gw_) (e_ : (St.val ⟨n, tm, ow, lm⟩ x, ldX ⟨n, tm, ow, lm⟩ agg m d0, Nat.blt t n) = (some d0, some (js, d), true)) (h : WpD P ops r (⟨js, [], d, []⟩ :: acc) ⟨n, (t, d) :: tm, ow, lm⟩ F) : WpD P ops (⟨some t, .load T x, ty, pos, af, some (gi_, gw_)⟩ :: r) acc ⟨n, tm, ow, lm⟩ F := ldA (Prod.mk.inj e_).1 (Prod.mk.inj (Prod.mk.inj e_).2).1 (Prod.mk.inj (Prod.mk.inj e_).2).2 (.want (Prod.mk.inj eg_).1 (Prod.mk.inj eg_).2 hw_) h
theorem stw0 {x y : Operand} {T bt : TypeId} {agg : Bool} {m j off : Nat} {l l' : List D} [hT : TyF P T agg m] (e_ : (St.val ⟨n, tm, ow, lm⟩ x, St.blk ⟨n, tm, ow, lm⟩ j, St.val ⟨n, tm, ow, lm⟩ y, d.flat.length, (d.flat.all D.cell && off + m ≤ l.length && d.known), putL l off d.wk.flat) = (some (.ptr j off), some (.cells bt l), some d, m, true, l')) (h : WpD P ops r (⟨[j], [], .any, [(j, some (.cells bt l'))]⟩ :: acc) ⟨n, tm, (j, some (.cells bt l')) :: ow, lm⟩ F) : WpD P ops (⟨none, .store T x y, ty, pos, af, none⟩ :: r) acc ⟨n, tm, ow, lm⟩ F := stw (Prod.mk.inj e_).1 (Prod.mk.inj (Prod.mk.inj e_).2).1 (Prod.mk.inj (Prod.mk.inj (Prod.mk.inj e_).2).2).1 (Prod.mk.inj (Prod.mk.inj (Prod.mk.inj (Prod.mk.inj e_).2).2).2).1 (Prod.mk.inj (Prod.mk.inj (Prod.mk.inj (Prod.mk.inj (Prod.mk.inj e_).2).2).2).2).1 (Prod.mk.inj (Prod.mk.inj (Prod.mk.inj (Prod.mk.inj (Prod.mk.inj e_).2).2).2).2).2 .none h
theorem stw1 {gi_ gs_ : Nat} {gw_ gb_ : Bool} {x y : Operand} {T bt : TypeId} {agg : Bool} {m j off : Nat} {l l' : List D} [hT : TyF P T agg m] (eg_ : ((ops[gi_]?).bind (·.dst), St.get ⟨n, tm, ow, lm⟩ gs_) = (some gs_, some (.bool gb_))) (hw_ : gb_ = gw_) (e_ : (St.val ⟨n, tm, ow, lm⟩ x, St.blk ⟨n, tm, ow, lm⟩ j, St.val ⟨n, tm, ow, lm⟩ y, d.flat.length, (d.flat.all D.cell && off + m ≤ l.length && d.known), putL l off d.wk.flat) = (some (.ptr j off), some (.cells bt l), some d, m, true, l')) (h : WpD P ops r (⟨[j], [], .any, [(j, some (.cells bt l'))]⟩ :: acc) ⟨n, tm, (j, some (.cells bt l')) :: ow, lm⟩ F) : WpD P ops (⟨none, .store T x y, ty, pos, af, some (gi_, gw_)⟩ :: r) acc ⟨n, tm, ow, lm⟩ F := stw (Prod.mk.inj e_).1 (Prod.mk.inj (Prod.mk.inj e_).2).1 (Prod.mk.inj (Prod.mk.inj (Prod.mk.inj e_).2).2).1 (Prod.mk.inj (Prod.mk.inj (Prod.mk.inj (Prod.mk.inj e_).2).2).2).1 (Prod.mk.inj (Prod.mk.inj (Prod.mk.inj (Prod.mk.inj (Prod.mk.inj e_).2).2).2).2).1 (Prod.mk.inj (Prod.mk.inj (Prod.mk.inj (Prod.mk.inj (Prod.mk.inj e_).2).2).2).2).2 (.want (Prod.mk.inj eg_).1 (Prod.mk.inj eg_).2 hw_) h
theorem al0 {T : TypeId} {zs : List D} [hZ : TyZ P T zs] (j : Nat) (e_ : (St.freshB ⟨n, tm, ow, lm⟩ j, Nat.blt t n) = (true, true)) (h : WpD P ops r (⟨[], [j], .ptr j 0, [(j, some (.cells T zs))]⟩ :: acc) ⟨n, (t, .ptr j 0) :: tm, (j, some (.cells T zs)) :: ow, lm⟩ F) : WpD P ops (⟨some t, .alloc T, ty, pos, af, none⟩ :: r) acc ⟨n, tm, ow, lm⟩ F := al j (Prod.mk.inj e_).1 (Prod.mk.inj e_).2 .none h
theorem al1 {gi_ gs_ : Nat} {gw_ gb_ : Bool} {T : TypeId} {zs : List D} [hZ : TyZ P T zs] (eg_ : ((ops[gi_]?).bind (·.dst), St.get ⟨n, tm, ow, lm⟩ gs_) = (some gs_, some (.bool gb_))) (hw_ : gb_ = gw_) (j : Nat) (e_ : (St.freshB ⟨n, tm, ow, lm⟩ j, Nat.blt t n) = (true, true)) (h : WpD P ops r (⟨[], [j], .ptr j 0, [(j, some (.cells T zs))]⟩ :: acc) ⟨n, (t, .ptr j 0) :: tm, (j, some (.cells T zs)) :: ow, lm⟩ F) : WpD P ops (⟨some t, .alloc T, ty, pos, af, some (gi_, gw_)⟩ :: r) acc ⟨n, tm, ow, lm⟩ F := al j (Prod.mk.inj e_).1 (Prod.mk.inj e_).2 (.want (Prod.mk.inj eg_).1 (Prod.mk.inj eg_).2 hw_) h
theorem bx0 {T : TypeId} {x : Operand} (j : Nat) (e_ : (St.val ⟨n, tm, ow, lm⟩ x, d.known, St.freshB ⟨n, tm, ow, lm⟩ j, Nat.blt t n) = (some d, true, true, true)) (h : WpD P ops r (⟨[], [j], .ptr j 0, [(j, some (.cells T d.flat))]⟩ :: acc) ⟨n, (t, .ptr j 0) :: tm, (j, some (.cells T d.flat)) :: ow, lm⟩ F) : WpD P ops (⟨some t, .box T x, ty, pos, af, none⟩ :: r) acc ⟨n, tm, ow, lm⟩ F := bx j (Prod.mk.inj e_).1 (Prod.mk.inj (Prod.mk.inj e_).2).1 (Prod.mk.inj (Prod.mk.inj (Prod.mk.inj e_).2).2).1 (Prod.mk.inj (Prod.mk.inj (Prod.mk.inj e_).2).2).2 .none h
theorem bx1 {gi_ gs_ : Nat} {gw_ gb_ : Bool} {T : TypeId} {x : Operand} (eg_ : ((ops[gi_]?).bind (·.dst), St.get ⟨n, tm, ow, lm⟩ gs_) = (some gs_, some (.bool gb_))) (hw_ : gb_ = gw_) (j : Nat) (e_ : (St.val ⟨n, tm, ow, lm⟩ x, d.known, St.freshB ⟨n, tm, ow, lm⟩ j, Nat.blt t n) = (some d, true, true, true)) (h : WpD P ops r (⟨[], [j], .ptr j 0, [(j, some (.cells T d.flat))]⟩ :: acc) ⟨n, (t, .ptr j 0) :: tm, (j, some (.cells T d.flat)) :: ow, lm⟩ F) : WpD P ops (⟨some t, .box T x, ty, pos, af, some (gi_, gw_)⟩ :: r) acc ⟨n, tm, ow, lm⟩ F := bx j (Prod.mk.inj e_).1 (Prod.mk.inj (Prod.mk.inj e_).2).1 (Prod.mk.inj (Prod.mk.inj (Prod.mk.inj e_).2).2).1 (Prod.mk.inj (Prod.mk.inj (Prod.mk.inj e_).2).2).2 (.want (Prod.mk.inj eg_).1 (Prod.mk.inj eg_).2 hw_) h
theorem bdw0 {T : TypeId} {parts : Array (Nat × Operand)} {zs ds : List D} {fs : List (Nat × Nat)} {ps : List (Nat × D)} [hZ : TyZ P T zs] [hS : TyS P T fs] (e_ : (St.valsP ⟨n, tm, ow, lm⟩ parts.toList, bldD fs zs ps, Nat.blt t n) = (some ps, some ds, true)) (h : WpD P ops r (⟨[], [], .agg (D.wkL ds), []⟩ :: acc) ⟨n, (t, .agg (D.wkL ds)) :: tm, ow, lm⟩ F) : WpD P ops (⟨some t, .build T parts, ty, pos, af, none⟩ :: r) acc ⟨n, tm, ow, lm⟩ F := bdw (Prod.mk.inj e_).1 (Prod.mk.inj (Prod.mk.inj e_).2).1 (Prod.mk.inj (Prod.mk.inj e_).2).2 .none h
theorem bdw1 {gi_ gs_ : Nat} {gw_ gb_ : Bool} {T : TypeId} {parts : Array (Nat × Operand)} {zs ds : List D} {fs : List (Nat × Nat)} {ps : List (Nat × D)} [hZ : TyZ P T zs] [hS : TyS P T fs] (eg_ : ((ops[gi_]?).bind (·.dst), St.get ⟨n, tm, ow, lm⟩ gs_) = (some gs_, some (.bool gb_))) (hw_ : gb_ = gw_) (e_ : (St.valsP ⟨n, tm, ow, lm⟩ parts.toList, bldD fs zs ps, Nat.blt t n) = (some ps, some ds, true)) (h : WpD P ops r (⟨[], [], .agg (D.wkL ds), []⟩ :: acc) ⟨n, (t, .agg (D.wkL ds)) :: tm, ow, lm⟩ F) : WpD P ops (⟨some t, .build T parts, ty, pos, af, some (gi_, gw_)⟩ :: r) acc ⟨n, tm, ow, lm⟩ F := bdw (Prod.mk.inj e_).1 (Prod.mk.inj (Prod.mk.inj e_).2).1 (Prod.mk.inj (Prod.mk.inj e_).2).2 (.want (Prod.mk.inj eg_).1 (Prod.mk.inj eg_).2 hw_) h
theorem bs0 {T e : TypeId} {len sz by_ : Nat} {parts : Array (Nat × Operand)} {zs : List D} {ps : List (Nat × D)} {l : List (List D)} [hT : TySl P T e sz by_] [hZ : TyZ P e zs] (e_ : (St.valsP ⟨n, tm, ow, lm⟩ parts.toList, bsD sz 0 ps, (Nat.beq ps.length len && Nat.ble (len * sz) 16777216 && Nat.ble len 16777216), Nat.blt t n) = (some ps, some l, true, true)) (h : WpD P ops r (⟨[], [], .rows true l, []⟩ :: acc) ⟨n, (t, .rows true l) :: tm, ow, lm⟩ F) : WpD P ops (⟨some t, .buildSlice T len parts, ty, pos, af, none⟩ :: r) acc ⟨n, tm, ow, lm⟩ F := bs (Prod.mk.inj e_).1 (Prod.mk.inj (Prod.mk.inj e_).2).1 (Prod.mk.inj (Prod.mk.inj (Prod.mk.inj e_).2).2).1 (Prod.mk.inj (Prod.mk.inj (Prod.mk.inj e_).2).2).2 .none h
theorem bs1 {gi_ gs_ : Nat} {gw_ gb_ : Bool} {T e : TypeId} {len sz by_ : Nat} {parts : Array (Nat × Operand)} {zs : List D} {ps : List (Nat × D)} {l : List (List D)} [hT : TySl P T e sz by_] [hZ : TyZ P e zs] (eg_ : ((ops[gi_]?).bind (·.dst), St.get ⟨n, tm, ow, lm⟩ gs_) = (some gs_, some (.bool gb_))) (hw_ : gb_ = gw_) (e_ : (St.valsP ⟨n, tm, ow, lm⟩ parts.toList, bsD sz 0 ps, (Nat.beq ps.length len && Nat.ble (len * sz) 16777216 && Nat.ble len 16777216), Nat.blt t n) = (some ps, some l, true, true)) (h : WpD P ops r (⟨[], [], .rows true l, []⟩ :: acc) ⟨n, (t, .rows true l) :: tm, ow, lm⟩ F) : WpD P ops (⟨some t, .buildSlice T len parts, ty, pos, af, some (gi_, gw_)⟩ :: r) acc ⟨n, tm, ow, lm⟩ F := bs (Prod.mk.inj e_).1 (Prod.mk.inj (Prod.mk.inj e_).2).1 (Prod.mk.inj (Prod.mk.inj (Prod.mk.inj e_).2).2).1 (Prod.mk.inj (Prod.mk.inj (Prod.mk.inj e_).2).2).2 (.want (Prod.mk.inj eg_).1 (Prod.mk.inj eg_).2 hw_) h
theorem cmb0 {op : BinOp} {x y : Operand} {xt yt : TypeId} {a b c : Bool} [hT : TyB P xt] (e_ : (St.val ⟨n, tm, ow, lm⟩ x, St.val ⟨n, tm, ow, lm⟩ y, cmpBool op a b, Nat.blt t n) = (some (.bool a), some (.bool b), some c, true)) (h : WpD P ops r (⟨[], [], .bool c, []⟩ :: acc) ⟨n, (t, .bool c) :: tm, ow, lm⟩ F) : WpD P ops (⟨some t, .binOp op xt x y yt, ty, pos, af, none⟩ :: r) acc ⟨n, tm, ow, lm⟩ F := cmb (Prod.mk.inj e_).1 (Prod.mk.inj (Prod.mk.inj e_).2).1 (Prod.mk.inj (Prod.mk.inj (Prod.mk.inj e_).2).2).1 (Prod.mk.inj (Prod.mk.inj (Prod.mk.inj e_).2).2).2 .none h
theorem cmb1 {gi_ gs_ : Nat} {gw_ gb_ : Bool} {op : BinOp} {x y : Operand} {xt yt : TypeId} {a b c : Bool} [hT : TyB P xt] (eg_ : ((ops[gi_]?).bind (·.dst), St.get ⟨n, tm, ow, lm⟩ gs_) = (some gs_, some (.bool gb_))) (hw_ : gb_ = gw_) (e_ : (St.val ⟨n, tm, ow, lm⟩ x, St.val ⟨n, tm, ow, lm⟩ y, cmpBool op a b, Nat.blt t n) = (some (.bool a), some (.bool b), some c, true)) (h : WpD P ops r (⟨[], [], .bool c, []⟩ :: acc) ⟨n, (t, .bool c) :: tm, ow, lm⟩ F) : WpD P ops (⟨some t, .binOp op xt x y yt, ty, pos, af, some (gi_, gw_)⟩ :: r) acc ⟨n, tm, ow, lm⟩ F := cmb (Prod.mk.inj e_).1 (Prod.mk.inj (Prod.mk.inj e_).2).1 (Prod.mk.inj (Prod.mk.inj (Prod.mk.inj e_).2).2).1 (Prod.mk.inj (Prod.mk.inj (Prod.mk.inj e_).2).2).2 (.want (Prod.mk.inj eg_).1 (Prod.mk.inj eg_).2 hw_) h
theorem cms0 {op : BinOp} {x y : Operand} {xt yt : TypeId} {l m : List D} {ks : List Nat} {b c : Bool} [hT : TyEq P xt ks] (e_ : (St.val ⟨n, tm, ow, lm⟩ x, St.val ⟨n, tm, ow, lm⟩ y, eqDs ks l m, cmpEq op b, Nat.blt t n) = (some (.agg l), some (.agg m), some b, some c, true)) (h : WpD P ops r (⟨[], [], .bool c, []⟩ :: acc) ⟨n, (t, .bool c) :: tm, ow, lm⟩ F) : WpD P ops (⟨some t, .binOp op xt x y yt, ty, pos, af, none⟩ :: r) acc ⟨n, tm, ow, lm⟩ F := cms (Prod.mk.inj e_).1 (Prod.mk.inj (Prod.mk.inj e_).2).1 (Prod.mk.inj (Prod.mk.inj (Prod.mk.inj e_).2).2).1 (Prod.mk.inj (Prod.mk.inj (Prod.mk.inj (Prod.mk.inj e_).2).2).2).1 (Prod.mk.inj (Prod.mk.inj (Prod.mk.inj (Prod.mk.inj e_).2).2).2).2 .none h
theorem cms1 {gi_ gs_ : Nat} {gw_ gb_ : Bool} {op : BinOp} {x y : Operand} {xt yt : TypeId} {l m : List D} {ks : List Nat} {b c : Bool} [hT : TyEq P xt ks] (eg_ : ((ops[gi_]?).bind (·.dst), St.get ⟨n, tm, ow, lm⟩ gs_) = (some gs_, some (.bool gb_))) (hw_ : gb_ = gw_) (e_ : (St.val ⟨n, tm, ow, lm⟩ x, St.val ⟨n, tm, ow, lm⟩ y, eqDs ks l m, cmpEq op b, Nat.blt t n) = (some (.agg l), some (.agg m), some b, some c, true)) (h : WpD P ops r (⟨[], [], .bool c, []⟩ :: acc) ⟨n, (t, .bool c) :: tm, ow, lm⟩ F) : WpD P ops (⟨some t, .binOp op xt x y yt, ty, pos, af, some (gi_, gw_)⟩ :: r) acc ⟨n, tm, ow, lm⟩ F := cms (Prod.mk.inj e_).1 (Prod.mk.inj (Prod.mk.inj e_).2).1 (Prod.mk.inj (Prod.mk.inj (Prod.mk.inj e_).2).2).1 (Prod.mk.inj (Prod.mk.inj (Prod.mk.inj (Prod.mk.inj e_).2).2).2).1 (Prod.mk.inj (Prod.mk.inj (Prod.mk.inj (Prod.mk.inj e_).2).2).2).2 (.want (Prod.mk.inj eg_).1 (Prod.mk.inj eg_).2 hw_) h
theorem clw0 {y : Operand} {xs : Array Operand} {ats : Array TypeId} {fn : FuncId} {ds caps : List D} {d : D} (e_ : (St.val ⟨n, tm, ow, lm⟩ y, St.vals ⟨n, tm, ow, lm⟩ xs.toList, Nat.blt t n) = (some (.fn fn caps), some ds, true)) (hs : FnP P fn (D.wkL (ds ++ caps)) d) (f_ : (D.pureL (ds ++ caps) && d.pureB) = true) (h : WpD P ops r (⟨[], [], d, []⟩ :: acc) ⟨n, (t, d) :: tm, ow, lm⟩ F) : WpD P ops (⟨some t, .call ⟨.value y, xs, ats⟩, ty, pos, af, none⟩ :: r) acc ⟨n, tm, ow, lm⟩ F := clw (Prod.mk.inj e_).1 (Prod.mk.inj (Prod.mk.inj e_).2).1 hs f_ (Prod.mk.inj (Prod.mk.inj e_).2).2 .none h
theorem clw1 {gi_ gs_ : Nat} {gw_ gb_ : Bool} {y : Operand} {xs : Array Operand} {ats : Array TypeId} {fn : FuncId} {ds caps : List D} {d : D} (eg_ : ((ops[gi_]?).bind (·.dst), St.get ⟨n, tm, ow, lm⟩ gs_) = (some gs_, some (.bool gb_))) (hw_ : gb_ = gw_) (e_ : (St.val ⟨n, tm, ow, lm⟩ y, St.vals ⟨n, tm, ow, lm⟩ xs.toList, Nat.blt t n) = (some (.fn fn caps), some ds, true)) (hs : FnP P fn (D.wkL (ds ++ caps)) d) (f_ : (D.pureL (ds ++ caps) && d.pureB) = true) (h : WpD P ops r (⟨[], [], d, []⟩ :: acc) ⟨n, (t, d) :: tm, ow, lm⟩ F) : WpD P ops (⟨some t, .call ⟨.value y, xs, ats⟩, ty, pos, af, some (gi_, gw_)⟩ :: r) acc ⟨n, tm, ow, lm⟩ F := clw (Prod.mk.inj e_).1 (Prod.mk.inj (Prod.mk.inj e_).2).1 hs f_ (Prod.mk.inj (Prod.mk.inj e_).2).2 (.want (Prod.mk.inj eg_).1 (Prod.mk.inj eg_).2 hw_) h
theorem inv0 {y : Operand} {xs : Array Operand} {ats : Array TypeId} {name : String} {T : TypeId} {f : FuncId} {ds : List D} {q : D} [hM : Mth P T name f] (e_ : (St.val ⟨n, tm, ow, lm⟩ y, St.vals ⟨n, tm, ow, lm⟩ xs.toList, Nat.blt t n) = (some (.iface T q), some ds, true)) (hs : FnP P f (q :: ds) d) (f_ : (D.pureL (q :: ds) && d.pureB) = true) (h : WpD P ops r (⟨[], [], d, []⟩ :: acc) ⟨n, (t, d) :: tm, ow, lm⟩ F) : WpD P ops (⟨some t, .call ⟨.invoke y name, xs, ats⟩, ty, pos, af, none⟩ :: r) acc ⟨n, tm, ow, lm⟩ F := inv (Prod.mk.inj e_).1 (Prod.mk.inj (Prod.mk.inj e_).2).1 hs f_ (Prod.mk.inj (Prod.mk.inj e_).2).2 .none h
theorem inv1 {gi_ gs_ : Nat} {gw_ gb_ : Bool} {y : Operand} {xs : Array Operand} {ats : Array TypeId} {name : String} {T : TypeId} {f : FuncId} {ds : List D} {q : D} [hM : Mth P T name f] (eg_ : ((ops[gi_]?).bind (·.dst), St.get ⟨n, tm, ow, lm⟩ gs_) = (some gs_, some (.bool gb_))) (hw_ : gb_ = gw_) (e_ : (St.val ⟨n, tm, ow, lm⟩ y, St.vals ⟨n, tm, ow, lm⟩ xs.toList, Nat.blt t n) = (some (.iface T q), some ds, true)) (hs : FnP P f (q :: ds) d) (f_ : (D.pureL (q :: ds) && d.pureB) = true) (h : WpD P ops r (⟨[], [], d, []⟩ :: acc) ⟨n, (t, d) :: tm, ow, lm⟩ F) : WpD P ops (⟨some t, .call ⟨.invoke y name, xs, ats⟩, ty, pos, af, some (gi_, gw_)⟩ :: r) acc ⟨n, tm, ow, lm⟩ F := inv (Prod.mk.inj e_).1 (Prod.mk.inj (Prod.mk.inj e_).2).1 hs f_ (Prod.mk.inj (Prod.mk.inj e_).2).2 (.want (Prod.mk.inj eg_).1 (Prod.mk.inj eg_).2 hw_) h
theorem ifc0 {x : Operand} {T : TypeId} [hT : TyConc P T] (e_ : (St.val ⟨n, tm, ow, lm⟩ x, Nat.blt t n) = (some d, true)) (h : WpD P ops r (⟨[], [], .iface T d, []⟩ :: acc) ⟨n, (t, .iface T d) :: tm, ow, lm⟩ F) : WpD P ops (⟨some t, .makeInterface T x, ty, pos, af, none⟩ :: r) acc ⟨n, tm, ow, lm⟩ F := ifc (Prod.mk.inj e_).1 (Prod.mk.inj e_).2 .none h
theorem ifc1 {gi_ gs_ : Nat} {gw_ gb_ : Bool} {x : Operand} {T : TypeId} [hT : TyConc P T] (eg_ : ((ops[gi_]?).bind (·.dst), St.get ⟨n, tm, ow, lm⟩ gs_) = (some gs_, some (.bool gb_))) (hw_ : gb_ = gw_) (e_ : (St.val ⟨n, tm, ow, lm⟩ x, Nat.blt t n) = (some d, true)) (h : WpD P ops r (⟨[], [], .iface T d, []⟩ :: acc) ⟨n, (t, .iface T d) :: tm, ow, lm⟩ F) : WpD P ops (⟨some t, .makeInterface T x, ty, pos, af, some (gi_, gw_)⟩ :: r) acc ⟨n, tm, ow, lm⟩ F := ifc (Prod.mk.inj e_).1 (Prod.mk.inj e_).2 (.want (Prod.mk.inj eg_).1 (Prod.mk.inj eg_).2 hw_) h
theorem mkf0 {fn : FuncId} {xs : Array Operand} {caps : List D} (e_ : (St.vals ⟨n, tm, ow, lm⟩ xs.toList, Nat.blt t n) = (some caps, true)) (h : WpD P ops r (⟨[], [], .fn fn caps, []⟩ :: acc) ⟨n, (t, .fn fn caps) :: tm, ow, lm⟩ F) : WpD P ops (⟨some t, .makeFunc (.func fn) #[] xs, ty, pos, af, none⟩ :: r) acc ⟨n, tm, ow, lm⟩ F := mkf (Prod.mk.inj e_).1 (Prod.mk.inj e_).2 .none h
theorem mkf1 {gi_ gs_ : Nat} {gw_ gb_ : Bool} {fn : FuncId} {xs : Array Operand} {caps : List D} (eg_ : ((ops[gi_]?).bind (·.dst), St.get ⟨n, tm, ow, lm⟩ gs_) = (some gs_, some (.bool gb_))) (hw_ : gb_ = gw_) (e_ : (St.vals ⟨n, tm, ow, lm⟩ xs.toList, Nat.blt t n) = (some caps, true)) (h : WpD P ops r (⟨[], [], .fn fn caps, []⟩ :: acc) ⟨n, (t, .fn fn caps) :: tm, ow, lm⟩ F) : WpD P ops (⟨some t, .makeFunc (.func fn) #[] xs, ty, pos, af, some (gi_, gw_)⟩ :: r) acc ⟨n, tm, ow, lm⟩ F := mkf (Prod.mk.inj e_).1 (Prod.mk.inj e_).2 (.want (Prod.mk.inj eg_).1 (Prod.mk.inj eg_).2 hw_) h
theorem mkb0 {fn : FuncId} {xs : Array Operand} {caps : List D} (e_ : (St.vals ⟨n, tm, ow, lm⟩ xs.toList, Nat.blt t n) = (some caps, true)) (h : WpD P ops r (⟨[], [], .bfn fn caps, []⟩ :: acc) ⟨n, (t, .bfn fn caps) :: tm, ow, lm⟩ F) : WpD P ops (⟨some t, .makeFunc (.func fn) xs #[], ty, pos, af, none⟩ :: r) acc ⟨n, tm, ow, lm⟩ F := mkb (Prod.mk.inj e_).1 (Prod.mk.inj e_).2 .none h
theorem mkb1 {gi_ gs_ : Nat} {gw_ gb_ : Bool} {fn : FuncId} {xs : Array Operand} {caps : List D} (eg_ : ((ops[gi_]?).bind (·.dst), St.get ⟨n, tm, ow, lm⟩ gs_) = (some gs_, some (.bool gb_))) (hw_ : gb_ = gw_) (e_ : (St.vals ⟨n, tm, ow, lm⟩ xs.toList, Nat.blt t n) = (some caps, true)) (h : WpD P ops r (⟨[], [], .bfn fn caps, []⟩ :: acc) ⟨n, (t, .bfn fn caps) :: tm, ow, lm⟩ F) : WpD P ops (⟨some t, .makeFunc (.func fn) xs #[], ty, pos, af, some (gi_, gw_)⟩ :: r) acc ⟨n, tm, ow, lm⟩ F := mkb (Prod.mk.inj e_).1 (Prod.mk.inj e_).2 (.want (Prod.mk.inj eg_).1 (Prod.mk.inj eg_).2 hw_) h
theorem nck0 {x : Operand} {j off : Nat} (e_ : (St.val ⟨n, tm, ow, lm⟩ x, Nat.blt t n) = (some (.ptr j off), true)) (h : WpD P ops r (⟨[], [], .ptr j off, []⟩ :: acc) ⟨n, (t, .ptr j off) :: tm, ow, lm⟩ F) : WpD P ops (⟨some t, .nilCheck x, ty, pos, af, none⟩ :: r) acc ⟨n, tm, ow, lm⟩ F := nck (Prod.mk.inj e_).1 (Prod.mk.inj e_).2 .none h
theorem nck1 {gi_ gs_ : Nat} {gw_ gb_ : Bool} {x : Operand} {j off : Nat} (eg_ : ((ops[gi_]?).bind (·.dst), St.get ⟨n, tm, ow, lm⟩ gs_) = (some gs_, some (.bool gb_))) (hw_ : gb_ = gw_) (e_ : (St.val ⟨n, tm, ow, lm⟩ x, Nat.blt t n) = (some (.ptr j off), true)) (h : WpD P ops r (⟨[], [], .ptr j off, []⟩ :: acc) ⟨n, (t, .ptr j off) :: tm, ow, lm⟩ F) : WpD P ops (⟨some t, .nilCheck x, ty, pos, af, some (gi_, gw_)⟩ :: r) acc ⟨n, tm, ow, lm⟩ F := nck (Prod.mk.inj e_).1 (Prod.mk.inj e_).2 (.want (Prod.mk.inj eg_).1 (Prod.mk.inj eg_).2 hw_) h
theorem mx0 {x y : Operand} {T1 T2 : TypeId} {k : IntKind} {a b : Int} {c : Int} (e_ : (St.val ⟨n, tm, ow, lm⟩ x, St.val ⟨n, tm, ow, lm⟩ y, max a b, Nat.blt t n) = (some (.int k a), some (.int k b), c, true)) (h : WpD P ops r (⟨[], [], .int k c, []⟩ :: acc) ⟨n, (t, .int k c) :: tm, ow, lm⟩ F) : WpD P ops (⟨some t, .call ⟨.builtin .max, #[x, y], #[T1, T2]⟩, ty, pos, af, none⟩ :: r) acc ⟨n, tm, ow, lm⟩ F := mx c (Prod.mk.inj e_).1 (Prod.mk.inj (Prod.mk.inj e_).2).1 (Prod.mk.inj (Prod.mk.inj (Prod.mk.inj e_).2).2).1 (Prod.mk.inj (Prod.mk.inj (Prod.mk.inj e_).2).2).2 .none h
theorem mx1 {gi_ gs_ : Nat} {gw_ gb_ : Bool} {x y : Operand} {T1 T2 : TypeId} {k : IntKind} {a b : Int} {c : Int} (eg_ : ((ops[gi_]?).bind (·.dst), St.get ⟨n, tm, ow, lm⟩ gs_) = (some gs_, some (.bool gb_))) (hw_ : gb_ = gw_) (e_ : (St.val ⟨n, tm, ow, lm⟩ x, St.val ⟨n, tm, ow, lm⟩ y, max a b, Nat.blt t n) = (some (.int k a), some (.int k b), c, true)) (h : WpD P ops r (⟨[], [], .int k c, []⟩ :: acc) ⟨n, (t, .int k c) :: tm, ow, lm⟩ F) : WpD P ops (⟨some t, .call ⟨.builtin .max, #[x, y], #[T1, T2]⟩, ty, pos, af, some (gi_, gw_)⟩ :: r) acc ⟨n, tm, ow, lm⟩ F := mx c (Prod.mk.inj e_).1 (Prod.mk.inj (Prod.mk.inj e_).2).1 (Prod.mk.inj (Prod.mk.inj (Prod.mk.inj e_).2).2).1 (Prod.mk.inj (Prod.mk.inj (Prod.mk.inj e_).2).2).2 (.want (Prod.mk.inj eg_).1 (Prod.mk.inj eg_).2 hw_) h
theorem mn0 {x y : Operand} {T1 T2 : TypeId} {k : IntKind} {a b : Int} {c : Int} (e_ : (St.val ⟨n, tm, ow, lm⟩ x, St.val ⟨n, tm, ow, lm⟩ y, min a b, Nat.blt t n) = (some (.int k a), some (.int k b), c, true)) (h : WpD P ops r (⟨[], [], .int k c, []⟩ :: acc) ⟨n, (t, .int k c) :: tm, ow, lm⟩ F) : WpD P ops (⟨some t, .call ⟨.builtin .min, #[x, y], #[T1, T2]⟩, ty, pos, af, none⟩ :: r) acc ⟨n, tm, ow, lm⟩ F := mn c (Prod.mk.inj e_).1 (Prod.mk.inj (Prod.mk.inj e_).2).1 (Prod.mk.inj (Prod.mk.inj (Prod.mk.inj e_).2).2).1 (Prod.mk.inj (Prod.mk.inj (Prod.mk.inj e_).2).2).2 .none h
theorem mn1 {gi_ gs_ : Nat} {gw_ gb_ : Bool} {x y : Operand} {T1 T2 : TypeId} {k : IntKind} {a b : Int} {c : Int} (eg_ : ((ops[gi_]?).bind (·.dst), St.get ⟨n, tm, ow, lm⟩ gs_) = (some gs_, some (.bool gb_))) (hw_ : gb_ = gw_) (e_ : (St.val ⟨n, tm, ow, lm⟩ x, St.val ⟨n, tm, ow, lm⟩ y, min a b, Nat.blt t n) = (some (.int k a), some (.int k b), c, true)) (h : WpD P ops r (⟨[], [], .int k c, []⟩ :: acc) ⟨n, (t, .int k c) :: tm, ow, lm⟩ F) : WpD P ops (⟨some t, .call ⟨.builtin .min, #[x, y], #[T1, T2]⟩, ty, pos, af, some (gi_, gw_)⟩ :: r) acc ⟨n, tm, ow, lm⟩ F := mn c (Prod.mk.inj e_).1 (Prod.mk.inj (Prod.mk.inj e_).2).1 (Prod.mk.inj (Prod.mk.inj (Prod.mk.inj e_).2).2).1 (Prod.mk.inj (Prod.mk.inj (Prod.mk.inj e_).2).2).2 (.want (Prod.mk.inj eg_).1 (Prod.mk.inj eg_).2 hw_) h
theorem iaE0 {x y : Operand} {T e : TypeId} {sz by_ : Nat} {k : IntKind} {i : Int} {full : Bool} {l : List α} [hT : TySl P T e sz by_] [hE : Enc f sz] (m : Nat) (hm : m < l.length) (e_ : (St.val ⟨n, tm, ow, lm⟩ x, St.val ⟨n, tm, ow, lm⟩ y, Nat.blt t n) = (some (.rows full (l.map f)), some (.int k i), true)) (hi : i = (m : Int)) (h : WpD P ops r (⟨[], [], .pp (f l[m]), []⟩ :: acc) ⟨n, (t, .pp (f l[m])) :: tm, ow, lm⟩ F) : WpD P ops (⟨some t, .indexAddr T x y, ty, pos, af, none⟩ :: r) acc ⟨n, tm, ow, lm⟩ F := iaE m hm (Prod.mk.inj e_).1 (Prod.mk.inj (Prod.mk.inj e_).2).1 hi (Prod.mk.inj (Prod.mk.inj e_).2).2 .none h
theorem iaE1 {gi_ gs_ : Nat} {gw_ gb_ : Bool} {x y : Operand} {T e : TypeId} {sz by_ : Nat} {k : IntKind} {i : Int} {full : Bool} {l : List α} [hT : TySl P T e sz by_] [hE : Enc f sz] (eg_ : ((ops[gi_]?).bind (·.dst), St.get ⟨n, tm, ow, lm⟩ gs_) = (some gs_, some (.bool gb_))) (hw_ : gb_ = gw_) (m : Nat) (hm : m < l.length) (e_ : (St.val ⟨n, tm, ow, lm⟩ x, St.val ⟨n, tm, ow, lm⟩ y, Nat.blt t n) = (some (.rows full (l.map f)), some (.int k i), true)) (hi : i = (m : Int)) (h : WpD P ops r (⟨[], [], .pp (f l[m]), []⟩ :: acc) ⟨n, (t, .pp (f l[m])) :: tm, ow, lm⟩ F) : WpD P ops (⟨some t, .indexAddr T x y, ty, pos, af, some (gi_, gw_)⟩ :: r) acc ⟨n, tm, ow, lm⟩ F := iaE m hm (Prod.mk.inj e_).1 (Prod.mk.inj (Prod.mk.inj e_).2).1 hi (Prod.mk.inj (Prod.mk.inj e_).2).2 (.want (Prod.mk.inj eg_).1 (Prod.mk.inj eg_).2 hw_) h
theorem sk0 {op : Op} {k s : Nat} {want b : Bool} (e_ : ((ops[k]?).bind (·.dst), St.get ⟨n, tm, ow, lm⟩ s, Nat.blt t n) = (some s, some (.bool b), true)) (hw : b = !want) (h : WpD P ops r (skipEff :: acc) ⟨n, (t, .tup []) :: tm, ow, lm⟩ F) : WpD P ops (⟨some t, op, ty, pos, af, some (k, want)⟩ :: r) acc ⟨n, tm, ow, lm⟩ F := sk (Prod.mk.inj e_).1 (Prod.mk.inj (Prod.mk.inj e_).2).1 hw (Prod.mk.inj (Prod.mk.inj e_).2).2 h
theorem sku0 {op : Op} {k s : Nat} {want : Bool} (e_ : ((ops[k]?).bind (·.dst), St.get ⟨n, tm, ow, lm⟩ s, Nat.blt t n) = (some s, some (.tup []), true)) (h : WpD P ops r (skipEff :: acc) ⟨n, (t, .tup []) :: tm, ow, lm⟩ F) : WpD P ops (⟨some t, op, ty, pos, af, some (k, want)⟩ :: r) acc ⟨n, tm, ow, lm⟩ F := sku (Prod.mk.inj e_).1 (Prod.mk.inj (Prod.mk.inj e_).2).1 (Prod.mk.inj (Prod.mk.inj e_).2).2 h
theorem bsM0 {T e : TypeId} {len sz by_ : Nat} {parts : Array (Nat × Operand)} {zs : List D} {ps : List (Nat × D)} [hT : TySl P T e sz by_] [hZ : TyZ P e zs] (f : α → List D) (l : List α) (e_ : (St.valsP ⟨n, tm, ow, lm⟩ parts.toList, bsD sz 0 ps, (Nat.beq ps.length len && Nat.ble (len * sz) 16777216 && Nat.ble len 16777216), Nat.blt t n) = (some ps, some (l.map f), true, true)) (h : WpD P ops r (⟨[], [], .rows true (l.map f), []⟩ :: acc) ⟨n, (t, .rows true (l.map f)) :: tm, ow, lm⟩ F) : WpD P ops (⟨some t, .buildSlice T len parts, ty, pos, af, none⟩ :: r) acc ⟨n, tm, ow, lm⟩ F := bsM f l (Prod.mk.inj e_).1 (Prod.mk.inj (Prod.mk.inj e_).2).1 (Prod.mk.inj (Prod.mk.inj (Prod.mk.inj e_).2).2).1 (Prod.mk.inj (Prod.mk.inj (Prod.mk.inj e_).2).2).2 .none h
theorem bsM1 {gi_ gs_ : Nat} {gw_ gb_ : Bool} {T e : TypeId} {len sz by_ : Nat} {parts : Array (Nat × Operand)} {zs : List D} {ps : List (Nat × D)} [hT : TySl P T e sz by_] [hZ : TyZ P e zs] (eg_ : ((ops[gi_]?).bind (·.dst), St.get ⟨n, tm, ow, lm⟩ gs_) = (some gs_, some (.bool gb_))) (hw_ : gb_ = gw_) (f : α → List D) (l : List α) (e_ : (St.valsP ⟨n, tm, ow, lm⟩ parts.toList, bsD sz 0 ps, (Nat.beq ps.length len && Nat.ble (len * sz) 16777216 && Nat.ble len 16777216), Nat.blt t n) = (some ps, some (l.map f), true, true)) (h : WpD P ops r (⟨[], [], .rows true (l.map f), []⟩ :: acc) ⟨n, (t, .rows true (l.map f)) :: tm, ow, lm⟩ F) : WpD P ops (⟨some t, .buildSlice T len parts, ty, pos, af, some (gi_, gw_)⟩ :: r) acc ⟨n, tm, ow, lm⟩ F := bsM f l (Prod.mk.inj e_).1 (Prod.mk.inj (Prod.mk.inj e_).2).1 (Prod.mk.inj (Prod.mk.inj (Prod.mk.inj e_).2).2).1 (Prod.mk.inj (Prod.mk.inj (Prod.mk.inj e_).2).2).2 (.want (Prod.mk.inj eg_).1 (Prod.mk.inj eg_).2 hw_) h
theorem clmw0 {y : Operand} {xs : Array Operand} {ats : Array TypeId} {fn : FuncId} {ds caps : List D} {d : D} {T : TypeId} {l l' : List D} (j : Nat) (e_ : (St.val ⟨n, tm, ow, lm⟩ y, St.vals ⟨n, tm, ow, lm⟩ xs.toList, St.blk ⟨n, tm, ow, lm⟩ j, Nat.blt t n) = (some (.fn fn caps), some ds, some (.cells T l), true)) (hs : FnG P fn (D.wkL (ds ++ caps)) [(j, .cells T l)] d [(j, .cells T l')] [j]) (f_ : (d.pureB && D.pureL l') = true) (h : WpD P ops r (⟨[j], [], d, [(j, some (.cells T l'))]⟩ :: acc) ⟨n, (t, d) :: tm, (j, some (.cells T l')) :: ow, lm⟩ F) : WpD P ops (⟨some t, .call ⟨.value y, xs, ats⟩, ty, pos, af, none⟩ :: r) acc ⟨n, tm, ow, lm⟩ F := clmw j (Prod.mk.inj e_).1 (Prod.mk.inj (Prod.mk.inj e_).2).1 (Prod.mk.inj (Prod.mk.inj (Prod.mk.inj e_).2).2).1 hs f_ (Prod.mk.inj (Prod.mk.inj (Prod.mk.inj e_).2).2).2 .none h
theorem clmw1 {gi_ gs_ : Nat} {gw_ gb_ : Bool} {y : Operand} {xs : Array Operand} {ats : Array TypeId} {fn : FuncId} {ds caps : List D} {d : D} {T : TypeId} {l l' : List D} (eg_ : ((ops[gi_]?).bind (·.dst), St.get ⟨n, tm, ow, lm⟩ gs_) = (some gs_, some (.bool gb_))) (hw_ : gb_ = gw_) (j : Nat) (e_ : (St.val ⟨n, tm, ow, lm⟩ y, St.vals ⟨n, tm, ow, lm⟩ xs.toList, St.blk ⟨n, tm, ow, lm⟩ j, Nat.blt t n) = (some (.fn fn caps), some ds, some (.cells T l), true)) (hs : FnG P fn (D.wkL (ds ++ caps)) [(j, .cells T l)] d [(j, .cells T l')] [j]) (f_ : (d.pureB && D.pureL l') = true) (h : WpD P ops r (⟨[j], [], d, [(j, some (.cells T l'))]⟩ :: acc) ⟨n, (t, d) :: tm, (j, some (.cells T l')) :: ow, lm⟩ F) : WpD P ops (⟨some t, .call ⟨.value y, xs, ats⟩, ty, pos, af, some (gi_, gw_)⟩ :: r) acc ⟨n, tm, ow, lm⟩ F := clmw j (Prod.mk.inj e_).1 (Prod.mk.inj (Prod.mk.inj e_).2).1 (Prod.mk.inj (Prod.mk.inj (Prod.mk.inj e_).2).2).1 hs f_ (Prod.mk.inj (Prod.mk.inj (Prod.mk.inj e_).2).2).2 (.want (Prod.mk.inj eg_).1 (Prod.mk.inj eg_).2 hw_) h
end
end Go.Eng

namespace Go.Proofs.YtkcdmmafkpplhaaGreat
open Go.Eng
noncomputable abbrev PP : Program := Tryz.prog
theorem mixed : PP.follows .mixedOrders = true := by kernel_rfl
instance : TyF PP 1 false 1 := ⟨by kernel_rfl, by kernel_rfl⟩
instance : TyZ PP 1 [.nilFn] := ⟨by kernel_rfl, by kernel_rfl, by kernel_rfl⟩
instance : TyF PP 2 false 1 := ⟨by kernel_rfl, by kernel_rfl⟩
instance : TyZ PP 2 [.int .i64 0] := ⟨by kernel_rfl, by kernel_rfl, by kernel_rfl⟩
instance : TyI PP 2 .i64 := ⟨by kernel_rfl⟩
instance : TyConc PP 2 := ⟨by kernel_rfl⟩
instance : TyF PP 3 false 1 := ⟨by kernel_rfl, by kernel_rfl⟩
instance : TyZ PP 3 [.int .i64 0] := ⟨by kernel_rfl, by kernel_rfl, by kernel_rfl⟩
instance : TyI PP 3 .i64 := ⟨by kernel_rfl⟩
instance : TyConc PP 3 := ⟨by kernel_rfl⟩
instance : TyF PP 4 false 1 := ⟨by kernel_rfl, by kernel_rfl⟩
instance : TyZ PP 4 [.bool false] := ⟨by kernel_rfl, by kernel_rfl, by kernel_rfl⟩
instance : TyB PP 4 := ⟨by kernel_rfl⟩
instance : TyF PP 5 false 1 := ⟨by kernel_rfl, by kernel_rfl⟩
instance : TyZ PP 5 [.int .u8 0] := ⟨by kernel_rfl, by kernel_rfl, by kernel_rfl⟩
instance : TyI PP 5 .u8 := ⟨by kernel_rfl⟩
instance : TyConc PP 5 := ⟨by kernel_rfl⟩
instance : TyF PP 6 false 1 := ⟨by kernel_rfl, by kernel_rfl⟩
instance : TyZ PP 6 [.int .u8 0] := ⟨by kernel_rfl, by kernel_rfl, by kernel_rfl⟩
instance : TyI PP 6 .u8 := ⟨by kernel_rfl⟩
instance : TyConc PP 6 := ⟨by kernel_rfl⟩
instance : TyF PP 7 true 4 := ⟨by kernel_rfl, by kernel_rfl⟩
instance : TyZ PP 7 [.int .i64 0, .int .i64 0, .bool false, .int .u8 0] := ⟨by kernel_rfl, by kernel_rfl, by kernel_rfl⟩
instance : TyS PP 7 [(0, 1), (1, 1), (2, 1), (3, 1)] := ⟨by kernel_rfl⟩
instance : TyEq PP 7 [0, 0, 1, 0] := ⟨by kernel_rfl, by kernel_rfl, by kernel_rfl, by kernel_rfl⟩
instance : TyConc PP 7 := ⟨by kernel_rfl⟩
instance : TyF PP 8 true 4 := ⟨by kernel_rfl, by kernel_rfl⟩
instance : TyZ PP 8 [.int .i64 0, .int .i64 0, .bool false, .int .u8 0] := ⟨by kernel_rfl, by kernel_rfl, by kernel_rfl⟩
instance : TyS PP 8 [(0, 1), (1, 1), (2, 1), (3, 1)] := ⟨by kernel_rfl⟩
instance : TyEq PP 8 [0, 0, 1, 0] := ⟨by kernel_rfl, by kernel_rfl, by kernel_rfl, by kernel_rfl⟩
instance : TyConc PP 8 := ⟨by kernel_rfl⟩
instance : TyF PP 9 false 1 := ⟨by kernel_rfl, by kernel_rfl⟩
instance : TyZ PP 9 [.str ByteArray.empty] := ⟨by kernel_rfl, by kernel_rfl, by kernel_rfl⟩
instance : TyStr PP 9 := ⟨by kernel_rfl⟩
instance : TyConc PP 9 := ⟨by kernel_rfl⟩
instance : TyF PP 21 false 1 := ⟨by kernel_rfl, by kernel_rfl⟩
instance : TyZ PP 21 [.int .i32 0] := ⟨by kernel_rfl, by kernel_rfl, by kernel_rfl⟩
instance : TyI PP 21 .i32 := ⟨by kernel_rfl⟩
instance : TyK PP 21 none := ⟨⟨.i32, inferInstance⟩⟩
instance : TyConc PP 21 := ⟨by kernel_rfl⟩
instance : TyF PP 22 false 1 := ⟨by kernel_rfl, by kernel_rfl⟩
instance : TyZ PP 22 [.rows true []] := ⟨by kernel_rfl, by kernel_rfl, by kernel_rfl⟩
instance : TySl PP 22 53 2 16 := ⟨by kernel_rfl, by kernel_rfl⟩
instance : TyF PP 23 false 1 := ⟨by kernel_rfl, by kernel_rfl⟩
instance : TyZ PP 23 [.rows true []] := ⟨by kernel_rfl, by kernel_rfl, by kernel_rfl⟩
instance : TySl PP 23 21 1 4 := ⟨by kernel_rfl, by kernel_rfl⟩
instance : TyF PP 25 true 2 := ⟨by kernel_rfl, by kernel_rfl⟩
instance : TyZ PP 25 [.rows true [], .rows true []] := ⟨by kernel_rfl, by kernel_rfl, by kernel_rfl⟩
instance : TyS PP 25 [(0, 1), (1, 1)] := ⟨by kernel_rfl⟩
instance : TyConc PP 25 := ⟨by kernel_rfl⟩
instance : TyF PP 26 false 1 := ⟨by kernel_rfl, by kernel_rfl⟩
instance : TyZ PP 26 [.rows true []] := ⟨by kernel_rfl, by kernel_rfl, by kernel_rfl⟩
instance : TySl PP 26 23 1 24 := ⟨by kernel_rfl, by kernel_rfl⟩
instance : TyF PP 28 true 1 := ⟨by kernel_rfl, by kernel_rfl⟩
instance : TyZ PP 28 [.rows true []] := ⟨by kernel_rfl, by kernel_rfl, by kernel_rfl⟩
instance : TyS PP 28 [(0, 1)] := ⟨by kernel_rfl⟩
instance : TyConc PP 28 := ⟨by kernel_rfl⟩
instance : TyF PP 29 false 1 := ⟨by kernel_rfl, by kernel_rfl⟩
instance : TyZ PP 29 [.rows true []] := ⟨by kernel_rfl, by kernel_rfl, by kernel_rfl⟩
instance : TySl PP 29 25 2 48 := ⟨by kernel_rfl, by kernel_rfl⟩
instance : TyF PP 31 true 1 := ⟨by kernel_rfl, by kernel_rfl⟩
instance : TyZ PP 31 [.rows true []] := ⟨by kernel_rfl, by kernel_rfl, by kernel_rfl⟩
instance : TyS PP 31 [(0, 1)] := ⟨by kernel_rfl⟩
instance : TyConc PP 31 := ⟨by kernel_rfl⟩
instance : TyF PP 33 true 7 := ⟨by kernel_rfl, by kernel_rfl⟩
instance : TyZ PP 33 [.rows true [], .rows true [], .rows true [], .rows true [], .int .i64 0, .int .i64 0, .int .i64 0] := ⟨by kernel_rfl, by kernel_rfl, by kernel_rfl⟩
instance : TyS PP 33 [(0, 2), (2, 1), (3, 1), (4, 1), (5, 1), (6, 1)] := ⟨by kernel_rfl⟩
instance : TyConc PP 33 := ⟨by kernel_rfl⟩
instance : TyF PP 35 true 3 := ⟨by kernel_rfl, by kernel_rfl⟩
instance : TyZ PP 35 [.bool false, .bool false, .int .i64 0] := ⟨by kernel_rfl, by kernel_rfl, by kernel_rfl⟩
instance : TyS PP 35 [(0, 1), (1, 1), (2, 1)] := ⟨by kernel_rfl⟩
instance : TyEq PP 35 [1, 1, 0] := ⟨by kernel_rfl, by kernel_rfl, by kernel_rfl, by kernel_rfl⟩
instance : TyConc PP 35 := ⟨by kernel_rfl⟩
instance : TyF PP 37 true 2 := ⟨by kernel_rfl, by kernel_rfl⟩
instance : TyZ PP 37 [.int .i64 0, .int .i64 0] := ⟨by kernel_rfl, by kernel_rfl, by kernel_rfl⟩
instance : TyS PP 37 [(0, 1), (1, 1)] := ⟨by kernel_rfl⟩
instance : TyEq PP 37 [0, 0] := ⟨by kernel_rfl, by kernel_rfl, by kernel_rfl, by kernel_rfl⟩
instance : TyConc PP 37 := ⟨by kernel_rfl⟩
instance : TyF PP 39 true 3 := ⟨by kernel_rfl, by kernel_rfl⟩
instance : TyZ PP 39 [.int .i64 0, .int .i64 0, .rows true []] := ⟨by kernel_rfl, by kernel_rfl, by kernel_rfl⟩
instance : TyS PP 39 [(0, 1), (1, 1), (2, 1)] := ⟨by kernel_rfl⟩
instance : TyConc PP 39 := ⟨by kernel_rfl⟩
instance : TyF PP 40 false 1 := ⟨by kernel_rfl, by kernel_rfl⟩
instance : TyZ PP 40 [.rows true []] := ⟨by kernel_rfl, by kernel_rfl, by kernel_rfl⟩
instance : TySl PP 40 91 3 56 := ⟨by kernel_rfl, by kernel_rfl⟩
instance : TyF PP 42 true 2 := ⟨by kernel_rfl, by kernel_rfl⟩
instance : TyZ PP 42 [.int .i64 0, .rows true []] := ⟨by kernel_rfl, by kernel_rfl, by kernel_rfl⟩
instance : TyS PP 42 [(0, 1), (1, 1)] := ⟨by kernel_rfl⟩
instance : TyConc PP 42 := ⟨by kernel_rfl⟩
instance : TyF PP 44 true 7 := ⟨by kernel_rfl, by kernel_rfl⟩
instance : TyZ PP 44 [.bool false, .bool false, .rows true [], .int .i64 0, .bool false, .int .i64 0, .int .i64 0] := ⟨by kernel_rfl, by kernel_rfl, by kernel_rfl⟩
instance : TyS PP 44 [(0, 1), (1, 1), (2, 1), (3, 1), (4, 1), (5, 1), (6, 1)] := ⟨by kernel_rfl⟩
instance : TyConc PP 44 := ⟨by kernel_rfl⟩
instance : TyF PP 46 true 27 := ⟨by kernel_rfl, by kernel_rfl⟩
instance : TyZ PP 46 [.rows true [], .rows true [], .rows true [], .rows true [], .int .i64 0, .int .i64 0, .int .i64 0, .bool false, .bool false, .int .i64 0, .int .i64 0, .int .i64 0, .int .i64 0, .bool false, .int .i64 0, .int .i64 0, .rows true [], .int .i64 0, .rows true [], .bool false, .bool false, .rows true [], .int .i64 0, .bool false, .int .i64 0, .int .i64 0, .int .i64 0] := ⟨by kernel_rfl, by kernel_rfl, by kernel_rfl⟩
instance : TyS PP 46 [(0, 7), (7, 3), (10, 2), (12, 1), (13, 1), (14, 3), (17, 2), (19, 7), (26, 1)] := ⟨by kernel_rfl⟩
instance : TyConc PP 46 := ⟨by kernel_rfl⟩
instance : TyF PP 47 false 1 := ⟨by kernel_rfl, by kernel_rfl⟩
instance : TyZ PP 47 [.int .i64 0] := ⟨by kernel_rfl, by kernel_rfl, by kernel_rfl⟩
instance : TyI PP 47 .i64 := ⟨by kernel_rfl⟩
instance : TyConc PP 47 := ⟨by kernel_rfl⟩
instance : TyF PP 53 true 2 := ⟨by kernel_rfl, by kernel_rfl⟩
instance : TyZ PP 53 [.int .i64 0, .int .i32 0] := ⟨by kernel_rfl, by kernel_rfl, by kernel_rfl⟩
instance : TyS PP 53 [(0, 1), (1, 1)] := ⟨by kernel_rfl⟩
instance : TyEq PP 53 [0, 0] := ⟨by kernel_rfl, by kernel_rfl, by kernel_rfl, by kernel_rfl⟩
instance : TyK PP 53 (some [0, 0]) := ⟨inferInstanceAs (TyEq PP 53 [0, 0])⟩
instance : TyConc PP 53 := ⟨by kernel_rfl⟩
instance : TyF PP 61 false 1 := ⟨by kernel_rfl, by kernel_rfl⟩
instance : TyZ PP 61 [.nilFn] := ⟨by kernel_rfl, by kernel_rfl, by kernel_rfl⟩
instance : TyF PP 75 false 1 := ⟨by kernel_rfl, by kernel_rfl⟩
instance : TyZ PP 75 [.nilPtr] := ⟨by kernel_rfl, by kernel_rfl, by kernel_rfl⟩
instance : TyF PP 77 true 29 := ⟨by kernel_rfl, by kernel_rfl⟩
instance : TyZ PP 77 [.rows true [], .rows true [], .rows true [], .rows true [], .int .i64 0, .int .i64 0, .int .i64 0, .bool false, .bool false, .int .i64 0, .int .i64 0, .int .i64 0, .int .i64 0, .bool false, .int .i64 0, .int .i64 0, .rows true [], .int .i64 0, .rows true [], .bool false, .bool false, .rows true [], .int .i64 0, .bool false, .int .i64 0, .int .i64 0, .int .i64 0, .rows true [], .bool false] := ⟨by kernel_rfl, by kernel_rfl, by kernel_rfl⟩
instance : TyS PP 77 [(0, 27), (27, 1), (28, 1)] := ⟨by kernel_rfl⟩
instance : TyConc PP 77 := ⟨by kernel_rfl⟩
instance : TyF PP 81 true 4 := ⟨by kernel_rfl, by kernel_rfl⟩
instance : TyZ PP 81 [.int .i64 0, .int .i64 0, .int .i64 0, .int .i32 0] := ⟨by kernel_rfl, by kernel_rfl, by kernel_rfl⟩
instance : TyS PP 81 [(0, 1), (1, 1), (2, 1), (3, 1)] := ⟨by kernel_rfl⟩
instance : TyEq PP 81 [0, 0, 0, 0] := ⟨by kernel_rfl, by kernel_rfl, by kernel_rfl, by kernel_rfl⟩
instance : TyConc PP 81 := ⟨by kernel_rfl⟩
instance : TyF PP 91 true 3 := ⟨by kernel_rfl, by kernel_rfl⟩
instance : TyZ PP 91 [.int .i64 0, .rows true [], .rows true []] := ⟨by kernel_rfl, by kernel_rfl, by kernel_rfl⟩
instance : TyS PP 91 [(0, 1), (1, 2)] := ⟨by kernel_rfl⟩
instance : TyConc PP 91 := ⟨by kernel_rfl⟩
instance : TyF PP 108 false 1 := ⟨by kernel_rfl, by kernel_rfl⟩
instance : TyZ PP 108 [.rows true []] := ⟨by kernel_rfl, by kernel_rfl, by kernel_rfl⟩
instance : TySl PP 108 81 4 32 := ⟨by kernel_rfl, by kernel_rfl⟩
instance : TyF PP 119 false 1 := ⟨by kernel_rfl, by kernel_rfl⟩
instance : TyZ PP 119 [.nilFn] := ⟨by kernel_rfl, by kernel_rfl, by kernel_rfl⟩
instance : TyF PP 128 false 1 := ⟨by kernel_rfl, by kernel_rfl⟩
instance : TyZ PP 128 [.rows true []] := ⟨by kernel_rfl, by kernel_rfl, by kernel_rfl⟩
instance : TySl PP 128 3 1 8 := ⟨by kernel_rfl, by kernel_rfl⟩
instance : TyF PP 132 false 1 := ⟨by kernel_rfl, by kernel_rfl⟩
instance : TyZ PP 132 [.nilMap] := ⟨by kernel_rfl, by kernel_rfl, by kernel_rfl⟩
instance : TyM PP 132 53 81 := ⟨by kernel_rfl⟩
instance : TyF PP 135 false 1 := ⟨by kernel_rfl, by kernel_rfl⟩
instance : TyZ PP 135 [.nilIface] := ⟨by kernel_rfl, by kernel_rfl, by kernel_rfl⟩
instance : TyF PP 157 false 1 := ⟨by kernel_rfl, by kernel_rfl⟩
instance : TyZ PP 157 [.nilPtr] := ⟨by kernel_rfl, by kernel_rfl, by kernel_rfl⟩
instance : TyF PP 159 true 19 := ⟨by kernel_rfl, by kernel_rfl⟩
instance : TyZ PP 159 [.rows true [], .rows true [], .rows true [], .rows true [], .int .i64 0, .int .i64 0, .int .i64 0, .rows true [], .rows true [], .rows true [], .rows true [], .int .i64 0, .int .i64 0, .int .i64 0, .int .i64 0, .int .i64 0, .int .i64 0, .int .i32 0, .int .i64 0] := ⟨by kernel_rfl, by kernel_rfl, by kernel_rfl⟩
instance : TyS PP 159 [(0, 7), (7, 7), (14, 4), (18, 1)] := ⟨by kernel_rfl⟩
instance : TyConc PP 159 := ⟨by kernel_rfl⟩
instance : TyF PP 164 false 1 := ⟨by kernel_rfl, by kernel_rfl⟩
instance : TyZ PP 164 [.nilFn] := ⟨by kernel_rfl, by kernel_rfl, by kernel_rfl⟩
instance : TyF PP 169 false 1 := ⟨by kernel_rfl, by kernel_rfl⟩
instance : TyZ PP 169 [.nilFn] := ⟨by kernel_rfl, by kernel_rfl, by kernel_rfl⟩
instance : TyConc PP 169 := ⟨by kernel_rfl⟩
instance : TyF PP 174 true 0 := ⟨by kernel_rfl, by kernel_rfl⟩
instance : TyZ PP 174 [] := ⟨by kernel_rfl, by kernel_rfl, by kernel_rfl⟩
instance : TyS PP 174 [] := ⟨by kernel_rfl⟩
instance : TyEq PP 174 [] := ⟨by kernel_rfl, by kernel_rfl, by kernel_rfl, by kernel_rfl⟩
instance : TyConc PP 174 := ⟨by kernel_rfl⟩
instance : Mth PP 174 "typebar/vi.key" 243 := ⟨by kernel_rfl, by kernel_rfl⟩
instance : TyF PP 175 true 0 := ⟨by kernel_rfl, by kernel_rfl⟩
instance : TyZ PP 175 [] := ⟨by kernel_rfl, by kernel_rfl, by kernel_rfl⟩
instance : TyS PP 175 [] := ⟨by kernel_rfl⟩
instance : TyEq PP 175 [] := ⟨by kernel_rfl, by kernel_rfl, by kernel_rfl, by kernel_rfl⟩
instance : TyConc PP 175 := ⟨by kernel_rfl⟩
instance : Mth PP 175 "typebar/vi.key" 247 := ⟨by kernel_rfl, by kernel_rfl⟩
instance : TyF PP 176 false 1 := ⟨by kernel_rfl, by kernel_rfl⟩
instance : TyZ PP 176 [.int .i64 0] := ⟨by kernel_rfl, by kernel_rfl, by kernel_rfl⟩
instance : TyI PP 176 .i64 := ⟨by kernel_rfl⟩
instance : TyConc PP 176 := ⟨by kernel_rfl⟩
instance : Mth PP 176 "typebar/vi.key" 251 := ⟨by kernel_rfl, by kernel_rfl⟩
instance : TyF PP 191 false 1 := ⟨by kernel_rfl, by kernel_rfl⟩
instance : TyZ PP 191 [.nilFn] := ⟨by kernel_rfl, by kernel_rfl, by kernel_rfl⟩
instance : TyF PP 195 false 1 := ⟨by kernel_rfl, by kernel_rfl⟩
instance : TyZ PP 195 [.nilFn] := ⟨by kernel_rfl, by kernel_rfl, by kernel_rfl⟩
instance : TyF PP 201 false 1 := ⟨by kernel_rfl, by kernel_rfl⟩
instance : TyZ PP 201 [.int .u64 0] := ⟨by kernel_rfl, by kernel_rfl, by kernel_rfl⟩
instance : TyI PP 201 .u64 := ⟨by kernel_rfl⟩
instance : TyConc PP 201 := ⟨by kernel_rfl⟩
instance : TyF PP 208 true 10 := ⟨by kernel_rfl, by kernel_rfl⟩
instance : TyZ PP 208 [.int .i64 0, .int .i64 0, .int .i64 0, .int .i64 0, .int .i64 0, .int .i64 0, .int .i64 0, .int .i64 0, .int .i64 0, .int .i64 0] := ⟨by kernel_rfl, by kernel_rfl, by kernel_rfl⟩
instance : TyA PP 208 3 10 := ⟨by kernel_rfl, by kernel_rfl, by kernel_rfl⟩
instance : TyF PP 211 false 1 := ⟨by kernel_rfl, by kernel_rfl⟩
instance : TyZ PP 211 [.int .u32 0] := ⟨by kernel_rfl, by kernel_rfl, by kernel_rfl⟩
instance : TyI PP 211 .u32 := ⟨by kernel_rfl⟩
instance : TyConc PP 211 := ⟨by kernel_rfl⟩
instance : TyF PP 214 false 1 := ⟨by kernel_rfl, by kernel_rfl⟩
instance : TyZ PP 214 [.int .u64 0] := ⟨by kernel_rfl, by kernel_rfl, by kernel_rfl⟩
instance : TyI PP 214 .u64 := ⟨by kernel_rfl⟩
instance : TyConc PP 214 := ⟨by kernel_rfl⟩
instance : TyF PP 218 false 1 := ⟨by kernel_rfl, by kernel_rfl⟩
instance : TyZ PP 218 [.nilFn] := ⟨by kernel_rfl, by kernel_rfl, by kernel_rfl⟩
instance : TyF PP 239 false 1 := ⟨by kernel_rfl, by kernel_rfl⟩
instance : TyZ PP 239 [.nilMap] := ⟨by kernel_rfl, by kernel_rfl, by kernel_rfl⟩
instance : TyM PP 239 21 3 := ⟨by kernel_rfl⟩
instance : TyF PP 241 true 3 := ⟨by kernel_rfl, by kernel_rfl⟩
instance : TyZ PP 241 [.int .i64 0, .int .i64 0, .rows true []] := ⟨by kernel_rfl, by kernel_rfl, by kernel_rfl⟩
instance : TyS PP 241 [(0, 2), (2, 1)] := ⟨by kernel_rfl⟩
instance : TyConc PP 241 := ⟨by kernel_rfl⟩
instance : TyF PP 243 false 1 := ⟨by kernel_rfl, by kernel_rfl⟩
instance : TyZ PP 243 [.nilMap] := ⟨by kernel_rfl, by kernel_rfl, by kernel_rfl⟩
instance : TyM PP 243 21 241 := ⟨by kernel_rfl⟩
end Go.Proofs.YtkcdmmafkpplhaaGreat

/- What the layers reckon, told in Lean: signs, lines with a point, words, texts that were taken out, how a line was before. No program in sight. -/
namespace Go.Eng
open Go

def runR (r : Int) : List D := [.int .i32 r]
instance : Enc runR 1 := ⟨fun _ => ⟨rfl, rfl⟩⟩
/-- A row of signs. -/
abbrev rl (l : List Int) : D := .rows false (l.map runR)
def rowC (l : List Int) : List D := [rl l]
instance : Enc rowC 1 := ⟨fun _ => ⟨rfl, rfl⟩⟩
structure Gap where
  a : List Int
  b : List Int
def gapC (g : Gap) : List D := [rl g.a, rl g.b]
instance : Enc gapC 2 := ⟨fun _ => ⟨rfl, rfl⟩⟩
abbrev gapD (g : Gap) : D := .agg [rl g.a, rl g.b]
abbrev rlL (l : List (List Int)) : D := .rows false (l.map rowC)
abbrev gpL (l : List Gap) : D := .rows false (l.map gapC)
abbrev killsD (l : List (List Int)) : D := .agg [rlL l]
abbrev undoD (l : List Gap) : D := .agg [gpL l]

-- layer 1
def signB (r : Int) : Bool := decide (0 ≤ r ∧ r ≤ 1114111 ∧ ¬ (55296 ≤ r ∧ r ≤ 57343))
def signs (l : List Int) : Bool := l.all signB

-- layer 10
def Gap.sm (g : Gap) : Prop := g.a.length ≤ 1000000 ∧ g.b.length ≤ 1000000
def gapIs (g : Gap) : Bool := decide (g.a.length + g.b.length ≤ 200) && (signs g.a && signs g.b)
def splitS (l : List Int) (at_ : Nat) : Gap := ⟨l.take at_, l.drop at_⟩
def ofS (l : List Int) (at_ : Int) : Gap × Int :=
  if signs l = false ∨ at_ < 0 ∨ (l.length : Int) < at_ then (⟨[], []⟩, 1) else if 200 < l.length then (⟨[], []⟩, 5) else (splitS l at_.toNat, 0)
def insS (g : Gap) (l : List Int) : Gap × Int :=
  if gapIs g = false ∨ signs l = false then (⟨[], []⟩, 1) else if 200 < g.a.length + g.b.length + l.length then (⟨[], []⟩, 5) else (⟨g.a ++ l, g.b⟩, 0)
def cutS (g : Gap) (n : Int) : Gap × List Int :=
  if gapIs g = false ∨ n = 0 then (g, []) else if 0 < n then (⟨g.a, g.b.drop n.toNat⟩, g.b.take n.toNat)
  else (⟨g.a.take (g.a.length + n).toNat, g.b⟩, g.a.drop (g.a.length + n).toNat)
def goS (g : Gap) (at_ : Int) : Gap := if gapIs g = false then g else splitS (g.a ++ g.b) (max 0 (min at_ ((g.a ++ g.b).length : Int))).toNat
def gapRes (x : Gap × Int) : D := .tup [gapD x.1, .int .i64 x.2]

theorem signs_nil : signs [] = true := rfl
theorem signs_drop {l : List Int} {i : Nat} (h : i < l.length) : signs (l.drop i) = (signB l[i] && signs (l.drop (i + 1))) := by
  rw [List.drop_eq_getElem_cons h]; rfl
theorem drop_end {α : Type} {l : List α} {i : Nat} (h : l.length ≤ i) : l.drop i = [] := List.drop_eq_nil_of_le h
theorem wrapI {x : Int} (h : -9223372036854775808 ≤ x ∧ x ≤ 9223372036854775807) : IntKind.i64.wrap x = x := IntWalk.i64_in _ h
theorem wrap32 {x : Int} (h : -2147483648 ≤ x ∧ x ≤ 2147483647) : IntKind.i32.wrap x = x := IntWalk.i32_in _ h
theorem wrapU {x : Int} (h : 0 ≤ x ∧ x ≤ 18446744073709551615) : IntKind.u64.wrap x = x := IntWalk.u64_in _ h
theorem wrap8 {x : Int} (h : 0 ≤ x ∧ x ≤ 255) : IntKind.u8.wrap x = x := IntWalk.u8_in _ h
theorem gap_ext {g : Gap} {a b : List Int} (h1 : a = g.a) (h2 : b = g.b) : (⟨a, b⟩ : Gap) = g := by subst h1 h2; rfl
end Go.Eng

/- Walks of layers 1 and 10 (signs, lines with a point). -/
namespace Go.Proofs.YtkcdmmafkpplhaaGreat
open Go.Eng
theorem cut_hi (b : List Int) (n : Int) : (b.take b.length).drop (min n b.length).toNat = b.drop n.toNat := by
  rw [List.take_length]
  by_cases h : n ≤ b.length
  · rw [Int.min_eq_left h]
  · rw [List.drop_eq_nil_of_le (by omega), List.drop_eq_nil_of_le (by omega)]
theorem cut_lo (b : List Int) (n : Int) : (b.take (min n b.length).toNat).drop 0 = b.take n.toNat := by
  rw [List.drop_zero]
  by_cases h : n ≤ b.length
  · rw [Int.min_eq_left h]
  · rw [List.take_of_length_le (by omega), List.take_of_length_le (by omega)]
theorem gapIs_a {a b : List Int} (h : gapIs ⟨a, b⟩ = true) : a.length ≤ 200 := by simp [gapIs] at h; omega
theorem gapIs_b {a b : List Int} (h : gapIs ⟨a, b⟩ = true) : b.length ≤ 200 := by simp [gapIs] at h; omega

set_option maxRecDepth 20000 in
theorem f_ValidRune {r : Int} : FnP PP 49 [.int .i32 r] (.bool (signB r)) := by
  refine FnP.of_body Tryz.func49 rfl (by kernel_rfl) rfl ?_
  refine Wp.seq <| reg <| asg0 rfl <| done ?_
  refine Wp.seq <| Wp.block <| Wp.seq <| reg <| mv0 rfl <| cmp0 rfl <| mv0 rfl ?_
  refine bcase 6 rfl (fun h6 => ?_) (fun h6 => ?_)
  have nh6 := Nz h6
  refine mv1 rfl h6 rfl <| cmp1 rfl h6 rfl <| pkt0 rfl h6 <| asg0 rfl <| done ?_
  refine Wp.cond rfl (fun c1 => ?_) (fun c1 => ?_)
  have nc1 := Nz c1
  refine Wp.seq <| reg <| asg0 rfl <| done ?_
  refine Wp.ret ?_
  refine Ends.ret (.cons (.tmp rfl (Fz.pure rfl)) <|  .nil) ?_
  simp_all [signB, retD] <;> omega
  have nc1 := Nz c1
  refine Wp.seq <| reg <| mv0 rfl <| cmp0 rfl <| mv0 rfl ?_
  refine bcase 13 rfl (fun h13 => ?_) (fun h13 => ?_)
  have nh13 := Nz h13
  refine mv1 rfl h13 rfl <| cmp1 rfl h13 rfl <| pkt0 rfl h13 <| asg0 rfl <| done ?_
  refine Wp.cond rfl (fun c2 => ?_) (fun c2 => ?_)
  have nc2 := Nz c2
  refine Wp.seq <| reg <| asg0 rfl <| done ?_
  refine Wp.ret ?_
  refine Ends.ret (.cons (.tmp rfl (Fz.pure rfl)) <|  .nil) ?_
  simp_all [signB, retD] <;> omega
  have nc2 := Nz c2
  refine Wp.skip <| Wp.seq <| reg <| asg0 rfl <| done ?_
  refine Wp.ret ?_
  refine Ends.ret (.cons (.tmp rfl (Fz.pure rfl)) <|  .nil) ?_
  simp_all [signB, retD] <;> omega
  have nh13 := Nz h13
  refine sk0 rfl h13 <| sk0 rfl h13 <| pkf0 rfl h13 <| asg0 rfl <| done ?_
  refine Wp.condF rfl rfl <| Wp.skip <| Wp.seq <| reg <| asg0 rfl <| done ?_
  refine Wp.ret ?_
  refine Ends.ret (.cons (.tmp rfl (Fz.pure rfl)) <|  .nil) ?_
  simp_all [signB, retD] <;> omega
  have nh6 := Nz h6
  refine sk0 rfl h6 <| sk0 rfl h6 <| pkf0 rfl h6 <| asg0 rfl <| done ?_
  refine Wp.condF rfl rfl <| Wp.seq <| reg <| mv0 rfl <| cmp0 rfl <| mv0 rfl ?_
  refine bcase 13 rfl (fun h13 => ?_) (fun h13 => ?_)
  have nh13 := Nz h13
  refine mv1 rfl h13 rfl <| cmp1 rfl h13 rfl <| pkt0 rfl h13 <| asg0 rfl <| done ?_
  refine Wp.cond rfl (fun c3 => ?_) (fun c3 => ?_)
  have nc3 := Nz c3
  refine Wp.seq <| reg <| asg0 rfl <| done ?_
  refine Wp.ret ?_
  refine Ends.ret (.cons (.tmp rfl (Fz.pure rfl)) <|  .nil) ?_
  simp_all [signB, retD] <;> omega
  have nc3 := Nz c3
  refine Wp.skip <| Wp.seq <| reg <| asg0 rfl <| done ?_
  refine Wp.ret ?_
  refine Ends.ret (.cons (.tmp rfl (Fz.pure rfl)) <|  .nil) ?_
  simp_all [signB, retD] <;> omega
  have nh13 := Nz h13
  refine sk0 rfl h13 <| sk0 rfl h13 <| pkf0 rfl h13 <| asg0 rfl <| done ?_
  refine Wp.condF rfl rfl <| Wp.skip <| Wp.seq <| reg <| asg0 rfl <| done ?_
  refine Wp.ret ?_
  refine Ends.ret (.cons (.tmp rfl (Fz.pure rfl)) <|  .nil) ?_
  simp_all [signB, retD] <;> omega

set_option maxRecDepth 20000 in
theorem f_glyphIs {r : Int} : FnP PP 17 [.int .i32 r] (.bool (signB r)) := by
  refine FnP.of_body Tryz.func17 rfl (by kernel_rfl) rfl ?_
  refine Wp.seq <| reg <| asg0 rfl <| done ?_
  refine Wp.seq <| reg <| mv0 rfl <| clw0 rfl f_ValidRune rfl ?_
  refine asg0 rfl <| done ?_
  refine Wp.ret ?_
  refine Ends.ret (.cons (.tmp rfl (Fz.pure rfl)) <|  .nil) ?_
  rfl

theorem f_signs_k1 {p : Prop} (h : p := by
    first | (simp only [retD]; rw [hx2, signs_drop (by omega)]; simp_all; done) | (simp only [retD]; rw [hx2, drop_end (by omega)]; rfl)) : p := h
set_option maxRecDepth 20000 in
theorem f_signs {l : List Int} : FnP PP 88 [rl l] (.bool (signs l)) := by
  refine FnP.of_body Tryz.func88 rfl (by kernel_rfl) rfl ?_
  refine Wp.bound 0 rfl (fun hb0 => ?_)
  simp only [D.bd, D.bdL, List.length_map, and_true] at hb0
  refine Wp.seq <| reg <| asg0 rfl <| done ?_
  refine Wp.seq <| Wp.seq <| reg <| mv0 rfl ?_
  first | refine lnM0 rfl ?_ | refine lns0 rfl ?_ | refine ln0 rfl ?_
  refine mv0 rfl <| done ?_
  refine Wp.block ?_
  refine Wp.loopK (α := Nat) [0, 5, 6] [] (fun x tl => (7, .int .i64 x) :: tl) (fun x tl => tl) (fun x => x ≤ l.length ∧ signs l = signs (l.drop x)) (fun x => l.length - x) (0) rfl rfl (⟨by omega, rfl⟩) (Rp) (Rp) ?_
  intro x hx
  obtain ⟨hx1, hx2⟩ := hx
  refine Wp.seq <| reg <| cmp0 rfl <| done ?_
  refine Wp.seq ?_
  refine Wp.cond rfl (fun c1 => ?_) (fun c1 => ?_)
  have nc1 := Nz c1
  refine Wp.skip <| Wp.seq <| Wp.block <| Wp.seq <| reg <| iaE0 (x) Bd rfl Eq' ?_
  refine ldA0 rfl ?_
  refine asg0 rfl <| done ?_
  refine Wp.seq <| reg <| mv0 rfl <| clw0 rfl f_glyphIs rfl ?_
  refine nt0 rfl <| done ?_
  refine Wp.cond rfl (fun c2 => ?_) (fun c2 => ?_)
  have nc2 := Nz c2
  refine Wp.seq <| reg <| asg0 rfl <| done ?_
  refine Wp.ret ?_
  refine Ends.ret (.cons (.tmp rfl (Fz.pure rfl)) <|  .nil) ?_
  exact f_signs_k1
  have nc2 := Nz c2
  refine Wp.skip <| reg <| ar0 rfl (wrapI Bd) <| mv0 rfl <| done ?_
  refine ⟨x + 1, ⟨by omega, by rw [hx2, signs_drop (by omega)]; simp_all⟩, by omega, Rp, Rp, rfl⟩
  have nc1 := Nz c1
  refine Wp.exit <| Wp.seq <| reg <| asg0 rfl <| done ?_
  refine Wp.ret ?_
  refine Ends.ret (.cons (.tmp rfl (Fz.pure rfl)) <|  .nil) ?_
  exact f_signs_k1

theorem f_gapIs_k1 {p : Prop} (h : p := by
    simp only [gapIs, retD]; simp_all <;> omega) : p := h
set_option maxRecDepth 20000 in
theorem f_gapIs {a b : List Int} (h1 : a.length ≤ 1000000) (h2 : b.length ≤ 1000000) : FnP PP 82 [.agg [rl a, rl b]] (.bool (gapIs ⟨a, b⟩)) := by
  refine FnP.of_body Tryz.func82 rfl (by kernel_rfl) rfl ?_
  refine Wp.seq <| reg <| bx0 65 rfl ?_
  refine asg0 rfl <| done ?_
  refine Wp.seq <| reg <| faA0 rfl ?_
  refine ldA0 rfl ?_
  first | refine lnM0 rfl ?_ | refine lns0 rfl ?_ | refine ln0 rfl ?_
  refine faA0 rfl ?_
  refine ldA0 rfl ?_
  first | refine lnM0 rfl ?_ | refine lns0 rfl ?_ | refine ln0 rfl ?_
  refine ar0 rfl (wrapI Bd) <| cmp0 rfl <| mv0 rfl ?_
  refine bcase 11 rfl (fun h11 => ?_) (fun h11 => ?_)
  have nh11 := Nz h11
  refine faA1 rfl h11 rfl ?_
  refine ldA1 rfl h11 rfl ?_
  refine clw1 rfl h11 rfl f_signs rfl ?_
  refine pkt0 rfl h11 <| mv0 rfl ?_
  refine bcase 16 rfl (fun h16 => ?_) (fun h16 => ?_)
  have nh16 := Nz h16
  refine faA1 rfl h16 rfl ?_
  refine ldA1 rfl h16 rfl ?_
  refine clw1 rfl h16 rfl f_signs rfl ?_
  refine pkt0 rfl h16 <| asg0 rfl <| done ?_
  refine Wp.ret ?_
  refine Ends.ret (.cons (.tmp rfl (Fz.pure rfl)) <|  .nil) ?_
  exact f_gapIs_k1
  have nh16 := Nz h16
  refine sk0 rfl h16 <| sk0 rfl h16 <| sk0 rfl h16 <| pkf0 rfl h16 <| asg0 rfl <| done ?_
  refine Wp.ret ?_
  refine Ends.ret (.cons (.tmp rfl (Fz.pure rfl)) <|  .nil) ?_
  exact f_gapIs_k1
  have nh11 := Nz h11
  refine sk0 rfl h11 <| sk0 rfl h11 <| sk0 rfl h11 <| pkf0 rfl h11 <| mv0 rfl <| sk0 rfl rfl <| sk0 rfl rfl <| sk0 rfl rfl <| pkf0 rfl rfl <| asg0 rfl <| done ?_
  refine Wp.ret ?_
  refine Ends.ret (.cons (.tmp rfl (Fz.pure rfl)) <|  .nil) ?_
  exact f_gapIs_k1

set_option maxRecDepth 20000 in
theorem f_textO {a b : List Int} (h1 : a.length ≤ 1000000) (h2 : b.length ≤ 1000000) : FnO PP 19 [.agg [rl a, rl b]] 1 ((a ++ b).map runR) := by
  refine FnO.body 75 (Enc.pure _) Tryz.func19 rfl (by kernel_rfl) rfl ?_
  refine Wp.seq <| reg <| bx0 65 rfl ?_
  refine asg0 rfl <| done ?_
  refine Wp.seq <| reg <| faA0 rfl ?_
  refine ldA0 rfl ?_
  first | refine lnM0 rfl ?_ | refine lns0 rfl ?_ | refine ln0 rfl ?_
  refine faA0 rfl ?_
  refine ldA0 rfl ?_
  first | refine lnM0 rfl ?_ | refine lns0 rfl ?_ | refine ln0 rfl ?_
  refine ar0 rfl (wrapI Bd) <| mksM 75 (0) runR (a.length + b.length) rfl rfl Bd Bd Bd rfl rfl .none ?_
  refine asg0 rfl <| done ?_
  refine Wp.seq <| regd mixed ?_
  refine mv0 rfl <| mv0 rfl <| faA0 rfl ?_
  refine ldA0 rfl ?_
  refine cpyM (a ++ List.replicate b.length 0) rfl rfl rfl Bd Bd (by simp [List.drop_replicate]) rfl .none ?_
  refine slo (a.length) (a.length + b.length) rfl rfl rfl rfl Og Og ⟨Bd, Bd⟩ rfl rfl rfl .none ?_
  refine faA0 rfl ?_
  refine ldA0 rfl ?_
  refine cpyM (a ++ b) rfl rfl rfl Bd Bd (by simp) rfl .none ?_
  refine done ⟨by kernel_rfl, by kernel_rfl, ?_⟩
  refine Wp.seq <| reg <| mv0 rfl <| asg0 rfl <| done ?_
  refine Wp.ret ?_
  refine EndsG.bufM (.inr rfl) rfl rfl Bd rfl

set_option maxRecDepth 20000 in
theorem f_split {l : List Int} {i : Int} (h1 : 0 ≤ i) (h2 : i ≤ l.length) : FnP PP 89 [rl l, .int .i64 i] (gapD (splitS l i.toNat)) := by
  refine FnP.of_body Tryz.func89 rfl (by kernel_rfl) rfl ?_
  refine Wp.seq <| reg <| al0 68 rfl ?_
  refine done ?_
  refine Wp.seq <| regd mixed ?_
  refine mv0 rfl <| mv0 rfl <| mv0 rfl <| sl3M (0) (i.toNat) (l.take i.toNat) rfl rfl rfl rfl Og Bd Bd ⟨Bd, Bd⟩ (by simp) rfl .none ?_
  refine mv0 rfl <| mv0 rfl <| sl2M (i.toNat) (l.length) (l.drop i.toNat) rfl rfl rfl Og Og ⟨Bd, Bd⟩ (by simp) rfl .none ?_
  refine bdw0 rfl ?_
  refine stw0 rfl ?_
  refine done ⟨by kernel_rfl, by kernel_rfl, ?_⟩
  refine Wp.ret ?_
  refine Ends.ret (.cons (.cell rfl rfl rfl (Nat.le_of_ble_eq_true rfl) (Fz.wk rfl)) <|  .nil) ?_
  rfl

theorem f_of_k1 {p : Prop} (h : p := by
    show _ = _; unfold gapRes ofS; (repeat' split) <;> first | rfl | (exfalso; omega) | (exfalso; simp_all; done) | (exfalso; simp_all <;> omega)) : p := h
set_option maxRecDepth 20000 in
theorem f_of {l : List Int} {i : Int} : FnP PP 50 [rl l, .int .i64 i] (gapRes (ofS l i)) := by
  refine FnP.of_body Tryz.func50 rfl (by kernel_rfl) rfl ?_
  refine Wp.seq <| reg <| al0 68 rfl ?_
  refine asg0 rfl <| done ?_
  refine Wp.seq <| Wp.block <| Wp.seq <| reg <| mv0 rfl <| clw0 rfl f_signs rfl ?_
  refine nt0 rfl <| mv0 rfl ?_
  refine bcase 10 rfl (fun h10 => ?_) (fun h10 => ?_)
  have nh10 := Nz h10
  refine sk0 rfl h10 <| sk0 rfl h10 <| pkt0 rfl h10 <| mv0 rfl <| sk0 rfl rfl <| sk0 rfl rfl <| sk0 rfl rfl <| sk0 rfl rfl <| pkt0 rfl rfl <| asg0 rfl <| done ?_
  refine Wp.condT rfl rfl <| Wp.seq <| reg <| bdw0 rfl ?_
  refine stw0 rfl ?_
  refine asg0 rfl <| done ?_
  refine Wp.ret ?_
  refine Ends.ret (.cons (.cell rfl rfl rfl (Nat.le_of_ble_eq_true rfl) (Fz.wk rfl)) <| .cons (.tmp rfl (Fz.pure rfl)) <|  .nil) ?_
  exact f_of_k1
  have nh10 := Nz h10
  refine mv1 rfl h10 rfl <| cmp1 rfl h10 rfl <| pkf0 rfl h10 <| mv0 rfl ?_
  refine bcase 14 rfl (fun h14 => ?_) (fun h14 => ?_)
  have nh14 := Nz h14
  refine sk0 rfl h14 <| sk0 rfl h14 <| sk0 rfl h14 <| sk0 rfl h14 <| pkt0 rfl h14 <| asg0 rfl <| done ?_
  refine Wp.condT rfl rfl <| Wp.seq <| reg <| bdw0 rfl ?_
  refine stw0 rfl ?_
  refine asg0 rfl <| done ?_
  refine Wp.ret ?_
  refine Ends.ret (.cons (.cell rfl rfl rfl (Nat.le_of_ble_eq_true rfl) (Fz.wk rfl)) <| .cons (.tmp rfl (Fz.pure rfl)) <|  .nil) ?_
  exact f_of_k1
  have nh14 := Nz h14
  refine mv1 rfl h14 rfl <| mv1 rfl h14 rfl ?_
  first | refine lnM1 rfl h14 rfl ?_ | refine lns1 rfl h14 rfl ?_ | refine ln1 rfl h14 rfl ?_
  refine cmp1 rfl h14 rfl <| pkf0 rfl h14 <| asg0 rfl <| done ?_
  refine Wp.cond rfl (fun c1 => ?_) (fun c1 => ?_)
  have nc1 := Nz c1
  refine Wp.seq <| reg <| bdw0 rfl ?_
  refine stw0 rfl ?_
  refine asg0 rfl <| done ?_
  refine Wp.ret ?_
  refine Ends.ret (.cons (.cell rfl rfl rfl (Nat.le_of_ble_eq_true rfl) (Fz.wk rfl)) <| .cons (.tmp rfl (Fz.pure rfl)) <|  .nil) ?_
  exact f_of_k1
  have nc1 := Nz c1
  refine Wp.seq <| reg <| mv0 rfl ?_
  first | refine lnM0 rfl ?_ | refine lns0 rfl ?_ | refine ln0 rfl ?_
  refine cmp0 rfl <| asg0 rfl <| done ?_
  refine Wp.cond rfl (fun c2 => ?_) (fun c2 => ?_)
  have nc2 := Nz c2
  refine Wp.seq <| reg <| bdw0 rfl ?_
  refine stw0 rfl ?_
  refine asg0 rfl <| done ?_
  refine Wp.ret ?_
  refine Ends.ret (.cons (.cell rfl rfl rfl (Nat.le_of_ble_eq_true rfl) (Fz.wk rfl)) <| .cons (.tmp rfl (Fz.pure rfl)) <|  .nil) ?_
  exact f_of_k1
  have nc2 := Nz c2
  refine Wp.skip <| Wp.seq <| reg <| mv0 rfl <| mv0 rfl <| clw0 rfl (f_split Dis Dis) rfl ?_
  refine stw0 rfl ?_
  refine asg0 rfl <| done ?_
  refine Wp.ret ?_
  refine Ends.ret (.cons (.cell rfl rfl rfl (Nat.le_of_ble_eq_true rfl) (Fz.wk rfl)) <| .cons (.tmp rfl (Fz.pure rfl)) <|  .nil) ?_
  exact f_of_k1

theorem f_ins_k1 {p : Prop} (h : p := by
    show _ = _; unfold gapRes insS; (repeat' split) <;> first | rfl | (exfalso; omega) | (exfalso; simp_all; done) | (exfalso; simp_all <;> omega)) : p := h
set_option maxRecDepth 20000 in
theorem f_ins {a b l : List Int} (h1 : a.length ≤ 1000000) (h2 : b.length ≤ 1000000) (h3 : l.length ≤ 1000000) : FnP PP 189 [.agg [rl a, rl b], rl l] (gapRes (insS ⟨a, b⟩ l)) := by
  refine FnP.of_body Tryz.func189 rfl (by kernel_rfl) rfl ?_
  refine Wp.seq <| reg <| bx0 66 rfl ?_
  refine al0 68 rfl ?_
  refine asg0 rfl <| done ?_
  refine Wp.seq <| Wp.block <| Wp.seq <| reg <| ldA0 rfl ?_
  refine clw0 rfl (f_gapIs Dis Dis) rfl ?_
  refine nt0 rfl <| mv0 rfl ?_
  refine bcase 11 rfl (fun h11 => ?_) (fun h11 => ?_)
  have nh11 := Nz h11
  refine sk0 rfl h11 <| sk0 rfl h11 <| sk0 rfl h11 <| pkt0 rfl h11 <| asg0 rfl <| done ?_
  refine Wp.condT rfl rfl <| Wp.seq <| reg <| bdw0 rfl ?_
  refine stw0 rfl ?_
  refine asg0 rfl <| done ?_
  refine Wp.ret ?_
  refine Ends.ret (.cons (.cell rfl rfl rfl (Nat.le_of_ble_eq_true rfl) (Fz.wk rfl)) <| .cons (.tmp rfl (Fz.pure rfl)) <|  .nil) ?_
  exact f_ins_k1
  have nh11 := Nz h11
  refine mv1 rfl h11 rfl <| clw1 rfl h11 rfl f_signs rfl ?_
  refine nt1 rfl h11 rfl <| pkf0 rfl h11 <| asg0 rfl <| done ?_
  refine Wp.cond rfl (fun c1 => ?_) (fun c1 => ?_)
  have nc1 := Nz c1
  refine Wp.seq <| reg <| bdw0 rfl ?_
  refine stw0 rfl ?_
  refine asg0 rfl <| done ?_
  refine Wp.ret ?_
  refine Ends.ret (.cons (.cell rfl rfl rfl (Nat.le_of_ble_eq_true rfl) (Fz.wk rfl)) <| .cons (.tmp rfl (Fz.pure rfl)) <|  .nil) ?_
  exact f_ins_k1
  have nc1 := Nz c1
  refine Wp.seq <| reg <| faA0 rfl ?_
  refine ldA0 rfl ?_
  first | refine lnM0 rfl ?_ | refine lns0 rfl ?_ | refine ln0 rfl ?_
  refine faA0 rfl ?_
  refine ldA0 rfl ?_
  first | refine lnM0 rfl ?_ | refine lns0 rfl ?_ | refine ln0 rfl ?_
  refine ar0 rfl (wrapI Bd) <| mv0 rfl ?_
  first | refine lnM0 rfl ?_ | refine lns0 rfl ?_ | refine ln0 rfl ?_
  refine ar0 rfl (wrapI Bd) <| cmp0 rfl <| asg0 rfl <| done ?_
  refine Wp.cond rfl (fun c2 => ?_) (fun c2 => ?_)
  have nc2 := Nz c2
  refine Wp.seq <| reg <| bdw0 rfl ?_
  refine stw0 rfl ?_
  refine asg0 rfl <| done ?_
  refine Wp.ret ?_
  refine Ends.ret (.cons (.cell rfl rfl rfl (Nat.le_of_ble_eq_true rfl) (Fz.wk rfl)) <| .cons (.tmp rfl (Fz.pure rfl)) <|  .nil) ?_
  exact f_ins_k1
  have nc2 := Nz c2
  refine Wp.skip <| Wp.seq <| reg <| faA0 rfl ?_
  refine ldA0 rfl ?_
  first | refine lnM0 rfl ?_ | refine lns0 rfl ?_ | refine ln0 rfl ?_
  refine asg0 rfl <| done ?_
  refine Wp.seq <| regd mixed ?_
  refine faA0 rfl ?_
  refine ldA0 rfl ?_
  refine mv0 rfl <| mv0 rfl <| sl3M (0) (a.length) (a) rfl rfl rfl rfl Og Bd Bd ⟨Bd, Bd⟩ (by simp) rfl .none ?_
  refine mv0 rfl <| apfM rfl rfl Bd rfl rfl .none ?_
  refine faA0 rfl ?_
  refine ldA0 rfl ?_
  refine bdw0 rfl ?_
  refine stw0 rfl ?_
  refine asg0 rfl ?_
  refine done ⟨by kernel_rfl, by kernel_rfl, ?_⟩
  refine Wp.ret ?_
  refine Ends.ret (.cons (.cell rfl rfl rfl (Nat.le_of_ble_eq_true rfl) (Fz.wk rfl)) <| .cons (.tmp rfl (Fz.pure rfl)) <|  .nil) ?_
  exact f_ins_k1

theorem f_cut_k1 {p : Prop} (h : p := by
    show _ = _; unfold cutS; (repeat' split) <;> first | rfl | (exfalso; omega) | (exfalso; simp_all; done) | (exfalso; simp_all <;> omega)) : p := h
set_option maxRecDepth 20000 in
theorem f_cut {a b : List Int} {n : Int} (h1 : a.length ≤ 1000000) (h2 : b.length ≤ 1000000) (h3 : -1000000 ≤ n ∧ n ≤ 1000000) : FnP PP 168 [.agg [rl a, rl b], .int .i64 n] (.tup [gapD (cutS ⟨a, b⟩ n).1, rl (cutS ⟨a, b⟩ n).2]) := by
  refine FnP.of_body Tryz.func168 rfl (by kernel_rfl) rfl ?_
  refine Wp.seq <| reg <| bx0 66 rfl ?_
  refine al0 68 rfl ?_
  refine asg0 rfl <| done ?_
  refine Wp.seq <| Wp.seq <| reg <| ldA0 rfl ?_
  refine clw0 rfl (f_gapIs Dis Dis) rfl ?_
  refine nt0 rfl <| mv0 rfl ?_
  refine bcase 10 rfl (fun h10 => ?_) (fun h10 => ?_)
  have nh10 := Nz h10
  refine sk0 rfl h10 <| sk0 rfl h10 <| pkt0 rfl h10 <| done ?_
  refine Wp.condT rfl rfl <| Wp.seq <| reg <| ldA0 rfl ?_
  refine stw0 rfl ?_
  refine asg0 rfl <| done ?_
  refine Wp.ret ?_
  refine Ends.ret (.cons (.cell rfl rfl rfl (Nat.le_of_ble_eq_true rfl) (Fz.wk rfl)) <| .cons (.tmp rfl (Fz.wk rfl)) <|  .nil) ?_
  exact f_cut_k1
  have nh10 := Nz h10
  refine mv1 rfl h10 rfl <| cmp1 rfl h10 rfl <| pkf0 rfl h10 <| done ?_
  refine Wp.cond rfl (fun c1 => ?_) (fun c1 => ?_)
  have nc1 := Nz c1
  refine Wp.seq <| reg <| ldA0 rfl ?_
  refine stw0 rfl ?_
  refine asg0 rfl <| done ?_
  refine Wp.ret ?_
  refine Ends.ret (.cons (.cell rfl rfl rfl (Nat.le_of_ble_eq_true rfl) (Fz.wk rfl)) <| .cons (.tmp rfl (Fz.wk rfl)) <|  .nil) ?_
  exact f_cut_k1
  have nc1 := Nz c1
  refine Wp.skip <| Wp.seq <| Wp.seq <| reg <| mv0 rfl <| cmp0 rfl <| done ?_
  refine Wp.cond rfl (fun c2 => ?_) (fun c2 => ?_)
  have nc2 := Nz c2
  refine Wp.seq <| reg <| mv0 rfl <| faA0 rfl ?_
  refine ldA0 rfl ?_
  first | refine lnM0 rfl ?_ | refine lns0 rfl ?_ | refine ln0 rfl ?_
  refine mn0 rfl ?_
  refine asg0 rfl <| done ?_
  refine Wp.seq <| regd mixed ?_
  refine faA0 rfl ?_
  refine ldA0 rfl ?_
  refine faA0 rfl ?_
  refine ldA0 rfl ?_
  refine mv0 rfl <| sl2M ((min n b.length).toNat) (b.length) (b.drop n.toNat) rfl rfl rfl Og Og ⟨Bd, Bd⟩ (cut_hi _ _) rfl .none ?_
  refine bdw0 rfl ?_
  refine faA0 rfl ?_
  refine ldA0 rfl ?_
  refine mv0 rfl <| mv0 rfl <| sl3M (0) ((min n b.length).toNat) (b.take n.toNat) rfl rfl rfl rfl Og Bd Bd ⟨Bd, Bd⟩ (cut_lo _ _) rfl .none ?_
  refine stw0 rfl ?_
  refine asg0 rfl ?_
  refine done ⟨by kernel_rfl, by kernel_rfl, ?_⟩
  refine Wp.ret ?_
  refine Ends.ret (.cons (.cell rfl rfl rfl (Nat.le_of_ble_eq_true rfl) (Fz.wk rfl)) <| .cons (.tmp rfl (Fz.wk rfl)) <|  .nil) ?_
  exact f_cut_k1
  have nc2 := Nz c2
  refine Wp.skip <| Wp.seq <| reg <| faA0 rfl ?_
  refine ldA0 rfl ?_
  first | refine lnM0 rfl ?_ | refine lns0 rfl ?_ | refine ln0 rfl ?_
  refine mv0 rfl <| mx0 rfl ?_
  refine ar0 rfl (wrapI Bd) <| mx0 rfl ?_
  refine asg0 rfl <| done ?_
  refine Wp.seq <| regd mixed ?_
  have hga : a.length ≤ 200 := gapIs_a (b := b) (by simp_all)
  refine faA0 rfl ?_
  refine ldA0 rfl ?_
  refine mv0 rfl <| mv0 rfl <| sl3M (0) ((a.length + n).toNat) (a.take (a.length + n).toNat) rfl rfl rfl rfl Og Bd Bd ⟨Bd, Bd⟩ (by simp) rfl .none ?_
  refine faA0 rfl ?_
  refine ldA0 rfl ?_
  refine bdw0 rfl ?_
  refine faA0 rfl ?_
  refine ldA0 rfl ?_
  refine mv0 rfl <| sl2M ((a.length + n).toNat) (a.length) (a.drop (a.length + n).toNat) rfl rfl rfl Og Og ⟨Bd, Bd⟩ (by simp) rfl .none ?_
  refine stw0 rfl ?_
  refine asg0 rfl ?_
  refine done ⟨by kernel_rfl, by kernel_rfl, ?_⟩
  refine Wp.ret ?_
  refine Ends.ret (.cons (.cell rfl rfl rfl (Nat.le_of_ble_eq_true rfl) (Fz.wk rfl)) <| .cons (.tmp rfl (Fz.wk rfl)) <|  .nil) ?_
  exact f_cut_k1

theorem f_go_k1 {p : Prop} (h : p := by
    show _ = _; unfold goS; (repeat' split) <;> first | rfl | (exfalso; omega) | (exfalso; simp_all; done) | (exfalso; simp_all <;> omega)) : p := h
set_option maxRecDepth 20000 in
theorem f_go {a b : List Int} {i : Int} (h1 : a.length ≤ 1000000) (h2 : b.length ≤ 1000000) : FnP PP 56 [.agg [rl a, rl b], .int .i64 i] (gapD (goS ⟨a, b⟩ i)) := by
  refine FnP.of_body Tryz.func56 rfl (by kernel_rfl) rfl ?_
  refine Wp.seq <| reg <| bx0 66 rfl ?_
  refine al0 68 rfl ?_
  refine done ?_
  refine Wp.seq <| Wp.seq <| reg <| ldA0 rfl ?_
  refine clw0 rfl (f_gapIs Dis Dis) rfl ?_
  refine nt0 rfl <| done ?_
  refine Wp.cond rfl (fun c1 => ?_) (fun c1 => ?_)
  have nc1 := Nz c1
  refine Wp.seq <| reg <| ldA0 rfl ?_
  refine stw0 rfl ?_
  refine done ?_
  refine Wp.ret ?_
  refine Ends.ret (.cons (.cell rfl rfl rfl (Nat.le_of_ble_eq_true rfl) (Fz.wk rfl)) <|  .nil) ?_
  exact f_go_k1
  have nc1 := Nz c1
  refine Wp.skip <| Wp.seq <| reg <| ldA0 rfl ?_
  refine clw0 rfl (FnO.toP (f_textO Dis Dis)) rfl ?_
  refine asg0 rfl <| done ?_
  refine Wp.seq <| reg <| mv0 rfl <| mv0 rfl <| mv0 rfl ?_
  first | refine lnM0 rfl ?_ | refine lns0 rfl ?_ | refine ln0 rfl ?_
  refine mn0 rfl ?_
  refine mx0 rfl ?_
  refine clw0 rfl (f_split Dis Dis) rfl ?_
  refine stw0 rfl ?_
  refine done ?_
  refine Wp.ret ?_
  refine Ends.ret (.cons (.cell rfl rfl rfl (Nat.le_of_ble_eq_true rfl) (Fz.wk rfl)) <|  .nil) ?_
  exact f_go_k1

end Go.Proofs.YtkcdmmafkpplhaaGreat
/- Texts that were taken out, and how a line was before, told in Lean. No program in sight. -/
namespace Go.Eng
open Go
theorem all_drop {α : Type} {p : α → Bool} {l : List α} {i : Nat} (h : i < l.length) : (l.drop i).all p = (p l[i] && (l.drop (i + 1)).all p) := by
  rw [List.drop_eq_getElem_cons h]; rfl
-- layer 12
def oneS (l : List Int) : Bool := signs l && decide (0 < l.length ∧ l.length ≤ 200)
def killIs (k : List (List Int)) : Bool := k.all oneS && decide (k.length ≤ 8)
def lastL (k : List (List Int)) : List Int := k.getD (k.length - 1) []
def joinS (how : Int) (l m : List Int) : List Int := if how < 0 then l ++ m else m ++ l
def addS (k : List (List Int)) (l : List Int) (how : Int) : List (List Int) :=
  if killIs k = false ∨ oneS l = false then k
  else if how = 0 ∨ k.length = 0 ∨ 200 < (lastL k).length + l.length then k.drop (k.length + 1 - 8) ++ [l]
  else k.take (k.length - 1) ++ [joinS how l (lastL k)]
def getS (k : List (List Int)) (turn : Int) : List Int × Int :=
  if killIs k = false ∨ turn < 0 then ([], 1) else if k.length = 0 then ([], 6) else (k.getD (k.length - 1 - turn.toNat % k.length) [], 0)
-- layer 13
def undoIs (u : List Gap) : Bool := u.all gapIs && decide (u.length ≤ 16)
def lastG (u : List Gap) : Gap := u.getD (u.length - 1) ⟨[], []⟩
def lastR (u : List Gap) : Gap × Bool := if u.length = 0 then (⟨[], []⟩, false) else (lastG u, true)
def pushS (u : List Gap) (g : Gap) : List Gap :=
  if undoIs u = false ∨ gapIs g = false then u else if u.length ≠ 0 ∧ (lastG u).a = g.a ∧ (lastG u).b = g.b then u else u.drop (u.length - 15) ++ [g]
def popS (u : List Gap) : (List Gap × Gap) × Int :=
  if undoIs u = false then (([], ⟨[], []⟩), 1) else if u.length = 0 then (([], ⟨[], []⟩), 6) else ((u.take (u.length - 1), lastG u), 0)
def lastRD (x : Gap × Bool) : D := .tup [gapD x.1, .bool x.2]
def popRD (x : (List Gap × Gap) × Int) : D := .tup [undoD x.1.1, gapD x.1.2, .int .i64 x.2]
def getRD (x : List Int × Int) : D := .tup [rl x.1, .int .i64 x.2]
end Go.Eng

/- Walks of layers 12 and 13 (texts that were taken out, how a line was before), and of slices.Clone and slices.Equal. -/
namespace Go.Proofs.YtkcdmmafkpplhaaGreat
open Go.Eng
theorem eq_len {a b : List Int} (h : ¬ ((a.length : Int) = b.length)) : decide (a = b) = false := decide_eq_false (by rintro rfl; exact h rfl)
theorem eq_at {a b : List Int} {i : Nat} (h1 : i < a.length) (h2 : i < b.length) (h : ¬ a[i] = b[i]) : decide (a = b) = false := decide_eq_false (by rintro rfl; exact h rfl)
theorem eq_step {a b : List Int} {i : Nat} (h1 : i < a.length) (h2 : i < b.length) (h : a[i] = b[i]) (hx : a.take i = b.take i) : a.take (i + 1) = b.take (i + 1) := by
  rw [List.take_add_one, List.take_add_one, hx]; simp [h1, h2, h]
theorem eq_end {a b : List Int} {i : Nat} (h1 : a.length ≤ i) (h2 : a.length = b.length) (hx : a.take i = b.take i) : decide (a = b) = true :=
  decide_eq_true (by rwa [List.take_of_length_le h1, List.take_of_length_le (by omega)] at hx)
theorem tmod_nat {a : Int} (h : 0 ≤ a) (n : Nat) : a.tmod n = ((a.toNat % n : Nat) : Int) := by
  obtain ⟨m, rfl⟩ := Int.eq_ofNat_of_zero_le h
  rw [Int.tmod_eq_emod_of_nonneg h]; simp
theorem killIs_len {k : List (List Int)} (h : killIs k = true) : k.length ≤ 8 := by simp [killIs] at h; exact h.2
theorem oneS_len {l : List Int} (h : oneS l = true) : 0 < l.length ∧ l.length ≤ 200 := by simp [oneS] at h; omega
theorem killIs_one {k : List (List Int)} (h : killIs k = true) (i : Nat) : (k.getD i []).length ≤ 200 := by
  simp only [killIs, Bool.and_eq_true, List.all_eq_true] at h
  by_cases hi : i < k.length
  · have := oneS_len (h.1 k[i] (List.getElem_mem hi)); simp [List.getD, hi]; omega
  · simp [List.getD, List.getElem?_eq_none (by omega : k.length ≤ i)]
theorem lastR_cases (u : List Gap) : (u.length = 0 ∧ lastR u = (⟨[], []⟩, false)) ∨ (u.length ≠ 0 ∧ lastR u = (lastG u, true)) := by
  by_cases h : u.length = 0
  · exact .inl ⟨h, if_pos h⟩
  · exact .inr ⟨h, if_neg h⟩
theorem undoIs_len {u : List Gap} (h : undoIs u = true) : u.length ≤ 16 := by simp [undoIs] at h; exact h.2

set_option maxRecDepth 20000 in
theorem f_cloneR {l : List Int} (h1 : l.length ≤ 1000000) : FnO PP 53 [.rows false (l.map runR)] 1 (l.map runR) := by
  refine FnO.body 1071 (Enc.pure _) Tryz.func53 rfl (by kernel_rfl) rfl ?_
  refine Wp.seq <| reg <| asg0 rfl <| done ?_
  refine Wp.seq <| Wp.seq ?_
  refine Wp.nilTest rfl rfl rfl (fun b1 hnb1 => ?_)
  refine Wp.cond rfl (fun c2 => ?_) (fun c2 => ?_)
  have nc2 := Nz c2
  refine Wp.seq <| reg <| asg0 rfl <| done ?_
  have hl0 : l = [] := by rcases l with _ | ⟨x, l⟩; rfl; exact absurd (hnb1 (by simp)) (by simp [nc2])
  subst hl0
  refine Wp.nilBuf 1071 2 1 [] rfl rfl rfl ?_
  refine Wp.ret ?_
  refine EndsG.bufM (.inr rfl) rfl rfl Bd rfl
  have nc2 := Nz c2
  refine Wp.skip <| Wp.seq <| reg <| bsoM 69 runR [] rfl rfl rfl rfl rfl rfl .none ?_
  refine mv0 rfl <| apoM 1071 rfl rfl Bd rfl Bd rfl rfl rfl .none ?_
  refine asg0 rfl <| done ?_
  refine Wp.ret ?_
  refine EndsG.bufM (.inr rfl) rfl rfl Bd rfl

set_option maxRecDepth 20000 in
theorem f_cloneL {l : List (List Int)} (h1 : l.length ≤ 1000000) : FnO PP 144 [.rows false (l.map rowC)] 1 (l.map rowC) := by
  refine FnO.body 1071 (Enc.pure _) Tryz.func144 rfl (by kernel_rfl) rfl ?_
  refine Wp.seq <| reg <| asg0 rfl <| done ?_
  refine Wp.seq <| Wp.seq ?_
  refine Wp.nilTest rfl rfl rfl (fun b1 hnb1 => ?_)
  refine Wp.cond rfl (fun c2 => ?_) (fun c2 => ?_)
  have nc2 := Nz c2
  refine Wp.seq <| reg <| asg0 rfl <| done ?_
  have hl0 : l = [] := by rcases l with _ | ⟨x, l⟩; rfl; exact absurd (hnb1 (by simp)) (by simp [nc2])
  subst hl0
  refine Wp.nilBuf 1071 2 1 [] rfl rfl rfl ?_
  refine Wp.ret ?_
  refine EndsG.bufM (.inr rfl) rfl rfl Bd rfl
  have nc2 := Nz c2
  refine Wp.skip <| Wp.seq <| reg <| bsoM 69 rowC [] rfl rfl rfl rfl rfl rfl .none ?_
  refine mv0 rfl <| apoM 1071 rfl rfl Bd rfl Bd rfl rfl rfl .none ?_
  refine asg0 rfl <| done ?_
  refine Wp.ret ?_
  refine EndsG.bufM (.inr rfl) rfl rfl Bd rfl

set_option maxRecDepth 20000 in
theorem f_cloneG {l : List Gap} (h1 : l.length ≤ 1000000) : FnO PP 210 [.rows false (l.map gapC)] 2 (l.map gapC) := by
  refine FnO.body 1071 (Enc.pure _) Tryz.func210 rfl (by kernel_rfl) rfl ?_
  refine Wp.seq <| reg <| asg0 rfl <| done ?_
  refine Wp.seq <| Wp.seq ?_
  refine Wp.nilTest rfl rfl rfl (fun b1 hnb1 => ?_)
  refine Wp.cond rfl (fun c2 => ?_) (fun c2 => ?_)
  have nc2 := Nz c2
  refine Wp.seq <| reg <| asg0 rfl <| done ?_
  have hl0 : l = [] := by rcases l with _ | ⟨x, l⟩; rfl; exact absurd (hnb1 (by simp)) (by simp [nc2])
  subst hl0
  refine Wp.nilBuf 1071 2 2 [] rfl rfl rfl ?_
  refine Wp.ret ?_
  refine EndsG.bufM (.inr rfl) rfl rfl Bd rfl
  have nc2 := Nz c2
  refine Wp.skip <| Wp.seq <| reg <| bsoM 69 gapC [] rfl rfl rfl rfl rfl rfl .none ?_
  refine mv0 rfl <| apoM 1071 rfl rfl Bd rfl Bd rfl rfl rfl .none ?_
  refine asg0 rfl <| done ?_
  refine Wp.ret ?_
  refine EndsG.bufM (.inr rfl) rfl rfl Bd rfl

theorem f_equal_k1 {p : Prop} (h : p := by
    first | exact congrArg D.bool (eq_len nc1) | exact congrArg D.bool (eq_at (by omega) (by omega) nc3) | exact congrArg D.bool (eq_end (by omega) hx2 hx3)) : p := h
set_option maxRecDepth 20000 in
theorem f_equal {a b : List Int} : FnP PP 143 [rl a, rl b] (.bool (decide (a = b))) := by
  refine FnP.of_body Tryz.func143 rfl (by kernel_rfl) rfl ?_
  refine Wp.bound 0 rfl (fun hb0 => ?_)
  simp only [D.bd, D.bdL, List.length_map, and_true] at hb0
  refine Wp.seq <| reg <| asg0 rfl <| done ?_
  refine Wp.seq <| Wp.seq <| reg <| mv0 rfl ?_
  first | refine lnM0 rfl ?_ | refine lns0 rfl ?_ | refine ln0 rfl ?_
  refine mv0 rfl ?_
  first | refine lnM0 rfl ?_ | refine lns0 rfl ?_ | refine ln0 rfl ?_
  refine cmp0 rfl <| done ?_
  refine Wp.cond rfl (fun c1 => ?_) (fun c1 => ?_)
  have nc1 := Nz c1
  refine Wp.seq <| reg <| asg0 rfl <| done ?_
  refine Wp.ret ?_
  refine Ends.ret (.cons (.tmp rfl (Fz.pure rfl)) <|  .nil) ?_
  exact f_equal_k1
  have nc1 := Nz c1
  refine Wp.skip <| Wp.seq <| Wp.seq <| reg <| mv0 rfl ?_
  first | refine lnM0 rfl ?_ | refine lns0 rfl ?_ | refine ln0 rfl ?_
  refine mv0 rfl <| done ?_
  refine Wp.block ?_
  refine Wp.loopK (α := Nat) [0, 1, 12] [] (fun x tl => (13, .int .i64 x) :: tl) (fun x tl => tl) (fun x => x ≤ a.length ∧ a.length = b.length ∧ a.take x = b.take x) (fun x => a.length - x) (0) rfl rfl (⟨by omega, by omega, rfl⟩) (Rp) (Rp) ?_
  intro x hx
  obtain ⟨hx1, hx2, hx3⟩ := hx
  refine Wp.seq <| reg <| cmp0 rfl <| done ?_
  refine Wp.seq ?_
  refine Wp.cond rfl (fun c2 => ?_) (fun c2 => ?_)
  have nc2 := Nz c2
  refine Wp.skip <| Wp.seq <| Wp.block <| Wp.seq <| reg <| mv0 rfl <| asg0 rfl <| done ?_
  refine Wp.seq <| regd mixed ?_
  refine mv0 rfl <| mv0 rfl <| iaE0 (x) Bd rfl Eq' ?_
  refine ldA0 rfl ?_
  refine mv0 rfl <| mv0 rfl <| iaE0 (x) Bd rfl Eq' ?_
  refine ldA0 rfl ?_
  refine cmp0 rfl ?_
  refine done ⟨by kernel_rfl, by kernel_rfl, ?_⟩
  refine Wp.cond rfl (fun c3 => ?_) (fun c3 => ?_)
  have nc3 := Nz c3
  refine Wp.seq <| reg <| asg0 rfl <| done ?_
  refine Wp.ret ?_
  refine Ends.ret (.cons (.tmp rfl (Fz.pure rfl)) <|  .nil) ?_
  exact f_equal_k1
  have nc3 := Nz c3
  refine Wp.skip <| reg <| ar0 rfl (wrapI Bd) <| mv0 rfl <| done ?_
  refine ⟨x + 1, ⟨by omega, hx2, eq_step (by omega) (by omega) nc3 hx3⟩, by omega, Rp, Rp, rfl⟩
  have nc2 := Nz c2
  refine Wp.exit <| Wp.seq <| reg <| asg0 rfl <| done ?_
  refine Wp.ret ?_
  refine Ends.ret (.cons (.tmp rfl (Fz.pure rfl)) <|  .nil) ?_
  exact f_equal_k1

theorem f_one_k1 {p : Prop} (h : p := by
    first | (simp only [retD, oneS]; rw [hx2, signs_drop (by omega)]; simp_all; done) | (simp only [retD, oneS]; rw [hx2, drop_end (by omega)]; simp_all [signs_nil] <;> omega)) : p := h
set_option maxRecDepth 20000 in
theorem f_one {l : List Int} : FnP PP 127 [rl l] (.bool (oneS l)) := by
  refine FnP.of_body Tryz.func127 rfl (by kernel_rfl) rfl ?_
  refine Wp.bound 0 rfl (fun hb0 => ?_)
  simp only [D.bd, D.bdL, List.length_map, and_true] at hb0
  refine Wp.seq <| reg <| asg0 rfl <| done ?_
  refine Wp.seq <| Wp.seq <| reg <| mv0 rfl ?_
  first | refine lnM0 rfl ?_ | refine lns0 rfl ?_ | refine ln0 rfl ?_
  refine mv0 rfl <| done ?_
  refine Wp.block ?_
  refine Wp.loopK (α := Nat) [0, 5, 6] [] (fun x tl => (7, .int .i64 x) :: tl) (fun x tl => tl) (fun x => x ≤ l.length ∧ signs l = signs (l.drop x)) (fun x => l.length - x) (0) rfl rfl (⟨by omega, rfl⟩) (Rp) (Rp) ?_
  intro x hx
  obtain ⟨hx1, hx2⟩ := hx
  refine Wp.seq <| reg <| cmp0 rfl <| done ?_
  refine Wp.seq ?_
  refine Wp.cond rfl (fun c1 => ?_) (fun c1 => ?_)
  have nc1 := Nz c1
  refine Wp.skip <| Wp.seq <| Wp.block <| Wp.seq <| reg <| iaE0 (x) Bd rfl Eq' ?_
  refine ldA0 rfl ?_
  refine asg0 rfl <| done ?_
  refine Wp.seq <| reg <| mv0 rfl <| clw0 rfl f_glyphIs rfl ?_
  refine nt0 rfl <| done ?_
  refine Wp.cond rfl (fun c2 => ?_) (fun c2 => ?_)
  have nc2 := Nz c2
  refine Wp.seq <| reg <| asg0 rfl <| done ?_
  refine Wp.ret ?_
  refine Ends.ret (.cons (.tmp rfl (Fz.pure rfl)) <|  .nil) ?_
  exact f_one_k1
  have nc2 := Nz c2
  refine Wp.skip <| reg <| ar0 rfl (wrapI Bd) <| mv0 rfl <| done ?_
  refine ⟨x + 1, ⟨by omega, by rw [hx2, signs_drop (by omega)]; simp_all⟩, by omega, Rp, Rp, rfl⟩
  have nc1 := Nz c1
  refine Wp.exit <| Wp.seq <| reg <| mv0 rfl ?_
  first | refine lnM0 rfl ?_ | refine lns0 rfl ?_ | refine ln0 rfl ?_
  refine cmp0 rfl <| mv0 rfl ?_
  refine bcase 18 rfl (fun h18 => ?_) (fun h18 => ?_)
  have nh18 := Nz h18
  refine mv1 rfl h18 rfl ?_
  first | refine lnM1 rfl h18 rfl ?_ | refine lns1 rfl h18 rfl ?_ | refine ln1 rfl h18 rfl ?_
  refine cmp1 rfl h18 rfl <| pkt0 rfl h18 <| asg0 rfl <| done ?_
  refine Wp.ret ?_
  refine Ends.ret (.cons (.tmp rfl (Fz.pure rfl)) <|  .nil) ?_
  exact f_one_k1
  have nh18 := Nz h18
  refine sk0 rfl h18 <| sk0 rfl h18 <| sk0 rfl h18 <| pkf0 rfl h18 <| asg0 rfl <| done ?_
  refine Wp.ret ?_
  refine Ends.ret (.cons (.tmp rfl (Fz.pure rfl)) <|  .nil) ?_
  exact f_one_k1

theorem f_killIs_k1 {p : Prop} (h : p := by
    first | (simp only [retD, killIs]; rw [hx2, all_drop (by omega)]; simp_all; done) | (simp only [retD, killIs]; rw [hx2, drop_end (by omega)]; simp_all <;> omega)) : p := h
set_option maxRecDepth 20000 in
theorem f_killIs {k : List (List Int)} : FnP PP 83 [killsD k] (.bool (killIs k)) := by
  refine FnP.of_body Tryz.func83 rfl (by kernel_rfl) rfl ?_
  refine Wp.bound 0 rfl (fun hb0 => ?_)
  simp only [D.bd, D.bdL, List.length_map, and_true] at hb0
  refine Wp.seq <| reg <| bx0 65 rfl ?_
  refine asg0 rfl <| done ?_
  refine Wp.seq <| Wp.seq <| reg <| faA0 rfl ?_
  refine ldA0 rfl ?_
  first | refine lnM0 rfl ?_ | refine lns0 rfl ?_ | refine ln0 rfl ?_
  refine mv0 rfl <| done ?_
  refine Wp.block ?_
  refine Wp.loopK (α := Nat) [1, 6, 7] [65] (fun x tl => (8, .int .i64 x) :: tl) (fun x tl => tl) (fun x => x ≤ k.length ∧ k.all oneS = (k.drop x).all oneS) (fun x => k.length - x) (0) rfl rfl (⟨by omega, rfl⟩) (Rp) (Rp) ?_
  intro x hx
  obtain ⟨hx1, hx2⟩ := hx
  refine Wp.seq <| reg <| cmp0 rfl <| done ?_
  refine Wp.seq ?_
  refine Wp.cond rfl (fun c1 => ?_) (fun c1 => ?_)
  have nc1 := Nz c1
  refine Wp.skip <| Wp.seq <| Wp.block <| Wp.seq <| reg <| iaE0 (x) Bd rfl Eq' ?_
  refine ldA0 rfl ?_
  refine asg0 rfl <| done ?_
  refine Wp.seq <| reg <| mv0 rfl <| clw0 rfl f_one rfl ?_
  refine nt0 rfl <| done ?_
  refine Wp.cond rfl (fun c2 => ?_) (fun c2 => ?_)
  have nc2 := Nz c2
  refine Wp.seq <| reg <| asg0 rfl <| done ?_
  refine Wp.ret ?_
  refine Ends.ret (.cons (.tmp rfl (Fz.pure rfl)) <|  .nil) ?_
  exact f_killIs_k1
  have nc2 := Nz c2
  refine Wp.skip <| reg <| ar0 rfl (wrapI Bd) <| mv0 rfl <| done ?_
  refine ⟨x + 1, ⟨by omega, by rw [hx2, all_drop (by omega)]; simp_all⟩, by omega, Rp, Rp, rfl⟩
  have nc1 := Nz c1
  refine Wp.exit <| Wp.seq <| reg <| faA0 rfl ?_
  refine ldA0 rfl ?_
  first | refine lnM0 rfl ?_ | refine lns0 rfl ?_ | refine ln0 rfl ?_
  refine cmp0 rfl <| asg0 rfl <| done ?_
  refine Wp.ret ?_
  refine Ends.ret (.cons (.tmp rfl (Fz.pure rfl)) <|  .nil) ?_
  exact f_killIs_k1

set_option maxRecDepth 20000 in
theorem f_joined {a b : List Int} (h1 : a.length ≤ 1000000) (h2 : b.length ≤ 1000000) : FnP PP 205 [rl a, rl b] (rl (a ++ b)) := by
  refine FnP.of_body Tryz.func205 rfl (by kernel_rfl) rfl ?_
  refine Wp.seq <| reg <| asg0 rfl <| done ?_
  refine Wp.seq <| reg <| mv0 rfl <| mv0 rfl ?_
  first | refine lnM0 rfl ?_ | refine lns0 rfl ?_ | refine ln0 rfl ?_
  refine mv0 rfl ?_
  first | refine lnM0 rfl ?_ | refine lns0 rfl ?_ | refine ln0 rfl ?_
  refine sl3M (0) (a.length) (a) rfl rfl rfl rfl Og Bd Bd ⟨Bd, Bd⟩ (by simp) rfl .none ?_
  refine mv0 rfl <| apfM rfl rfl Bd rfl rfl .none ?_
  refine asg0 rfl <| done ?_
  refine Wp.ret ?_
  refine Ends.ret (.cons (.tmp rfl (Fz.wk rfl)) <|  .nil) ?_
  rfl

theorem f_killAdd_k1 {p : Prop} (h : p := by
    refine congrArg killsD ?_; unfold addS; (repeat' split) <;> first | rfl | (exfalso; omega) | (exfalso; simp_all [lastL]; done) | (exfalso; simp_all [lastL] <;> omega) | (rw [hx1])) : p := h
set_option maxRecDepth 20000 in
theorem f_killAdd {k : List (List Int)} {l : List Int} {how : Int} : FnP PP 184 [killsD k, rl l, .int .i64 how] (killsD (addS k l how)) := by
  refine FnP.of_body Tryz.func184 rfl (by kernel_rfl) rfl ?_
  refine Wp.bound 0 rfl (fun hb0 => ?_)
  simp only [D.bd, D.bdL, List.length_map, and_true] at hb0
  refine Wp.bound 1 rfl (fun hb1 => ?_)
  simp only [D.bd, D.bdL, List.length_map, and_true] at hb1
  refine Wp.seq <| reg <| bx0 67 rfl ?_
  refine al0 70 rfl ?_
  refine done ?_
  refine Wp.seq <| reg <| faA0 rfl ?_
  refine ldA0 rfl ?_
  first | refine lnM0 rfl ?_ | refine lns0 rfl ?_ | refine ln0 rfl ?_
  refine asg0 rfl <| done ?_
  refine Wp.seq <| Wp.block <| Wp.seq <| reg <| ldA0 rfl ?_
  refine clw0 rfl f_killIs rfl ?_
  refine nt0 rfl <| mv0 rfl ?_
  refine bcase 18 rfl (fun h18 => ?_) (fun h18 => ?_)
  have nh18 := Nz h18
  refine sk0 rfl h18 <| sk0 rfl h18 <| sk0 rfl h18 <| pkt0 rfl h18 <| asg0 rfl <| done ?_
  refine Wp.condT rfl rfl <| Wp.seq <| reg <| ldA0 rfl ?_
  refine stw0 rfl ?_
  refine done ?_
  refine Wp.ret ?_
  refine Ends.ret (.cons (.cell rfl rfl rfl (Nat.le_of_ble_eq_true rfl) (Fz.wk rfl)) <|  .nil) ?_
  exact f_killAdd_k1
  have nh18 := Nz h18
  refine mv1 rfl h18 rfl <| clw1 rfl h18 rfl f_one rfl ?_
  refine nt1 rfl h18 rfl <| pkf0 rfl h18 <| asg0 rfl <| done ?_
  refine Wp.cond rfl (fun c1 => ?_) (fun c1 => ?_)
  have nc1 := Nz c1
  refine Wp.seq <| reg <| ldA0 rfl ?_
  refine stw0 rfl ?_
  refine done ?_
  refine Wp.ret ?_
  refine Ends.ret (.cons (.cell rfl rfl rfl (Nat.le_of_ble_eq_true rfl) (Fz.wk rfl)) <|  .nil) ?_
  exact f_killAdd_k1
  have nc1 := Nz c1
  refine Wp.seq <| reg ?_
  have hk8 := killIs_len (k := k) (by simp_all); have hl2 := oneS_len (l := l) (by simp_all); have hkl := killIs_one (k := k) (by simp_all) (k.length - 1)
  refine mv0 rfl <| cmp0 rfl <| mv0 rfl ?_
  refine bcase 27 rfl (fun h27 => ?_) (fun h27 => ?_)
  have nh27 := Nz h27
  refine sk0 rfl h27 <| sk0 rfl h27 <| pkt0 rfl h27 <| mv0 rfl <| sk0 rfl rfl <| sk0 rfl rfl <| sk0 rfl rfl <| sk0 rfl rfl <| sk0 rfl rfl <| sk0 rfl rfl <| sk0 rfl rfl <| sk0 rfl rfl <| sk0 rfl rfl <| sk0 rfl rfl <| sk0 rfl rfl <| pkt0 rfl rfl <| asg0 rfl <| done ?_
  refine Wp.condT rfl rfl <| Wp.seq <| reg <| mv0 rfl <| ar0 rfl (wrapI Bd) <| ar0 rfl (wrapI Bd) <| mx0 rfl ?_
  refine asg0 rfl <| done ?_
  refine Wp.seq <| reg <| faA0 rfl ?_
  refine ldA0 rfl ?_
  refine mv0 rfl <| mv0 rfl <| mv0 rfl <| sl3M (k.length + 1 - 8) (k.length) (k.drop (k.length + 1 - 8)) rfl rfl rfl rfl Og Bd Bd ⟨Bd, Bd⟩ (by simp) rfl .none ?_
  refine mv0 rfl <| bsM0 rowC [l] rfl ?_
  refine apfM rfl rfl Bd rfl rfl .none ?_
  refine bdw0 rfl ?_
  refine stw0 rfl ?_
  refine done ?_
  refine Wp.ret ?_
  refine Ends.ret (.cons (.cell rfl rfl rfl (Nat.le_of_ble_eq_true rfl) (Fz.wk rfl)) <|  .nil) ?_
  exact f_killAdd_k1
  have nh27 := Nz h27
  refine mv1 rfl h27 rfl <| cmp1 rfl h27 rfl <| pkf0 rfl h27 <| mv0 rfl ?_
  refine bcase 31 rfl (fun h31 => ?_) (fun h31 => ?_)
  have nh31 := Nz h31
  refine sk0 rfl h31 <| sk0 rfl h31 <| sk0 rfl h31 <| sk0 rfl h31 <| sk0 rfl h31 <| sk0 rfl h31 <| sk0 rfl h31 <| sk0 rfl h31 <| sk0 rfl h31 <| sk0 rfl h31 <| sk0 rfl h31 <| pkt0 rfl h31 <| asg0 rfl <| done ?_
  refine Wp.condT rfl rfl <| Wp.seq <| reg <| mv0 rfl <| ar0 rfl (wrapI Bd) <| ar0 rfl (wrapI Bd) <| mx0 rfl ?_
  refine asg0 rfl <| done ?_
  refine Wp.seq <| reg <| faA0 rfl ?_
  refine ldA0 rfl ?_
  refine mv0 rfl <| mv0 rfl <| mv0 rfl <| sl3M (k.length + 1 - 8) (k.length) (k.drop (k.length + 1 - 8)) rfl rfl rfl rfl Og Bd Bd ⟨Bd, Bd⟩ (by simp) rfl .none ?_
  refine mv0 rfl <| bsM0 rowC [l] rfl ?_
  refine apfM rfl rfl Bd rfl rfl .none ?_
  refine bdw0 rfl ?_
  refine stw0 rfl ?_
  refine done ?_
  refine Wp.ret ?_
  refine Ends.ret (.cons (.cell rfl rfl rfl (Nat.le_of_ble_eq_true rfl) (Fz.wk rfl)) <|  .nil) ?_
  exact f_killAdd_k1
  have nh31 := Nz h31
  refine faA1 rfl h31 rfl ?_
  refine ldA1 rfl h31 rfl ?_
  refine mv1 rfl h31 rfl <| ar1 rfl h31 rfl (wrapI Bd) <| iaD ([]) (k.length - 1) Bd rfl rfl Eq' rfl (.want rfl rfl h31) ?_
  refine ldA1 rfl h31 rfl ?_
  first | refine lnM1 rfl h31 rfl ?_ | refine lns1 rfl h31 rfl ?_ | refine ln1 rfl h31 rfl ?_
  refine mv1 rfl h31 rfl ?_
  first | refine lnM1 rfl h31 rfl ?_ | refine lns1 rfl h31 rfl ?_ | refine ln1 rfl h31 rfl ?_
  refine ar1 rfl h31 rfl (wrapI Bd) <| cmp1 rfl h31 rfl <| pkf0 rfl h31 <| asg0 rfl <| done ?_
  refine Wp.cond rfl (fun c2 => ?_) (fun c2 => ?_)
  have nc2 := Nz c2
  refine Wp.seq <| reg <| mv0 rfl <| ar0 rfl (wrapI Bd) <| ar0 rfl (wrapI Bd) <| mx0 rfl ?_
  refine asg0 rfl <| done ?_
  refine Wp.seq <| reg <| faA0 rfl ?_
  refine ldA0 rfl ?_
  refine mv0 rfl <| mv0 rfl <| mv0 rfl <| sl3M (k.length + 1 - 8) (k.length) (k.drop (k.length + 1 - 8)) rfl rfl rfl rfl Og Bd Bd ⟨Bd, Bd⟩ (by simp) rfl .none ?_
  refine mv0 rfl <| bsM0 rowC [l] rfl ?_
  refine apfM rfl rfl Bd rfl rfl .none ?_
  refine bdw0 rfl ?_
  refine stw0 rfl ?_
  refine done ?_
  refine Wp.ret ?_
  refine Ends.ret (.cons (.cell rfl rfl rfl (Nat.le_of_ble_eq_true rfl) (Fz.wk rfl)) <|  .nil) ?_
  exact f_killAdd_k1
  have nc2 := Nz c2
  refine Wp.skip <| Wp.seq <| reg <| faA0 rfl ?_
  refine ldA0 rfl ?_
  refine mv0 rfl <| ar0 rfl (wrapI Bd) <| iaD ([]) (k.length - 1) Bd rfl rfl Eq' rfl .none ?_
  refine ldA0 rfl ?_
  refine mv0 rfl <| asg0 rfl <| asg0 rfl <| done ?_
  refine Wp.cutK (α := List Int × List Int) [2, 3, 6, 7] [67, 70] (fun x tl => (9, rl x.1) :: (10, rl x.2) :: tl) (fun x tl => tl) (fun x => x.1 ++ x.2 = joinS how l (lastL k) ∧ x.1.length ≤ 1000000 ∧ x.2.length ≤ 1000000) rfl rfl ?_ ?_
  refine Wp.seq <| reg <| mv0 rfl <| cmp0 rfl <| done ?_
  refine Wp.cond rfl (fun c3 => ?_) (fun c3 => ?_)
  have nc3 := Nz c3
  refine reg <| mv0 rfl <| mv0 rfl <| asg0 rfl <| asg0 rfl <| done ?_
  first | exact ⟨(l, lastL k), ⟨(if_pos nc3).symm, by simp only; omega, by simp only [lastL]; omega⟩, Rp, Rp, rfl⟩ | exact ⟨(lastL k, l), ⟨(if_neg (by omega)).symm, by simp only [lastL]; omega, by simp only; omega⟩, Rp, Rp, rfl⟩
  have nc3 := Nz c3
  refine Wp.skip ?_
  first | exact ⟨(l, lastL k), ⟨(if_pos nc3).symm, by simp only; omega, by simp only [lastL]; omega⟩, Rp, Rp, rfl⟩ | exact ⟨(lastL k, l), ⟨(if_neg (by omega)).symm, by simp only [lastL]; omega, by simp only; omega⟩, Rp, Rp, rfl⟩
  intro x hx
  obtain ⟨hx1, hx2, hx3⟩ := hx
  refine Wp.seq <| regd mixed ?_
  refine faA0 rfl ?_
  refine ldA0 rfl ?_
  refine mv0 rfl <| ar0 rfl (wrapI Bd) <| mv0 rfl <| ar0 rfl (wrapI Bd) <| sl3M (0) (k.length - 1) (k.take (k.length - 1)) rfl rfl rfl rfl Og Bd Bd ⟨Bd, Bd⟩ (by simp) rfl .none ?_
  refine mv0 rfl <| mv0 rfl <| clw0 rfl (f_joined Dis Dis) rfl ?_
  refine bsM0 rowC [x.1 ++ x.2] rfl ?_
  refine apfM rfl rfl Bd rfl rfl .none ?_
  refine bdw0 rfl ?_
  refine stw0 rfl ?_
  refine done ⟨by kernel_rfl, by kernel_rfl, ?_⟩
  refine Wp.ret ?_
  refine Ends.ret (.cons (.cell rfl rfl rfl (Nat.le_of_ble_eq_true rfl) (Fz.wk rfl)) <|  .nil) ?_
  exact f_killAdd_k1

theorem f_killGet_k1 {p : Prop} (h : p := by
    show _ = _; unfold getRD getS; (repeat' split) <;> first | rfl | (exfalso; omega) | (exfalso; simp_all; done) | (exfalso; simp_all <;> omega)) : p := h
set_option maxRecDepth 20000 in
theorem f_killGet {k : List (List Int)} {turn : Int} : FnP PP 191 [killsD k, .int .i64 turn] (getRD (getS k turn)) := by
  refine FnP.of_body Tryz.func191 rfl (by kernel_rfl) rfl ?_
  refine Wp.bound 0 rfl (fun hb0 => ?_)
  simp only [D.bd, D.bdL, List.length_map, and_true] at hb0
  refine Wp.seq <| reg <| bx0 66 rfl ?_
  refine asg0 rfl <| asg0 rfl <| done ?_
  refine Wp.seq <| Wp.block <| Wp.seq <| reg <| ldA0 rfl ?_
  refine clw0 rfl f_killIs rfl ?_
  refine nt0 rfl <| mv0 rfl ?_
  refine bcase 11 rfl (fun h11 => ?_) (fun h11 => ?_)
  have nh11 := Nz h11
  refine sk0 rfl h11 <| sk0 rfl h11 <| pkt0 rfl h11 <| asg0 rfl <| done ?_
  refine Wp.condT rfl rfl <| Wp.seq <| reg <| asg0 rfl <| asg0 rfl <| done ?_
  refine Wp.ret ?_
  refine Ends.ret (.cons (.tmp rfl (Fz.wk rfl)) <| .cons (.tmp rfl (Fz.pure rfl)) <|  .nil) ?_
  exact f_killGet_k1
  have nh11 := Nz h11
  refine mv1 rfl h11 rfl <| cmp1 rfl h11 rfl <| pkf0 rfl h11 <| asg0 rfl <| done ?_
  refine Wp.cond rfl (fun c1 => ?_) (fun c1 => ?_)
  have nc1 := Nz c1
  refine Wp.seq <| reg <| asg0 rfl <| asg0 rfl <| done ?_
  refine Wp.ret ?_
  refine Ends.ret (.cons (.tmp rfl (Fz.wk rfl)) <| .cons (.tmp rfl (Fz.pure rfl)) <|  .nil) ?_
  exact f_killGet_k1
  have nc1 := Nz c1
  refine Wp.seq <| reg <| faA0 rfl ?_
  refine ldA0 rfl ?_
  first | refine lnM0 rfl ?_ | refine lns0 rfl ?_ | refine ln0 rfl ?_
  refine cmp0 rfl <| asg0 rfl <| done ?_
  refine Wp.cond rfl (fun c2 => ?_) (fun c2 => ?_)
  have nc2 := Nz c2
  refine Wp.seq <| reg <| asg0 rfl <| asg0 rfl <| done ?_
  refine Wp.ret ?_
  refine Ends.ret (.cons (.tmp rfl (Fz.wk rfl)) <| .cons (.tmp rfl (Fz.pure rfl)) <|  .nil) ?_
  exact f_killGet_k1
  have nc2 := Nz c2
  refine Wp.skip <| Wp.seq <| reg <| faA0 rfl ?_
  refine ldA0 rfl ?_
  first | refine lnM0 rfl ?_ | refine lns0 rfl ?_ | refine ln0 rfl ?_
  refine ar0 rfl (wrapI Bd) <| asg0 rfl <| done ?_
  refine Wp.seq <| Wp.seq <| reg ?_
  have hk8 := killIs_len (k := k) (by simp_all); have hmod := Nat.mod_lt turn.toNat (show 0 < k.length by omega)
  refine mv0 rfl <| faA0 rfl ?_
  refine ldA0 rfl ?_
  first | refine lnM0 rfl ?_ | refine lns0 rfl ?_ | refine ln0 rfl ?_
  refine rm ((turn.toNat % k.length : Nat) : Int) rfl rfl Bd (tmod_nat (by simp_all) _) rfl .none ?_
  refine mv0 rfl <| done ?_
  refine Wp.block ?_
  refine Wp.loopK (α := Nat × Int) [2, 28] [66] (fun x tl => (29, .int .i64 x.1) :: (6, .int .i64 x.2) :: tl) (fun x tl => tl) (fun x => x.1 ≤ turn.toNat % k.length ∧ x.2 = (k.length : Int) - 1 - x.1) (fun x => turn.toNat % k.length - x.1) ((0, (k.length : Int) - 1)) rfl rfl (⟨Nat.zero_le _, by simp⟩) (Rp) (Rp) ?_
  intro x hx
  obtain ⟨hx1, hx2⟩ := hx
  refine Wp.seq <| reg <| cmp0 rfl <| done ?_
  refine Wp.seq ?_
  refine Wp.cond rfl (fun c3 => ?_) (fun c3 => ?_)
  have nc3 := Nz c3
  refine Wp.skip <| Wp.seq <| Wp.block <| reg <| mv0 rfl <| ar0 rfl (wrapI Bd) <| asg0 rfl <| done ?_
  refine reg <| ar0 rfl (wrapI Bd) <| mv0 rfl <| done ?_
  refine ⟨(x.1 + 1, x.2 - 1), ⟨by simp only; omega, by simp only; omega⟩, by simp only; omega, Rp, Rp, rfl⟩
  have nc3 := Nz c3
  refine Wp.exit <| Wp.seq <| reg <| faA0 rfl ?_
  refine ldA0 rfl ?_
  refine mv0 rfl <| iaD ([]) (k.length - 1 - turn.toNat % k.length) Bd rfl rfl Eq' rfl .none ?_
  refine ldA0 rfl ?_
  refine asg0 rfl <| asg0 rfl <| done ?_
  refine Wp.ret ?_
  refine Ends.ret (.cons (.tmp rfl (Fz.wk rfl)) <| .cons (.tmp rfl (Fz.pure rfl)) <|  .nil) ?_
  exact f_killGet_k1

theorem f_undoIs_k1 {p : Prop} (h : p := by
    first | (simp only [retD, undoIs]; rw [hx2, all_drop (by omega)]; simp_all; done) | (simp only [retD, undoIs]; rw [hx2, drop_end (by omega)]; simp_all <;> omega)) : p := h
set_option maxRecDepth 20000 in
theorem f_undoIs {u : List Gap} (hu : ∀ g ∈ u, g.sm) : FnP PP 84 [undoD u] (.bool (undoIs u)) := by
  refine FnP.of_body Tryz.func84 rfl (by kernel_rfl) rfl ?_
  refine Wp.bound 0 rfl (fun hb0 => ?_)
  simp only [D.bd, D.bdL, List.length_map, and_true] at hb0
  refine Wp.seq <| reg <| bx0 65 rfl ?_
  refine asg0 rfl <| done ?_
  refine Wp.seq <| Wp.seq <| reg <| faA0 rfl ?_
  refine ldA0 rfl ?_
  first | refine lnM0 rfl ?_ | refine lns0 rfl ?_ | refine ln0 rfl ?_
  refine mv0 rfl <| done ?_
  refine Wp.block ?_
  refine Wp.loopK (α := Nat) [1, 6, 7] [65] (fun x tl => (8, .int .i64 x) :: tl) (fun x tl => tl) (fun x => x ≤ u.length ∧ u.all gapIs = (u.drop x).all gapIs) (fun x => u.length - x) (0) rfl rfl (⟨by omega, rfl⟩) (Rp) (Rp) ?_
  intro x hx
  obtain ⟨hx1, hx2⟩ := hx
  refine Wp.seq <| reg <| cmp0 rfl <| done ?_
  refine Wp.seq ?_
  refine Wp.cond rfl (fun c1 => ?_) (fun c1 => ?_)
  have nc1 := Nz c1
  refine Wp.skip <| Wp.seq <| Wp.block <| Wp.seq <| reg <| iaE0 (x) Bd rfl Eq' ?_
  refine ldA0 rfl ?_
  refine al0 68 rfl ?_
  refine stw0 rfl ?_
  refine done ?_
  refine Wp.seq <| reg <| ldA0 rfl ?_
  refine clw0 rfl (f_gapIs (hu _ (List.getElem_mem (by omega))).1 (hu _ (List.getElem_mem (by omega))).2) rfl ?_
  refine nt0 rfl <| done ?_
  refine Wp.cond rfl (fun c2 => ?_) (fun c2 => ?_)
  have nc2 := Nz c2
  refine Wp.seq <| reg <| asg0 rfl <| done ?_
  refine Wp.ret ?_
  refine Ends.ret (.cons (.tmp rfl (Fz.pure rfl)) <|  .nil) ?_
  exact f_undoIs_k1
  have nc2 := Nz c2
  refine Wp.skip <| reg <| ar0 rfl (wrapI Bd) <| mv0 rfl <| done ?_
  refine ⟨x + 1, ⟨by omega, by rw [hx2, all_drop (by omega)]; simp_all⟩, by omega, Rp, Rp, rfl⟩
  have nc1 := Nz c1
  refine Wp.exit <| Wp.seq <| reg <| faA0 rfl ?_
  refine ldA0 rfl ?_
  first | refine lnM0 rfl ?_ | refine lns0 rfl ?_ | refine ln0 rfl ?_
  refine cmp0 rfl <| asg0 rfl <| done ?_
  refine Wp.ret ?_
  refine Ends.ret (.cons (.tmp rfl (Fz.pure rfl)) <|  .nil) ?_
  exact f_undoIs_k1

theorem f_lastG_k1 {p : Prop} (h : p := by
    show _ = _; unfold lastRD lastR; (repeat' split) <;> first | rfl | (exfalso; omega) | (exfalso; simp_all; done) | (exfalso; simp_all <;> omega)) : p := h
set_option maxRecDepth 20000 in
theorem f_lastG {u : List Gap} : FnP PP 192 [gpL u] (lastRD (lastR u)) := by
  refine FnP.of_body Tryz.func192 rfl (by kernel_rfl) rfl ?_
  refine Wp.bound 0 rfl (fun hb0 => ?_)
  simp only [D.bd, D.bdL, List.length_map, and_true] at hb0
  refine Wp.seq <| reg <| al0 66 rfl ?_
  refine asg0 rfl <| done ?_
  refine Wp.seq <| reg <| al0 68 rfl ?_
  refine done ?_
  refine Wp.seq <| Wp.seq <| reg <| mv0 rfl ?_
  first | refine lnM0 rfl ?_ | refine lns0 rfl ?_ | refine ln0 rfl ?_
  refine cmp0 rfl <| done ?_
  refine Wp.cond rfl (fun c1 => ?_) (fun c1 => ?_)
  have nc1 := Nz c1
  refine Wp.seq <| reg <| ldA0 rfl ?_
  refine stw0 rfl ?_
  refine asg0 rfl <| done ?_
  refine Wp.ret ?_
  refine Ends.ret (.cons (.cell rfl rfl rfl (Nat.le_of_ble_eq_true rfl) (Fz.wk rfl)) <| .cons (.tmp rfl (Fz.pure rfl)) <|  .nil) ?_
  exact f_lastG_k1
  have nc1 := Nz c1
  refine Wp.skip <| Wp.seq <| reg <| mv0 rfl <| mv0 rfl ?_
  first | refine lnM0 rfl ?_ | refine lns0 rfl ?_ | refine ln0 rfl ?_
  refine ar0 rfl (wrapI Bd) <| iaD (⟨[], []⟩) (u.length - 1) Bd rfl rfl Eq' rfl .none ?_
  refine ldA0 rfl ?_
  refine stw0 rfl ?_
  refine asg0 rfl <| done ?_
  refine Wp.ret ?_
  refine Ends.ret (.cons (.cell rfl rfl rfl (Nat.le_of_ble_eq_true rfl) (Fz.wk rfl)) <| .cons (.tmp rfl (Fz.pure rfl)) <|  .nil) ?_
  exact f_lastG_k1

set_option maxRecDepth 20000 in
theorem f_ending {u : List Gap} {m : Int} (h1 : 0 ≤ m ∧ m ≤ 1000) : FnP PP 211 [gpL u, .int .i64 m] (gpL (u.drop (u.length - m.toNat))) := by
  refine FnP.of_body Tryz.func211 rfl (by kernel_rfl) rfl ?_
  refine Wp.bound 0 rfl (fun hb0 => ?_)
  simp only [D.bd, D.bdL, List.length_map, and_true] at hb0
  refine Wp.seq <| reg <| asg0 rfl <| done ?_
  refine Wp.seq <| reg <| mv0 rfl <| mv0 rfl ?_
  first | refine lnM0 rfl ?_ | refine lns0 rfl ?_ | refine ln0 rfl ?_
  refine mv0 rfl <| ar0 rfl (wrapI Bd) <| mx0 rfl ?_
  refine sl2M (u.length - m.toNat) (u.length) (u.drop (u.length - m.toNat)) rfl rfl rfl Og Og ⟨Bd, Bd⟩ (by simp) rfl .none ?_
  refine asg0 rfl <| done ?_
  refine Wp.ret ?_
  refine Ends.ret (.cons (.tmp rfl (Fz.wk rfl)) <|  .nil) ?_
  rfl

theorem f_push_k1 {p : Prop} (h : p := by
    refine congrArg undoD ?_; rcases lastR_cases u with ⟨hu0, hL⟩ | ⟨hu0, hL⟩ <;> (try simp only [hL] at *); all_goals (unfold pushS; (repeat' split) <;> first | rfl | (exfalso; omega) | (exfalso; simp_all; done) | (exfalso; simp_all <;> omega))) : p := h
set_option maxRecDepth 20000 in
theorem f_push {u : List Gap} {a b : List Int} (hu : ∀ g ∈ u, g.sm) (h1 : a.length ≤ 1000000) (h2 : b.length ≤ 1000000) : FnP PP 188 [undoD u, .agg [rl a, rl b]] (undoD (pushS u ⟨a, b⟩)) := by
  refine FnP.of_body Tryz.func188 rfl (by kernel_rfl) rfl ?_
  refine Wp.seq <| reg <| bx0 66 rfl ?_
  refine bx0 67 rfl ?_
  refine al0 68 rfl ?_
  refine done ?_
  refine Wp.seq <| Wp.seq <| reg <| ldA0 rfl ?_
  refine clw0 rfl (f_undoIs Dis) rfl ?_
  refine nt0 rfl <| mv0 rfl ?_
  refine bcase 10 rfl (fun h10 => ?_) (fun h10 => ?_)
  have nh10 := Nz h10
  refine sk0 rfl h10 <| sk0 rfl h10 <| sk0 rfl h10 <| pkt0 rfl h10 <| done ?_
  refine Wp.condT rfl rfl <| Wp.seq <| reg <| ldA0 rfl ?_
  refine stw0 rfl ?_
  refine done ?_
  refine Wp.ret ?_
  refine Ends.ret (.cons (.cell rfl rfl rfl (Nat.le_of_ble_eq_true rfl) (Fz.wk rfl)) <|  .nil) ?_
  exact f_push_k1
  have nh10 := Nz h10
  refine ldA1 rfl h10 rfl ?_
  refine clw1 rfl h10 rfl (f_gapIs Dis Dis) rfl ?_
  refine nt1 rfl h10 rfl <| pkf0 rfl h10 <| done ?_
  refine Wp.cond rfl (fun c1 => ?_) (fun c1 => ?_)
  have nc1 := Nz c1
  refine Wp.seq <| reg <| ldA0 rfl ?_
  refine stw0 rfl ?_
  refine done ?_
  refine Wp.ret ?_
  refine Ends.ret (.cons (.cell rfl rfl rfl (Nat.le_of_ble_eq_true rfl) (Fz.wk rfl)) <|  .nil) ?_
  exact f_push_k1
  have nc1 := Nz c1
  refine Wp.skip <| Wp.seq <| Wp.seq <| reg <| faA0 rfl ?_
  refine ldA0 rfl ?_
  refine clw0 rfl f_lastG rfl ?_
  refine mv0 rfl <| xt0 rfl <| xt0 rfl <| al0 69 rfl ?_
  refine stw0 rfl ?_
  refine asg0 rfl <| done ?_
  refine Wp.seq <| reg <| mv0 rfl <| mv0 rfl ?_
  refine bcase 23 rfl (fun h23 => ?_) (fun h23 => ?_)
  have nh23 := Nz h23
  refine faA1 rfl h23 rfl ?_
  refine ldA1 rfl h23 rfl ?_
  refine faA1 rfl h23 rfl ?_
  refine ldA1 rfl h23 rfl ?_
  refine clw1 rfl h23 rfl f_equal rfl ?_
  refine pkt0 rfl h23 <| mv0 rfl ?_
  refine bcase 30 rfl (fun h30 => ?_) (fun h30 => ?_)
  have nh30 := Nz h30
  refine faA1 rfl h30 rfl ?_
  refine ldA1 rfl h30 rfl ?_
  refine faA1 rfl h30 rfl ?_
  refine ldA1 rfl h30 rfl ?_
  refine clw1 rfl h30 rfl f_equal rfl ?_
  refine pkt0 rfl h30 <| done ?_
  refine Wp.cond rfl (fun c2 => ?_) (fun c2 => ?_)
  have nc2 := Nz c2
  refine Wp.seq <| reg <| ldA0 rfl ?_
  refine stw0 rfl ?_
  refine done ?_
  refine Wp.ret ?_
  refine Ends.ret (.cons (.cell rfl rfl rfl (Nat.le_of_ble_eq_true rfl) (Fz.wk rfl)) <|  .nil) ?_
  exact f_push_k1
  have nc2 := Nz c2
  refine Wp.skip <| Wp.seq <| regd mixed ?_
  have hu16 := undoIs_len (u := u) (by simp_all)
  refine faA0 rfl ?_
  refine ldA0 rfl ?_
  refine clw0 rfl (f_ending Dis) rfl ?_
  refine clo 105 rfl rfl (f_cloneG (by simp only [List.length_drop]; omega)) rfl rfl .none ?_
  refine ldA0 rfl ?_
  refine bsM0 gapC [⟨a, b⟩] rfl ?_
  refine apoF 1441 rfl rfl Bd rfl Bd rfl rfl rfl .none ?_
  refine bdw0 rfl ?_
  refine stw0 rfl ?_
  refine done ⟨by kernel_rfl, by kernel_rfl, ?_⟩
  refine Wp.ret ?_
  refine Ends.ret (.cons (.cell rfl rfl rfl (Nat.le_of_ble_eq_true rfl) (Fz.wk rfl)) <|  .nil) ?_
  exact f_push_k1
  have nh30 := Nz h30
  refine sk0 rfl h30 <| sk0 rfl h30 <| sk0 rfl h30 <| sk0 rfl h30 <| sk0 rfl h30 <| pkf0 rfl h30 <| done ?_
  refine Wp.condF rfl rfl <| Wp.skip <| Wp.seq <| regd mixed ?_
  have hu16 := undoIs_len (u := u) (by simp_all)
  refine faA0 rfl ?_
  refine ldA0 rfl ?_
  refine clw0 rfl (f_ending Dis) rfl ?_
  refine clo 105 rfl rfl (f_cloneG (by simp only [List.length_drop]; omega)) rfl rfl .none ?_
  refine ldA0 rfl ?_
  refine bsM0 gapC [⟨a, b⟩] rfl ?_
  refine apoF 1443 rfl rfl Bd rfl Bd rfl rfl rfl .none ?_
  refine bdw0 rfl ?_
  refine stw0 rfl ?_
  refine done ⟨by kernel_rfl, by kernel_rfl, ?_⟩
  refine Wp.ret ?_
  refine Ends.ret (.cons (.cell rfl rfl rfl (Nat.le_of_ble_eq_true rfl) (Fz.wk rfl)) <|  .nil) ?_
  exact f_push_k1
  have nh23 := Nz h23
  refine sk0 rfl h23 <| sk0 rfl h23 <| sk0 rfl h23 <| sk0 rfl h23 <| sk0 rfl h23 <| pkf0 rfl h23 <| mv0 rfl <| sk0 rfl rfl <| sk0 rfl rfl <| sk0 rfl rfl <| sk0 rfl rfl <| sk0 rfl rfl <| pkf0 rfl rfl <| done ?_
  refine Wp.condF rfl rfl <| Wp.skip <| Wp.seq <| regd mixed ?_
  have hu16 := undoIs_len (u := u) (by simp_all)
  refine faA0 rfl ?_
  refine ldA0 rfl ?_
  refine clw0 rfl (f_ending Dis) rfl ?_
  refine clo 105 rfl rfl (f_cloneG (by simp only [List.length_drop]; omega)) rfl rfl .none ?_
  refine ldA0 rfl ?_
  refine bsM0 gapC [⟨a, b⟩] rfl ?_
  refine apoF 1445 rfl rfl Bd rfl Bd rfl rfl rfl .none ?_
  refine bdw0 rfl ?_
  refine stw0 rfl ?_
  refine done ⟨by kernel_rfl, by kernel_rfl, ?_⟩
  refine Wp.ret ?_
  refine Ends.ret (.cons (.cell rfl rfl rfl (Nat.le_of_ble_eq_true rfl) (Fz.wk rfl)) <|  .nil) ?_
  exact f_push_k1

theorem f_pop_k1 {p : Prop} (h : p := by
    rcases lastR_cases u with ⟨hu0, hL⟩ | ⟨hu0, hL⟩ <;> (try simp only [hL] at *); all_goals (show _ = _; unfold popRD popS; (repeat' split) <;> first | rfl | (exfalso; omega) | (exfalso; simp_all; done) | (exfalso; simp_all <;> omega))) : p := h
set_option maxRecDepth 20000 in
theorem f_pop {u : List Gap} (hu : ∀ g ∈ u, g.sm) : FnP PP 169 [undoD u] (popRD (popS u)) := by
  refine FnP.of_body Tryz.func169 rfl (by kernel_rfl) rfl ?_
  refine Wp.bound 0 rfl (fun hb0 => ?_)
  simp only [D.bd, D.bdL, List.length_map, and_true] at hb0
  refine Wp.seq <| reg <| bx0 65 rfl ?_
  refine al0 66 rfl ?_
  refine al0 67 rfl ?_
  refine asg0 rfl <| done ?_
  refine Wp.seq <| Wp.seq <| reg <| ldA0 rfl ?_
  refine clw0 rfl (f_undoIs Dis) rfl ?_
  refine nt0 rfl <| done ?_
  refine Wp.cond rfl (fun c1 => ?_) (fun c1 => ?_)
  have nc1 := Nz c1
  refine Wp.seq <| reg <| bdw0 rfl ?_
  refine bdw0 rfl ?_
  refine stw0 rfl ?_
  refine stw0 rfl ?_
  refine asg0 rfl <| done ?_
  refine Wp.ret ?_
  refine Ends.ret (.cons (.cell rfl rfl rfl (Nat.le_of_ble_eq_true rfl) (Fz.wk rfl)) <| .cons (.cell rfl rfl rfl (Nat.le_of_ble_eq_true rfl) (Fz.wk rfl)) <| .cons (.tmp rfl (Fz.pure rfl)) <|  .nil) ?_
  exact f_pop_k1
  have nc1 := Nz c1
  refine Wp.skip <| Wp.seq <| reg <| faA0 rfl ?_
  refine ldA0 rfl ?_
  refine clw0 rfl f_lastG rfl ?_
  refine mv0 rfl <| xt0 rfl <| xt0 rfl <| al0 69 rfl ?_
  refine stw0 rfl ?_
  refine asg0 rfl <| done ?_
  refine Wp.seq <| Wp.seq <| reg <| mv0 rfl <| nt0 rfl <| done ?_
  refine Wp.cond rfl (fun c2 => ?_) (fun c2 => ?_)
  have nc2 := Nz c2
  refine Wp.seq <| regd mixed ?_
  refine bdw0 rfl ?_
  refine ldA0 rfl ?_
  refine stw0 rfl ?_
  refine stw0 rfl ?_
  refine asg0 rfl ?_
  refine done ⟨by kernel_rfl, by kernel_rfl, ?_⟩
  refine Wp.ret ?_
  refine Ends.ret (.cons (.cell rfl rfl rfl (Nat.le_of_ble_eq_true rfl) (Fz.wk rfl)) <| .cons (.cell rfl rfl rfl (Nat.le_of_ble_eq_true rfl) (Fz.wk rfl)) <| .cons (.tmp rfl (Fz.pure rfl)) <|  .nil) ?_
  exact f_pop_k1
  have nc2 := Nz c2
  refine Wp.skip <| Wp.seq <| regd mixed ?_
  have hun : u.length ≠ 0 := by intro h; simp [lastR, h] at nc2
  refine faA0 rfl ?_
  refine ldA0 rfl ?_
  refine faA0 rfl ?_
  refine ldA0 rfl ?_
  first | refine lnM0 rfl ?_ | refine lns0 rfl ?_ | refine ln0 rfl ?_
  refine ar0 rfl (wrapI Bd) <| sl2M (0) (u.length - 1) (u.take (u.length - 1)) rfl rfl rfl Og Og ⟨Bd, Bd⟩ (by simp) rfl .none ?_
  refine bdw0 rfl ?_
  refine ldA0 rfl ?_
  refine stw0 rfl ?_
  refine stw0 rfl ?_
  refine asg0 rfl ?_
  refine done ⟨by kernel_rfl, by kernel_rfl, ?_⟩
  refine Wp.ret ?_
  refine Ends.ret (.cons (.cell rfl rfl rfl (Nat.le_of_ble_eq_true rfl) (Fz.wk rfl)) <| .cons (.cell rfl rfl rfl (Nat.le_of_ble_eq_true rfl) (Fz.wk rfl)) <| .cons (.tmp rfl (Fz.pure rfl)) <|  .nil) ?_
  exact f_pop_k1

end Go.Proofs.YtkcdmmafkpplhaaGreat
/- Words, told in Lean. No program in sight. -/
namespace Go.Eng
open Go
-- layer 11
def inB (r : Int) : Bool := decide ((48 ≤ r ∧ r ≤ 57) ∨ (65 ≤ r ∧ r ≤ 90) ∨ (97 ≤ r ∧ r ≤ 122) ∨ 128 ≤ r)
def kindW (r : Int) : Int := if r = 9 ∨ r = 32 then 0 else if inB r = true ∨ r = 95 then 1 else 2
def passF (p : Int → Bool) (l : List Int) (i : Nat) : Nat := i + ((l.drop i).takeWhile p).length
def passB (p : Int → Bool) (l : List Int) (i : Nat) : Nat := i - ((l.take i).reverse.takeWhile p).length
theorem passF_step {p : Int → Bool} {l : List Int} {i : Nat} (h : i < l.length) (hp : p l[i] = true) : passF p l i = passF p l (i + 1) := by
  unfold passF
  rw [List.drop_eq_getElem_cons h, List.takeWhile_cons, if_pos hp, List.length_cons]
  omega
theorem passF_stop {p : Int → Bool} {l : List Int} {i : Nat} (h : i < l.length) (hp : p l[i] = false) : passF p l i = i := by
  unfold passF
  rw [List.drop_eq_getElem_cons h, List.takeWhile_cons, if_neg (by simp [hp])]
  rfl
theorem passF_end {p : Int → Bool} {l : List Int} {i : Nat} (h : l.length ≤ i) : passF p l i = i := by
  unfold passF
  rw [List.drop_eq_nil_of_le h]; rfl
theorem take_rev {l : List Int} {i : Nat} (h : i < l.length) : (l.take (i + 1)).reverse = l[i] :: (l.take i).reverse := by
  rw [List.take_succ_eq_append_getElem h, List.reverse_append]; rfl
theorem tw_len (p : Int → Bool) (l : List Int) : (l.takeWhile p).length ≤ l.length := (List.takeWhile_prefix p).length_le
theorem passB_step {p : Int → Bool} {l : List Int} {i : Nat} (h : i < l.length) (hp : p l[i] = true) : passB p l (i + 1) = passB p l i := by
  unfold passB
  rw [take_rev h, List.takeWhile_cons, if_pos hp, List.length_cons]
  omega
theorem passB_stop {p : Int → Bool} {l : List Int} {i : Nat} (h : i < l.length) (hp : p l[i] = false) : passB p l (i + 1) = i + 1 := by
  unfold passB
  rw [take_rev h, List.takeWhile_cons, if_neg (by simp [hp])]
  rfl
theorem passB_zero {p : Int → Bool} {l : List Int} : passB p l 0 = 0 := by simp [passB]
theorem passF_le {p : Int → Bool} {l : List Int} {i : Nat} (h : i ≤ l.length) : passF p l i ≤ l.length := by
  have := tw_len p (l.drop i)
  unfold passF; rw [List.length_drop] at this; omega
theorem passF_ge {p : Int → Bool} {l : List Int} {i : Nat} : i ≤ passF p l i := by unfold passF; omega
theorem passB_le {p : Int → Bool} {l : List Int} {i : Nat} : passB p l i ≤ i := by unfold passB; omega
def clampS (l : List Int) (at_ : Int) : Nat := (max 0 (min at_ (l.length : Int))).toNat
theorem clampS_le (l : List Int) (at_ : Int) : clampS l at_ ≤ l.length := by unfold clampS; omega
def blankB (r : Int) : Bool := kindW r == 0
def foreS (l : List Int) (at_ : Int) : Nat := passF inB l (passF (fun r => !inB r) l (clampS l at_))
def behindS (l : List Int) (at_ : Int) : Nat := passB inB l (passB (fun r => !inB r) l (clampS l at_))
def sameK (k : Int) (r : Int) : Bool := kindW r == k
def nextS (l : List Int) (at_ : Int) : Nat :=
  if clampS l at_ = l.length then clampS l at_
  else if kindW (l.getD (clampS l at_) 0) = 0 then passF blankB l (clampS l at_) else passF blankB l (passF (sameK (kindW (l.getD (clampS l at_) 0))) l (clampS l at_))
def prevS (l : List Int) (at_ : Int) : Nat :=
  if passB blankB l (clampS l at_) = 0 then 0 else passB (sameK (kindW (l.getD (passB blankB l (clampS l at_) - 1) 0))) l (passB blankB l (clampS l at_))
def tailS (l : List Int) (at_ : Int) : Nat :=
  if l.length ≤ clampS l at_ + 1 then l.length
  else if passF blankB l (clampS l at_ + 1) = l.length then passF blankB l (clampS l at_ + 1)
  else passF (sameK (kindW (l.getD (passF blankB l (clampS l at_ + 1)) 0))) l (passF blankB l (clampS l at_ + 1)) - 1
end Go.Eng

/- Walks of layer 11 (words). -/
namespace Go.Proofs.YtkcdmmafkpplhaaGreat
open Go.Eng
theorem get_toNat {l : List Int} {x : Int} (h1 : 0 ≤ x) (h2 : x < l.length) {b : Bool} {p : Int → Bool} (h : p (l.getD x.toNat 0) = b) : ∃ hh : x.toNat < l.length, p (l[x.toNat]'hh) = b := by
  have hh : x.toNat < l.length := by omega
  refine ⟨hh, ?_⟩
  rw [← h]; simp [List.getD, hh]

theorem f_In_k1 {p : Prop} (h : p := by
    first | exact congrArg D.bool (decide_eq_true (by omega)) | exact congrArg D.bool (decide_eq_decide.2 (by omega))) : p := h
set_option maxRecDepth 20000 in
theorem f_In {r : Int} : FnP PP 206 [.int .i32 r] (.bool (inB r)) := by
  refine FnP.of_body Tryz.func206 rfl (by kernel_rfl) rfl ?_
  refine Wp.seq <| reg <| asg0 rfl <| done ?_
  refine Wp.seq <| Wp.block <| Wp.seq <| Wp.seq <| reg <| mv0 rfl <| cmp0 rfl <| mv0 rfl ?_
  refine bcase 6 rfl (fun h6 => ?_) (fun h6 => ?_)
  have nh6 := Nz h6
  refine mv1 rfl h6 rfl <| cmp1 rfl h6 rfl <| pkt0 rfl h6 <| asg0 rfl <| done ?_
  refine Wp.cond rfl (fun c1 => ?_) (fun c1 => ?_)
  have nc1 := Nz c1
  refine Wp.skip <| Wp.condT rfl c1 <| Wp.seq <| reg <| asg0 rfl <| done ?_
  refine Wp.ret ?_
  refine Ends.ret (.cons (.tmp rfl (Fz.pure rfl)) <|  .nil) ?_
  exact f_In_k1
  have nc1 := Nz c1
  refine Wp.seq <| reg <| mv0 rfl <| cmp0 rfl <| mv0 rfl ?_
  refine bcase 12 rfl (fun h12 => ?_) (fun h12 => ?_)
  have nh12 := Nz h12
  refine mv1 rfl h12 rfl <| cmp1 rfl h12 rfl <| pkt0 rfl h12 <| asg0 rfl <| done ?_
  refine Wp.cond rfl (fun c2 => ?_) (fun c2 => ?_)
  have nc2 := Nz c2
  refine Wp.skip <| Wp.condT rfl c2 <| Wp.seq <| reg <| asg0 rfl <| done ?_
  refine Wp.ret ?_
  refine Ends.ret (.cons (.tmp rfl (Fz.pure rfl)) <|  .nil) ?_
  exact f_In_k1
  have nc2 := Nz c2
  refine reg <| mv0 rfl <| cmp0 rfl <| mv0 rfl ?_
  refine bcase 18 rfl (fun h18 => ?_) (fun h18 => ?_)
  have nh18 := Nz h18
  refine mv1 rfl h18 rfl <| cmp1 rfl h18 rfl <| pkt0 rfl h18 <| asg0 rfl <| done ?_
  refine Wp.cond rfl (fun c3 => ?_) (fun c3 => ?_)
  have nc3 := Nz c3
  refine Wp.seq <| reg <| asg0 rfl <| done ?_
  refine Wp.ret ?_
  refine Ends.ret (.cons (.tmp rfl (Fz.pure rfl)) <|  .nil) ?_
  exact f_In_k1
  have nc3 := Nz c3
  refine Wp.skip <| Wp.seq <| reg <| mv0 rfl <| cmp0 rfl <| asg0 rfl <| done ?_
  refine Wp.ret ?_
  refine Ends.ret (.cons (.tmp rfl (Fz.pure rfl)) <|  .nil) ?_
  exact f_In_k1
  have nh18 := Nz h18
  refine sk0 rfl h18 <| sk0 rfl h18 <| pkf0 rfl h18 <| asg0 rfl <| done ?_
  refine Wp.condF rfl rfl <| Wp.skip <| Wp.seq <| reg <| mv0 rfl <| cmp0 rfl <| asg0 rfl <| done ?_
  refine Wp.ret ?_
  refine Ends.ret (.cons (.tmp rfl (Fz.pure rfl)) <|  .nil) ?_
  exact f_In_k1
  have nh12 := Nz h12
  refine sk0 rfl h12 <| sk0 rfl h12 <| pkf0 rfl h12 <| asg0 rfl <| done ?_
  refine Wp.condF rfl rfl <| reg <| mv0 rfl <| cmp0 rfl <| mv0 rfl ?_
  refine bcase 18 rfl (fun h18 => ?_) (fun h18 => ?_)
  have nh18 := Nz h18
  refine mv1 rfl h18 rfl <| cmp1 rfl h18 rfl <| pkt0 rfl h18 <| asg0 rfl <| done ?_
  refine Wp.cond rfl (fun c4 => ?_) (fun c4 => ?_)
  have nc4 := Nz c4
  refine Wp.seq <| reg <| asg0 rfl <| done ?_
  refine Wp.ret ?_
  refine Ends.ret (.cons (.tmp rfl (Fz.pure rfl)) <|  .nil) ?_
  exact f_In_k1
  have nc4 := Nz c4
  refine Wp.skip <| Wp.seq <| reg <| mv0 rfl <| cmp0 rfl <| asg0 rfl <| done ?_
  refine Wp.ret ?_
  refine Ends.ret (.cons (.tmp rfl (Fz.pure rfl)) <|  .nil) ?_
  exact f_In_k1
  have nh18 := Nz h18
  refine sk0 rfl h18 <| sk0 rfl h18 <| pkf0 rfl h18 <| asg0 rfl <| done ?_
  refine Wp.condF rfl rfl <| Wp.skip <| Wp.seq <| reg <| mv0 rfl <| cmp0 rfl <| asg0 rfl <| done ?_
  refine Wp.ret ?_
  refine Ends.ret (.cons (.tmp rfl (Fz.pure rfl)) <|  .nil) ?_
  exact f_In_k1
  have nh6 := Nz h6
  refine sk0 rfl h6 <| sk0 rfl h6 <| pkf0 rfl h6 <| asg0 rfl <| done ?_
  refine Wp.condF rfl rfl <| Wp.seq <| reg <| mv0 rfl <| cmp0 rfl <| mv0 rfl ?_
  refine bcase 12 rfl (fun h12 => ?_) (fun h12 => ?_)
  have nh12 := Nz h12
  refine mv1 rfl h12 rfl <| cmp1 rfl h12 rfl <| pkt0 rfl h12 <| asg0 rfl <| done ?_
  refine Wp.cond rfl (fun c5 => ?_) (fun c5 => ?_)
  have nc5 := Nz c5
  refine Wp.skip <| Wp.condT rfl c5 <| Wp.seq <| reg <| asg0 rfl <| done ?_
  refine Wp.ret ?_
  refine Ends.ret (.cons (.tmp rfl (Fz.pure rfl)) <|  .nil) ?_
  exact f_In_k1
  have nc5 := Nz c5
  refine reg <| mv0 rfl <| cmp0 rfl <| mv0 rfl ?_
  refine bcase 18 rfl (fun h18 => ?_) (fun h18 => ?_)
  have nh18 := Nz h18
  refine mv1 rfl h18 rfl <| cmp1 rfl h18 rfl <| pkt0 rfl h18 <| asg0 rfl <| done ?_
  refine Wp.cond rfl (fun c6 => ?_) (fun c6 => ?_)
  have nc6 := Nz c6
  refine Wp.seq <| reg <| asg0 rfl <| done ?_
  refine Wp.ret ?_
  refine Ends.ret (.cons (.tmp rfl (Fz.pure rfl)) <|  .nil) ?_
  exact f_In_k1
  have nc6 := Nz c6
  refine Wp.skip <| Wp.seq <| reg <| mv0 rfl <| cmp0 rfl <| asg0 rfl <| done ?_
  refine Wp.ret ?_
  refine Ends.ret (.cons (.tmp rfl (Fz.pure rfl)) <|  .nil) ?_
  exact f_In_k1
  have nh18 := Nz h18
  refine sk0 rfl h18 <| sk0 rfl h18 <| pkf0 rfl h18 <| asg0 rfl <| done ?_
  refine Wp.condF rfl rfl <| Wp.skip <| Wp.seq <| reg <| mv0 rfl <| cmp0 rfl <| asg0 rfl <| done ?_
  refine Wp.ret ?_
  refine Ends.ret (.cons (.tmp rfl (Fz.pure rfl)) <|  .nil) ?_
  exact f_In_k1
  have nh12 := Nz h12
  refine sk0 rfl h12 <| sk0 rfl h12 <| pkf0 rfl h12 <| asg0 rfl <| done ?_
  refine Wp.condF rfl rfl <| reg <| mv0 rfl <| cmp0 rfl <| mv0 rfl ?_
  refine bcase 18 rfl (fun h18 => ?_) (fun h18 => ?_)
  have nh18 := Nz h18
  refine mv1 rfl h18 rfl <| cmp1 rfl h18 rfl <| pkt0 rfl h18 <| asg0 rfl <| done ?_
  refine Wp.cond rfl (fun c7 => ?_) (fun c7 => ?_)
  have nc7 := Nz c7
  refine Wp.seq <| reg <| asg0 rfl <| done ?_
  refine Wp.ret ?_
  refine Ends.ret (.cons (.tmp rfl (Fz.pure rfl)) <|  .nil) ?_
  exact f_In_k1
  have nc7 := Nz c7
  refine Wp.skip <| Wp.seq <| reg <| mv0 rfl <| cmp0 rfl <| asg0 rfl <| done ?_
  refine Wp.ret ?_
  refine Ends.ret (.cons (.tmp rfl (Fz.pure rfl)) <|  .nil) ?_
  exact f_In_k1
  have nh18 := Nz h18
  refine sk0 rfl h18 <| sk0 rfl h18 <| pkf0 rfl h18 <| asg0 rfl <| done ?_
  refine Wp.condF rfl rfl <| Wp.skip <| Wp.seq <| reg <| mv0 rfl <| cmp0 rfl <| asg0 rfl <| done ?_
  refine Wp.ret ?_
  refine Ends.ret (.cons (.tmp rfl (Fz.pure rfl)) <|  .nil) ?_
  exact f_In_k1

set_option maxRecDepth 20000 in
theorem f_Kind {r : Int} : FnP PP 220 [.int .i32 r] (.int .i64 (kindW r)) := by
  refine FnP.of_body Tryz.func220 rfl (by kernel_rfl) rfl ?_
  refine Wp.seq <| reg <| asg0 rfl <| done ?_
  refine Wp.seq <| Wp.block <| Wp.seq <| reg <| mv0 rfl <| cmp0 rfl <| mv0 rfl ?_
  refine bcase 6 rfl (fun h6 => ?_) (fun h6 => ?_)
  have nh6 := Nz h6
  refine sk0 rfl h6 <| sk0 rfl h6 <| pkt0 rfl h6 <| asg0 rfl <| done ?_
  refine Wp.condT rfl rfl <| Wp.seq <| reg <| asg0 rfl <| done ?_
  refine Wp.ret ?_
  refine Ends.ret (.cons (.tmp rfl (Fz.pure rfl)) <|  .nil) ?_
  simp only [retD, kindW]; simp_all
  have nh6 := Nz h6
  refine mv1 rfl h6 rfl <| cmp1 rfl h6 rfl <| pkf0 rfl h6 <| asg0 rfl <| done ?_
  refine Wp.cond rfl (fun c1 => ?_) (fun c1 => ?_)
  have nc1 := Nz c1
  refine Wp.seq <| reg <| asg0 rfl <| done ?_
  refine Wp.ret ?_
  refine Ends.ret (.cons (.tmp rfl (Fz.pure rfl)) <|  .nil) ?_
  simp only [retD, kindW]; simp_all
  have nc1 := Nz c1
  refine Wp.seq <| reg <| mv0 rfl <| clw0 rfl f_In rfl ?_
  refine mv0 rfl ?_
  refine bcase 13 rfl (fun h13 => ?_) (fun h13 => ?_)
  have nh13 := Nz h13
  refine sk0 rfl h13 <| sk0 rfl h13 <| pkt0 rfl h13 <| asg0 rfl <| done ?_
  refine Wp.condT rfl rfl <| Wp.seq <| reg <| asg0 rfl <| done ?_
  refine Wp.ret ?_
  refine Ends.ret (.cons (.tmp rfl (Fz.pure rfl)) <|  .nil) ?_
  simp only [retD, kindW]; simp_all
  have nh13 := Nz h13
  refine mv1 rfl h13 rfl <| cmp1 rfl h13 rfl <| pkf0 rfl h13 <| asg0 rfl <| done ?_
  refine Wp.cond rfl (fun c2 => ?_) (fun c2 => ?_)
  have nc2 := Nz c2
  refine Wp.seq <| reg <| asg0 rfl <| done ?_
  refine Wp.ret ?_
  refine Ends.ret (.cons (.tmp rfl (Fz.pure rfl)) <|  .nil) ?_
  simp only [retD, kindW]; simp_all
  have nc2 := Nz c2
  refine Wp.skip <| Wp.seq <| reg <| asg0 rfl <| done ?_
  refine Wp.ret ?_
  refine Ends.ret (.cons (.tmp rfl (Fz.pure rfl)) <|  .nil) ?_
  simp only [retD, kindW]; simp_all

set_option maxRecDepth 20000 in
theorem f_ends1 {r : Int} : FnP PP 226 [.int .i32 r] (.bool ((fun r => !inB r) r)) := by
  refine FnP.of_body Tryz.func226 rfl (by kernel_rfl) rfl ?_
  refine Wp.seq <| reg <| asg0 rfl <| done ?_
  refine Wp.seq <| reg <| mv0 rfl <| clw0 rfl f_In rfl ?_
  refine nt0 rfl <| asg0 rfl <| done ?_
  refine Wp.ret ?_
  refine Ends.ret (.cons (.tmp rfl (Fz.pure rfl)) <|  .nil) ?_
  rfl

set_option maxRecDepth 20000 in
theorem f_blank {r : Int} : FnP PP 222 [.int .i32 r] (.bool (blankB r)) := by
  refine FnP.of_body Tryz.func222 rfl (by kernel_rfl) rfl ?_
  refine Wp.seq <| reg <| asg0 rfl <| done ?_
  refine Wp.seq <| reg <| mv0 rfl <| clw0 rfl f_Kind rfl ?_
  refine cmp0 rfl <| asg0 rfl <| done ?_
  refine Wp.ret ?_
  refine Ends.ret (.cons (.tmp rfl (Fz.pure rfl)) <|  .nil) ?_
  rfl

set_option maxRecDepth 20000 in
theorem f_Next1 {r k : Int} : FnP PP 221 [.int .i32 r, .pp [.int .i64 k]] (.bool (sameK k r)) := by
  refine FnP.of_body Tryz.func221 rfl (by kernel_rfl) rfl ?_
  refine Wp.seq <| reg <| asg0 rfl <| done ?_
  refine Wp.seq <| regd mixed ?_
  refine mv0 rfl <| clw0 rfl f_Kind rfl ?_
  refine ldA0 rfl ?_
  refine cmp0 rfl <| asg0 rfl ?_
  refine done ⟨by kernel_rfl, by kernel_rfl, ?_⟩
  refine Wp.ret ?_
  refine Ends.ret (.cons (.tmp rfl (Fz.pure rfl)) <|  .nil) ?_
  rfl

set_option maxRecDepth 20000 in
theorem f_Prev1 {r k : Int} : FnP PP 223 [.int .i32 r, .pp [.int .i64 k]] (.bool (sameK k r)) := by
  refine FnP.of_body Tryz.func223 rfl (by kernel_rfl) rfl ?_
  refine Wp.seq <| reg <| asg0 rfl <| done ?_
  refine Wp.seq <| regd mixed ?_
  refine mv0 rfl <| clw0 rfl f_Kind rfl ?_
  refine ldA0 rfl ?_
  refine cmp0 rfl <| asg0 rfl ?_
  refine done ⟨by kernel_rfl, by kernel_rfl, ?_⟩
  refine Wp.ret ?_
  refine Ends.ret (.cons (.tmp rfl (Fz.pure rfl)) <|  .nil) ?_
  rfl

set_option maxRecDepth 20000 in
theorem f_Tail1 {r k : Int} : FnP PP 224 [.int .i32 r, .pp [.int .i64 k]] (.bool (sameK k r)) := by
  refine FnP.of_body Tryz.func224 rfl (by kernel_rfl) rfl ?_
  refine Wp.seq <| reg <| asg0 rfl <| done ?_
  refine Wp.seq <| regd mixed ?_
  refine mv0 rfl <| clw0 rfl f_Kind rfl ?_
  refine ldA0 rfl ?_
  refine cmp0 rfl <| asg0 rfl ?_
  refine done ⟨by kernel_rfl, by kernel_rfl, ?_⟩
  refine Wp.ret ?_
  refine Ends.ret (.cons (.tmp rfl (Fz.pure rfl)) <|  .nil) ?_
  rfl

theorem f_passF_k1 {p : Prop} (h : p := by
    have hs : ((passF p l i.toNat : Nat) : Int) = x := by rw [← hx2]; first  | (rw [passF_end (by omega)]; omega) | (obtain ⟨hh, hq⟩ := get_toNat (by omega) (by omega) nc1; rw [passF_stop hh hq]; omega)
    rw [hs]; rfl) : p := h
theorem f_passF_k2 {p : Prop} (h : p := by
    have hs : ((passF p l i.toNat : Nat) : Int) = x := by rw [← hx2]; first  | (rw [passF_end (by omega)]; omega) | (obtain ⟨hh, hq⟩ := get_toNat (by omega) (by omega) nc1; rw [passF_stop hh hq]; omega)
    rw [hs]; exact .of_eq rfl) : p := h
set_option maxRecDepth 20000 in
theorem f_passF {p : Int → Bool} {l : List Int} {i : Int} {q : FuncId} {cs : List D} (hp : ∀ r, FnP PP q (.int .i32 r :: cs) (.bool (p r))) (hcs : D.pureL cs = true) (h1 : 0 ≤ i) (h2 : i ≤ l.length) : FnG PP 227 [.fn q cs, .ptr 0 0, .pp [.int .i64 (1)], .pp [rl l]] [(0, .cells 3 ([.int .i64 i]))] (.int .i64 (passF p l i.toNat : Nat)) [(0, .cells 3 ([.int .i64 (passF p l i.toNat : Nat)]))] [0] := by
  refine FnG.of_body 1 Tryz.func227 rfl (by kernel_rfl) rfl rfl rfl ?_
  refine Wp.bound 3 rfl (fun hb3 => ?_)
  simp only [D.bd, D.bdL, List.length_map, and_true] at hb3
  refine Wp.seq <| reg <| asg0 rfl <| done ?_
  refine Wp.block ?_
  refine Wp.loopK (α := Int) [0, 1, 2, 3] [] (fun x tl => tl) (fun x tl => (0, some (.cells 3 [.int .i64 x])) :: tl) (fun x => 0 ≤ x ∧ x ≤ l.length ∧ passF p l x.toNat = passF p l i.toNat) (fun x => (l.length - x).toNat) (i) rfl rfl (⟨h1, h2, rfl⟩) (Rp) (Rp) ?_
  intro x hx
  obtain ⟨hx0, hx1, hx2⟩ := hx
  refine Wp.block <| Wp.seq <| reg <| ldA0 rfl ?_
  refine asg0 rfl <| done ?_
  refine Wp.seq <| Wp.seq <| reg <| ldA0 rfl ?_
  refine cmp0 rfl <| done ?_
  refine Wp.condF rfl rfl <| Wp.skip <| Wp.seq <| Wp.seq <| reg <| mv0 rfl <| cmp0 rfl <| mv0 rfl ?_
  refine bcase 14 rfl (fun h14 => ?_) (fun h14 => ?_)
  have nh14 := Nz h14
  refine sk0 rfl h14 <| sk0 rfl h14 <| sk0 rfl h14 <| sk0 rfl h14 <| pkt0 rfl h14 <| mv0 rfl <| sk0 rfl rfl <| sk0 rfl rfl <| sk0 rfl rfl <| sk0 rfl rfl <| sk0 rfl rfl <| sk0 rfl rfl <| sk0 rfl rfl <| pkt0 rfl rfl <| done ?_
  refine Wp.condT rfl rfl <| Wp.seq <| reg <| ldA0 rfl ?_
  refine asg0 rfl <| done ?_
  refine Wp.ret ?_
  refine EndsG.one (.inr rfl) (.cons (.tmp rfl FzG.same) <|  .nil) ?_ rfl ?_
  · exact f_passF_k1
  · exact f_passF_k2
  have nh14 := Nz h14
  refine mv1 rfl h14 rfl <| ldA1 rfl h14 rfl ?_
  first | refine lnM1 rfl h14 rfl ?_ | refine lns1 rfl h14 rfl ?_ | refine ln1 rfl h14 rfl ?_
  refine cmp1 rfl h14 rfl <| pkf0 rfl h14 <| mv0 rfl ?_
  refine bcase 20 rfl (fun h20 => ?_) (fun h20 => ?_)
  have nh20 := Nz h20
  refine sk0 rfl h20 <| sk0 rfl h20 <| sk0 rfl h20 <| sk0 rfl h20 <| sk0 rfl h20 <| sk0 rfl h20 <| sk0 rfl h20 <| pkt0 rfl h20 <| done ?_
  refine Wp.condT rfl rfl <| Wp.seq <| reg <| ldA0 rfl ?_
  refine asg0 rfl <| done ?_
  refine Wp.ret ?_
  refine EndsG.one (.inr rfl) (.cons (.tmp rfl FzG.same) <|  .nil) ?_ rfl ?_
  · exact f_passF_k1
  · exact f_passF_k2
  have nh20 := Nz h20
  refine mv1 rfl h20 rfl <| ldA1 rfl h20 rfl ?_
  refine mv1 rfl h20 rfl <| iaD (0) (x.toNat) Bd rfl rfl Eq' rfl (.want rfl rfl h20) ?_
  refine ldA1 rfl h20 rfl ?_
  refine cl rfl rfl (hp _) (by simp [D.pureL, D.pureB, hcs]) rfl (.want rfl rfl h20) ?_
  refine nt1 rfl h20 rfl <| pkf0 rfl h20 <| done ?_
  refine Wp.cond rfl (fun c1 => ?_) (fun c1 => ?_)
  have nc1 := Nz c1
  refine Wp.seq <| reg <| ldA0 rfl ?_
  refine asg0 rfl <| done ?_
  refine Wp.ret ?_
  refine EndsG.one (.inr rfl) (.cons (.tmp rfl FzG.same) <|  .nil) ?_ rfl ?_
  · exact f_passF_k1
  · exact f_passF_k2
  have nc1 := Nz c1
  refine Wp.skip <| reg <| ldA0 rfl ?_
  refine ldA0 rfl ?_
  refine ar0 rfl (wrapI Bd) <| stw0 rfl ?_
  refine done ?_
  refine ⟨x + 1, ⟨by omega, by omega, ?_⟩, by omega, Rp, Rp, rfl⟩; rw [← hx2, show (x + 1).toNat = x.toNat + 1 by omega]; obtain ⟨hh, hq⟩ := get_toNat (by omega) (by omega) nc1; exact (passF_step hh hq).symm

theorem f_passB_k1 {p : Prop} (h : p := by
    have hs : ((passB p l i.toNat : Nat) : Int) = x := by rw [← hx2]; first  | (rw [show x.toNat = 0 by omega, passB_zero]; omega) | (obtain ⟨hh, hq⟩ := get_toNat (x := x - 1) (by omega) (by omega) nc1; rw [show x.toNat = (x - 1).toNat + 1 by omega, passB_stop hh hq]; omega)
    rw [hs]; rfl) : p := h
theorem f_passB_k2 {p : Prop} (h : p := by
    have hs : ((passB p l i.toNat : Nat) : Int) = x := by rw [← hx2]; first  | (rw [show x.toNat = 0 by omega, passB_zero]; omega) | (obtain ⟨hh, hq⟩ := get_toNat (x := x - 1) (by omega) (by omega) nc1; rw [show x.toNat = (x - 1).toNat + 1 by omega, passB_stop hh hq]; omega)
    rw [hs]; exact .of_eq rfl) : p := h
set_option maxRecDepth 20000 in
theorem f_passB {p : Int → Bool} {l : List Int} {i : Int} {q : FuncId} {cs : List D} (hp : ∀ r, FnP PP q (.int .i32 r :: cs) (.bool (p r))) (hcs : D.pureL cs = true) (h1 : 0 ≤ i) (h2 : i ≤ l.length) : FnG PP 227 [.fn q cs, .ptr 0 0, .pp [.int .i64 (-1)], .pp [rl l]] [(0, .cells 3 ([.int .i64 i]))] (.int .i64 (passB p l i.toNat : Nat)) [(0, .cells 3 ([.int .i64 (passB p l i.toNat : Nat)]))] [0] := by
  refine FnG.of_body 1 Tryz.func227 rfl (by kernel_rfl) rfl rfl rfl ?_
  refine Wp.bound 3 rfl (fun hb3 => ?_)
  simp only [D.bd, D.bdL, List.length_map, and_true] at hb3
  refine Wp.seq <| reg <| asg0 rfl <| done ?_
  refine Wp.block ?_
  refine Wp.loopK (α := Int) [0, 1, 2, 3] [] (fun x tl => tl) (fun x tl => (0, some (.cells 3 [.int .i64 x])) :: tl) (fun x => 0 ≤ x ∧ x ≤ l.length ∧ passB p l x.toNat = passB p l i.toNat) (fun x => x.toNat) (i) rfl rfl (⟨h1, h2, rfl⟩) (Rp) (Rp) ?_
  intro x hx
  obtain ⟨hx0, hx1, hx2⟩ := hx
  refine Wp.block <| Wp.seq <| reg <| ldA0 rfl ?_
  refine asg0 rfl <| done ?_
  refine Wp.seq <| Wp.seq <| reg <| ldA0 rfl ?_
  refine cmp0 rfl <| done ?_
  refine Wp.condT rfl rfl <| reg <| mv0 rfl <| ar0 rfl (wrapI Bd) <| asg0 rfl <| done ?_
  refine Wp.seq <| Wp.seq <| reg <| mv0 rfl <| cmp0 rfl <| mv0 rfl ?_
  refine bcase 14 rfl (fun h14 => ?_) (fun h14 => ?_)
  have nh14 := Nz h14
  refine sk0 rfl h14 <| sk0 rfl h14 <| sk0 rfl h14 <| sk0 rfl h14 <| pkt0 rfl h14 <| mv0 rfl <| sk0 rfl rfl <| sk0 rfl rfl <| sk0 rfl rfl <| sk0 rfl rfl <| sk0 rfl rfl <| sk0 rfl rfl <| sk0 rfl rfl <| pkt0 rfl rfl <| done ?_
  refine Wp.condT rfl rfl <| Wp.seq <| reg <| ldA0 rfl ?_
  refine asg0 rfl <| done ?_
  refine Wp.ret ?_
  refine EndsG.one (.inr rfl) (.cons (.tmp rfl FzG.same) <|  .nil) ?_ rfl ?_
  · exact f_passB_k1
  · exact f_passB_k2
  have nh14 := Nz h14
  refine mv1 rfl h14 rfl <| ldA1 rfl h14 rfl ?_
  first | refine lnM1 rfl h14 rfl ?_ | refine lns1 rfl h14 rfl ?_ | refine ln1 rfl h14 rfl ?_
  refine cmp1 rfl h14 rfl <| pkf0 rfl h14 <| mv0 rfl ?_
  refine bcase 20 rfl (fun h20 => ?_) (fun h20 => ?_)
  have nh20 := Nz h20
  refine sk0 rfl h20 <| sk0 rfl h20 <| sk0 rfl h20 <| sk0 rfl h20 <| sk0 rfl h20 <| sk0 rfl h20 <| sk0 rfl h20 <| pkt0 rfl h20 <| done ?_
  refine Wp.condT rfl rfl <| Wp.seq <| reg <| ldA0 rfl ?_
  refine asg0 rfl <| done ?_
  refine Wp.ret ?_
  refine EndsG.one (.inr rfl) (.cons (.tmp rfl FzG.same) <|  .nil) ?_ rfl ?_
  · exact f_passB_k1
  · exact f_passB_k2
  have nh20 := Nz h20
  refine mv1 rfl h20 rfl <| ldA1 rfl h20 rfl ?_
  refine mv1 rfl h20 rfl <| iaD (0) ((x - 1).toNat) Bd rfl rfl Eq' rfl (.want rfl rfl h20) ?_
  refine ldA1 rfl h20 rfl ?_
  refine cl rfl rfl (hp _) (by simp [D.pureL, D.pureB, hcs]) rfl (.want rfl rfl h20) ?_
  refine nt1 rfl h20 rfl <| pkf0 rfl h20 <| done ?_
  refine Wp.cond rfl (fun c1 => ?_) (fun c1 => ?_)
  have nc1 := Nz c1
  refine Wp.seq <| reg <| ldA0 rfl ?_
  refine asg0 rfl <| done ?_
  refine Wp.ret ?_
  refine EndsG.one (.inr rfl) (.cons (.tmp rfl FzG.same) <|  .nil) ?_ rfl ?_
  · exact f_passB_k1
  · exact f_passB_k2
  have nc1 := Nz c1
  refine Wp.skip <| reg <| ldA0 rfl ?_
  refine ldA0 rfl ?_
  refine ar0 rfl (wrapI Bd) <| stw0 rfl ?_
  refine done ?_
  refine ⟨x + -1, ⟨by omega, by omega, ?_⟩, by omega, Rp, Rp, rfl⟩; rw [← hx2, show x.toNat = (x + -1).toNat + 1 by omega]; obtain ⟨hh, hq⟩ := get_toNat (x := x - 1) (by omega) (by omega) nc1; exact (passB_step hh hq).symm

theorem f_passer_k1 {p : Prop} (h : p := by
    have hs : ((clampS l i : Nat) : Int) = max 0 (min i (l.length : Int)) := by unfold clampS; omega
    rw [hs]; exact .of_eq rfl) : p := h
set_option maxRecDepth 20000 in
theorem f_passer {l : List Int} {i b : Int} : FnG PP 219 [rl l, .int .i64 i, .int .i64 b] [] (.fn 227 [.ptr 0 0, .pp [.int .i64 b], .pp [rl l]]) [(0, .cells 3 [.int .i64 (clampS l i : Nat)])] [] := by
  refine FnG.of_body 0 Tryz.func219 rfl (by kernel_rfl) rfl rfl rfl ?_
  refine Wp.bound 0 rfl (fun hb0 => ?_)
  simp only [D.bd, D.bdL, List.length_map, and_true] at hb0
  refine Wp.seq <| reg <| bx0 67 rfl ?_
  refine bx0 0 rfl ?_
  refine bx0 69 rfl ?_
  refine asg0 rfl <| done ?_
  refine Wp.seq <| reg <| ldA0 rfl ?_
  refine ldA0 rfl ?_
  first | refine lnM0 rfl ?_ | refine lns0 rfl ?_ | refine ln0 rfl ?_
  refine mn0 rfl ?_
  refine mx0 rfl ?_
  refine stw0 rfl ?_
  refine done ?_
  refine Wp.freezeC 67 [3] [4, 5, 6] rfl rfl rfl rfl ?_
  refine Wp.freezeC 69 [5] [3, 4, 6] rfl rfl rfl rfl ?_
  refine Wp.seq <| reg <| mkf0 rfl ?_
  refine asg0 rfl <| done ?_
  refine Wp.ret ?_
  refine EndsG.one (.inr rfl) (.cons (.tmp rfl FzG.same) <|  .nil) ?_ rfl ?_
  · rfl
  · exact f_passer_k1

set_option maxRecDepth 20000 in
theorem f_endsF {l : List Int} {i : Int} : FnP PP 218 [rl l, .int .i64 i, .int .i64 1] (.int .i64 (foreS l i : Nat)) := by
  refine FnP.of_body Tryz.func218 rfl (by kernel_rfl) rfl ?_
  refine Wp.seq <| reg <| asg0 rfl <| done ?_
  refine Wp.seq <| reg <| mv0 rfl <| mv0 rfl <| mv0 rfl <| clc rfl rfl f_passer rfl rfl rfl .none ?_
  refine asg0 rfl <| done ?_
  refine Wp.seq <| reg <| mv0 rfl ?_
  refine clmw0 0 rfl (f_passF (fun _ => f_ends1) rfl (by omega) (by have := clampS_le l i; omega)) rfl ?_
  refine done ?_
  refine Wp.seq <| reg <| mv0 rfl ?_
  refine clmw0 0 rfl (f_passF (fun _ => f_In) rfl (by omega) (by have := passF_le (p := fun r => !inB r) (clampS_le l i); simpa using this)) rfl ?_
  refine asg0 rfl <| done ?_
  refine Wp.ret ?_
  refine Ends.ret (.cons (.tmp rfl (Fz.pure rfl)) <|  .nil) ?_
  rfl

set_option maxRecDepth 20000 in
theorem f_endsB {l : List Int} {i : Int} : FnP PP 218 [rl l, .int .i64 i, .int .i64 (-1)] (.int .i64 (behindS l i : Nat)) := by
  refine FnP.of_body Tryz.func218 rfl (by kernel_rfl) rfl ?_
  refine Wp.seq <| reg <| asg0 rfl <| done ?_
  refine Wp.seq <| reg <| mv0 rfl <| mv0 rfl <| mv0 rfl <| clc rfl rfl f_passer rfl rfl rfl .none ?_
  refine asg0 rfl <| done ?_
  refine Wp.seq <| reg <| mv0 rfl ?_
  refine clmw0 0 rfl (f_passB (fun _ => f_ends1) rfl (by omega) (by have := clampS_le l i; omega)) rfl ?_
  refine done ?_
  refine Wp.seq <| reg <| mv0 rfl ?_
  refine clmw0 0 rfl (f_passB (fun _ => f_In) rfl (by omega) (by have := passB_le (p := fun r => !inB r) (l := l) (i := clampS l i); have := clampS_le l i; simp only [Int.toNat_natCast]; omega)) rfl ?_
  refine asg0 rfl <| done ?_
  refine Wp.ret ?_
  refine Ends.ret (.cons (.tmp rfl (Fz.pure rfl)) <|  .nil) ?_
  rfl

set_option maxRecDepth 20000 in
theorem f_Fore {l : List Int} {i : Int} : FnP PP 200 [rl l, .int .i64 i] (.int .i64 (foreS l i : Nat)) := by
  refine FnP.of_body Tryz.func200 rfl (by kernel_rfl) rfl ?_
  refine Wp.seq <| reg <| asg0 rfl <| done ?_
  refine Wp.seq <| reg <| mv0 rfl <| mv0 rfl <| clw0 rfl f_endsF rfl ?_
  refine asg0 rfl <| done ?_
  refine Wp.ret ?_
  refine Ends.ret (.cons (.tmp rfl (Fz.pure rfl)) <|  .nil) ?_
  rfl

set_option maxRecDepth 20000 in
theorem f_Behind {l : List Int} {i : Int} : FnP PP 201 [rl l, .int .i64 i] (.int .i64 (behindS l i : Nat)) := by
  refine FnP.of_body Tryz.func201 rfl (by kernel_rfl) rfl ?_
  refine Wp.seq <| reg <| asg0 rfl <| done ?_
  refine Wp.seq <| reg <| mv0 rfl <| mv0 rfl <| clw0 rfl f_endsB rfl ?_
  refine asg0 rfl <| done ?_
  refine Wp.ret ?_
  refine Ends.ret (.cons (.tmp rfl (Fz.pure rfl)) <|  .nil) ?_
  rfl

theorem f_passFn {p : Int → Bool} {l : List Int} {n : Nat} {q : FuncId} {cs : List D} (hp : ∀ r, FnP PP q (.int .i32 r :: cs) (.bool (p r))) (hcs : D.pureL cs = true) (h : n ≤ l.length) :
    FnG PP 227 [.fn q cs, .ptr 0 0, .pp [.int .i64 1], .pp [rl l]] [(0, .cells 3 [.int .i64 (n : Nat)])] (.int .i64 (passF p l n : Nat)) [(0, .cells 3 [.int .i64 (passF p l n : Nat)])] [0] := f_passF (i := (n : Int)) hp hcs (by omega) (by omega)
theorem f_passBn {p : Int → Bool} {l : List Int} {n : Nat} {q : FuncId} {cs : List D} (hp : ∀ r, FnP PP q (.int .i32 r :: cs) (.bool (p r))) (hcs : D.pureL cs = true) (h : n ≤ l.length) :
    FnG PP 227 [.fn q cs, .ptr 0 0, .pp [.int .i64 (-1)], .pp [rl l]] [(0, .cells 3 [.int .i64 (n : Nat)])] (.int .i64 (passB p l n : Nat)) [(0, .cells 3 [.int .i64 (passB p l n : Nat)])] [0] := f_passB (i := (n : Int)) hp hcs (by omega) (by omega)
theorem clamp_eq (l : List Int) (i : Int) : max 0 (min i (l.length : Int)) = ((clampS l i : Nat) : Int) := by unfold clampS; omega
theorem clamp_id {l : List Int} {n : Nat} (h : n ≤ l.length) : clampS l (n : Int) = n := by unfold clampS; omega
theorem f_passern {l : List Int} {n : Nat} {b : Int} (h : n ≤ l.length) : FnG PP 219 [rl l, .int .i64 (n : Nat), .int .i64 b] [] (.fn 227 [.ptr 0 0, .pp [.int .i64 b], .pp [rl l]]) [(0, .cells 3 [.int .i64 (n : Nat)])] [] := by
  have := f_passer (l := l) (i := (n : Int)) (b := b)
  rwa [clamp_id h] at this
theorem tail_ge (l : List Int) (i : Int) (p : Int → Bool) : 1 ≤ passF p l (passF blankB l (clampS l i + 1)) := by
  have h1 := passF_ge (p := blankB) (l := l) (i := clampS l i + 1)
  have h2 := passF_ge (p := p) (l := l) (i := passF blankB l (clampS l i + 1))
  omega

theorem f_Next_k1 {p : Prop} (h : p := by
    show _ = _; unfold nextS; (repeat' split) <;> first | rfl | (exfalso; omega) | (exfalso; simp_all; done) | (exfalso; simp_all <;> omega)) : p := h
set_option maxRecDepth 20000 in
theorem f_Next {l : List Int} {i : Int} : FnP PP 202 [rl l, .int .i64 i] (.int .i64 (nextS l i : Nat)) := by
  refine FnP.of_body Tryz.func202 rfl (by kernel_rfl) rfl ?_
  refine Wp.seq <| reg <| asg0 rfl <| done ?_
  refine Wp.cutK (α := Unit) [0] [] (fun x tl => (1, .int .i64 (clampS l i : Nat)) :: tl) (fun x tl => tl) (fun x => True) rfl rfl ?_ ?_
  refine reg <| mv0 rfl <| mv0 rfl ?_
  first | refine lnM0 rfl ?_ | refine lns0 rfl ?_ | refine ln0 rfl ?_
  refine mn0 rfl ?_
  refine mx0 rfl ?_
  refine asg0 rfl <| done ?_
  exact ⟨(), trivial, ⟨congrArg (fun z : Int => some (D.int .i64 z)) (clamp_eq l i), Rp⟩, Rp, rfl⟩
  intro x hx
  skip
  refine Wp.seq <| Wp.seq <| reg <| mv0 rfl <| mv0 rfl ?_
  first | refine lnM0 rfl ?_ | refine lns0 rfl ?_ | refine ln0 rfl ?_
  refine cmp0 rfl <| done ?_
  refine Wp.cond rfl (fun c1 => ?_) (fun c1 => ?_)
  have nc1 := Nz c1
  refine Wp.seq <| reg <| mv0 rfl <| asg0 rfl <| done ?_
  refine Wp.ret ?_
  refine Ends.ret (.cons (.tmp rfl (Fz.pure rfl)) <|  .nil) ?_
  exact f_Next_k1
  have nc1 := Nz c1
  refine Wp.skip <| Wp.seq <| reg ?_
  have hc := clampS_le l i
  refine mv0 rfl <| mv0 rfl <| clc rfl rfl (f_passern (by omega)) rfl rfl rfl .none ?_
  refine asg0 rfl <| done ?_
  refine Wp.seq <| Wp.seq <| reg <| mv0 rfl <| mv0 rfl <| iaD (0) (clampS l i) Bd rfl rfl Eq' rfl .none ?_
  refine ldA0 rfl ?_
  refine clw0 rfl f_Kind rfl ?_
  refine al0 70 rfl ?_
  refine stw0 rfl ?_
  refine done ?_
  refine Wp.freezeC 70 [6] [0, 1, 5] rfl rfl rfl rfl ?_
  refine Wp.seq <| reg <| ldA0 rfl ?_
  refine cmp0 rfl <| done ?_
  refine Wp.cond rfl (fun c2 => ?_) (fun c2 => ?_)
  have nc2 := Nz c2
  refine reg <| mv0 rfl <| mkf0 rfl ?_
  refine clmw0 0 rfl (f_passFn (fun _ => f_Next1) rfl hc) rfl ?_
  refine done ?_
  refine Wp.seq <| reg <| mv0 rfl ?_
  refine clmw0 0 rfl (f_passFn (fun _ => f_blank) rfl (by first | exact hc | exact passF_le hc)) rfl ?_
  refine asg0 rfl <| done ?_
  refine Wp.ret ?_
  refine Ends.ret (.cons (.tmp rfl (Fz.pure rfl)) <|  .nil) ?_
  exact f_Next_k1
  have nc2 := Nz c2
  refine Wp.skip <| Wp.seq <| reg <| mv0 rfl ?_
  refine clmw0 0 rfl (f_passFn (fun _ => f_blank) rfl (by first | exact hc | exact passF_le hc)) rfl ?_
  refine asg0 rfl <| done ?_
  refine Wp.ret ?_
  refine Ends.ret (.cons (.tmp rfl (Fz.pure rfl)) <|  .nil) ?_
  exact f_Next_k1

theorem f_Prev_k1 {p : Prop} (h : p := by
    show _ = _; unfold prevS; (repeat' split) <;> first | rfl | (exfalso; omega) | (exfalso; simp_all; done) | (exfalso; simp_all <;> omega)) : p := h
set_option maxRecDepth 20000 in
theorem f_Prev {l : List Int} {i : Int} : FnP PP 203 [rl l, .int .i64 i] (.int .i64 (prevS l i : Nat)) := by
  refine FnP.of_body Tryz.func203 rfl (by kernel_rfl) rfl ?_
  refine Wp.bound 0 rfl (fun hb0 => ?_)
  simp only [D.bd, D.bdL, List.length_map, and_true] at hb0
  refine Wp.seq <| reg <| asg0 rfl <| done ?_
  refine Wp.seq <| reg ?_
  have hc := clampS_le l i; have hb := passB_le (p := blankB) (l := l) (i := clampS l i)
  refine mv0 rfl <| mv0 rfl <| clc rfl rfl f_passer rfl rfl rfl .none ?_
  refine asg0 rfl <| done ?_
  refine Wp.seq <| reg <| mv0 rfl ?_
  refine clmw0 0 rfl (f_passBn (fun _ => f_blank) rfl hc) rfl ?_
  refine asg0 rfl <| done ?_
  refine Wp.seq <| Wp.seq <| reg <| mv0 rfl <| cmp0 rfl <| done ?_
  refine Wp.cond rfl (fun c1 => ?_) (fun c1 => ?_)
  have nc1 := Nz c1
  refine Wp.seq <| reg <| asg0 rfl <| done ?_
  refine Wp.ret ?_
  refine Ends.ret (.cons (.tmp rfl (Fz.pure rfl)) <|  .nil) ?_
  exact f_Prev_k1
  have nc1 := Nz c1
  refine Wp.skip <| Wp.seq <| reg <| mv0 rfl <| mv0 rfl <| ar0 rfl (wrapI Bd) <| iaD (0) (passB blankB l (clampS l i) - 1) Bd rfl rfl Eq' rfl .none ?_
  refine ldA0 rfl ?_
  refine clw0 rfl f_Kind rfl ?_
  refine al0 70 rfl ?_
  refine stw0 rfl ?_
  refine done ?_
  refine Wp.freezeC 70 [6] [0, 1, 5] rfl rfl rfl rfl ?_
  refine Wp.seq <| reg <| mv0 rfl <| mkf0 rfl ?_
  refine clmw0 0 rfl (f_passBn (fun _ => f_Prev1) rfl (by omega)) rfl ?_
  refine asg0 rfl <| done ?_
  refine Wp.ret ?_
  refine Ends.ret (.cons (.tmp rfl (Fz.pure rfl)) <|  .nil) ?_
  exact f_Prev_k1

theorem f_Tail_k1 {p : Prop} (h : p := by
    show _ = _; unfold tailS; (repeat' split) <;> first | rfl | (exfalso; omega) | (exfalso; simp_all; done) | (exfalso; simp_all <;> omega) | (exact congrArg (fun z : Int => D.int .i64 z) (by omega))) : p := h
set_option maxRecDepth 20000 in
theorem f_Tail {l : List Int} {i : Int} : FnP PP 204 [rl l, .int .i64 i] (.int .i64 (tailS l i : Nat)) := by
  refine FnP.of_body Tryz.func204 rfl (by kernel_rfl) rfl ?_
  refine Wp.bound 0 rfl (fun hb0 => ?_)
  simp only [D.bd, D.bdL, List.length_map, and_true] at hb0
  refine Wp.seq <| reg <| asg0 rfl <| done ?_
  refine Wp.cutK (α := Unit) [0] [] (fun x tl => (1, .int .i64 (clampS l i : Nat)) :: tl) (fun x tl => tl) (fun x => True) rfl rfl ?_ ?_
  refine reg <| mv0 rfl <| mv0 rfl ?_
  first | refine lnM0 rfl ?_ | refine lns0 rfl ?_ | refine ln0 rfl ?_
  refine mn0 rfl ?_
  refine mx0 rfl ?_
  refine asg0 rfl <| done ?_
  exact ⟨(), trivial, ⟨congrArg (fun z : Int => some (D.int .i64 z)) (clamp_eq l i), Rp⟩, Rp, rfl⟩
  intro x hx
  skip
  refine Wp.seq <| Wp.seq <| reg ?_
  have hc := clampS_le l i
  refine mv0 rfl <| mv0 rfl ?_
  first | refine lnM0 rfl ?_ | refine lns0 rfl ?_ | refine ln0 rfl ?_
  refine ar0 rfl (wrapI Bd) <| cmp0 rfl <| done ?_
  refine Wp.cond rfl (fun c1 => ?_) (fun c1 => ?_)
  have nc1 := Nz c1
  refine Wp.seq <| reg <| mv0 rfl ?_
  first | refine lnM0 rfl ?_ | refine lns0 rfl ?_ | refine ln0 rfl ?_
  refine asg0 rfl <| done ?_
  refine Wp.ret ?_
  refine Ends.ret (.cons (.tmp rfl (Fz.pure rfl)) <|  .nil) ?_
  exact f_Tail_k1
  have nc1 := Nz c1
  refine Wp.skip <| Wp.seq <| reg <| mv0 rfl <| mv0 rfl <| ar0 rfl (wrapI Bd) <| clc rfl rfl (f_passern (n := clampS l i + 1) (by omega)) rfl rfl rfl .none ?_
  refine asg0 rfl <| done ?_
  refine Wp.seq <| reg ?_
  have hb := passF_le (p := blankB) (l := l) (i := clampS l i + 1) (by omega)
  refine mv0 rfl ?_
  refine clmw0 0 rfl (f_passFn (fun _ => f_blank) rfl (by omega)) rfl ?_
  refine asg0 rfl <| done ?_
  refine Wp.seq <| Wp.seq <| reg <| mv0 rfl <| mv0 rfl ?_
  first | refine lnM0 rfl ?_ | refine lns0 rfl ?_ | refine ln0 rfl ?_
  refine cmp0 rfl <| done ?_
  refine Wp.cond rfl (fun c2 => ?_) (fun c2 => ?_)
  have nc2 := Nz c2
  refine Wp.seq <| reg <| mv0 rfl <| asg0 rfl <| done ?_
  refine Wp.ret ?_
  refine Ends.ret (.cons (.tmp rfl (Fz.pure rfl)) <|  .nil) ?_
  exact f_Tail_k1
  have nc2 := Nz c2
  refine Wp.skip <| Wp.seq <| reg <| mv0 rfl <| mv0 rfl <| iaD (0) (passF blankB l (clampS l i + 1)) Bd rfl rfl Eq' rfl .none ?_
  refine ldA0 rfl ?_
  refine clw0 rfl f_Kind rfl ?_
  refine al0 70 rfl ?_
  refine stw0 rfl ?_
  refine done ?_
  refine Wp.freezeC 70 [6] [0, 1, 5] rfl rfl rfl rfl ?_
  refine Wp.seq <| reg <| mv0 rfl <| mkf0 rfl ?_
  refine clmw0 0 rfl (f_passFn (fun _ => f_Tail1) rfl (by omega)) rfl ?_
  have hg := tail_ge l i (sameK (kindW (l.getD (passF blankB l (clampS l i + 1)) 0))); have hb2 := passF_le (p := sameK (kindW (l.getD (passF blankB l (clampS l i + 1)) 0))) hb
  refine ar0 rfl (wrapI Bd) <| asg0 rfl <| done ?_
  refine Wp.ret ?_
  refine Ends.ret (.cons (.tmp rfl (Fz.pure rfl)) <|  .nil) ?_
  exact f_Tail_k1

end Go.Proofs.YtkcdmmafkpplhaaGreat
/- The past, and what is found in it, told in Lean. No program in sight. -/
namespace Go.Eng
open Go
/-- Where a sign or a row is first: -1: nowhere. (i: the first one's number.) -/
def idxS {α : Type} (p : α → Bool) : List α → Int → Int
  | [], _ => -1
  | a :: r, i => if p a = true then i else idxS p r (i + 1)
theorem idxS_drop {α : Type} {p : α → Bool} {l : List α} {x : Nat} {i : Int} (h : x < l.length) : idxS p (l.drop x) i = if p l[x] = true then i else idxS p (l.drop (x + 1)) (i + 1) := by
  rw [List.drop_eq_getElem_cons h]; rfl
theorem idxS_ge' {α : Type} {p : α → Bool} : ∀ {l : List α} {i : Int}, 0 ≤ i → (0 ≤ idxS p l i ↔ l.any p = true)
  | [], i, _ => by simp [idxS]
  | a :: r, i, h => by
    have e : idxS p (a :: r) i = if p a = true then i else idxS p r (i + 1) := rfl
    rw [e, List.any_cons]
    by_cases hp : p a = true
    · rw [if_pos hp, hp]; simp [h]
    · rw [if_neg hp, idxS_ge' (by omega)]; simp [hp]
theorem idxS_ge {α : Type} {p : α → Bool} {l : List α} {i : Int} (h : 0 ≤ i) : decide (0 ≤ idxS p l i) = l.any p := by
  rw [Bool.eq_iff_iff, decide_eq_true_eq]; exact idxS_ge' h
theorem any_signs (l : List Int) : (l.any fun r => !signB r) = !signs l := by
  unfold signs
  induction l with
  | nil => rfl
  | cons a l ih => simp [ih, Bool.not_and]
-- layer 19
structure Past where
  room : Int
  dup : Int
  l : List (List Int)
abbrev pastD (p : Past) : D := .agg [.int .i64 p.room, .int .i64 p.dup, rlL p.l]
def okRD (room dup : Int) : Bool := decide (1 ≤ room ∧ room ≤ 16 ∧ 0 ≤ dup ∧ dup ≤ 2)
def pastNew (room dup : Int) : Past × Int := if okRD room dup = false then (⟨0, 0, []⟩, 4) else (⟨room, dup, []⟩, 0)
theorem pastNew_ok (room dup : Int) : (pastNew room dup).2 = 0 ↔ okRD room dup = true := by
  unfold pastNew; split <;> simp_all
def pastNewD (x : Past × Int) : D := .tup [pastD x.1, .int .i64 x.2]
def pastIs (p : Past) : Bool := (okRD p.room p.dup && decide ((p.l.length : Int) ≤ p.room)) && p.l.all oneS
def delS (k : List (List Int)) (l : List Int) : List (List Int) := k.filter fun x => !decide (x = l)
def pastAdd (p : Past) (l : List Int) : Past :=
  if pastIs p = false ∨ oneS l = false then p else if p.dup = 1 ∧ 0 < p.l.length ∧ lastL p.l = l then p
  else if p.dup = 2 then ⟨p.room, p.dup, (delS p.l l ++ [l]).drop ((delS p.l l ++ [l]).length - p.room.toNat)⟩ else ⟨p.room, p.dup, (p.l ++ [l]).drop ((p.l ++ [l]).length - p.room.toNat)⟩
def pastGet (p : Past) (i : Int) : List Int × Int :=
  if pastIs p = false then ([], 1) else if i < 0 ∨ (p.l.length : Int) ≤ i then ([], 7) else (p.l.getD i.toNat [], 0)
-- layer 21
def standsS (l pat : List Int) : Bool := decide (pat.length ≤ l.length ∧ l.take pat.length = pat)
def placeS (pat : List Int) : List Int → Int → Int
  | [], _ => -1
  | a :: r, i => if standsS (a :: r) pat = true then i else placeS pat r (i + 1)
theorem placeS_drop {pat l : List Int} {x : Nat} {i : Int} (h : x < l.length) : placeS pat (l.drop x) i = if standsS (l.drop x) pat = true then i else placeS pat (l.drop (x + 1)) (i + 1) := by
  rw [List.drop_eq_getElem_cons h]; rfl
def placeOf (l pat : List Int) : Int := if pat.length = 0 then -1 else placeS pat l 0
end Go.Eng

/- Walks of layer 19 and of what layer 21 asks of one line (the past; where a pattern stands). -/
namespace Go.Proofs.YtkcdmmafkpplhaaGreat
open Go.Eng
theorem pastIs_len {room dup : Int} {k : List (List Int)} (h : pastIs ⟨room, dup, k⟩ = true) : k.length ≤ 16 ∧ 1 ≤ room ∧ room ≤ 16 := by simp [pastIs, okRD] at h; omega
theorem del_step {k : List (List Int)} {p : List Int → Bool} {x : Nat} (h : x < k.length) : (k.take (x + 1)).filter (fun r => !p r) = (k.take x).filter (fun r => !p r) ++ (if p k[x] = true then [] else [k[x]]) := by
  rw [List.take_succ_eq_append_getElem h, List.filter_append]
  by_cases hp : p k[x] = true <;> simp [hp]
theorem del_len (k : List (List Int)) (p : List Int → Bool) (x : Nat) : ((k.take x).filter (fun r => !p r)).length ≤ x := Nat.le_trans (List.length_filter_le _ _) (by simp; omega)
theorem idx_none {p : List Int → Bool} {k : List (List Int)} (h : idxS p k 0 = -1) : k.filter (fun r => !p r) = k := by
  have h1 := idxS_ge (p := p) (l := k) (i := 0) (by omega)
  rw [h] at h1
  have h2 : k.any p = false := by rw [← h1]; rfl
  rw [List.filter_eq_self]
  intro r hr
  rw [List.any_eq_false] at h2
  have := h2 r hr
  simpa using this
theorem idx_some {p : List Int → Bool} : ∀ {k : List (List Int)} {i : Int}, idxS p k i ≠ -1 → ∃ m : Nat, m < k.length ∧ idxS p k i = i + m ∧ (k.take m).filter (fun r => !p r) = k.take m ∧ p (k.getD m []) = true
  | [], i, h => absurd rfl h
  | a :: r, i, h => by
    by_cases hp : p a = true
    · exact ⟨0, by simp, by simp [idxS, hp], rfl, by simpa using hp⟩
    · have h' : idxS p (a :: r) i = idxS p r (i + 1) := by simp only [idxS]; rw [if_neg hp]
      rw [h'] at h ⊢
      obtain ⟨m, h1, h2, h3, h4⟩ := idx_some h
      exact ⟨m + 1, by simp; omega, by rw [h2]; push_cast; omega, by simp [hp, h3], by simpa using h4⟩
theorem buf_get {kept k : List (List Int)} {x : Nat} (h1 : kept.length ≤ x) (h2 : x < k.length) : (kept ++ k.drop kept.length).getD x [] = k.getD x [] := by
  simp only [List.getD, List.getElem?_append_right h1, List.getElem?_drop]
  rw [show kept.length + (x - kept.length) = x by omega]
theorem buf_set {kept k : List (List Int)} {v : List Int} (h : kept.length < k.length) : (kept ++ k.drop kept.length).set kept.length v = (kept ++ [v]) ++ k.drop (kept ++ [v]).length := by
  rw [List.set_append_right _ _ (Nat.le_refl _), Nat.sub_self, List.drop_eq_getElem_cons h, List.set_cons_zero, List.length_append]
  simp

theorem f_pastNew_k1 {p : Prop} (h : p := by
    show _ = _; unfold pastNewD pastNew; (repeat' split) <;> first | rfl | (exfalso; omega) | (exfalso; simp_all [okRD]; done) | (exfalso; simp_all [okRD] <;> omega)) : p := h
set_option maxRecDepth 20000 in
theorem f_pastNew {room dup : Int} : FnP PP 25 [.int .i64 room, .int .i64 dup] (pastNewD (pastNew room dup)) := by
  refine FnP.of_body Tryz.func25 rfl (by kernel_rfl) rfl ?_
  refine Wp.seq <| reg <| al0 68 rfl ?_
  refine asg0 rfl <| done ?_
  refine Wp.seq <| Wp.seq <| reg <| mv0 rfl <| cmp0 rfl <| mv0 rfl ?_
  refine bcase 8 rfl (fun h8 => ?_) (fun h8 => ?_)
  have nh8 := Nz h8
  refine sk0 rfl h8 <| sk0 rfl h8 <| pkt0 rfl h8 <| mv0 rfl <| sk0 rfl rfl <| sk0 rfl rfl <| pkt0 rfl rfl <| mv0 rfl <| sk0 rfl rfl <| sk0 rfl rfl <| pkt0 rfl rfl <| done ?_
  refine Wp.condT rfl rfl <| Wp.seq <| reg <| bdw0 rfl ?_
  refine stw0 rfl ?_
  refine asg0 rfl <| done ?_
  refine Wp.ret ?_
  refine Ends.ret (.cons (.cell rfl rfl rfl (Nat.le_of_ble_eq_true rfl) (Fz.wk rfl)) <| .cons (.tmp rfl (Fz.pure rfl)) <|  .nil) ?_
  exact f_pastNew_k1
  have nh8 := Nz h8
  refine mv1 rfl h8 rfl <| cmp1 rfl h8 rfl <| pkf0 rfl h8 <| mv0 rfl ?_
  refine bcase 12 rfl (fun h12 => ?_) (fun h12 => ?_)
  have nh12 := Nz h12
  refine sk0 rfl h12 <| sk0 rfl h12 <| pkt0 rfl h12 <| mv0 rfl <| sk0 rfl rfl <| sk0 rfl rfl <| pkt0 rfl rfl <| done ?_
  refine Wp.condT rfl rfl <| Wp.seq <| reg <| bdw0 rfl ?_
  refine stw0 rfl ?_
  refine asg0 rfl <| done ?_
  refine Wp.ret ?_
  refine Ends.ret (.cons (.cell rfl rfl rfl (Nat.le_of_ble_eq_true rfl) (Fz.wk rfl)) <| .cons (.tmp rfl (Fz.pure rfl)) <|  .nil) ?_
  exact f_pastNew_k1
  have nh12 := Nz h12
  refine mv1 rfl h12 rfl <| cmp1 rfl h12 rfl <| pkf0 rfl h12 <| mv0 rfl ?_
  refine bcase 16 rfl (fun h16 => ?_) (fun h16 => ?_)
  have nh16 := Nz h16
  refine sk0 rfl h16 <| sk0 rfl h16 <| pkt0 rfl h16 <| done ?_
  refine Wp.condT rfl rfl <| Wp.seq <| reg <| bdw0 rfl ?_
  refine stw0 rfl ?_
  refine asg0 rfl <| done ?_
  refine Wp.ret ?_
  refine Ends.ret (.cons (.cell rfl rfl rfl (Nat.le_of_ble_eq_true rfl) (Fz.wk rfl)) <| .cons (.tmp rfl (Fz.pure rfl)) <|  .nil) ?_
  exact f_pastNew_k1
  have nh16 := Nz h16
  refine mv1 rfl h16 rfl <| cmp1 rfl h16 rfl <| pkf0 rfl h16 <| done ?_
  refine Wp.cond rfl (fun c1 => ?_) (fun c1 => ?_)
  have nc1 := Nz c1
  refine Wp.seq <| reg <| bdw0 rfl ?_
  refine stw0 rfl ?_
  refine asg0 rfl <| done ?_
  refine Wp.ret ?_
  refine Ends.ret (.cons (.cell rfl rfl rfl (Nat.le_of_ble_eq_true rfl) (Fz.wk rfl)) <| .cons (.tmp rfl (Fz.pure rfl)) <|  .nil) ?_
  exact f_pastNew_k1
  have nc1 := Nz c1
  refine Wp.skip <| Wp.seq <| reg <| mv0 rfl <| mv0 rfl <| bdw0 rfl ?_
  refine stw0 rfl ?_
  refine asg0 rfl <| done ?_
  refine Wp.ret ?_
  refine Ends.ret (.cons (.cell rfl rfl rfl (Nat.le_of_ble_eq_true rfl) (Fz.wk rfl)) <| .cons (.tmp rfl (Fz.pure rfl)) <|  .nil) ?_
  exact f_pastNew_k1

set_option maxRecDepth 20000 in
theorem f_line1 {r : Int} : FnP PP 128 [.int .i32 r] (.bool ((fun r => !signB r) r)) := by
  refine FnP.of_body Tryz.func128 rfl (by kernel_rfl) rfl ?_
  refine Wp.seq <| reg <| asg0 rfl <| done ?_
  refine Wp.seq <| reg <| mv0 rfl <| clw0 rfl f_glyphIs rfl ?_
  refine nt0 rfl <| asg0 rfl <| done ?_
  refine Wp.ret ?_
  refine Ends.ret (.cons (.tmp rfl (Fz.pure rfl)) <|  .nil) ?_
  rfl

theorem f_idxR_k1 {p : Prop} (h : p := by
    first | (refine congrArg (D.int .i64) ?_; rw [hx2, idxS_drop (by omega), if_pos (by simp_all)]; done) | (refine congrArg (D.int .i64) ?_; rw [hx2, drop_end (by omega)]; rfl)) : p := h
set_option maxRecDepth 20000 in
theorem f_idxR {p : Int → Bool} {l : List Int} {q : FuncId} {cs : List D} (hp : ∀ r, FnP PP q (.int .i32 r :: cs) (.bool (p r))) (hcs : D.pureL cs = true) : FnP PP 161 [rl l, .fn q cs] (.int .i64 (idxS p l 0)) := by
  refine FnP.of_body Tryz.func161 rfl (by kernel_rfl) rfl ?_
  refine Wp.bound 0 rfl (fun hb0 => ?_)
  simp only [D.bd, D.bdL, List.length_map, and_true] at hb0
  refine Wp.seq <| reg <| asg0 rfl <| done ?_
  refine Wp.seq <| Wp.seq <| reg <| mv0 rfl ?_
  first | refine lnM0 rfl ?_ | refine lns0 rfl ?_ | refine ln0 rfl ?_
  refine mv0 rfl <| done ?_
  refine Wp.block ?_
  refine Wp.loopK (α := Nat) [0, 1, 7] [] (fun x tl => (8, .int .i64 x) :: tl) (fun x tl => tl) (fun x => x ≤ l.length ∧ idxS p l 0 = idxS p (l.drop x) x) (fun x => l.length - x) (0) rfl rfl (⟨by omega, rfl⟩) (Rp) (Rp) ?_
  intro x hx
  obtain ⟨hx1, hx2⟩ := hx
  refine Wp.seq <| reg <| cmp0 rfl <| done ?_
  refine Wp.seq ?_
  refine Wp.cond rfl (fun c1 => ?_) (fun c1 => ?_)
  have nc1 := Nz c1
  refine Wp.skip <| Wp.seq <| Wp.block <| Wp.seq <| reg <| mv0 rfl <| asg0 rfl <| done ?_
  refine Wp.seq <| reg <| mv0 rfl <| mv0 rfl <| mv0 rfl <| iaE0 (x) Bd rfl Eq' ?_
  refine ldA0 rfl ?_
  refine cl rfl rfl (hp _) (by simp [D.pureL, D.pureB, hcs]) rfl .none ?_
  refine done ?_
  refine Wp.cond rfl (fun c2 => ?_) (fun c2 => ?_)
  have nc2 := Nz c2
  refine Wp.seq <| reg <| mv0 rfl <| asg0 rfl <| done ?_
  refine Wp.ret ?_
  refine Ends.ret (.cons (.tmp rfl (Fz.pure rfl)) <|  .nil) ?_
  exact f_idxR_k1
  have nc2 := Nz c2
  refine Wp.skip <| reg <| ar0 rfl (wrapI Bd) <| mv0 rfl <| done ?_
  refine ⟨x + 1, ⟨by omega, by rw [hx2, idxS_drop (by omega), if_neg (by simp_all)]; rfl⟩, by omega, Rp, Rp, rfl⟩
  have nc1 := Nz c1
  refine Wp.exit <| Wp.seq <| reg <| asg0 rfl <| done ?_
  refine Wp.ret ?_
  refine Ends.ret (.cons (.tmp rfl (Fz.pure rfl)) <|  .nil) ?_
  exact f_idxR_k1

theorem f_containsR_k1 {p : Prop} (h : p := by
    exact congrArg D.bool (idxS_ge (by omega)).symm) : p := h
set_option maxRecDepth 20000 in
theorem f_containsR {p : Int → Bool} {l : List Int} {q : FuncId} {cs : List D} (hp : ∀ r, FnP PP q (.int .i32 r :: cs) (.bool (p r))) (hcs : D.pureL cs = true) : FnP PP 129 [rl l, .fn q cs] (.bool (l.any p)) := by
  refine FnP.of_body Tryz.func129 rfl (by kernel_rfl) rfl ?_
  refine Wp.seq <| reg <| asg0 rfl <| done ?_
  refine Wp.seq <| reg <| mv0 rfl <| mv0 rfl <| clw rfl rfl (f_idxR hp hcs) (by simp [D.pureL, D.pureB, hcs]) rfl .none ?_
  refine cmp0 rfl <| asg0 rfl <| done ?_
  refine Wp.ret ?_
  refine Ends.ret (.cons (.tmp rfl (Fz.pure rfl)) <|  .nil) ?_
  exact f_containsR_k1

theorem f_line_k1 {p : Prop} (h : p := by
    refine congrArg D.bool ?_; simp only [oneS, any_signs]; simp_all <;> omega) : p := h
set_option maxRecDepth 20000 in
theorem f_line {l : List Int} : FnP PP 85 [rl l] (.bool (oneS l)) := by
  refine FnP.of_body Tryz.func85 rfl (by kernel_rfl) rfl ?_
  refine Wp.seq <| reg <| asg0 rfl <| done ?_
  refine Wp.seq <| reg <| asg0 rfl <| done ?_
  refine Wp.seq <| reg <| mv0 rfl ?_
  first | refine lnM0 rfl ?_ | refine lns0 rfl ?_ | refine ln0 rfl ?_
  refine cmp0 rfl <| mv0 rfl ?_
  refine bcase 7 rfl (fun h7 => ?_) (fun h7 => ?_)
  have nh7 := Nz h7
  refine mv1 rfl h7 rfl ?_
  first | refine lnM1 rfl h7 rfl ?_ | refine lns1 rfl h7 rfl ?_ | refine ln1 rfl h7 rfl ?_
  refine cmp1 rfl h7 rfl <| pkt0 rfl h7 <| mv0 rfl ?_
  refine bcase 12 rfl (fun h12 => ?_) (fun h12 => ?_)
  have nh12 := Nz h12
  refine mv1 rfl h12 rfl <| mv1 rfl h12 rfl ?_
  refine clw1 rfl h12 rfl (f_containsR (fun _ => f_line1) rfl) rfl ?_
  refine nt1 rfl h12 rfl <| pkt0 rfl h12 <| asg0 rfl <| done ?_
  refine Wp.ret ?_
  refine Ends.ret (.cons (.tmp rfl (Fz.pure rfl)) <|  .nil) ?_
  exact f_line_k1
  have nh12 := Nz h12
  refine sk0 rfl h12 <| sk0 rfl h12 <| sk0 rfl h12 <| sk0 rfl h12 <| pkf0 rfl h12 <| asg0 rfl <| done ?_
  refine Wp.ret ?_
  refine Ends.ret (.cons (.tmp rfl (Fz.pure rfl)) <|  .nil) ?_
  exact f_line_k1
  have nh7 := Nz h7
  refine sk0 rfl h7 <| sk0 rfl h7 <| sk0 rfl h7 <| pkf0 rfl h7 <| mv0 rfl <| sk0 rfl rfl <| sk0 rfl rfl <| sk0 rfl rfl <| sk0 rfl rfl <| pkf0 rfl rfl <| asg0 rfl <| done ?_
  refine Wp.ret ?_
  refine Ends.ret (.cons (.tmp rfl (Fz.pure rfl)) <|  .nil) ?_
  exact f_line_k1

theorem f_pastIs_k1 {p : Prop} (h : p := by
    first | (refine congrArg D.bool ?_; simp only [pastIs]; simp_all; done) | (refine congrArg D.bool ?_; simp only [pastIs]; rw [hx2, all_drop (by omega)]; simp_all; done) | (refine congrArg D.bool ?_; simp only [pastIs]; rw [hx2, drop_end (by omega)]; simp_all <;> omega) | (refine congrArg D.bool ?_; simp only [pastIs]; simp_all <;> omega)) : p := h
set_option maxRecDepth 20000 in
theorem f_pastIs {room dup : Int} {k : List (List Int)} : FnP PP 45 [.agg [.int .i64 room, .int .i64 dup, rlL k]] (.bool (pastIs ⟨room, dup, k⟩)) := by
  refine FnP.of_body Tryz.func45 rfl (by kernel_rfl) rfl ?_
  refine Wp.bound 0 rfl (fun hb0 => ?_)
  simp only [D.bd, D.bdL, List.length_map, and_true] at hb0
  refine Wp.seq <| reg <| bx0 65 rfl ?_
  refine asg0 rfl <| done ?_
  refine Wp.seq <| Wp.seq <| reg <| faA0 rfl ?_
  refine ldA0 rfl ?_
  refine faA0 rfl ?_
  refine ldA0 rfl ?_
  refine clw0 rfl f_pastNew rfl ?_
  refine mv0 rfl <| xt0 rfl <| xt0 rfl <| al0 67 rfl ?_
  refine stw0 rfl ?_
  refine asg0 rfl <| done ?_
  refine Wp.seq <| reg ?_
  have hok := pastNew_ok room dup
  refine mv0 rfl <| cmp0 rfl <| mv0 rfl ?_
  refine bcase 17 rfl (fun h17 => ?_) (fun h17 => ?_)
  have nh17 := Nz h17
  refine sk0 rfl h17 <| sk0 rfl h17 <| sk0 rfl h17 <| sk0 rfl h17 <| sk0 rfl h17 <| sk0 rfl h17 <| pkt0 rfl h17 <| done ?_
  refine Wp.condT rfl rfl <| Wp.seq <| reg <| asg0 rfl <| done ?_
  refine Wp.ret ?_
  refine Ends.ret (.cons (.tmp rfl (Fz.pure rfl)) <|  .nil) ?_
  exact f_pastIs_k1
  have nh17 := Nz h17
  refine faA1 rfl h17 rfl ?_
  refine ldA1 rfl h17 rfl ?_
  first | refine lnM1 rfl h17 rfl ?_ | refine lns1 rfl h17 rfl ?_ | refine ln1 rfl h17 rfl ?_
  refine faA1 rfl h17 rfl ?_
  refine ldA1 rfl h17 rfl ?_
  refine cmp1 rfl h17 rfl <| pkf0 rfl h17 <| done ?_
  refine Wp.cond rfl (fun c1 => ?_) (fun c1 => ?_)
  have nc1 := Nz c1
  refine Wp.seq <| reg <| asg0 rfl <| done ?_
  refine Wp.ret ?_
  refine Ends.ret (.cons (.tmp rfl (Fz.pure rfl)) <|  .nil) ?_
  exact f_pastIs_k1
  have nc1 := Nz c1
  refine Wp.skip <| Wp.seq <| Wp.seq <| reg <| faA0 rfl ?_
  refine ldA0 rfl ?_
  first | refine lnM0 rfl ?_ | refine lns0 rfl ?_ | refine ln0 rfl ?_
  refine mv0 rfl <| done ?_
  refine Wp.block ?_
  refine Wp.loopK (α := Nat) [26, 27] [] (fun x tl => (28, .int .i64 x) :: tl) (fun x tl => tl) (fun x => x ≤ k.length ∧ k.all oneS = (k.drop x).all oneS) (fun x => k.length - x) (0) rfl rfl (⟨by omega, rfl⟩) (Rp) (Rp) ?_
  intro x hx
  obtain ⟨hx1, hx2⟩ := hx
  refine Wp.seq <| reg <| cmp0 rfl <| done ?_
  refine Wp.seq ?_
  refine Wp.cond rfl (fun c2 => ?_) (fun c2 => ?_)
  have nc2 := Nz c2
  refine Wp.skip <| Wp.seq <| Wp.block <| Wp.seq <| reg <| iaE0 (x) Bd rfl Eq' ?_
  refine ldA0 rfl ?_
  refine asg0 rfl <| done ?_
  refine Wp.seq <| reg <| mv0 rfl <| clw0 rfl f_line rfl ?_
  refine nt0 rfl <| done ?_
  refine Wp.cond rfl (fun c3 => ?_) (fun c3 => ?_)
  have nc3 := Nz c3
  refine Wp.seq <| reg <| asg0 rfl <| done ?_
  refine Wp.ret ?_
  refine Ends.ret (.cons (.tmp rfl (Fz.pure rfl)) <|  .nil) ?_
  exact f_pastIs_k1
  have nc3 := Nz c3
  refine Wp.skip <| reg <| ar0 rfl (wrapI Bd) <| mv0 rfl <| done ?_
  refine ⟨x + 1, ⟨by omega, by rw [hx2, all_drop (by omega)]; simp_all⟩, by omega, Rp, Rp, rfl⟩
  have nc2 := Nz c2
  refine Wp.exit <| Wp.seq <| reg <| asg0 rfl <| done ?_
  refine Wp.ret ?_
  refine Ends.ret (.cons (.tmp rfl (Fz.pure rfl)) <|  .nil) ?_
  exact f_pastIs_k1

theorem f_pastGet_k1 {p : Prop} (h : p := by
    show _ = _; unfold getRD pastGet; (repeat' split) <;> first | rfl | (exfalso; omega) | (exfalso; simp_all; done) | (exfalso; simp_all <;> omega)) : p := h
set_option maxRecDepth 20000 in
theorem f_pastGet {room dup : Int} {k : List (List Int)} {i : Int} : FnP PP 86 [.agg [.int .i64 room, .int .i64 dup, rlL k], .int .i64 i] (getRD (pastGet ⟨room, dup, k⟩ i)) := by
  refine FnP.of_body Tryz.func86 rfl (by kernel_rfl) rfl ?_
  refine Wp.seq <| reg <| bx0 66 rfl ?_
  refine asg0 rfl <| asg0 rfl <| done ?_
  refine Wp.seq <| Wp.block <| Wp.seq <| reg <| ldA0 rfl ?_
  refine clw0 rfl f_pastIs rfl ?_
  refine nt0 rfl <| asg0 rfl <| done ?_
  refine Wp.cond rfl (fun c1 => ?_) (fun c1 => ?_)
  have nc1 := Nz c1
  refine Wp.seq <| reg <| asg0 rfl <| asg0 rfl <| done ?_
  refine Wp.ret ?_
  refine Ends.ret (.cons (.tmp rfl (Fz.wk rfl)) <| .cons (.tmp rfl (Fz.pure rfl)) <|  .nil) ?_
  exact f_pastGet_k1
  have nc1 := Nz c1
  refine Wp.seq <| reg <| mv0 rfl <| cmp0 rfl <| mv0 rfl ?_
  refine bcase 13 rfl (fun h13 => ?_) (fun h13 => ?_)
  have nh13 := Nz h13
  refine sk0 rfl h13 <| sk0 rfl h13 <| sk0 rfl h13 <| sk0 rfl h13 <| sk0 rfl h13 <| pkt0 rfl h13 <| asg0 rfl <| done ?_
  refine Wp.condT rfl rfl <| Wp.seq <| reg <| asg0 rfl <| asg0 rfl <| done ?_
  refine Wp.ret ?_
  refine Ends.ret (.cons (.tmp rfl (Fz.wk rfl)) <| .cons (.tmp rfl (Fz.pure rfl)) <|  .nil) ?_
  exact f_pastGet_k1
  have nh13 := Nz h13
  refine mv1 rfl h13 rfl <| faA1 rfl h13 rfl ?_
  refine ldA1 rfl h13 rfl ?_
  first | refine lnM1 rfl h13 rfl ?_ | refine lns1 rfl h13 rfl ?_ | refine ln1 rfl h13 rfl ?_
  refine cmp1 rfl h13 rfl <| pkf0 rfl h13 <| asg0 rfl <| done ?_
  refine Wp.cond rfl (fun c2 => ?_) (fun c2 => ?_)
  have nc2 := Nz c2
  refine Wp.seq <| reg <| asg0 rfl <| asg0 rfl <| done ?_
  refine Wp.ret ?_
  refine Ends.ret (.cons (.tmp rfl (Fz.wk rfl)) <| .cons (.tmp rfl (Fz.pure rfl)) <|  .nil) ?_
  exact f_pastGet_k1
  have nc2 := Nz c2
  refine Wp.skip <| Wp.seq <| reg <| faA0 rfl ?_
  refine ldA0 rfl ?_
  refine mv0 rfl <| iaD ([]) (i.toNat) Bd rfl rfl Eq' rfl .none ?_
  refine ldA0 rfl ?_
  refine asg0 rfl <| asg0 rfl <| done ?_
  refine Wp.ret ?_
  refine Ends.ret (.cons (.tmp rfl (Fz.wk rfl)) <| .cons (.tmp rfl (Fz.pure rfl)) <|  .nil) ?_
  exact f_pastGet_k1

set_option maxRecDepth 20000 in
theorem f_add1 {r l : List Int} : FnP PP 142 [rl r, .pp [rl l]] (.bool ((fun r => decide (r = l)) r)) := by
  refine FnP.of_body Tryz.func142 rfl (by kernel_rfl) rfl ?_
  refine Wp.seq <| reg <| asg0 rfl <| done ?_
  refine Wp.seq <| reg <| mv0 rfl <| ldA0 rfl ?_
  refine clw0 rfl f_equal rfl ?_
  refine asg0 rfl <| done ?_
  refine Wp.ret ?_
  refine Ends.ret (.cons (.tmp rfl (Fz.pure rfl)) <|  .nil) ?_
  rfl

theorem f_idxL_k1 {p : Prop} (h : p := by
    first | (refine congrArg (D.int .i64) ?_; rw [hx2, idxS_drop (by omega), if_pos (by have := nc2; simp_all [List.getD])]; done) | (refine congrArg (D.int .i64) ?_; rw [hx2, drop_end (by omega)]; rfl)) : p := h
set_option maxRecDepth 20000 in
theorem f_idxL {p : List Int → Bool} {k : List (List Int)} {n : Nat} {q : FuncId} {cs : List D} (hp : ∀ r, FnP PP q (rl r :: cs) (.bool (p r))) (hcs : D.pureL cs = true) (hn : n = k.length) (hs : k.length ≤ 1000000) : FnG PP 175 [.sl 0 0 n, .fn q cs] [(0, .buf 1 (k.map rowC))] (.int .i64 (idxS p k 0)) [(0, .buf 1 (k.map rowC))] [0] := by
  refine FnG.of_body 1 Tryz.func175 rfl (by kernel_rfl) rfl rfl rfl ?_
  refine Wp.seq <| reg <| asg0 rfl <| done ?_
  refine Wp.seq <| Wp.seq <| reg <| mv0 rfl ?_
  first | refine lnM0 rfl ?_ | refine lns0 rfl ?_ | refine ln0 rfl ?_
  refine mv0 rfl <| done ?_
  refine Wp.block ?_
  refine Wp.loopK (α := Nat) [0, 1, 7] [0] (fun x tl => (8, .int .i64 x) :: tl) (fun x tl => tl) (fun x => x ≤ k.length ∧ idxS p k 0 = idxS p (k.drop x) x) (fun x => k.length - x) (0) rfl rfl (⟨by omega, rfl⟩) (Rp) (Rp) ?_
  intro x hx
  obtain ⟨hx1, hx2⟩ := hx
  refine Wp.seq <| reg <| cmp0 rfl <| done ?_
  refine Wp.seq ?_
  refine Wp.cond rfl (fun c1 => ?_) (fun c1 => ?_)
  have nc1 := Nz c1
  refine Wp.skip <| Wp.seq <| Wp.block <| Wp.seq <| reg <| mv0 rfl <| asg0 rfl <| done ?_
  refine Wp.seq <| reg <| mv0 rfl <| mv0 rfl <| mv0 rfl <| iaO0 (x) Bd rfl rfl rfl Eq' rfl .none ?_
  refine ldbD ([]) Bd rfl rfl rfl rfl rfl .none ?_
  refine cl rfl rfl (hp _) (by simp [D.pureL, D.pureB, hcs]) rfl .none ?_
  refine done ?_
  refine Wp.cond rfl (fun c2 => ?_) (fun c2 => ?_)
  have nc2 := Nz c2
  refine Wp.seq <| reg <| mv0 rfl <| asg0 rfl <| done ?_
  refine Wp.ret ?_
  refine EndsG.buf (.inr rfl) (.cons (.tmp rfl FzG.same) <|  .nil) ?_ rfl
  exact f_idxL_k1
  have nc2 := Nz c2
  refine Wp.skip <| reg <| ar0 rfl (wrapI Bd) <| mv0 rfl <| done ?_
  refine ⟨x + 1, ⟨by omega, by rw [hx2, idxS_drop (by omega), if_neg (by have := nc2; simp_all [List.getD])]; rfl⟩, by omega, Rp, Rp, rfl⟩
  have nc1 := Nz c1
  refine Wp.exit <| Wp.seq <| reg <| asg0 rfl <| done ?_
  refine Wp.ret ?_
  refine EndsG.buf (.inr rfl) (.cons (.tmp rfl FzG.same) <|  .nil) ?_ rfl
  exact f_idxL_k1

theorem f_stands_k1 {p : Prop} (h : p := by
    refine congrArg D.bool ?_; unfold standsS; simp_all <;> omega) : p := h
set_option maxRecDepth 20000 in
theorem f_stands {l pat : List Int} : FnP PP 130 [rl l, rl pat] (.bool (standsS l pat)) := by
  refine FnP.of_body Tryz.func130 rfl (by kernel_rfl) rfl ?_
  refine Wp.seq <| reg <| asg0 rfl <| done ?_
  refine Wp.seq <| reg <| mv0 rfl ?_
  first | refine lnM0 rfl ?_ | refine lns0 rfl ?_ | refine ln0 rfl ?_
  refine mv0 rfl ?_
  first | refine lnM0 rfl ?_ | refine lns0 rfl ?_ | refine ln0 rfl ?_
  refine cmp0 rfl <| mv0 rfl ?_
  refine bcase 10 rfl (fun h10 => ?_) (fun h10 => ?_)
  have nh10 := Nz h10
  refine mv1 rfl h10 rfl <| mv1 rfl h10 rfl ?_
  first | refine lnM1 rfl h10 rfl ?_ | refine lns1 rfl h10 rfl ?_ | refine ln1 rfl h10 rfl ?_
  refine sl2M (0) (pat.length) (l.take pat.length) rfl rfl rfl Og Og ⟨Bd, Bd⟩ (by simp) rfl (.want rfl rfl h10) ?_
  refine mv1 rfl h10 rfl <| clw1 rfl h10 rfl f_equal rfl ?_
  refine pkt0 rfl h10 <| asg0 rfl <| done ?_
  refine Wp.ret ?_
  refine Ends.ret (.cons (.tmp rfl (Fz.pure rfl)) <|  .nil) ?_
  exact f_stands_k1
  have nh10 := Nz h10
  refine sk0 rfl h10 <| sk0 rfl h10 <| sk0 rfl h10 <| sk0 rfl h10 <| sk0 rfl h10 <| sk0 rfl h10 <| pkf0 rfl h10 <| asg0 rfl <| done ?_
  refine Wp.ret ?_
  refine Ends.ret (.cons (.tmp rfl (Fz.pure rfl)) <|  .nil) ?_
  exact f_stands_k1

theorem f_place_k1 {p : Prop} (h : p := by
    first | (refine congrArg (D.int .i64) ?_; unfold placeOf; rw [if_pos (by omega)]; done) | (refine congrArg (D.int .i64) ?_; unfold placeOf; rw [if_neg (by omega), hx2, placeS_drop (by omega), if_pos (by simp_all)]; done) | (refine congrArg (D.int .i64) ?_; unfold placeOf; rw [if_neg (by omega), hx2, drop_end (by omega)]; rfl)) : p := h
set_option maxRecDepth 20000 in
theorem f_place {l pat : List Int} : FnP PP 87 [rl l, rl pat] (.int .i64 (placeOf l pat)) := by
  refine FnP.of_body Tryz.func87 rfl (by kernel_rfl) rfl ?_
  refine Wp.bound 0 rfl (fun hb0 => ?_)
  simp only [D.bd, D.bdL, List.length_map, and_true] at hb0
  refine Wp.seq <| reg <| asg0 rfl <| done ?_
  refine Wp.seq <| Wp.seq <| reg <| mv0 rfl ?_
  first | refine lnM0 rfl ?_ | refine lns0 rfl ?_ | refine ln0 rfl ?_
  refine cmp0 rfl <| done ?_
  refine Wp.cond rfl (fun c1 => ?_) (fun c1 => ?_)
  have nc1 := Nz c1
  refine Wp.seq <| reg <| asg0 rfl <| done ?_
  refine Wp.ret ?_
  refine Ends.ret (.cons (.tmp rfl (Fz.pure rfl)) <|  .nil) ?_
  exact f_place_k1
  have nc1 := Nz c1
  refine Wp.skip <| Wp.seq <| Wp.seq <| reg <| mv0 rfl ?_
  first | refine lnM0 rfl ?_ | refine lns0 rfl ?_ | refine ln0 rfl ?_
  refine mv0 rfl <| done ?_
  refine Wp.block ?_
  refine Wp.loopK (α := Nat) [0, 1, 10] [] (fun x tl => (11, .int .i64 x) :: tl) (fun x tl => tl) (fun x => x ≤ l.length ∧ placeS pat l 0 = placeS pat (l.drop x) x) (fun x => l.length - x) (0) rfl rfl (⟨by omega, rfl⟩) (Rp) (Rp) ?_
  intro x hx
  obtain ⟨hx1, hx2⟩ := hx
  refine Wp.seq <| reg <| cmp0 rfl <| done ?_
  refine Wp.seq ?_
  refine Wp.cond rfl (fun c2 => ?_) (fun c2 => ?_)
  have nc2 := Nz c2
  refine Wp.skip <| Wp.seq <| Wp.block <| Wp.seq <| reg <| mv0 rfl <| asg0 rfl <| done ?_
  refine Wp.seq <| reg <| mv0 rfl <| mv0 rfl <| sl2M (x) (l.length) (l.drop x) rfl rfl rfl Og Og ⟨Bd, Bd⟩ (by simp) rfl .none ?_
  refine mv0 rfl <| clw0 rfl f_stands rfl ?_
  refine done ?_
  refine Wp.cond rfl (fun c3 => ?_) (fun c3 => ?_)
  have nc3 := Nz c3
  refine Wp.seq <| reg <| mv0 rfl <| asg0 rfl <| done ?_
  refine Wp.ret ?_
  refine Ends.ret (.cons (.tmp rfl (Fz.pure rfl)) <|  .nil) ?_
  exact f_place_k1
  have nc3 := Nz c3
  refine Wp.skip <| reg <| ar0 rfl (wrapI Bd) <| mv0 rfl <| done ?_
  refine ⟨x + 1, ⟨by omega, by rw [hx2, placeS_drop (by omega), if_neg (by simp_all)]; rfl⟩, by omega, Rp, Rp, rfl⟩
  have nc2 := Nz c2
  refine Wp.exit <| Wp.seq <| reg <| asg0 rfl <| done ?_
  refine Wp.ret ?_
  refine Ends.ret (.cons (.tmp rfl (Fz.pure rfl)) <|  .nil) ?_
  exact f_place_k1

end Go.Proofs.YtkcdmmafkpplhaaGreat
/- Walks of layer 19: what is added to the past. -/
namespace Go.Proofs.YtkcdmmafkpplhaaGreat
open Go.Eng
def keptS (p : List Int → Bool) (k : List (List Int)) (x : Nat) : List (List Int) := (k.take x).filter fun r => !p r
def bufS (p : List Int → Bool) (k : List (List Int)) (x : Nat) : List (List Int) := keptS p k x ++ k.drop (keptS p k x).length
theorem kept_le (p : List Int → Bool) (k : List (List Int)) (x : Nat) : (keptS p k x).length ≤ x := del_len k p x
theorem bufS_len {p : List Int → Bool} {k : List (List Int)} {x : Nat} (h : x ≤ k.length) : (bufS p k x).length = k.length := by
  have := kept_le p k x
  simp only [bufS, List.length_append, List.length_drop]; omega
theorem bufS_get {p : List Int → Bool} {k : List (List Int)} {x : Nat} (h : x < k.length) : (bufS p k x).getD x [] = k[x] := by
  unfold bufS
  rw [buf_get (kept_le p k x) h]; simp [List.getD, h]
theorem kept_drop {p : List Int → Bool} {k : List (List Int)} {x : Nat} (h : x < k.length) (hp : p ((bufS p k x).getD x []) = true) : keptS p k (x + 1) = keptS p k x := by
  rw [bufS_get h] at hp
  unfold keptS
  rw [del_step h, if_pos hp, List.append_nil]
theorem kept_keep {p : List Int → Bool} {k : List (List Int)} {x : Nat} (h : x < k.length) (hp : p ((bufS p k x).getD x []) = false) : keptS p k (x + 1) = keptS p k x ++ [(bufS p k x).getD x []] := by
  rw [bufS_get h] at hp ⊢
  unfold keptS
  rw [del_step h, if_neg (by simp [hp])]
theorem bufS_set {p : List Int → Bool} {k : List (List Int)} {x : Nat} (h : x < k.length) (hp : p ((bufS p k x).getD x []) = false) : (bufS p k x).set (keptS p k x).length ((bufS p k x).getD x []) = bufS p k (x + 1) := by
  have hl := kept_le p k x
  show (keptS p k x ++ k.drop (keptS p k x).length).set _ _ = _
  rw [buf_set (by omega)]
  show _ = keptS p k (x + 1) ++ k.drop (keptS p k (x + 1)).length
  rw [kept_keep h hp]
theorem bufS_drop {p : List Int → Bool} {k : List (List Int)} {x : Nat} (h : x < k.length) (hp : p ((bufS p k x).getD x []) = true) : bufS p k x = bufS p k (x + 1) := by
  unfold bufS; rw [kept_drop h hp]
theorem del_end {p : List Int → Bool} {k : List (List Int)} {x : Nat} (h : x = k.length) : k.filter (fun r => !p r) = (bufS p k x).take (0 + (keptS p k x).length) := by
  subst h
  unfold bufS keptS
  rw [Nat.zero_add, List.take_left, List.take_length]
theorem del_first {p : List Int → Bool} {k : List (List Int)} {m : Nat} (h : m < k.length) (h3 : (k.take m).filter (fun r => !p r) = k.take m) (h4 : p (k.getD m []) = true) : keptS p k (m + 1) = k.take m := by
  unfold keptS
  rw [del_step h, if_pos (by simpa [List.getD, h] using h4), List.append_nil, h3]
theorem del_init {p : List Int → Bool} {k : List (List Int)} {m : Nat} (h : m < k.length) (h3 : (k.take m).filter (fun r => !p r) = k.take m) (h4 : p (k.getD m []) = true) : k = bufS p k (m + 1) := by
  unfold bufS
  rw [del_first h h3 h4, List.length_take, Nat.min_eq_left (by omega), List.take_append_drop]

theorem f_delete_k1 {p : Prop} (h : p := by
    first | rfl | exact congrArg (fun n => D.sl 0 0 n) (by rw [List.length_take, hbl]; omega)) : p := h
set_option maxRecDepth 20000 in
theorem f_delete {p : List Int → Bool} {k : List (List Int)} {n : Nat} {q : FuncId} {cs : List D} (hp : ∀ r, FnP PP q (rl r :: cs) (.bool (p r))) (hcs : D.pureL cs = true) (hn : n = k.length) (hs : k.length ≤ 1000000) : FnG PP 145 [.sl 0 0 n, .fn q cs] [(0, .buf 1 (k.map rowC))] (.sl 0 0 (k.filter (fun r => !p r)).length) [(0, .buf 1 ((k.filter (fun r => !p r)).map rowC))] [0] := by
  subst hn
  refine FnG.of_body 1 Tryz.func145 rfl (by kernel_rfl) rfl rfl rfl ?_
  refine Wp.seq <| reg <| asg0 rfl <| done ?_
  refine Wp.seq <| reg <| mv0 rfl <| mv0 rfl <| clB 0 rfl rfl rfl (f_idxL hp hcs rfl hs) (closed_pure rfl) rfl .none ?_
  refine asg0 rfl <| done ?_
  refine Wp.seq <| Wp.seq <| reg <| mv0 rfl <| cmp0 rfl <| done ?_
  refine Wp.cond rfl (fun c1 => ?_) (fun c1 => ?_)
  have nc1 := Nz c1
  refine Wp.seq <| reg <| mv0 rfl <| asg0 rfl <| done ?_
  rw [idx_none (p := p) (k := k) nc1]
  refine Wp.ret ?_
  refine EndsG.buf (.inr rfl) (.cons (.tmp rfl FzG.wk) <|  .nil) ?_ rfl
  exact f_delete_k1
  have nc1 := Nz c1
  refine Wp.skip <| Wp.seq <| Wp.seq <| reg ?_
  obtain ⟨m, hm1, hm2, hm3, hm4⟩ := idx_some (p := p) nc1
  refine mv0 rfl <| ar0 rfl (wrapI Bd) <| asg0 rfl <| done ?_
  refine Wp.block ?_
  refine Wp.loopK (α := Nat) [0, 1] [] (fun x tl => (5, .int .i64 ((keptS p k x).length : Nat)) :: (6, .int .i64 (x : Nat)) :: tl) (fun x tl => (0, some (.buf 1 ((bufS p k x).map rowC))) :: tl) (fun x => x ≤ k.length) (fun x => k.length - x) (m + 1) rfl rfl (by omega) (⟨congrArg (fun z : Int => some (D.int .i64 z)) (by rw [del_first hm1 hm3 hm4, List.length_take]; omega), congrArg (fun z : Int => some (D.int .i64 z)) (by rw [hm2]; push_cast; omega), Rp⟩) (⟨congrArg (fun z : List (List Int) => some (Blk.buf 1 (z.map rowC))) (del_init hm1 hm3 hm4), trivial⟩) ?_
  intro x hx
  have hx1 := hx
  refine Wp.seq <| Wp.seq <| reg ?_
  have hkl := kept_le p k x; have hbl := bufS_len (p := p) hx1
  refine mv0 rfl <| mv0 rfl ?_
  first | refine lnM0 rfl ?_ | refine lns0 rfl ?_ | refine ln0 rfl ?_
  refine cmp0 rfl <| done ?_
  refine Wp.cond rfl (fun c2 => ?_) (fun c2 => ?_)
  have nc2 := Nz c2
  refine Wp.skip <| Wp.seq <| Wp.block <| Wp.seq <| reg <| mv0 rfl <| mv0 rfl <| iaO0 (x) Bd rfl rfl rfl Eq' rfl .none ?_
  refine ldbD ([]) Bd rfl rfl rfl rfl rfl .none ?_
  refine asg0 rfl <| done ?_
  refine Wp.seq <| reg <| mv0 rfl <| mv0 rfl <| cl rfl rfl (hp _) (by simp [D.pureL, D.pureB, hcs]) rfl .none ?_
  refine nt0 rfl <| done ?_
  refine Wp.cond rfl (fun c3 => ?_) (fun c3 => ?_)
  have nc3 := Nz c3
  refine Wp.seq <| reg <| mv0 rfl <| mv0 rfl <| mv0 rfl <| iaO0 ((keptS p k x).length) Bd rfl rfl rfl Eq' rfl .none ?_
  refine stb ((bufS p k x).getD x []) Bd rfl rfl rfl rfl rfl rfl .none ?_
  refine done ?_
  refine reg <| mv0 rfl <| ar0 rfl (wrapI Bd) <| asg0 rfl <| done ?_
  refine reg <| mv0 rfl <| ar0 rfl (wrapI Bd) <| asg0 rfl <| done ?_
  first | exact ⟨x + 1, by omega, by omega, ⟨congrArg (fun z : Int => some (D.int .i64 z)) (by rw [kept_keep (by omega) nc3, List.length_append]; simp), rfl, Rp⟩, ⟨congrArg (fun z : List (List Int) => some (Blk.buf 1 (z.map rowC))) (bufS_set (by omega) nc3), trivial⟩, rfl⟩ | exact ⟨x + 1, by omega, by omega, ⟨congrArg (fun z : Int => some (D.int .i64 z)) (by rw [kept_drop (by omega) nc3]), rfl, Rp⟩, ⟨congrArg (fun z : List (List Int) => some (Blk.buf 1 (z.map rowC))) (bufS_drop (by omega) nc3), trivial⟩, rfl⟩
  have nc3 := Nz c3
  refine Wp.skip <| reg <| mv0 rfl <| ar0 rfl (wrapI Bd) <| asg0 rfl <| done ?_
  first | exact ⟨x + 1, by omega, by omega, ⟨congrArg (fun z : Int => some (D.int .i64 z)) (by rw [kept_keep (by omega) nc3, List.length_append]; simp), rfl, Rp⟩, ⟨congrArg (fun z : List (List Int) => some (Blk.buf 1 (z.map rowC))) (bufS_set (by omega) nc3), trivial⟩, rfl⟩ | exact ⟨x + 1, by omega, by omega, ⟨congrArg (fun z : Int => some (D.int .i64 z)) (by rw [kept_drop (by omega) nc3]), rfl, Rp⟩, ⟨congrArg (fun z : List (List Int) => some (Blk.buf 1 (z.map rowC))) (bufS_drop (by omega) nc3), trivial⟩, rfl⟩
  have nc2 := Nz c2
  refine Wp.exit <| Wp.seq <| reg <| mv0 rfl <| mv0 rfl <| slo ((keptS p k x).length) (k.length) rfl rfl rfl rfl Og Og ⟨Bd, Bd⟩ rfl rfl rfl .none ?_
  refine clr rfl rfl .none ?_
  refine done ?_
  refine Wp.seq <| reg <| mv0 rfl <| mv0 rfl <| slo (0) ((keptS p k x).length) rfl rfl rfl rfl Og Og ⟨Bd, Bd⟩ rfl rfl rfl .none ?_
  refine asg0 rfl <| done ?_
  have hx : x = k.length := by omega
  rw [del_end (p := p) hx]
  refine Wp.ret ?_
  refine EndsG.buf (.inr rfl) (.cons (.tmp rfl FzG.wk) <|  .nil) ?_ rfl
  exact f_delete_k1

theorem f_pastAdd_k1 {p : Prop} (h : p := by
    show _ = _; unfold pastAdd; (repeat' split) <;> first | rfl | (exfalso; omega) | (exfalso; simp_all [lastL]; done) | (exfalso; simp_all [lastL] <;> omega) | (exact absurd (by assumption) hx3) | (rw [hx1, if_pos (by assumption)]; rfl) | (rw [hx1, if_neg (by assumption)]; rfl)) : p := h
set_option maxRecDepth 20000 in
theorem f_pastAdd {room dup : Int} {k : List (List Int)} {l : List Int} : FnP PP 94 [.agg [.int .i64 room, .int .i64 dup, rlL k], rl l] (pastD (pastAdd ⟨room, dup, k⟩ l)) := by
  refine FnP.of_body Tryz.func94 rfl (by kernel_rfl) rfl ?_
  refine Wp.bound 0 rfl (fun hb0 => ?_)
  simp only [D.bd, D.bdL, List.length_map, and_true] at hb0
  refine Wp.bound 1 rfl (fun hb1 => ?_)
  simp only [D.bd, D.bdL, List.length_map, and_true] at hb1
  refine Wp.seq <| reg <| bx0 66 rfl ?_
  refine bx0 67 rfl ?_
  refine al0 68 rfl ?_
  refine done ?_
  refine Wp.seq <| Wp.seq <| reg <| ldA0 rfl ?_
  refine clw0 rfl f_pastIs rfl ?_
  refine nt0 rfl <| mv0 rfl ?_
  refine bcase 11 rfl (fun h11 => ?_) (fun h11 => ?_)
  have nh11 := Nz h11
  refine sk0 rfl h11 <| sk0 rfl h11 <| sk0 rfl h11 <| pkt0 rfl h11 <| done ?_
  refine Wp.condT rfl rfl <| Wp.seq <| reg <| ldA0 rfl ?_
  refine stw0 rfl ?_
  refine done ?_
  refine Wp.ret ?_
  refine Ends.ret (.cons (.cell rfl rfl rfl (Nat.le_of_ble_eq_true rfl) (Fz.wk rfl)) <|  .nil) ?_
  exact f_pastAdd_k1
  have nh11 := Nz h11
  refine ldA1 rfl h11 rfl ?_
  refine clw1 rfl h11 rfl f_line rfl ?_
  refine nt1 rfl h11 rfl <| pkf0 rfl h11 <| done ?_
  refine Wp.cond rfl (fun c1 => ?_) (fun c1 => ?_)
  have nc1 := Nz c1
  refine Wp.seq <| reg <| ldA0 rfl ?_
  refine stw0 rfl ?_
  refine done ?_
  refine Wp.ret ?_
  refine Ends.ret (.cons (.cell rfl rfl rfl (Nat.le_of_ble_eq_true rfl) (Fz.wk rfl)) <|  .nil) ?_
  exact f_pastAdd_k1
  have nc1 := Nz c1
  refine Wp.skip <| Wp.seq <| reg ?_
  have hk := pastIs_len (room := room) (dup := dup) (k := k) (by simp_all)
  refine faA0 rfl ?_
  refine ldA0 rfl ?_
  first | refine lnM0 rfl ?_ | refine lns0 rfl ?_ | refine ln0 rfl ?_
  refine asg0 rfl <| done ?_
  refine Wp.freezeC 67 [3] [2, 4, 5] rfl rfl rfl rfl ?_
  refine Wp.seq <| reg <| mkf0 rfl ?_
  refine asg0 rfl <| done ?_
  refine Wp.seq <| reg <| faA0 rfl ?_
  refine ldA0 rfl ?_
  refine clo 0 rfl rfl (f_cloneL Dis) rfl rfl .none ?_
  refine asg0 rfl <| done ?_
  refine Wp.cutK (α := List (List Int)) [2, 3, 4, 5] [66, 68] (fun x tl => (7, .sl 0 0 x.length) :: tl) (fun x tl => (0, some (.buf 1 (x.map rowC))) :: tl) (fun x => x = (if dup = 2 then delS k l else k) ∧ x.length ≤ 16 ∧ ¬ (dup = 1 ∧ 0 < k.length ∧ lastL k = l)) rfl rfl ?_ ?_
  refine Wp.block <| Wp.seq <| reg <| faA0 rfl ?_
  refine ldA0 rfl ?_
  refine cmp0 rfl <| mv0 rfl ?_
  refine bcase 28 rfl (fun h28 => ?_) (fun h28 => ?_)
  have nh28 := Nz h28
  refine mv1 rfl h28 rfl <| cmp1 rfl h28 rfl <| pkt0 rfl h28 <| mv0 rfl ?_
  refine bcase 32 rfl (fun h32 => ?_) (fun h32 => ?_)
  have nh32 := Nz h32
  refine mv1 rfl h32 rfl <| faA1 rfl h32 rfl ?_
  refine ldA1 rfl h32 rfl ?_
  refine mv1 rfl h32 rfl <| ar1 rfl h32 rfl (wrapI Bd) <| iaD ([]) (k.length - 1) Bd rfl rfl Eq' rfl (.want rfl rfl h32) ?_
  refine ldA1 rfl h32 rfl ?_
  refine clw1 rfl h32 rfl f_add1 rfl ?_
  refine pkt0 rfl h32 <| asg0 rfl <| done ?_
  refine Wp.cond rfl (fun c2 => ?_) (fun c2 => ?_)
  have nc2 := Nz c2
  refine Wp.seq <| reg <| ldA0 rfl ?_
  refine stw0 rfl ?_
  refine done ?_
  refine Wp.ret ?_
  refine Ends.ret (.cons (.cell rfl rfl rfl (Nat.le_of_ble_eq_true rfl) (Fz.wk rfl)) <|  .nil) ?_
  exact f_pastAdd_k1
  have nc2 := Nz c2
  refine Wp.seq <| reg <| faA0 rfl ?_
  refine ldA0 rfl ?_
  refine cmp0 rfl <| asg0 rfl <| done ?_
  refine Wp.cond rfl (fun c3 => ?_) (fun c3 => ?_)
  have nc3 := Nz c3
  refine reg <| mv0 rfl <| mv0 rfl ?_
  refine clB 0 rfl rfl rfl (f_delete (p := fun r => decide (r = l)) (fun _ => f_add1) rfl rfl (by omega)) closed_sl rfl .none ?_
  refine asg0 rfl <| done ?_
  have hd := List.length_filter_le (fun x => !decide (x = l)) k; first | exact ⟨delS k l, ⟨by rw [if_pos (by omega)], by simp only [delS]; omega, (by intro hh; have h1 := hh.1; have h2 := hh.2.1; have h3 := hh.2.2; simp only [lastL] at h3; first | omega | exact absurd h3 (by assumption))⟩, Rp, Rp, rfl⟩ | exact ⟨k, ⟨by rw [if_neg (by omega)], by omega, (by intro hh; have h1 := hh.1; have h2 := hh.2.1; have h3 := hh.2.2; simp only [lastL] at h3; first | omega | exact absurd h3 (by assumption))⟩, Rp, Rp, rfl⟩
  have nc3 := Nz c3
  refine Wp.skip ?_
  have hd := List.length_filter_le (fun x => !decide (x = l)) k; first | exact ⟨delS k l, ⟨by rw [if_pos (by omega)], by simp only [delS]; omega, (by intro hh; have h1 := hh.1; have h2 := hh.2.1; have h3 := hh.2.2; simp only [lastL] at h3; first | omega | exact absurd h3 (by assumption))⟩, Rp, Rp, rfl⟩ | exact ⟨k, ⟨by rw [if_neg (by omega)], by omega, (by intro hh; have h1 := hh.1; have h2 := hh.2.1; have h3 := hh.2.2; simp only [lastL] at h3; first | omega | exact absurd h3 (by assumption))⟩, Rp, Rp, rfl⟩
  have nh32 := Nz h32
  refine sk0 rfl h32 <| sk0 rfl h32 <| sk0 rfl h32 <| sk0 rfl h32 <| sk0 rfl h32 <| sk0 rfl h32 <| sk0 rfl h32 <| sk0 rfl h32 <| pkf0 rfl h32 <| asg0 rfl <| done ?_
  refine Wp.condF rfl rfl <| Wp.seq <| reg <| faA0 rfl ?_
  refine ldA0 rfl ?_
  refine cmp0 rfl <| asg0 rfl <| done ?_
  refine Wp.cond rfl (fun c4 => ?_) (fun c4 => ?_)
  have nc4 := Nz c4
  refine reg <| mv0 rfl <| mv0 rfl ?_
  refine clB 0 rfl rfl rfl (f_delete (p := fun r => decide (r = l)) (fun _ => f_add1) rfl rfl (by omega)) closed_sl rfl .none ?_
  refine asg0 rfl <| done ?_
  have hd := List.length_filter_le (fun x => !decide (x = l)) k; first | exact ⟨delS k l, ⟨by rw [if_pos (by omega)], by simp only [delS]; omega, (by intro hh; have h1 := hh.1; have h2 := hh.2.1; have h3 := hh.2.2; simp only [lastL] at h3; first | omega | exact absurd h3 (by assumption))⟩, Rp, Rp, rfl⟩ | exact ⟨k, ⟨by rw [if_neg (by omega)], by omega, (by intro hh; have h1 := hh.1; have h2 := hh.2.1; have h3 := hh.2.2; simp only [lastL] at h3; first | omega | exact absurd h3 (by assumption))⟩, Rp, Rp, rfl⟩
  have nc4 := Nz c4
  refine Wp.skip ?_
  have hd := List.length_filter_le (fun x => !decide (x = l)) k; first | exact ⟨delS k l, ⟨by rw [if_pos (by omega)], by simp only [delS]; omega, (by intro hh; have h1 := hh.1; have h2 := hh.2.1; have h3 := hh.2.2; simp only [lastL] at h3; first | omega | exact absurd h3 (by assumption))⟩, Rp, Rp, rfl⟩ | exact ⟨k, ⟨by rw [if_neg (by omega)], by omega, (by intro hh; have h1 := hh.1; have h2 := hh.2.1; have h3 := hh.2.2; simp only [lastL] at h3; first | omega | exact absurd h3 (by assumption))⟩, Rp, Rp, rfl⟩
  have nh28 := Nz h28
  refine sk0 rfl h28 <| sk0 rfl h28 <| pkf0 rfl h28 <| mv0 rfl <| sk0 rfl rfl <| sk0 rfl rfl <| sk0 rfl rfl <| sk0 rfl rfl <| sk0 rfl rfl <| sk0 rfl rfl <| sk0 rfl rfl <| sk0 rfl rfl <| pkf0 rfl rfl <| asg0 rfl <| done ?_
  refine Wp.condF rfl rfl <| Wp.seq <| reg <| faA0 rfl ?_
  refine ldA0 rfl ?_
  refine cmp0 rfl <| asg0 rfl <| done ?_
  refine Wp.cond rfl (fun c5 => ?_) (fun c5 => ?_)
  have nc5 := Nz c5
  refine reg <| mv0 rfl <| mv0 rfl ?_
  refine clB 0 rfl rfl rfl (f_delete (p := fun r => decide (r = l)) (fun _ => f_add1) rfl rfl (by omega)) closed_sl rfl .none ?_
  refine asg0 rfl <| done ?_
  have hd := List.length_filter_le (fun x => !decide (x = l)) k; first | exact ⟨delS k l, ⟨by rw [if_pos (by omega)], by simp only [delS]; omega, (by intro hh; have h1 := hh.1; have h2 := hh.2.1; have h3 := hh.2.2; simp only [lastL] at h3; first | omega | exact absurd h3 (by assumption))⟩, Rp, Rp, rfl⟩ | exact ⟨k, ⟨by rw [if_neg (by omega)], by omega, (by intro hh; have h1 := hh.1; have h2 := hh.2.1; have h3 := hh.2.2; simp only [lastL] at h3; first | omega | exact absurd h3 (by assumption))⟩, Rp, Rp, rfl⟩
  have nc5 := Nz c5
  refine Wp.skip ?_
  have hd := List.length_filter_le (fun x => !decide (x = l)) k; first | exact ⟨delS k l, ⟨by rw [if_pos (by omega)], by simp only [delS]; omega, (by intro hh; have h1 := hh.1; have h2 := hh.2.1; have h3 := hh.2.2; simp only [lastL] at h3; first | omega | exact absurd h3 (by assumption))⟩, Rp, Rp, rfl⟩ | exact ⟨k, ⟨by rw [if_neg (by omega)], by omega, (by intro hh; have h1 := hh.1; have h2 := hh.2.1; have h3 := hh.2.2; simp only [lastL] at h3; first | omega | exact absurd h3 (by assumption))⟩, Rp, Rp, rfl⟩
  intro x hx
  obtain ⟨hx1, hx2, hx3⟩ := hx
  refine Wp.seq <| reg <| mv0 rfl <| ldA0 rfl ?_
  refine bsM0 rowC [l] rfl ?_
  refine apoF 1531 rfl rfl Bd rfl Bd rfl rfl rfl .none ?_
  refine asg0 rfl <| done ?_
  refine Wp.seq <| regd mixed ?_
  refine faA0 rfl ?_
  refine ldA0 rfl ?_
  refine faA0 rfl ?_
  refine ldA0 rfl ?_
  refine mv0 rfl <| mv0 rfl ?_
  first | refine lnM0 rfl ?_ | refine lns0 rfl ?_ | refine ln0 rfl ?_
  refine faA0 rfl ?_
  refine ldA0 rfl ?_
  refine ar0 rfl (wrapI Bd) <| mx0 rfl ?_
  refine sl2M ((x ++ [l]).length - room.toNat) ((x ++ [l]).length) ((x ++ [l]).drop ((x ++ [l]).length - room.toNat)) rfl rfl rfl Og Og ⟨Bd, Bd⟩ (by rw [List.take_length]) rfl .none ?_
  refine bdw0 rfl ?_
  refine stw0 rfl ?_
  refine done ⟨by kernel_rfl, by kernel_rfl, ?_⟩
  refine Wp.ret ?_
  refine Ends.ret (.cons (.cell rfl rfl rfl (Nat.le_of_ble_eq_true rfl) (Fz.wk rfl)) <|  .nil) ?_
  exact f_pastAdd_k1

end Go.Proofs.YtkcdmmafkpplhaaGreat
/- Signs turned great and small, two signs exchanged, numbers typed ahead, told in Lean. No program in sight. -/
namespace Go.Eng
open Go
-- layer 14
def upS (r : Int) : Int := if 97 ≤ r ∧ r ≤ 122 then r + -32 else r
def lowS (r : Int) : Int := if 65 ≤ r ∧ r ≤ 90 then r + 32 else r
def stepC (how : Int) (b : Bool) (r : Int) : Int := if (how = 6 ∧ (b = true ∨ inB r = false)) ∨ how = 5 then lowS r else upS r
def chgS (how : Int) : Bool → List Int → List Int
  | _, [] => []
  | b, r :: l => stepC how b r :: chgS how (inB r) l
def changeS (l : List Int) (lo hi how : Int) : List Int × Int :=
  if lo < 0 ∨ hi < lo ∨ (l.length : Int) < hi ∨ how < 4 ∨ 6 < how then ([], 1)
  else (l.take lo.toNat ++ chgS how false ((l.take hi.toNat).drop lo.toNat) ++ l.drop hi.toNat, 0)
theorem chgS_drop {how : Int} {b : Bool} {l : List Int} {x : Nat} (h : x < l.length) : chgS how b (l.drop x) = stepC how b l[x] :: chgS how (inB l[x]) (l.drop (x + 1)) := by
  rw [List.drop_eq_getElem_cons h]; rfl
theorem chgS_len {how : Int} : ∀ {b : Bool} {l : List Int}, (chgS how b l).length = l.length
  | _, [] => rfl
  | _, _ :: l => by simp [chgS, chgS_len (l := l)]
def swapAt (l : List Int) (i : Nat) : List Int := (l.set (i - 1) (l.getD i 0)).set i (l.getD (i - 1) 0)
def swapI (g : Gap) : Nat := if g.b.length = 0 then g.a.length - 1 else g.a.length
def swapS (g : Gap) : Gap × Int :=
  if gapIs g = false then (⟨[], []⟩, 1) else if g.a.length = 0 ∨ g.a.length + g.b.length < 2 then (⟨[], []⟩, 7)
  else ofS (swapAt (g.a ++ g.b) (swapI g)) (swapI g + 1 : Nat)
-- layer 15
def intR (n : Int) : List D := [.int .i64 n]
instance : Enc intR 1 := ⟨fun _ => ⟨rfl, rfl⟩⟩
structure Count where
  has : Bool
  neg : Bool
  n : Int
abbrev countD (c : Count) : D := .agg [.bool c.has, .bool c.neg, .int .i64 c.n]
def countIs (c : Count) : Bool := if c.has = false then decide (c.neg = false ∧ c.n = 0) else decide (0 ≤ c.n ∧ c.n ≤ 9999)
def digitS (c : Count) (d : Int) : Count := if countIs c = false then c else if d < 0 ∨ 9 < d then c else ⟨true, c.neg, min (10 * c.n + d) 9999⟩
def minusS (c : Count) : Count := if c.has = false ∧ c.neg = false ∧ c.n = 0 then ⟨true, true, 0⟩ else c
def valueS (c : Count) : Int := if c.has = false ∨ countIs c = false then 1 else if c.neg = true then -(max 1 c.n) else c.n
end Go.Eng

/- Walks of slices.Concat, slices.Repeat, and of layers 14 and 15. -/
namespace Go.Proofs.YtkcdmmafkpplhaaGreat
open Go.Eng
theorem and_mask {v : Int} (h : 0 ≤ v ∧ v < 4294967296) : IntKind.u64.wrap (((v % 2 ^ IntKind.u64.bits).toNat &&& ((4294967295 : Int) % 2 ^ IntKind.u64.bits).toNat : Nat) : Int) = v := by
  have h1 : ((4294967295 : Int) % 2 ^ IntKind.u64.bits).toNat = 2 ^ 32 - 1 := by decide
  have h2 : v % 2 ^ IntKind.u64.bits = v := Int.emod_eq_of_lt h.1 (Int.lt_trans h.2 (by decide))
  rw [h1, h2, Nat.and_two_pow_sub_one_eq_mod]
  have h3 : v.toNat % 2 ^ 32 = v.toNat := Nat.mod_eq_of_lt (by have : (2 : Nat) ^ 32 = 4294967296 := by decide
                                                               omega)
  rw [h3, wrapU (by omega)]; omega
theorem shr_lt {v : Int} (h : 0 ≤ v ∧ v < 4294967296) : v.fdiv (2 ^ (min (32 : Int).toNat IntKind.u64.bits)) = 0 := by
  rw [show (2 : Int) ^ (min (32 : Int).toNat IntKind.u64.bits) = 4294967296 by decide, Int.fdiv_eq_ediv_of_nonneg _ (by decide)]
  exact Int.ediv_eq_zero_of_lt h.1 h.2
theorem flat_take {ls : List (List Int)} {x : Nat} (h : x < ls.length) : (ls.take (x + 1)).flatten = (ls.take x).flatten ++ ls.getD x [] := by
  rw [List.take_succ_eq_append_getElem h, List.flatten_append]; simp [List.getD, h]
theorem flat_le (ls : List (List Int)) (x : Nat) : (ls.take x).flatten.length ≤ ls.flatten.length := by
  conv => rhs; rw [← List.take_append_drop x ls]
  rw [List.flatten_append, List.length_append]; omega
theorem rep_copy {r : Int} {x n : Nat} (h1 : 1 ≤ x) (h2 : x < n) : ((List.replicate x r ++ List.replicate (n - x) 0).take (0 + x)) ++ ((List.replicate x r ++ List.replicate (n - x) 0).drop (0 + 0)).take (min x (n - x)) ++ (List.replicate x r ++ List.replicate (n - x) 0).drop (0 + x + min x (n - x)) = List.replicate (x + min x (n - x)) r ++ List.replicate (n - (x + min x (n - x))) 0 := by
  rw [Nat.zero_add, Nat.zero_add, List.drop_zero, List.take_append_of_le_length (by simp), List.take_of_length_le (by simp), List.take_append_of_le_length (by simp; omega), List.take_replicate, Nat.min_eq_left (Nat.min_le_left _ _)]
  rw [← List.drop_drop, List.drop_left' (by simp), List.drop_replicate, List.replicate_append_replicate]
  congr 2; omega
theorem chg_set {l done : List Int} {lo x : Nat} {v : Int} (h : done.length = x) (h2 : lo + x < l.length) : (l.take lo ++ done ++ l.drop (lo + x)).set (lo + x) v = l.take lo ++ (done ++ [v]) ++ l.drop (lo + (x + 1)) := by
  have hl : (l.take lo ++ done).length = lo + x := by simp; omega
  rw [List.set_append_right _ _ (by omega), hl, Nat.sub_self, List.drop_eq_getElem_cons h2, List.set_cons_zero]
  simp [Nat.add_assoc]
theorem chgS_dropD {how : Int} {b : Bool} {l : List Int} {x : Nat} (h : x < l.length) : chgS how b (l.drop x) = stepC how b (l.getD x 0) :: chgS how (inB (l.getD x 0)) (l.drop (x + 1)) := by
  rw [chgS_drop h]; simp [List.getD, h]
theorem count_n {has neg : Bool} {n : Int} (h : countIs ⟨has, neg, n⟩ = true) : 0 ≤ n ∧ n ≤ 9999 := by
  unfold countIs at h
  cases has <;> simp at h <;> omega
theorem sub_get {l : List Int} {lo hi x : Nat} (h : x < ((l.take hi).drop lo).length) : ((l.take hi).drop lo)[x] = l.getD (lo + x) 0 := by
  have h' : lo + x < l.length := by simp at h; omega
  simp [List.getElem_drop, List.getElem_take, List.getD, h']

set_option maxRecDepth 20000 in
theorem f_Mul64 {n : Int} (h : 0 ≤ n ∧ n < 4294967296) : FnP PP 213 [.int .u64 1, .int .u64 n] (.tup [.int .u64 0, .int .u64 n]) := by
  refine FnP.of_body Tryz.func213 rfl (by kernel_rfl) rfl ?_
  refine Wp.seq <| reg <| asg0 rfl <| asg0 rfl <| done ?_
  refine Wp.seq <| reg <| mv0 rfl <| an 1 rfl rfl (by decide) rfl .none ?_
  refine asg0 rfl <| done ?_
  refine Wp.seq <| reg <| mv0 rfl <| sr 0 rfl rfl (by decide) (by decide) rfl .none ?_
  refine asg0 rfl <| done ?_
  refine Wp.seq <| reg <| mv0 rfl <| an _ rfl rfl (and_mask h) rfl .none ?_
  refine asg0 rfl <| done ?_
  refine Wp.seq <| reg <| mv0 rfl <| sr 0 rfl rfl (by decide) (shr_lt h) rfl .none ?_
  refine asg0 rfl <| done ?_
  refine Wp.seq <| reg <| mv0 rfl <| mv0 rfl <| ar0 rfl (wrapU Bd) <| asg0 rfl <| done ?_
  refine Wp.seq <| reg <| mv0 rfl <| mv0 rfl <| ar0 rfl (wrapU Bd) <| mv0 rfl <| sr 0 rfl rfl (by decide) (shr_lt (by omega)) rfl .none ?_
  refine ar0 rfl (wrapU Bd) <| asg0 rfl <| done ?_
  refine Wp.seq <| reg <| mv0 rfl <| an _ rfl rfl (and_mask (by omega)) rfl .none ?_
  refine asg0 rfl <| done ?_
  refine Wp.seq <| reg <| mv0 rfl <| sr 0 rfl rfl (by decide) (shr_lt (by omega)) rfl .none ?_
  refine asg0 rfl <| done ?_
  refine Wp.seq <| reg <| mv0 rfl <| mv0 rfl <| mv0 rfl <| ar0 rfl (wrapU Bd) <| ar0 rfl (wrapU Bd) <| asg0 rfl <| done ?_
  refine Wp.seq <| reg <| mv0 rfl <| mv0 rfl <| ar0 rfl (wrapU Bd) <| mv0 rfl <| ar0 rfl (wrapU Bd) <| mv0 rfl <| sr 0 rfl rfl (by decide) (shr_lt (by omega)) rfl .none ?_
  refine ar0 rfl (wrapU Bd) <| asg0 rfl <| done ?_
  refine Wp.seq <| reg <| mv0 rfl <| mv0 rfl <| ar0 rfl (wrapU Bd) <| asg0 rfl <| done ?_
  refine Wp.ret ?_
  refine Ends.ret (.cons (.tmp rfl (Fz.pure rfl)) <| .cons (.tmp rfl (Fz.pure rfl)) <|  .nil) ?_
  simp [retD]

set_option maxRecDepth 20000 in
theorem f_Mul {n : Int} (h : 0 ≤ n ∧ n < 4294967296) : FnP PP 190 [.int .u64 1, .int .u64 n] (.tup [.int .u64 0, .int .u64 n]) := by
  refine FnP.of_body Tryz.func190 rfl (by kernel_rfl) rfl ?_
  refine Wp.seq <| reg <| asg0 rfl <| asg0 rfl <| done ?_
  refine Wp.seq <| Wp.condF rfl rfl <| Wp.skip <| Wp.seq <| reg <| mv0 rfl <| mv0 rfl <| clw0 rfl (f_Mul64 Dis) rfl ?_
  refine mv0 rfl <| xt0 rfl <| xt0 rfl <| asg0 rfl <| asg0 rfl <| done ?_
  refine Wp.seq <| reg <| mv0 rfl <| mv0 rfl <| asg0 rfl <| asg0 rfl <| done ?_
  refine Wp.ret ?_
  refine Ends.ret (.cons (.tmp rfl (Fz.pure rfl)) <| .cons (.tmp rfl (Fz.pure rfl)) <|  .nil) ?_
  rfl

set_option maxRecDepth 20000 in
theorem f_repeat {r n : Int} (h : 1 ≤ n ∧ n ≤ 1000000) : FnO PP 166 [rl [r], .int .i64 n] 1 ((List.replicate n.toNat r).map runR) := by
  refine FnO.body 94 (Enc.pure _) Tryz.func166 rfl (by kernel_rfl) rfl ?_
  refine Wp.seq <| reg <| asg0 rfl <| done ?_
  refine Wp.seq <| Wp.seq <| reg <| mv0 rfl <| cmp0 rfl <| done ?_
  refine Wp.cond rfl (fun c1 => ?_) (fun c1 => ?_)
  have nc1 := Nz c1
  exfalso; omega
  have nc1 := Nz c1
  refine Wp.skip <| Wp.seq <| reg <| mv0 rfl ?_
  first | refine lnM0 rfl ?_ | refine lns0 rfl ?_ | refine ln0 rfl ?_
  refine cv 1 rfl rfl rfl .none ?_
  refine mv0 rfl <| cv n rfl (wrapU (by omega)) rfl .none ?_
  refine clw0 rfl (f_Mul Dis) rfl ?_
  refine mv0 rfl <| xt0 rfl <| xt0 rfl <| asg0 rfl <| asg0 rfl <| done ?_
  refine Wp.seq <| Wp.seq <| reg <| mv0 rfl <| cmp0 rfl <| mv0 rfl ?_
  refine bcase 23 rfl (fun h23 => ?_) (fun h23 => ?_)
  have nh23 := Nz h23
  refine sk0 rfl h23 <| sk0 rfl h23 <| pkt0 rfl h23 <| done ?_
  refine Wp.condT rfl rfl ?_
  exfalso; omega
  have nh23 := Nz h23
  refine mv1 rfl h23 rfl <| cmp1 rfl h23 rfl <| pkf0 rfl h23 <| done ?_
  refine Wp.cond rfl (fun c2 => ?_) (fun c2 => ?_)
  have nc2 := Nz c2
  exfalso; omega
  have nc2 := Nz c2
  refine Wp.skip <| Wp.seq <| reg <| mv0 rfl <| cv n rfl (wrapI (by omega)) rfl .none ?_
  refine mksM 94 (0) runR (n.toNat) rfl rfl Bd Bd Bd rfl rfl .none ?_
  refine asg0 rfl <| done ?_
  refine Wp.seq <| reg <| mv0 rfl <| mv0 rfl <| cpyM ([r] ++ List.replicate (n.toNat - 1) 0) rfl rfl rfl Bd Bd (by simp [List.drop_replicate]) rfl .none ?_
  refine asg0 rfl <| done ?_
  refine Wp.seq <| Wp.block ?_
  refine Wp.loopK (α := Nat) [7] [] (fun x tl => (8, .int .i64 (x : Nat)) :: tl) (fun x tl => (94, some (.buf 1 ((List.replicate x r ++ List.replicate (n.toNat - x) 0).map runR))) :: tl) (fun x => 1 ≤ x ∧ x ≤ n.toNat) (fun x => n.toNat - x) (1) rfl rfl (by omega) (Rp) (Rp) ?_
  intro x hx
  obtain ⟨hx1, hx2⟩ := hx
  refine Wp.seq <| Wp.seq <| reg <| mv0 rfl <| mv0 rfl ?_
  first | refine lnM0 rfl ?_ | refine lns0 rfl ?_ | refine ln0 rfl ?_
  refine cmp0 rfl <| done ?_
  refine Wp.cond rfl (fun c3 => ?_) (fun c3 => ?_)
  have nc3 := Nz c3
  refine Wp.skip <| Wp.block <| regd mixed ?_
  refine mv0 rfl <| mv0 rfl <| mv0 rfl <| slo (x) (n.toNat) rfl rfl rfl rfl Og Og ⟨Bd, Bd⟩ rfl rfl rfl .none ?_
  refine mv0 rfl <| mv0 rfl <| slo (0) (x) rfl rfl rfl rfl Og Og ⟨Bd, Bd⟩ rfl rfl rfl .none ?_
  refine cps (min x (n.toNat - x)) _ rfl rfl rfl (by omega) (by omega) (by simp only [List.length_append, List.length_replicate]; omega) (by simp only [List.length_append, List.length_replicate]; omega) (rep_copy (by omega) (by omega)) rfl .none ?_
  refine ar0 rfl (wrapI Bd) <| asg0 rfl ?_
  refine done ⟨by kernel_rfl, by kernel_rfl, ?_⟩
  refine ⟨x + min x (n.toNat - x), ⟨by omega, by omega⟩, by omega, Rp, Rp, rfl⟩
  have nc3 := Nz c3
  refine Wp.exit <| Wp.seq <| reg <| mv0 rfl <| asg0 rfl <| done ?_
  rw [show List.replicate n.toNat r = List.replicate x r ++ List.replicate (n.toNat - x) 0 from by rw [show n.toNat = x by omega]; simp]
  refine Wp.ret ?_
  refine EndsG.bufM (.inr rfl) rfl rfl Bd rfl

theorem f_Upper_k1 {p : Prop} (h : p := by
    show _ = _; unfold upS; (repeat' split) <;> first | rfl | (exfalso; omega) | (exfalso; simp_all; done) | (exfalso; simp_all <;> omega)) : p := h
set_option maxRecDepth 20000 in
theorem f_Upper {r : Int} : FnP PP 208 [.int .i32 r] (.int .i32 (upS r)) := by
  refine FnP.of_body Tryz.func208 rfl (by kernel_rfl) rfl ?_
  refine Wp.seq <| reg <| asg0 rfl <| done ?_
  refine Wp.seq <| Wp.seq <| reg <| mv0 rfl <| cmp0 rfl <| mv0 rfl ?_
  refine bcase 5 rfl (fun h5 => ?_) (fun h5 => ?_)
  have nh5 := Nz h5
  refine mv1 rfl h5 rfl <| cmp1 rfl h5 rfl <| pkt0 rfl h5 <| done ?_
  refine Wp.cond rfl (fun c1 => ?_) (fun c1 => ?_)
  have nc1 := Nz c1
  refine reg <| mv0 rfl <| ar0 rfl (wrap32 Bd) <| asg0 rfl <| done ?_
  refine Wp.seq <| reg <| mv0 rfl <| asg0 rfl <| done ?_
  refine Wp.ret ?_
  refine Ends.ret (.cons (.tmp rfl (Fz.pure rfl)) <|  .nil) ?_
  exact f_Upper_k1
  have nc1 := Nz c1
  refine Wp.skip <| Wp.seq <| reg <| mv0 rfl <| asg0 rfl <| done ?_
  refine Wp.ret ?_
  refine Ends.ret (.cons (.tmp rfl (Fz.pure rfl)) <|  .nil) ?_
  exact f_Upper_k1
  have nh5 := Nz h5
  refine sk0 rfl h5 <| sk0 rfl h5 <| pkf0 rfl h5 <| done ?_
  refine Wp.condF rfl rfl <| Wp.skip <| Wp.seq <| reg <| mv0 rfl <| asg0 rfl <| done ?_
  refine Wp.ret ?_
  refine Ends.ret (.cons (.tmp rfl (Fz.pure rfl)) <|  .nil) ?_
  exact f_Upper_k1

theorem f_Lower_k1 {p : Prop} (h : p := by
    show _ = _; unfold lowS; (repeat' split) <;> first | rfl | (exfalso; omega) | (exfalso; simp_all; done) | (exfalso; simp_all <;> omega)) : p := h
set_option maxRecDepth 20000 in
theorem f_Lower {r : Int} : FnP PP 207 [.int .i32 r] (.int .i32 (lowS r)) := by
  refine FnP.of_body Tryz.func207 rfl (by kernel_rfl) rfl ?_
  refine Wp.seq <| reg <| asg0 rfl <| done ?_
  refine Wp.seq <| Wp.seq <| reg <| mv0 rfl <| cmp0 rfl <| mv0 rfl ?_
  refine bcase 5 rfl (fun h5 => ?_) (fun h5 => ?_)
  have nh5 := Nz h5
  refine mv1 rfl h5 rfl <| cmp1 rfl h5 rfl <| pkt0 rfl h5 <| done ?_
  refine Wp.cond rfl (fun c1 => ?_) (fun c1 => ?_)
  have nc1 := Nz c1
  refine reg <| mv0 rfl <| ar0 rfl (wrap32 Bd) <| asg0 rfl <| done ?_
  refine Wp.seq <| reg <| mv0 rfl <| asg0 rfl <| done ?_
  refine Wp.ret ?_
  refine Ends.ret (.cons (.tmp rfl (Fz.pure rfl)) <|  .nil) ?_
  exact f_Lower_k1
  have nc1 := Nz c1
  refine Wp.skip <| Wp.seq <| reg <| mv0 rfl <| asg0 rfl <| done ?_
  refine Wp.ret ?_
  refine Ends.ret (.cons (.tmp rfl (Fz.pure rfl)) <|  .nil) ?_
  exact f_Lower_k1
  have nh5 := Nz h5
  refine sk0 rfl h5 <| sk0 rfl h5 <| pkf0 rfl h5 <| done ?_
  refine Wp.condF rfl rfl <| Wp.skip <| Wp.seq <| reg <| mv0 rfl <| asg0 rfl <| done ?_
  refine Wp.ret ?_
  refine Ends.ret (.cons (.tmp rfl (Fz.pure rfl)) <|  .nil) ?_
  exact f_Lower_k1

theorem f_change_k1 {p : Prop} (h : p := by
    show _ = _; unfold getRD changeS; (repeat' split) <;> first | rfl | (exfalso; omega) | (exfalso; simp_all; done) | (exfalso; simp_all <;> omega) | (rw [show chgS how false ((l.take hi.toNat).drop lo.toNat) = x.2.2 by rw [hx3, drop_end (by omega)]; simp [chgS], show l.drop hi.toNat = l.drop (lo.toNat + x.1) by congr 1; omega]; rfl)) : p := h
set_option maxRecDepth 20000 in
theorem f_change {l : List Int} {lo hi how : Int} (h1 : l.length ≤ 1000000) : FnP PP 186 [rl l, .int .i64 lo, .int .i64 hi, .int .i64 how] (getRD (changeS l lo hi how)) := by
  refine FnP.of_body Tryz.func186 rfl (by kernel_rfl) rfl ?_
  refine Wp.seq <| reg <| asg0 rfl <| asg0 rfl <| done ?_
  refine Wp.seq <| Wp.seq <| reg <| mv0 rfl <| cmp0 rfl <| mv0 rfl ?_
  refine bcase 17 rfl (fun h17 => ?_) (fun h17 => ?_)
  have nh17 := Nz h17
  refine sk0 rfl h17 <| sk0 rfl h17 <| sk0 rfl h17 <| pkt0 rfl h17 <| mv0 rfl <| sk0 rfl rfl <| sk0 rfl rfl <| sk0 rfl rfl <| sk0 rfl rfl <| pkt0 rfl rfl <| mv0 rfl <| sk0 rfl rfl <| sk0 rfl rfl <| pkt0 rfl rfl <| mv0 rfl <| sk0 rfl rfl <| sk0 rfl rfl <| pkt0 rfl rfl <| done ?_
  refine Wp.condT rfl rfl <| Wp.seq <| reg <| asg0 rfl <| asg0 rfl <| done ?_
  refine Wp.ret ?_
  refine Ends.ret (.cons (.tmp rfl (by first | exact Fz.wk rfl | exact Fz.sl rfl (by simp only [List.length_map, List.length_append, List.length_take, List.length_drop]; omega) (Enc.pure _))) <| .cons (.tmp rfl (Fz.pure rfl)) <|  .nil) ?_
  exact f_change_k1
  have nh17 := Nz h17
  refine mv1 rfl h17 rfl <| mv1 rfl h17 rfl <| cmp1 rfl h17 rfl <| pkf0 rfl h17 <| mv0 rfl ?_
  refine bcase 22 rfl (fun h22 => ?_) (fun h22 => ?_)
  have nh22 := Nz h22
  refine sk0 rfl h22 <| sk0 rfl h22 <| sk0 rfl h22 <| sk0 rfl h22 <| pkt0 rfl h22 <| mv0 rfl <| sk0 rfl rfl <| sk0 rfl rfl <| pkt0 rfl rfl <| mv0 rfl <| sk0 rfl rfl <| sk0 rfl rfl <| pkt0 rfl rfl <| done ?_
  refine Wp.condT rfl rfl <| Wp.seq <| reg <| asg0 rfl <| asg0 rfl <| done ?_
  refine Wp.ret ?_
  refine Ends.ret (.cons (.tmp rfl (by first | exact Fz.wk rfl | exact Fz.sl rfl (by simp only [List.length_map, List.length_append, List.length_take, List.length_drop]; omega) (Enc.pure _))) <| .cons (.tmp rfl (Fz.pure rfl)) <|  .nil) ?_
  exact f_change_k1
  have nh22 := Nz h22
  refine mv1 rfl h22 rfl <| mv1 rfl h22 rfl ?_
  first | refine lnM1 rfl h22 rfl ?_ | refine lns1 rfl h22 rfl ?_ | refine ln1 rfl h22 rfl ?_
  refine cmp1 rfl h22 rfl <| pkf0 rfl h22 <| mv0 rfl ?_
  refine bcase 28 rfl (fun h28 => ?_) (fun h28 => ?_)
  have nh28 := Nz h28
  refine sk0 rfl h28 <| sk0 rfl h28 <| pkt0 rfl h28 <| mv0 rfl <| sk0 rfl rfl <| sk0 rfl rfl <| pkt0 rfl rfl <| done ?_
  refine Wp.condT rfl rfl <| Wp.seq <| reg <| asg0 rfl <| asg0 rfl <| done ?_
  refine Wp.ret ?_
  refine Ends.ret (.cons (.tmp rfl (by first | exact Fz.wk rfl | exact Fz.sl rfl (by simp only [List.length_map, List.length_append, List.length_take, List.length_drop]; omega) (Enc.pure _))) <| .cons (.tmp rfl (Fz.pure rfl)) <|  .nil) ?_
  exact f_change_k1
  have nh28 := Nz h28
  refine mv1 rfl h28 rfl <| cmp1 rfl h28 rfl <| pkf0 rfl h28 <| mv0 rfl ?_
  refine bcase 32 rfl (fun h32 => ?_) (fun h32 => ?_)
  have nh32 := Nz h32
  refine sk0 rfl h32 <| sk0 rfl h32 <| pkt0 rfl h32 <| done ?_
  refine Wp.condT rfl rfl <| Wp.seq <| reg <| asg0 rfl <| asg0 rfl <| done ?_
  refine Wp.ret ?_
  refine Ends.ret (.cons (.tmp rfl (by first | exact Fz.wk rfl | exact Fz.sl rfl (by simp only [List.length_map, List.length_append, List.length_take, List.length_drop]; omega) (Enc.pure _))) <| .cons (.tmp rfl (Fz.pure rfl)) <|  .nil) ?_
  exact f_change_k1
  have nh32 := Nz h32
  refine mv1 rfl h32 rfl <| cmp1 rfl h32 rfl <| pkf0 rfl h32 <| done ?_
  refine Wp.cond rfl (fun c1 => ?_) (fun c1 => ?_)
  have nc1 := Nz c1
  refine Wp.seq <| reg <| asg0 rfl <| asg0 rfl <| done ?_
  refine Wp.ret ?_
  refine Ends.ret (.cons (.tmp rfl (by first | exact Fz.wk rfl | exact Fz.sl rfl (by simp only [List.length_map, List.length_append, List.length_take, List.length_drop]; omega) (Enc.pure _))) <| .cons (.tmp rfl (Fz.pure rfl)) <|  .nil) ?_
  exact f_change_k1
  have nc1 := Nz c1
  refine Wp.skip <| Wp.seq <| reg <| mv0 rfl <| clo 101 rfl rfl (f_cloneR Dis) rfl rfl .none ?_
  refine asg0 rfl <| done ?_
  refine Wp.seq <| reg <| asg0 rfl <| done ?_
  refine Wp.seq <| Wp.seq <| reg ?_
  have hsub : ((l.take hi.toNat).drop lo.toNat).length = hi.toNat - lo.toNat := by simp; omega
  refine mv0 rfl <| mv0 rfl <| mv0 rfl <| sl2M (lo.toNat) (hi.toNat) ((l.take hi.toNat).drop lo.toNat) rfl rfl rfl Og Og ⟨Bd, Bd⟩ rfl rfl .none ?_
  first | refine lnM0 rfl ?_ | refine lns0 rfl ?_ | refine ln0 rfl ?_
  refine mv0 rfl <| done ?_
  refine Wp.block ?_
  refine Wp.loopK (α := Nat × Bool × List Int) [1, 3, 10, 41, 42] [] (fun x tl => (43, .int .i64 (x.1 : Nat)) :: (11, .bool x.2.1) :: tl) (fun x tl => (101, some (.buf 1 ((l.take lo.toNat ++ x.2.2 ++ l.drop (lo.toNat + x.1)).map runR))) :: tl) (fun x => x.1 ≤ hi.toNat - lo.toNat ∧ x.2.2.length = x.1 ∧ chgS how false ((l.take hi.toNat).drop lo.toNat) = x.2.2 ++ chgS how x.2.1 (((l.take hi.toNat).drop lo.toNat).drop x.1)) (fun x => hi.toNat - lo.toNat - x.1) ((0, false, [])) rfl rfl (⟨by omega, rfl, rfl⟩) (Rp) (⟨congrArg (fun z : List Int => some (Blk.buf 1 (z.map runR))) (by simp), trivial⟩) ?_
  intro x hx
  obtain ⟨hx1, hx2, hx3⟩ := hx
  refine Wp.seq <| reg <| cmp0 rfl <| done ?_
  refine Wp.seq ?_
  refine Wp.cond rfl (fun c2 => ?_) (fun c2 => ?_)
  have nc2 := Nz c2
  refine Wp.skip <| Wp.seq <| Wp.block <| Wp.seq <| reg <| mv0 rfl <| iaD (0) (x.1) Bd rfl rfl Eq' rfl .none ?_
  refine ldA0 rfl ?_
  refine asg0 rfl <| asg0 rfl <| done ?_
  refine Wp.seq <| reg <| mv0 rfl <| clw0 rfl f_In rfl ?_
  refine asg0 rfl <| done ?_
  refine Wp.seq <| Wp.block <| Wp.seq <| Wp.block <| Wp.seq <| Wp.block <| Wp.block <| Wp.seq <| Wp.seq <| Wp.seq <| reg <| mv0 rfl <| cmp0 rfl <| mv0 rfl ?_
  refine bcase 53 rfl (fun h53 => ?_) (fun h53 => ?_)
  have nh53 := Nz h53
  refine mv1 rfl h53 rfl <| mv1 rfl h53 rfl ?_
  refine bcase 55 rfl (fun h55 => ?_) (fun h55 => ?_)
  have nh55 := Nz h55
  refine sk0 rfl h55 <| sk0 rfl h55 <| pkt1 rfl h53 rfl h55 <| pkt0 rfl h53 <| asg0 rfl <| done ?_
  refine Wp.condT rfl rfl <| Wp.exit <| Wp.seq <| reg <| mv0 rfl <| mv0 rfl <| mv0 rfl <| ar0 rfl (wrapI Bd) <| mv0 rfl <| clw0 rfl f_Lower rfl ?_
  refine iaO0 (lo.toNat + x.1) Bd rfl rfl rfl Eq' rfl .none ?_
  refine stb (_) Bd rfl rfl rfl rfl rfl rfl .none ?_
  refine done ?_
  refine Wp.exit <| reg <| mv0 rfl <| asg0 rfl <| done ?_
  refine reg <| ar0 rfl (wrapI Bd) <| mv0 rfl <| done ?_
  exact ⟨(x.1 + 1, _, x.2.2 ++ [stepC how x.2.1 (((l.take hi.toNat).drop lo.toNat).getD x.1 0)]), ⟨by simp only; omega, by simp [hx2], by rw [hx3, chgS_dropD (by omega), List.append_assoc]; rfl⟩, by simp only; omega, ⟨rfl, rfl, Rp⟩, ⟨congrArg (fun z : List Int => some (Blk.buf 1 (z.map runR))) ((congrArg _ (by unfold stepC; simp_all)).trans (chg_set hx2 (by omega))), trivial⟩, rfl⟩
  have nh55 := Nz h55
  refine mv1 rfl h55 rfl <| nt1 rfl h55 rfl <| pkf1 rfl h53 rfl h55 <| pkt0 rfl h53 <| asg0 rfl <| done ?_
  refine Wp.cond rfl (fun c3 => ?_) (fun c3 => ?_)
  have nc3 := Nz c3
  refine Wp.exit <| Wp.seq <| reg <| mv0 rfl <| mv0 rfl <| mv0 rfl <| ar0 rfl (wrapI Bd) <| mv0 rfl <| clw0 rfl f_Lower rfl ?_
  refine iaO0 (lo.toNat + x.1) Bd rfl rfl rfl Eq' rfl .none ?_
  refine stb (_) Bd rfl rfl rfl rfl rfl rfl .none ?_
  refine done ?_
  refine Wp.exit <| reg <| mv0 rfl <| asg0 rfl <| done ?_
  refine reg <| ar0 rfl (wrapI Bd) <| mv0 rfl <| done ?_
  exact ⟨(x.1 + 1, _, x.2.2 ++ [stepC how x.2.1 (((l.take hi.toNat).drop lo.toNat).getD x.1 0)]), ⟨by simp only; omega, by simp [hx2], by rw [hx3, chgS_dropD (by omega), List.append_assoc]; rfl⟩, by simp only; omega, ⟨rfl, rfl, Rp⟩, ⟨congrArg (fun z : List Int => some (Blk.buf 1 (z.map runR))) ((congrArg _ (by unfold stepC; simp_all)).trans (chg_set hx2 (by omega))), trivial⟩, rfl⟩
  have nc3 := Nz c3
  refine Wp.skip <| Wp.seq <| reg <| mv0 rfl <| cmp0 rfl <| asg0 rfl <| done ?_
  refine Wp.cond rfl (fun c4 => ?_) (fun c4 => ?_)
  have nc4 := Nz c4
  refine Wp.exit <| Wp.seq <| reg <| mv0 rfl <| mv0 rfl <| mv0 rfl <| ar0 rfl (wrapI Bd) <| mv0 rfl <| clw0 rfl f_Lower rfl ?_
  refine iaO0 (lo.toNat + x.1) Bd rfl rfl rfl Eq' rfl .none ?_
  refine stb (_) Bd rfl rfl rfl rfl rfl rfl .none ?_
  refine done ?_
  refine Wp.exit <| reg <| mv0 rfl <| asg0 rfl <| done ?_
  refine reg <| ar0 rfl (wrapI Bd) <| mv0 rfl <| done ?_
  exact ⟨(x.1 + 1, _, x.2.2 ++ [stepC how x.2.1 (((l.take hi.toNat).drop lo.toNat).getD x.1 0)]), ⟨by simp only; omega, by simp [hx2], by rw [hx3, chgS_dropD (by omega), List.append_assoc]; rfl⟩, by simp only; omega, ⟨rfl, rfl, Rp⟩, ⟨congrArg (fun z : List Int => some (Blk.buf 1 (z.map runR))) ((congrArg _ (by unfold stepC; simp_all)).trans (chg_set hx2 (by omega))), trivial⟩, rfl⟩
  have nc4 := Nz c4
  refine Wp.skip <| Wp.exit <| Wp.seq <| reg <| mv0 rfl <| mv0 rfl <| mv0 rfl <| ar0 rfl (wrapI Bd) <| mv0 rfl <| clw0 rfl f_Upper rfl ?_
  refine iaO0 (lo.toNat + x.1) Bd rfl rfl rfl Eq' rfl .none ?_
  refine stb (_) Bd rfl rfl rfl rfl rfl rfl .none ?_
  refine done ?_
  refine Wp.exit <| reg <| mv0 rfl <| asg0 rfl <| done ?_
  refine reg <| ar0 rfl (wrapI Bd) <| mv0 rfl <| done ?_
  exact ⟨(x.1 + 1, _, x.2.2 ++ [stepC how x.2.1 (((l.take hi.toNat).drop lo.toNat).getD x.1 0)]), ⟨by simp only; omega, by simp [hx2], by rw [hx3, chgS_dropD (by omega), List.append_assoc]; rfl⟩, by simp only; omega, ⟨rfl, rfl, Rp⟩, ⟨congrArg (fun z : List Int => some (Blk.buf 1 (z.map runR))) ((congrArg _ (by unfold stepC; simp_all)).trans (chg_set hx2 (by omega))), trivial⟩, rfl⟩
  have nh53 := Nz h53
  refine sk0 rfl h53 <| sk0 rfl h53 <| sku0 rfl <| sku0 rfl <| sk0 rfl h53 <| pkf0 rfl h53 <| asg0 rfl <| done ?_
  refine Wp.condF rfl rfl <| Wp.skip <| Wp.seq <| reg <| mv0 rfl <| cmp0 rfl <| asg0 rfl <| done ?_
  refine Wp.cond rfl (fun c5 => ?_) (fun c5 => ?_)
  have nc5 := Nz c5
  refine Wp.exit <| Wp.seq <| reg <| mv0 rfl <| mv0 rfl <| mv0 rfl <| ar0 rfl (wrapI Bd) <| mv0 rfl <| clw0 rfl f_Lower rfl ?_
  refine iaO0 (lo.toNat + x.1) Bd rfl rfl rfl Eq' rfl .none ?_
  refine stb (_) Bd rfl rfl rfl rfl rfl rfl .none ?_
  refine done ?_
  refine Wp.exit <| reg <| mv0 rfl <| asg0 rfl <| done ?_
  refine reg <| ar0 rfl (wrapI Bd) <| mv0 rfl <| done ?_
  exact ⟨(x.1 + 1, _, x.2.2 ++ [stepC how x.2.1 (((l.take hi.toNat).drop lo.toNat).getD x.1 0)]), ⟨by simp only; omega, by simp [hx2], by rw [hx3, chgS_dropD (by omega), List.append_assoc]; rfl⟩, by simp only; omega, ⟨rfl, rfl, Rp⟩, ⟨congrArg (fun z : List Int => some (Blk.buf 1 (z.map runR))) ((congrArg _ (by unfold stepC; simp_all)).trans (chg_set hx2 (by omega))), trivial⟩, rfl⟩
  have nc5 := Nz c5
  refine Wp.skip <| Wp.exit <| Wp.seq <| reg <| mv0 rfl <| mv0 rfl <| mv0 rfl <| ar0 rfl (wrapI Bd) <| mv0 rfl <| clw0 rfl f_Upper rfl ?_
  refine iaO0 (lo.toNat + x.1) Bd rfl rfl rfl Eq' rfl .none ?_
  refine stb (_) Bd rfl rfl rfl rfl rfl rfl .none ?_
  refine done ?_
  refine Wp.exit <| reg <| mv0 rfl <| asg0 rfl <| done ?_
  refine reg <| ar0 rfl (wrapI Bd) <| mv0 rfl <| done ?_
  exact ⟨(x.1 + 1, _, x.2.2 ++ [stepC how x.2.1 (((l.take hi.toNat).drop lo.toNat).getD x.1 0)]), ⟨by simp only; omega, by simp [hx2], by rw [hx3, chgS_dropD (by omega), List.append_assoc]; rfl⟩, by simp only; omega, ⟨rfl, rfl, Rp⟩, ⟨congrArg (fun z : List Int => some (Blk.buf 1 (z.map runR))) ((congrArg _ (by unfold stepC; simp_all)).trans (chg_set hx2 (by omega))), trivial⟩, rfl⟩
  have nc2 := Nz c2
  refine Wp.exit <| Wp.seq <| reg <| mv0 rfl <| asg0 rfl <| asg0 rfl <| done ?_
  refine Wp.ret ?_
  refine Ends.ret (.cons (.tmp rfl (by first | exact Fz.wk rfl | exact Fz.sl rfl (by simp only [List.length_map, List.length_append, List.length_take, List.length_drop]; omega) (Enc.pure _))) <| .cons (.tmp rfl (Fz.pure rfl)) <|  .nil) ?_
  exact f_change_k1

set_option maxRecDepth 20000 in
theorem f_grow {n : Int} (h : 0 ≤ n ∧ n ≤ 1000000) : FnO PP 209 [.rows true [], .int .i64 n] 1 (([] : List Int).map runR) := by
  refine FnO.body 86 (Enc.pure _) Tryz.func209 rfl (by kernel_rfl) rfl ?_
  refine Wp.seq <| reg <| asg0 rfl <| done ?_
  refine Wp.seq <| Wp.seq <| reg <| mv0 rfl <| cmp0 rfl <| done ?_
  refine Wp.cond rfl (fun c1 => ?_) (fun c1 => ?_)
  have nc1 := Nz c1
  exfalso; omega
  have nc1 := Nz c1
  refine Wp.skip <| Wp.seq <| Wp.seq <| reg <| mv0 rfl <| mv0 rfl <| cpn rfl rfl .none ?_
  refine mv0 rfl ?_
  first | refine lnM0 rfl ?_ | refine lns0 rfl ?_ | refine ln0 rfl ?_
  refine ar0 rfl (wrapI Bd) <| ar0 rfl (wrapI Bd) <| asg0 rfl <| done ?_
  refine Wp.seq <| reg <| mv0 rfl <| cmp0 rfl <| done ?_
  refine Wp.cond rfl (fun c2 => ?_) (fun c2 => ?_)
  have nc2 := Nz c2
  refine reg <| mv0 rfl <| mv0 rfl <| cpn rfl rfl .none ?_
  refine sln rfl rfl rfl .none ?_
  refine mv0 rfl <| apk 86 runR n.toNat rfl rfl Bd Bd Bd rfl rfl rfl .none ?_
  refine mv0 rfl ?_
  first | refine lnM0 rfl ?_ | refine lns0 rfl ?_ | refine ln0 rfl ?_
  refine slo (0) (0) rfl rfl rfl rfl Og Og ⟨Bd, Bd⟩ rfl rfl rfl .none ?_
  refine asg0 rfl <| done ?_
  refine Wp.seq <| reg <| mv0 rfl <| asg0 rfl <| done ?_
  first | refine Wp.nilBuf 86 4 1 [] rfl rfl rfl ?_ | skip
  refine Wp.ret ?_
  refine EndsG.bufM (.inr rfl) rfl rfl Bd rfl
  have nc2 := Nz c2
  refine Wp.skip <| Wp.seq <| reg <| mv0 rfl <| asg0 rfl <| done ?_
  first | refine Wp.nilBuf 86 4 1 [] rfl rfl rfl ?_ | skip
  refine Wp.ret ?_
  refine EndsG.bufM (.inr rfl) rfl rfl Bd rfl

set_option maxRecDepth 20000 in
theorem f_concat {ls : List (List Int)} (h : ls.flatten.length ≤ 1000000) : FnO PP 187 [rlL ls] 1 (ls.flatten.map runR) := by
  refine FnO.body 88 (Enc.pure _) Tryz.func187 rfl (by kernel_rfl) rfl ?_
  refine Wp.bound 0 rfl (fun hb0 => ?_)
  simp only [D.bd, D.bdL, List.length_map, and_true] at hb0
  refine Wp.seq <| reg <| asg0 rfl <| done ?_
  refine Wp.seq <| reg <| asg0 rfl <| done ?_
  refine Wp.seq <| Wp.seq <| reg <| mv0 rfl ?_
  first | refine lnM0 rfl ?_ | refine lns0 rfl ?_ | refine ln0 rfl ?_
  refine mv0 rfl <| done ?_
  refine Wp.block ?_
  refine Wp.loopK (α := Nat) [0, 9, 10] [] (fun x tl => (11, .int .i64 (x : Nat)) :: (3, .int .i64 ((ls.take x).flatten.length : Nat)) :: tl) (fun x tl => tl) (fun x => x ≤ ls.length) (fun x => ls.length - x) (0) rfl rfl (by omega) (Rp) (Rp) ?_
  intro x hx
  have hx1 := hx
  refine Wp.seq <| reg <| cmp0 rfl <| done ?_
  refine Wp.seq ?_
  refine Wp.cond rfl (fun c1 => ?_) (fun c1 => ?_)
  have nc1 := Nz c1
  refine Wp.skip <| Wp.seq <| Wp.block <| Wp.seq <| reg <| iaD ([]) (x) Bd rfl rfl Eq' rfl .none ?_
  refine ldA0 rfl ?_
  refine asg0 rfl <| done ?_
  refine Wp.seq <| reg ?_
  have hf1 := flat_le ls (x + 1); rw [flat_take (by omega), List.length_append] at hf1
  refine mv0 rfl <| mv0 rfl ?_
  first | refine lnM0 rfl ?_ | refine lns0 rfl ?_ | refine ln0 rfl ?_
  refine ar0 rfl (wrapI Bd) <| asg0 rfl <| done ?_
  refine Wp.seq <| reg <| mv0 rfl <| cmp0 rfl <| done ?_
  refine Wp.cond rfl (fun c2 => ?_) (fun c2 => ?_)
  have nc2 := Nz c2
  exfalso; omega
  have nc2 := Nz c2
  refine Wp.skip <| reg <| ar0 rfl (wrapI Bd) <| mv0 rfl <| done ?_
  exact ⟨x + 1, by omega, by omega, ⟨rfl, congrArg (fun z : Int => some (D.int .i64 z)) (by rw [flat_take (by omega), List.length_append]; rfl), Rp⟩, Rp, rfl⟩
  have nc1 := Nz c1
  refine Wp.exit <| Wp.seq <| reg ?_
  have hf2 := flat_le ls x
  refine mv0 rfl <| clo0 88 rfl rfl (f_grow Dis) rfl rfl .none ?_
  refine asg0 rfl <| done ?_
  refine Wp.seq <| Wp.seq <| reg <| mv0 rfl ?_
  first | refine lnM0 rfl ?_ | refine lns0 rfl ?_ | refine ln0 rfl ?_
  refine mv0 rfl <| done ?_
  refine Wp.block ?_
  refine Wp.loopK (α := Nat) [25, 26] [] (fun x tl => (27, .int .i64 (x : Nat)) :: (6, .sl 88 0 (ls.take x).flatten.length) :: tl) (fun x tl => (88, some (.buf 1 ((ls.take x).flatten.map runR))) :: tl) (fun x => x ≤ ls.length) (fun x => ls.length - x) (0) rfl rfl (by omega) (Rp) (Rp) ?_
  intro x hx
  have hx1 := hx
  refine Wp.seq <| reg <| cmp0 rfl <| done ?_
  refine Wp.seq ?_
  refine Wp.cond rfl (fun c3 => ?_) (fun c3 => ?_)
  have nc3 := Nz c3
  refine Wp.skip <| Wp.seq <| Wp.block <| Wp.seq <| reg <| iaD ([]) (x) Bd rfl rfl Eq' rfl .none ?_
  refine ldA0 rfl ?_
  refine asg0 rfl <| done ?_
  refine reg ?_
  have hf1 := flat_le ls (x + 1); rw [flat_take (by omega), List.length_append] at hf1
  refine mv0 rfl <| mv0 rfl <| apoM 1331 rfl rfl Bd rfl Bd rfl rfl rfl .none ?_
  refine asg0 rfl <| done ?_
  refine Wp.rename 1331 88 6 [25, 26, 27] [] rfl rfl rfl rfl rfl rfl ?_
  refine reg <| ar0 rfl (wrapI Bd) <| mv0 rfl <| done ?_
  exact ⟨x + 1, by omega, by omega, ⟨rfl, congrArg (fun z : List Int => some (D.sl 88 0 z.length)) (flat_take (by omega)).symm, Rp⟩, ⟨congrArg (fun z : List Int => some (Blk.buf 1 (z.map runR))) (flat_take (by omega)).symm, trivial⟩, rfl⟩
  have nc3 := Nz c3
  refine Wp.exit <| Wp.seq <| reg <| mv0 rfl <| asg0 rfl <| done ?_
  rw [show ls.flatten = (ls.take x).flatten from by rw [List.take_of_length_le (by omega)]]
  refine Wp.ret ?_
  refine EndsG.bufM (.inr rfl) rfl rfl Bd rfl

theorem f_swap_k1 {p : Prop} (h : p := by
    show _ = _; unfold gapRes swapS; (repeat' split) <;> first | rfl | (exfalso; omega) | (exfalso; simp_all; done) | (exfalso; simp_all <;> omega) | (rw [hx1]; rfl)) : p := h
set_option maxRecDepth 20000 in
theorem f_swap {a b : List Int} (h1 : a.length ≤ 1000000) (h2 : b.length ≤ 1000000) : FnP PP 170 [.agg [rl a, rl b]] (gapRes (swapS ⟨a, b⟩)) := by
  refine FnP.of_body Tryz.func170 rfl (by kernel_rfl) rfl ?_
  refine Wp.seq <| reg <| bx0 65 rfl ?_
  refine al0 66 rfl ?_
  refine asg0 rfl <| done ?_
  refine Wp.seq <| Wp.block <| Wp.seq <| reg <| ldA0 rfl ?_
  refine clw0 rfl (f_gapIs Dis Dis) rfl ?_
  refine nt0 rfl <| asg0 rfl <| done ?_
  refine Wp.cond rfl (fun c1 => ?_) (fun c1 => ?_)
  have nc1 := Nz c1
  refine Wp.seq <| reg <| bdw0 rfl ?_
  refine stw0 rfl ?_
  refine asg0 rfl <| done ?_
  refine Wp.ret ?_
  refine Ends.ret (.cons (.cell rfl rfl rfl (Nat.le_of_ble_eq_true rfl) (Fz.wk rfl)) <| .cons (.tmp rfl (Fz.pure rfl)) <|  .nil) ?_
  exact f_swap_k1
  have nc1 := Nz c1
  refine Wp.seq <| reg <| faA0 rfl ?_
  refine ldA0 rfl ?_
  first | refine lnM0 rfl ?_ | refine lns0 rfl ?_ | refine ln0 rfl ?_
  refine cmp0 rfl <| mv0 rfl ?_
  refine bcase 16 rfl (fun h16 => ?_) (fun h16 => ?_)
  have nh16 := Nz h16
  refine sk0 rfl h16 <| sk0 rfl h16 <| sk0 rfl h16 <| sk0 rfl h16 <| sk0 rfl h16 <| sk0 rfl h16 <| sk0 rfl h16 <| sk0 rfl h16 <| pkt0 rfl h16 <| asg0 rfl <| done ?_
  refine Wp.condT rfl rfl <| Wp.seq <| reg <| bdw0 rfl ?_
  refine stw0 rfl ?_
  refine asg0 rfl <| done ?_
  refine Wp.ret ?_
  refine Ends.ret (.cons (.cell rfl rfl rfl (Nat.le_of_ble_eq_true rfl) (Fz.wk rfl)) <| .cons (.tmp rfl (Fz.pure rfl)) <|  .nil) ?_
  exact f_swap_k1
  have nh16 := Nz h16
  refine faA1 rfl h16 rfl ?_
  refine ldA1 rfl h16 rfl ?_
  first | refine lnM1 rfl h16 rfl ?_ | refine lns1 rfl h16 rfl ?_ | refine ln1 rfl h16 rfl ?_
  refine faA1 rfl h16 rfl ?_
  refine ldA1 rfl h16 rfl ?_
  first | refine lnM1 rfl h16 rfl ?_ | refine lns1 rfl h16 rfl ?_ | refine ln1 rfl h16 rfl ?_
  refine ar1 rfl h16 rfl (wrapI Bd) <| cmp1 rfl h16 rfl <| pkf0 rfl h16 <| asg0 rfl <| done ?_
  refine Wp.cond rfl (fun c2 => ?_) (fun c2 => ?_)
  have nc2 := Nz c2
  refine Wp.seq <| reg <| bdw0 rfl ?_
  refine stw0 rfl ?_
  refine asg0 rfl <| done ?_
  refine Wp.ret ?_
  refine Ends.ret (.cons (.cell rfl rfl rfl (Nat.le_of_ble_eq_true rfl) (Fz.wk rfl)) <| .cons (.tmp rfl (Fz.pure rfl)) <|  .nil) ?_
  exact f_swap_k1
  have nc2 := Nz c2
  refine Wp.skip <| Wp.seq <| reg <| faA0 rfl ?_
  refine ldA0 rfl ?_
  first | refine lnM0 rfl ?_ | refine lns0 rfl ?_ | refine ln0 rfl ?_
  refine asg0 rfl <| done ?_
  refine Wp.cutK (α := Nat) [1, 2, 3] [65, 66] (fun x tl => (4, .int .i64 (x : Nat)) :: tl) (fun x tl => tl) (fun x => x = swapI ⟨a, b⟩ ∧ 1 ≤ x ∧ x < a.length + b.length) rfl rfl ?_ ?_
  refine Wp.seq <| reg <| faA0 rfl ?_
  refine ldA0 rfl ?_
  first | refine lnM0 rfl ?_ | refine lns0 rfl ?_ | refine ln0 rfl ?_
  refine cmp0 rfl <| done ?_
  refine Wp.cond rfl (fun c3 => ?_) (fun c3 => ?_)
  have nc3 := Nz c3
  refine reg <| mv0 rfl <| ar0 rfl (wrapI Bd) <| asg0 rfl <| done ?_
  first | exact ⟨a.length - 1, ⟨(if_pos (by simp only; omega)).symm, by omega, by omega⟩, ⟨congrArg (fun z : Int => some (D.int .i64 z)) (by omega), Rp⟩, Rp, rfl⟩ | exact ⟨a.length, ⟨(if_neg (by simp only; omega)).symm, by omega, by omega⟩, Rp, Rp, rfl⟩
  have nc3 := Nz c3
  refine Wp.skip ?_
  first | exact ⟨a.length - 1, ⟨(if_pos (by simp only; omega)).symm, by omega, by omega⟩, ⟨congrArg (fun z : Int => some (D.int .i64 z)) (by omega), Rp⟩, Rp, rfl⟩ | exact ⟨a.length, ⟨(if_neg (by simp only; omega)).symm, by omega, by omega⟩, Rp, Rp, rfl⟩
  intro x hx
  obtain ⟨hx1, hx2, hx3⟩ := hx
  refine Wp.seq <| reg <| ldA0 rfl ?_
  refine clo 101 rfl rfl (f_textO Dis Dis) rfl rfl .none ?_
  refine asg0 rfl <| done ?_
  refine Wp.seq <| regd mixed ?_
  refine mv0 rfl <| mv0 rfl <| ar0 rfl (wrapI Bd) <| mv0 rfl <| mv0 rfl <| mv0 rfl <| mv0 rfl <| iaO0 (x) Bd rfl rfl rfl Eq' rfl .none ?_
  refine ldbD (0) Bd rfl rfl rfl rfl rfl .none ?_
  refine mv0 rfl <| mv0 rfl <| ar0 rfl (wrapI Bd) <| iaO0 (x - 1) Bd rfl rfl rfl Eq' rfl .none ?_
  refine ldbD (0) Bd rfl rfl rfl rfl rfl .none ?_
  refine iaO0 (x - 1) Bd rfl rfl rfl Eq' rfl .none ?_
  refine stb (_) Bd rfl rfl rfl rfl rfl rfl .none ?_
  refine iaO0 (x) Bd rfl rfl rfl Eq' rfl .none ?_
  refine stb (_) Bd rfl rfl rfl rfl rfl rfl .none ?_
  refine done ⟨by kernel_rfl, by kernel_rfl, ?_⟩
  refine Wp.freezeM 101 5 [1, 2, 3, 4] rfl rfl (by simp) rfl ?_
  refine Wp.seq <| reg <| mv0 rfl <| mv0 rfl <| ar0 rfl (wrapI Bd) <| clw0 rfl (f_of (l := swapAt (a ++ b) x) (i := (x + 1 : Nat))) rfl ?_
  refine xt0 rfl <| xt0 rfl <| stw0 rfl ?_
  refine asg0 rfl <| done ?_
  refine Wp.ret ?_
  refine Ends.ret (.cons (.cell rfl rfl rfl (Nat.le_of_ble_eq_true rfl) (Fz.wk rfl)) <| .cons (.tmp rfl (Fz.pure rfl)) <|  .nil) ?_
  exact f_swap_k1

theorem f_countIs_k1 {p : Prop} (h : p := by
    refine congrArg D.bool ?_; unfold countIs; cases has <;> cases neg <;> simp_all <;> first | rfl | omega | (intros; omega)) : p := h
set_option maxRecDepth 20000 in
theorem f_countIs {has neg : Bool} {n : Int} : FnP PP 43 [.agg [.bool has, .bool neg, .int .i64 n]] (.bool (countIs ⟨has, neg, n⟩)) := by
  refine FnP.of_body Tryz.func43 rfl (by kernel_rfl) rfl ?_
  refine Wp.seq <| reg <| bx0 65 rfl ?_
  refine asg0 rfl <| done ?_
  refine Wp.seq <| Wp.seq <| reg <| faA0 rfl ?_
  refine ldA0 rfl ?_
  refine nt0 rfl <| done ?_
  refine Wp.cond rfl (fun c1 => ?_) (fun c1 => ?_)
  have nc1 := Nz c1
  refine Wp.seq <| reg <| ldA0 rfl ?_
  refine bdw0 rfl ?_
  refine cms0 rfl ?_
  refine asg0 rfl <| done ?_
  refine Wp.ret ?_
  refine Ends.ret (.cons (.tmp rfl (Fz.pure rfl)) <|  .nil) ?_
  exact f_countIs_k1
  have nc1 := Nz c1
  refine Wp.skip <| Wp.seq <| reg <| faA0 rfl ?_
  refine ldA0 rfl ?_
  refine cmp0 rfl <| mv0 rfl ?_
  refine bcase 12 rfl (fun h12 => ?_) (fun h12 => ?_)
  have nh12 := Nz h12
  refine faA1 rfl h12 rfl ?_
  refine ldA1 rfl h12 rfl ?_
  refine cmp1 rfl h12 rfl <| pkt0 rfl h12 <| asg0 rfl <| done ?_
  refine Wp.ret ?_
  refine Ends.ret (.cons (.tmp rfl (Fz.pure rfl)) <|  .nil) ?_
  exact f_countIs_k1
  have nh12 := Nz h12
  refine sk0 rfl h12 <| sk0 rfl h12 <| sk0 rfl h12 <| pkf0 rfl h12 <| asg0 rfl <| done ?_
  refine Wp.ret ?_
  refine Ends.ret (.cons (.tmp rfl (Fz.pure rfl)) <|  .nil) ?_
  exact f_countIs_k1

theorem f_digit_k1 {p : Prop} (h : p := by
    show _ = _; unfold digitS; (repeat' split) <;> first | rfl | (exfalso; omega) | (exfalso; simp_all; done) | (exfalso; simp_all <;> omega)) : p := h
set_option maxRecDepth 20000 in
theorem f_digit {has neg : Bool} {n d : Int} (hd : -1000000 ≤ d ∧ d ≤ 1000000) : FnP PP 58 [.agg [.bool has, .bool neg, .int .i64 n], .rows false ([d].map intR)] (countD (digitS ⟨has, neg, n⟩ d)) := by
  refine FnP.of_body Tryz.func58 rfl (by kernel_rfl) rfl ?_
  refine Wp.seq <| reg <| bx0 66 rfl ?_
  refine al0 68 rfl ?_
  refine done ?_
  refine Wp.seq <| Wp.seq <| reg <| ldA0 rfl ?_
  refine clw0 rfl f_countIs rfl ?_
  refine nt0 rfl <| done ?_
  refine Wp.cond rfl (fun c1 => ?_) (fun c1 => ?_)
  have nc1 := Nz c1
  refine Wp.seq <| reg <| ldA0 rfl ?_
  refine stw0 rfl ?_
  refine done ?_
  refine Wp.ret ?_
  refine Ends.ret (.cons (.cell rfl rfl rfl (Nat.le_of_ble_eq_true rfl) (Fz.wk rfl)) <|  .nil) ?_
  exact f_digit_k1
  have nc1 := Nz c1
  refine Wp.skip <| Wp.seq <| Wp.seq <| reg <| mv0 rfl ?_
  first | refine lnM0 rfl ?_ | refine lns0 rfl ?_ | refine ln0 rfl ?_
  refine mv0 rfl <| done ?_
  refine Wp.block <| Wp.rounds 2 ?_
  refine WpN.go ?_
  refine Wp.seq <| reg <| cmp0 rfl <| done ?_
  refine Wp.seq <| Wp.condT rfl rfl <| Wp.skip <| Wp.seq <| Wp.block <| Wp.seq <| reg <| iaD (0) (0) Bd rfl rfl Eq' rfl .none ?_
  refine ldA0 rfl ?_
  refine asg0 rfl <| done ?_
  refine Wp.seq <| Wp.seq <| reg ?_
  have hdd : ([d] : List Int).getD 0 0 = d := rfl
  refine mv0 rfl <| cmp0 rfl <| mv0 rfl ?_
  refine bcase 19 rfl (fun h19 => ?_) (fun h19 => ?_)
  have nh19 := Nz h19
  refine sk0 rfl h19 <| sk0 rfl h19 <| pkt0 rfl h19 <| done ?_
  refine Wp.condT rfl rfl <| Wp.exit <| reg <| ar0 rfl (wrapI Bd) <| mv0 rfl <| done ?_
  refine WpN.go ?_
  refine Wp.seq <| reg <| cmp0 rfl <| done ?_
  refine Wp.seq <| Wp.condF rfl rfl <| Wp.exit <| Wp.seq <| reg <| ldA0 rfl ?_
  refine stw0 rfl ?_
  refine done ?_
  refine Wp.ret ?_
  refine Ends.ret (.cons (.cell rfl rfl rfl (Nat.le_of_ble_eq_true rfl) (Fz.wk rfl)) <|  .nil) ?_
  exact f_digit_k1
  have nh19 := Nz h19
  refine mv1 rfl h19 rfl <| cmp1 rfl h19 rfl <| pkf0 rfl h19 <| done ?_
  refine Wp.cond rfl (fun c2 => ?_) (fun c2 => ?_)
  have nc2 := Nz c2
  refine Wp.exit <| reg <| ar0 rfl (wrapI Bd) <| mv0 rfl <| done ?_
  refine WpN.go ?_
  refine Wp.seq <| reg <| cmp0 rfl <| done ?_
  refine Wp.seq <| Wp.condF rfl rfl <| Wp.exit <| Wp.seq <| reg <| ldA0 rfl ?_
  refine stw0 rfl ?_
  refine done ?_
  refine Wp.ret ?_
  refine Ends.ret (.cons (.cell rfl rfl rfl (Nat.le_of_ble_eq_true rfl) (Fz.wk rfl)) <|  .nil) ?_
  exact f_digit_k1
  have nc2 := Nz c2
  refine Wp.skip <| reg <| faA0 rfl ?_
  have hn := count_n (has := has) (neg := neg) (n := n) (by simp_all)
  refine ldA0 rfl ?_
  refine ar0 rfl (wrapI Bd) <| mv0 rfl <| ar0 rfl (wrapI Bd) <| mn0 rfl ?_
  refine faA0 rfl ?_
  refine stw0 rfl ?_
  refine faA0 rfl ?_
  refine stw0 rfl ?_
  refine done ?_
  refine reg <| ar0 rfl (wrapI Bd) <| mv0 rfl <| done ?_
  refine WpN.go ?_
  refine Wp.seq <| reg <| cmp0 rfl <| done ?_
  refine Wp.seq <| Wp.condF rfl rfl <| Wp.exit <| Wp.seq <| reg <| ldA0 rfl ?_
  refine stw0 rfl ?_
  refine done ?_
  refine Wp.ret ?_
  refine Ends.ret (.cons (.cell rfl rfl rfl (Nat.le_of_ble_eq_true rfl) (Fz.wk rfl)) <|  .nil) ?_
  exact f_digit_k1

theorem f_minus_k1 {p : Prop} (h : p := by
    unfold minusS; cases has <;> cases neg <;> simp_all <;> rfl) : p := h
set_option maxRecDepth 20000 in
theorem f_minus {has neg : Bool} {n : Int} : FnP PP 59 [.agg [.bool has, .bool neg, .int .i64 n]] (countD (minusS ⟨has, neg, n⟩)) := by
  refine FnP.of_body Tryz.func59 rfl (by kernel_rfl) rfl ?_
  refine Wp.seq <| reg <| bx0 65 rfl ?_
  refine al0 66 rfl ?_
  refine done ?_
  refine Wp.seq <| Wp.seq <| reg <| ldA0 rfl ?_
  refine bdw0 rfl ?_
  refine cms0 rfl ?_
  refine done ?_
  refine Wp.cond rfl (fun c1 => ?_) (fun c1 => ?_)
  have nc1 := Nz c1
  refine reg <| faA0 rfl ?_
  refine stw0 rfl ?_
  refine faA0 rfl ?_
  refine stw0 rfl ?_
  refine done ?_
  refine Wp.seq <| reg <| ldA0 rfl ?_
  refine stw0 rfl ?_
  refine done ?_
  refine Wp.ret ?_
  refine Ends.ret (.cons (.cell rfl rfl rfl (Nat.le_of_ble_eq_true rfl) (Fz.wk rfl)) <|  .nil) ?_
  exact f_minus_k1
  have nc1 := Nz c1
  refine Wp.skip <| Wp.seq <| reg <| ldA0 rfl ?_
  refine stw0 rfl ?_
  refine done ?_
  refine Wp.ret ?_
  refine Ends.ret (.cons (.cell rfl rfl rfl (Nat.le_of_ble_eq_true rfl) (Fz.wk rfl)) <|  .nil) ?_
  exact f_minus_k1

theorem f_value_k1 {p : Prop} (h : p := by
    show _ = _; unfold valueS; (repeat' split) <;> first | rfl | (exfalso; omega) | (exfalso; simp_all; done) | (exfalso; simp_all <;> omega)) : p := h
set_option maxRecDepth 20000 in
theorem f_value {has neg : Bool} {n : Int} : FnP PP 57 [.agg [.bool has, .bool neg, .int .i64 n]] (.int .i64 (valueS ⟨has, neg, n⟩)) := by
  refine FnP.of_body Tryz.func57 rfl (by kernel_rfl) rfl ?_
  refine Wp.seq <| reg <| bx0 65 rfl ?_
  refine asg0 rfl <| done ?_
  refine Wp.seq <| Wp.block <| Wp.seq <| reg <| faA0 rfl ?_
  refine ldA0 rfl ?_
  refine nt0 rfl <| mv0 rfl ?_
  refine bcase 7 rfl (fun h7 => ?_) (fun h7 => ?_)
  have nh7 := Nz h7
  refine sk0 rfl h7 <| sk0 rfl h7 <| sk0 rfl h7 <| pkt0 rfl h7 <| asg0 rfl <| done ?_
  refine Wp.condT rfl rfl <| Wp.seq <| reg <| asg0 rfl <| done ?_
  refine Wp.ret ?_
  refine Ends.ret (.cons (.tmp rfl (Fz.pure rfl)) <|  .nil) ?_
  exact f_value_k1
  have nh7 := Nz h7
  refine ldA1 rfl h7 rfl ?_
  refine clw1 rfl h7 rfl f_countIs rfl ?_
  refine nt1 rfl h7 rfl <| pkf0 rfl h7 <| asg0 rfl <| done ?_
  refine Wp.cond rfl (fun c1 => ?_) (fun c1 => ?_)
  have nc1 := Nz c1
  refine Wp.seq <| reg <| asg0 rfl <| done ?_
  refine Wp.ret ?_
  refine Ends.ret (.cons (.tmp rfl (Fz.pure rfl)) <|  .nil) ?_
  exact f_value_k1
  have nc1 := Nz c1
  refine Wp.seq <| reg <| faA0 rfl ?_
  refine ldA0 rfl ?_
  refine asg0 rfl <| done ?_
  refine Wp.cond rfl (fun c2 => ?_) (fun c2 => ?_)
  have nc2 := Nz c2
  refine Wp.seq <| reg ?_
  have hn : n ≤ 9999 := by simp_all [countIs]
  refine faA0 rfl ?_
  refine ldA0 rfl ?_
  refine mx0 rfl ?_
  refine ng _ rfl (wrapI Bd) rfl .none ?_
  refine asg0 rfl <| done ?_
  refine Wp.ret ?_
  refine Ends.ret (.cons (.tmp rfl (Fz.pure rfl)) <|  .nil) ?_
  exact f_value_k1
  have nc2 := Nz c2
  refine Wp.skip <| Wp.seq <| reg <| faA0 rfl ?_
  refine ldA0 rfl ?_
  refine asg0 rfl <| done ?_
  refine Wp.ret ?_
  refine Ends.ret (.cons (.tmp rfl (Fz.pure rfl)) <|  .nil) ?_
  exact f_value_k1

end Go.Proofs.YtkcdmmafkpplhaaGreat
/- A line that is edited, told in Lean (layer 23). No program in sight. -/
namespace Go.Eng
open Go
structure Edit where
  g : Gap
  k : List (List Int)
  u : List Gap
  last : Int
  turn : Int
  size : Int
structure ActE where
  kind : Int
  move : Int
  op : Int
  r : Int
def editC (e : Edit) : List D := [rl e.g.a, rl e.g.b, rlL e.k, gpL e.u, .int .i64 e.last, .int .i64 e.turn, .int .i64 e.size]
abbrev editD (e : Edit) : D := .agg [rl e.g.a, rl e.g.b, rlL e.k, gpL e.u, .int .i64 e.last, .int .i64 e.turn, .int .i64 e.size]
abbrev actD (a : ActE) : D := .agg [.int .i64 a.kind, .int .i64 a.move, .int .i64 a.op, .int .i32 a.r]
def noEdit : Edit := ⟨⟨[], []⟩, [], [], 0, 0, 0⟩
def workC (w x : Edit) (a : ActE) (n : Int) : List D :=
  [rl w.g.a, rl w.g.b, rlL w.k, gpL w.u, .int .i64 w.last, .int .i64 w.turn, .int .i64 w.size,
   rl x.g.a, rl x.g.b, rlL x.k, gpL x.u, .int .i64 x.last, .int .i64 x.turn, .int .i64 x.size,
   .int .i64 a.kind, .int .i64 a.move, .int .i64 a.op, .int .i32 a.r, .int .i64 n]
def editIs (e : Edit) : Bool :=
  ((gapIs e.g && killIs e.k) && (undoIs e.u && decide (0 ≤ e.last ∧ e.last ≤ 3))) &&
  (if e.last = 3 then decide (0 ≤ e.turn ∧ e.turn < e.k.length ∧ 1 ≤ e.size ∧ e.size ≤ e.g.a.length) else decide (e.turn = 0 ∧ e.size = 0))
def countsB (n : Int) : Bool := decide (-9999 ≤ n ∧ n ≤ 9999)
def oppL : List Int := [0, 2, 1, 0, 0, 6, 5, 8, 7, 8]
def oppS (m : Int) : Int := oppL.getD m.toNat 0
def stepS (l : List Int) (at_ : Nat) (m : Int) : Nat :=
  if m = 1 then at_ - 1 else if m = 2 then min (at_ + 1) l.length else if m = 5 then foreS l at_ else if m = 6 then behindS l at_ else if m = 7 then nextS l at_ else if m = 8 then prevS l at_ else tailS l at_
def iterS (l : List Int) (m : Int) : Nat → Nat → Nat
  | 0, i => i
  | n + 1, i => if stepS l i m = i then i else iterS l m n (stepS l i m)
def dirS (m n : Int) : Int := if n < 0 then oppS m else m
def targetS (l : List Int) (at_ m n : Int) : Int × Int :=
  if at_ < 0 ∨ (l.length : Int) < at_ ∨ m < 1 ∨ 10 < m ∨ countsB n = false then (0, 1)
  else if m = 3 then (0, 0) else if m = 4 ∨ m = 10 then ((l.length : Int), 0)
  else ((iterS l (dirS m n) n.natAbs at_.toNat : Nat), 0)
def targetD (x : Int × Int) : D := .tup [.int .i64 x.1, .int .i64 x.2]
def remS (w x : Edit) : Edit := ⟨x.g, x.k, pushS w.u w.g, x.last, x.turn, x.size⟩
def layS (x : Edit) (l : List Int) (i : Int) : Edit := ⟨(ofS l i).1, x.k, x.u, x.last, x.turn, x.size⟩
def putS (x : Edit) (g : Gap) (l : List Int) : Edit × Int := (⟨(insS g l).1, x.k, x.u, x.last, x.turn, x.size⟩, (insS g l).2)
def textE (w x : Edit) (g : Gap) (turn : Int) : Edit × Int := putS ⟨x.g, x.k, x.u, 3, turn, (getS w.k turn).1.length⟩ g (getS w.k turn).1
def yankS (w x : Edit) : Edit × Int := if w.k.length = 0 then (x, 7) else textE w (remS w x) w.g 0
def popE (w x : Edit) : Edit × Int := if w.last ≠ 3 then (x, 7) else textE w x (cutS w.g (-w.size)).1 (((w.turn + 1).toNat % w.k.length : Nat) : Int)
def backS (w x : Edit) : Edit × Int := if (popS w.u).2 ≠ 0 then (x, 7) else (⟨(popS w.u).1.2, x.k, (popS w.u).1.1, x.last, x.turn, x.size⟩, 0)
def swapE (w x : Edit) : Edit × Int := (⟨(swapS w.g).1, x.k, pushS w.u w.g, x.last, x.turn, x.size⟩, (swapS w.g).2)
def lastI (x : Edit) : Edit := ⟨x.g, x.k, x.u, 1, x.turn, x.size⟩
def insertS (w x : Edit) (r n : Int) : Edit × Int := if n < 1 then (x, 7) else putS (lastI (if w.last ≠ 1 then remS w x else x)) w.g (List.replicate n.toNat r)
def howS (w : Edit) (on : Bool) : Int := if w.last ≠ 2 then 0 else if on = true then 1 else -1
def subS (l : List Int) (lo hi : Int) : List Int := (l.take hi.toNat).drop lo.toNat
def restS (l : List Int) (lo hi : Int) : List Int := [l.take lo.toNat, l.drop hi.toNat].flatten
def killE (w x : Edit) (s : List Int) (how : Int) : Edit := ⟨x.g, addS w.k s how, x.u, x.last, x.turn, x.size⟩
def cutE (w x : Edit) (s : List Int) (how : Int) : Edit := ⟨x.g, addS w.k s how, pushS w.u w.g, 2, x.turn, x.size⟩
def passS (w x : Edit) (op : Int) (l : List Int) (lo hi : Int) (on : Bool) : Edit × Int :=
  if op = 3 then (layS (killE w x (subS l lo hi) 0) l lo, 0)
  else if 4 ≤ op then (layS (remS w x) (changeS l lo hi op).1 hi, 0)
  else if op = 2 then (layS (cutE w x (subS l lo hi) (howS w on)) (restS l lo hi) lo, 0)
  else (layS (remS w x) (restS l lo hi) lo, 0)
def spanS (l : List Int) (at_ : Nat) (to m : Int) : Int × Int :=
  if m = 10 then (0, (l.length : Int)) else if m = 9 ∧ (at_ : Int) < to then (min (at_ : Int) to, min (to + 1) (l.length : Int)) else (min (at_ : Int) to, max (at_ : Int) to)
def moveT (w x : Edit) (a : ActE) (l : List Int) (to : Int) : Edit × Int :=
  if a.op = 0 then (if to = w.g.a.length then (x, 7) else (⟨goS w.g to, x.k, x.u, x.last, x.turn, x.size⟩, 0))
  else if (spanS l w.g.a.length to a.move).1 = (spanS l w.g.a.length to a.move).2 then (x, 7)
  else passS w x a.op l (spanS l w.g.a.length to a.move).1 (spanS l w.g.a.length to a.move).2 (decide ((w.g.a.length : Int) < to ∨ a.move = 10))
def moveS (w x : Edit) (a : ActE) (n : Int) : Edit × Int := moveT w x a (w.g.a ++ w.g.b) (targetS (w.g.a ++ w.g.b) w.g.a.length a.move n).1
def actsS (e : Edit) (a : ActE) (n : Int) : Edit × Int :=
  if a.kind = 2 then insertS e ⟨e.g, e.k, e.u, 0, 0, 0⟩ a.r n else if a.kind = 3 then yankS e ⟨e.g, e.k, e.u, 0, 0, 0⟩ else if a.kind = 4 then popE e ⟨e.g, e.k, e.u, 0, 0, 0⟩
  else if a.kind = 5 then backS e ⟨e.g, e.k, e.u, 0, 0, 0⟩ else if a.kind = 6 then swapE e ⟨e.g, e.k, e.u, 0, 0, 0⟩ else moveS e ⟨e.g, e.k, e.u, 0, 0, 0⟩ a n
def knownB (a : ActE) : Bool :=
  decide (1 ≤ a.kind ∧ a.kind ≤ 6) && (if a.kind = 1 then decide (1 ≤ a.move ∧ a.move ≤ 10 ∧ 0 ≤ a.op ∧ a.op ≤ 6) else if a.kind = 2 then signB a.r else true)
def doS (e : Edit) (a : ActE) (n : Int) : Edit × Int :=
  if editIs e = false ∨ countsB n = false ∨ knownB a = false then (noEdit, 1) else if (actsS e a n).2 ≠ 0 then (noEdit, (actsS e a n).2) else ((actsS e a n).1, 0)
def doD (x : Edit × Int) : D := .tup [editD x.1, .int .i64 x.2]
end Go.Eng
