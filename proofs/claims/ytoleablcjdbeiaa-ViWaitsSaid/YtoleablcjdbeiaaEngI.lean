/- The engine, part I: loops of so many rounds; steps for appends, strings' bytes and conversions. No program in sight. -/
import Derived.Test.YtoleablcjdbeiaaEngH
import Derived.LoopN
namespace Go.Eng
open Go

section
variable {P : Program} {Q : Exit → St → Prop} {st : St}
/-- A loop that is walked round by round. -/
def WpN (P : Program) (c : Code) (Q : Exit → St → Prop) : Nat → St → Prop
  | 0, _ => False
  | n + 1, st => Wp P c (fun e st' => match e with | .normal => WpN P c Q n st' | e => Q e st') st
theorem Wp.rounds {c : Code} (n : Nat) (h : WpN P c Q n st) : Wp P (.loop c) Q st := by
  have key : ∀ n st, WpN P c Q n st → ∀ B ρ H a w, Rel B st ρ H a w → Code.rounds P c (fun e a' w' => ∃ st' ρ' H', Rel B st' ρ' H' a' w' ∧ Q e st') n a w := by
    intro n
    induction n with
    | zero => intro st h; exact h.elim
    | succ n ih =>
      intro st h B ρ H a w hR
      refine Go.wp_mono (h B ρ H a w hR) fun e a' w' ⟨st', ρ', H', hR', hq⟩ => ?_
      cases e with
      | normal => exact ih st' hq B ρ' H' a' w' hR'
      | _ => exact ⟨st', ρ', H', hR', hq⟩
  exact fun B ρ H a w hR => wp_loop_rounds n (key n st h B ρ H a w hR)
theorem WpN.go {c : Code} {n : Nat} (h : Wp P c (fun e st' => match e with | .normal => WpN P c Q n st' | e => Q e st') st) : WpN P c Q (n + 1) st := h
theorem Wp.condT {c : Operand} {x y : Code} {b : Bool} (hc : st.val c = some (.bool b)) (hb : b = true) (ht : Wp P x Q st) : Wp P (.cond c x y) Q st := Wp.cond hc (fun _ => ht) (fun h => by rw [hb] at h; cases h)
theorem Wp.condF {c : Operand} {x y : Code} {b : Bool} (hc : st.val c = some (.bool b)) (hb : b = false) (hf : Wp P y Q st) : Wp P (.cond c x y) Q st := Wp.cond hc (fun h => by rw [hb] at h; cases h) (fun _ => hf)

section
variable {t : Nat} {ty : TypeId} {pos : String} {af : Array Edge} {g : Option (Nat × Bool)} {d : D}
/-- A type of strings. -/
class TyStr (P : Program) (t : TypeId) : Prop where
  und : P.underlying t = some .string
theorem lok_index {x y : Operand} {T : TypeId} {s : ByteArray} {k : IntKind} {i : Int} {m : Nat} {b : UInt8} [hT : TyStr P T] (hx : st.val x = some (.str s)) (hy : st.val y = some (.int k i)) (hi : i = (m : Int)) (hm : s[m]? = some b) (hd : t < st.n) :
    LOk P ⟨some t, .index T x y, ty, pos, af, g⟩ st ⟨[], [], .int .u8 b.toNat, []⟩ :=
  lok_pure hd fun _ st2 _ _ a w ag hR => ⟨.int .u8 b.toNat, by
    have h1 := (hR.val ((ag.val x (by simp [Op.operands])).trans hx)).str_inv
    have h2 := (hR.val ((ag.val y (by simp [Op.operands])).trans hy)).int_inv
    subst hi
    simp [execOp, Instr.index, h1, h2, asIntOf, run_underlying hT.und, hm], .pure (.int _ _)⟩

/-- A conversion to an integer. -/
theorem lok_conv {x : Operand} {S T : TypeId} {k k' : IntKind} {i r : Int} [hS : TyI P S k] [hT : TyI P T k'] (hx : st.val x = some (.int k i)) (hr : k'.wrap i = r) (hd : t < st.n) :
    LOk P ⟨some t, .convert S T x, ty, pos, af, g⟩ st ⟨[], [], .int k' r, []⟩ :=
  lok_pure hd fun _ st2 _ _ a w ag hR => ⟨.int k' r, by
    have h1 := (hR.val ((ag.val x (by simp [Op.operands])).trans hx)).int_inv
    simp [execOp, convert, h1, run_underlying hS.und, run_underlying hT.und, Conv.intToInt, hr], .pure (.int _ _)⟩

theorem lok_len_sl {x : Operand} {T e : TypeId} {sz by_ j lo n : Nat} [hT : TySl P T e sz by_] (hx : st.val x = some (.sl j lo n)) (hd : t < st.n) :
    LOk P ⟨some t, .call ⟨.builtin .len, #[x], #[T]⟩, ty, pos, af, g⟩ st ⟨[], [], .int .i64 n, []⟩ :=
  lok_pure hd fun _ st2 _ _ a w ag hR => ⟨.int .i64 n, by
    obtain ⟨a1, c, h1, _⟩ := (hR.val ((ag.val x (by simp [Op.operands, Call.operands])).trans hx)).sl_inv
    simp [execOp, resolve, invoke, builtin, h1, Builtin.len_, run_underlying hT.und, goInt], .pure (.int _ _)⟩
end
end

theorem DenP.weakR {H : GH} {l : List (List D)} {v : Value} (h : DenP H (.rows true l) v) : DenP H (.rows false l) v := by
  cases h with
  | rowsE _ a cap hf => exact .rowsE false a cap (by simp)
  | rowsS _ _ b off cap sz arr ty fz hb hne hlen hf hsz hin he => exact .rowsS false l b off cap sz arr ty fz hb hne hlen (by simp) hsz hin he
theorem Fz.weakR {st : St} {l : List (List D)} : Fz st (.rows true l) (.rows false l) := fun _ _ _ _ _ _ _ _ _ hd hle _ => ((hd.toP rfl).mono hle).weakR

section steps
variable {P : Program} {ops : Array Oper} {r : List Oper} {acc : List Eff} {n : Nat} {tm : List (Nat × D)} {ow : List (Nat × Option Blk)} {F : List Eff → St → Prop}
  {t : Nat} {ty : TypeId} {pos : String} {af : Array Edge} {g : Option (Nat × Bool)} {d : D}
theorem ix {x y : Operand} {T : TypeId} {s : ByteArray} {k : IntKind} {i : Int} {b : UInt8} {c : Int} [hT : TyStr P T] (m : Nat) (hx : St.val ⟨n, tm, ow⟩ x = some (.str s)) (hy : St.val ⟨n, tm, ow⟩ y = some (.int k i)) (hi : i = (m : Int)) (hm : s[m]? = some b)
    (hc : (b.toNat : Int) = c) (hd : Nat.blt t n = true) (hg : Gd ops ⟨n, tm, ow⟩ g) (h : WpD P ops r (⟨[], [], .int .u8 c, []⟩ :: acc) ⟨n, (t, .int .u8 c) :: tm, ow⟩ F) : WpD P ops (⟨some t, .index T x y, ty, pos, af, g⟩ :: r) acc ⟨n, tm, ow⟩ F := by
  subst hc; exact step (lok_index hx hy hi hm (blt_lt hd)) hg rfl h
theorem cv {x : Operand} {S T : TypeId} {k k' : IntKind} {i : Int} (s : Int) [hS : TyI P S k] [hT : TyI P T k'] (hx : St.val ⟨n, tm, ow⟩ x = some (.int k i)) (hr : k'.wrap i = s) (hd : Nat.blt t n = true) (hg : Gd ops ⟨n, tm, ow⟩ g)
    (h : WpD P ops r (⟨[], [], .int k' s, []⟩ :: acc) ⟨n, (t, .int k' s) :: tm, ow⟩ F) : WpD P ops (⟨some t, .convert S T x, ty, pos, af, g⟩ :: r) acc ⟨n, tm, ow⟩ F := step (lok_conv hx hr (blt_lt hd)) hg rfl h
theorem lns {x : Operand} {T e : TypeId} {sz by_ j lo m : Nat} [hT : TySl P T e sz by_] (hx : St.val ⟨n, tm, ow⟩ x = some (.sl j lo m)) (hd : Nat.blt t n = true) (hg : Gd ops ⟨n, tm, ow⟩ g)
    (h : WpD P ops r (⟨[], [], .int .i64 m, []⟩ :: acc) ⟨n, (t, .int .i64 m) :: tm, ow⟩ F) : WpD P ops (⟨some t, .call ⟨.builtin .len, #[x], #[T]⟩, ty, pos, af, g⟩ :: r) acc ⟨n, tm, ow⟩ F := step (lok_len_sl hx (blt_lt hd)) hg rfl h
theorem apo (j' : Nat) {x y : Operand} {T T2 e e2 : TypeId} {sz by_ sz2 by2 j q : Nat} {fy : Bool} {zs : List D} {l m lm : List (List D)} [hT : TySl P T e sz by_] [hT2 : TySl P T2 e2 sz2 by2] [hZ : TyZ P e zs] (hx : St.val ⟨n, tm, ow⟩ x = some (.sl j 0 q))
    (hj : St.blk ⟨n, tm, ow⟩ j = some (.buf sz l)) (hq : q = l.length) (hy : St.val ⟨n, tm, ow⟩ y = some (.rows fy m)) (hm : RowsOk sz m) (hroom : (2 * (l.length + m.length) + 512) * by_ ≤ 281474976710656) (hb0 : Nat.blt 0 by_ = true) (hl : l ++ m = lm)
    (hf : St.freshB ⟨n, tm, ow⟩ j' = true) (hd : Nat.blt t n = true) (hg : Gd ops ⟨n, tm, ow⟩ g)
    (h : WpD P ops r (⟨[j], [j'], .sl j' 0 lm.length, [(j', some (.buf sz lm)), (j, none)]⟩ :: acc) ⟨n, (t, .sl j' 0 lm.length) :: tm, (j', some (.buf sz lm)) :: (j, none) :: ow⟩ F) :
    WpD P ops (⟨some t, .call ⟨.builtin .append, #[x, y], #[T, T2]⟩, ty, pos, af, g⟩ :: r) acc ⟨n, tm, ow⟩ F := by
  subst hl; exact step (lok_append_own j' hx hj hq hy hm hroom hb0 (blt_lt hd)) hg (by simpa using hf) h
theorem apn (j0 j' : Nat) {x y : Operand} {T T2 e e2 : TypeId} {sz by_ sz2 by2 : Nat} {fy : Bool} {zs : List D} {m : List (List D)} [hT : TySl P T e sz by_] [hT2 : TySl P T2 e2 sz2 by2] [hZ : TyZ P e zs] (hx : St.val ⟨n, tm, ow⟩ x = some (.rows true []))
    (hy : St.val ⟨n, tm, ow⟩ y = some (.rows fy m)) (hm : RowsOk sz m) (hroom : (2 * m.length + 512) * by_ ≤ 281474976710656) (hne : Nat.beq j' j0 = false) (hb0 : Nat.blt 0 by_ = true)
    (hf : (St.freshB ⟨n, tm, ow⟩ j' && St.freshB ⟨n, tm, ow⟩ j0) = true) (hd : Nat.blt t n = true) (hg : Gd ops ⟨n, tm, ow⟩ g)
    (h : WpD P ops r (⟨[], [j', j0], .sl j' 0 m.length, [(j', some (.buf sz m)), (j0, none)]⟩ :: acc) ⟨n, (t, .sl j' 0 m.length) :: tm, (j', some (.buf sz m)) :: (j0, none) :: ow⟩ F) :
    WpD P ops (⟨some t, .call ⟨.builtin .append, #[x, y], #[T, T2]⟩, ty, pos, af, g⟩ :: r) acc ⟨n, tm, ow⟩ F :=
  step (lok_append_nil j0 j' hx hy hm hne hroom hb0 (blt_lt hd)) hg (by simpa using hf) h
end steps
end Go.Eng
