/-
  Proved: for every int, key and bool, typebarlaw18.ViWaits returns true, and its arguments read behind the call as before. No condition.
  (The shell was written by the kit's proof-skeleton; the walk is by contract.)
-/
import Derived.Test.YtoleablcjdbeiaaRows
import Derived.Test.YtoleablcjdbeiaaV6
import Derived.Test.YtoleablcjdbeiaaEngJ
import Derived.WalkKit
import Derived.ProofKit
import Derived.OpenShut
import Derived.ShutString
import Derived.ChangeOld
import Derived.Below
import Derived.Lib.SmallJoins
namespace Go.Proofs.Ytoleablcjdbeiaa.viWaits
open Go.ChangeShapes Go.WideShapes Go.ChangeAt Go.RowKit
open Go.ChangeMaps (open_string shut_string)
set_option linter.unusedVariables false

theorem own : ownKnob Try.prog.godebug = none := by kernel_rfl
theorem laidOut : laidOutB Try.prog = true := by kernel_rfl

theorem walk (o k r : Int) (b : Bool) (w : World) :
    Calls Try.prog 4 #[.int .i64 o, .agg #[.int .i64 k, .int .i32 r], .bool b] w fun e w' => e = .returned (.bool true) ∧ Below w.heap.size w w' := by
  refine ((f_ViWaits (op := o) (k := k) (r := r) (dg := b)).run w (fun _ => none) _ (by simp) rfl fun i d v hk hv => ?_).mono fun e w' ⟨v, H', he, hv, hb⟩ => ⟨by cases hv; exact he, hb.below⟩
  match i, hk, hv with
  | 0, hk, hv => simp at hk hv; subst hk; subst hv; exact .int _ _
  | 1, hk, hv =>
    simp at hk hv; subst hk; subst hv
    refine .agg _ _ rfl fun q d v hq hv => ?_
    match q, hq, hv with
    | 0, hq, hv => simp at hq hv; subst hq; subst hv; exact .int _ _
    | 1, hq, hv => simp at hq hv; subst hq; subst hv; exact .int _ _
    | q + 2, hq, hv => simp at hq
  | 2, hk, hv => simp at hk hv; subst hk; subst hv; exact .bool b
  | i + 3, hk, hv => simp at hk

/-! ### THE ROW's STEP: WRITTEN OUT: LEAVE IT -/
set_option maxRecDepth 100000 in
theorem lifted (os : Os) (started : os.Started) (H : Type) (enc : TypeId × Value → H) :
    ReturnsInHanded {} Try.checked os 4 .any (Rows.viWaitsSpec.pre6 enc Try.prog Try.f4 Rows.viWaitsRow.domain false) (Rows.viWaitsSpec.post enc Try.prog Try.f4 false true false false) := by
  refine returnsInHanded_of_change (C := Try.checked) own started (by kernel_rfl) Try.func4
    (ChangeSpec.witness6 (enc := enc) (C := Try.checked) false ⟨#[], #[.int .i64 0, .agg #[.int .i64 0, .int .i32 0], .bool false], []⟩ 8 (by kernel_rfl) (by kernel_rfl) (by kernel_rfl) (by kernel_rfl)) ?_
  intro W base args ds gs before hval0 hW hcnd _
  have hval : ∀ (j : Nat) t v, Try.f4.params[j]? = some t → args[j]? = some v → Value.okWide Try.prog W .any base t v := hval0
  have hW' := hW
  obtain ⟨p, q, hA0, hV, rfl, hfz, hnd⟩ := hW
  have hA : DataW.TrodAll enc Try.prog W 0 (fun _ => true) true Try.f4.params.toList args.toList ds p := hA0
  rw [Try.params4] at hA hval
  obtain ⟨v0, vs0, d0, ds0, p0, q0, hargs, rfl, rfl, h0, r0⟩ := trodAll_cons hA
  obtain ⟨v1, vs1, d1, ds1, p1, q1, rfl, rfl, rfl, h1, r1⟩ := trodAll_cons r0
  obtain ⟨v2, vs2, d2, ds2, p2, q2, rfl, rfl, rfl, h2, r2⟩ := trodAll_cons r1
  obtain ⟨rfl, rfl, rfl⟩ := trodAll_nil r2
  obtain rfl : args = #[v0, v1, v2] := by cases args; simp_all
  obtain ⟨rfl, rfl⟩ := trodVars_none hV
  obtain ⟨o, rfl, rfl, rfl, w0⟩ := open_int Try.underlying3 (hval 0 3 v0 rfl rfl) h0
  have k1 := h1
  have lt1 : ∀ x ∈ p1, x.block < W.heap.size := by obtain ⟨m, hm⟩ := k1; exact DataW.trod_lt m _ _ _ hm
  obtain ⟨k, r, rfl⟩ : ∃ k r, v1 = .agg #[.int .i64 k, .int .i32 r] := by
    obtain ⟨x0, x1, y0, y1, n, rfl, _, _, e0, e1⟩ := Go.Joins.open_agg2 Try.underlying29 (by kernel_rfl) (by kernel_rfl) (hval 1 29 v1 rfl rfl) h1
    obtain ⟨k, hk, _, _⟩ := DataW.trod_int Try.underlying3 e0
    obtain ⟨r, hr, _, _⟩ := DataW.trod_int Try.underlying21 e1
    simp at hk hr
    subst hk; subst hr
    exact ⟨k, r, rfl⟩
  obtain ⟨b, rfl, rfl, rfl⟩ := open_bool Try.underlying4 (hval 2 4 v2 rfl rfl) h2
  clear hA0 hval0
  refine (walk o k r b W).mono fun e W' ⟨he, bel⟩ => ?_
  subst he
  exact ⟨_, rfl, _, _, _, [], _, [], hW', trodAll_mk1 (shut_bool Try.underlying4 _), (trodAll_cons_mk (shut_int Try.underlying3 w0) (trodAll_cons_mk (Below.trod laidOut (by kernel_rfl) (of_decide_eq_true (by kernel_rfl)) k1 bel lt1) (trodAll_cons_mk (shut_bool Try.underlying4 _) trodAll_mk0))), rfl, bel.frame _, fun h => by cases h⟩

theorem over : Rows.viWaitsRow.holds Try.pinned (OpenSpec.ofChange Rows.viWaitsSpec) :=
  OpenClaim.holds_of_wide 4 Try.f4 rfl rfl rfl rfl rfl rfl rfl ⟨rfl, rfl, rfl, rfl, rfl⟩ rfl rfl rfl rfl rfl (by kernel_rfl) Try.func4 (by kernel_rfl)
    (of_decide_eq_true (by kernel_rfl)) (by unfold Func.isWrapper; first | (rw [if_pos (by decide +kernel)]; kernel_rfl) | (rw [if_neg (by decide +kernel)]; exact ⟨rfl, rfl⟩))
    (fun os started H enc _ => lifted os started H enc)

/-- ████ THE STATEMENT ████ -/
theorem proved : Rows.ViWaitsSaid := over
#print axioms proved
end Go.Proofs.Ytoleablcjdbeiaa.viWaits
