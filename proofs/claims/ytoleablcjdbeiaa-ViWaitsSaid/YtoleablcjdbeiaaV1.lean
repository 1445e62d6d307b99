/- Walks of layers 1, 17, 18. -/
import Derived.Test.YtoleablcjdbeiaaTy
namespace Go.Proofs.Ytoleablcjdbeiaa
open Go.Eng
theorem wrapI {x : Int} (h : -9223372036854775808 ≤ x ∧ x ≤ 9223372036854775807) : IntKind.i64.wrap x = x := by
  exact IntWalk.i64_in _ h
def signB (r : Int) : Bool := decide (0 ≤ r ∧ r ≤ 1114111 ∧ ¬ (55296 ≤ r ∧ r ≤ 57343))
def viIs (m o : Int) : Bool := if m = 0 then o == 0 else if m = 1 then decide (0 ≤ o ∧ o ≤ 3) else false

set_option maxRecDepth 20000 in
theorem f_ValidRune {r : Int} : FnP PP 11 [.int .i32 r] (.bool (signB r)) := by
  refine FnP.of_body Try.func11 rfl (by kernel_rfl) rfl ?_
  refine Wp.seq ?_
  refine reg ?_
  refine asg rfl rfl .none ?_
  refine done ?_
  refine Wp.seq ?_
  refine Wp.block ?_
  refine Wp.seq ?_
  refine reg ?_
  refine mv rfl rfl .none ?_
  refine cmp rfl rfl rfl rfl .none ?_
  refine mv rfl rfl .none ?_
  refine bcase 6 rfl (fun h6 => ?_) (fun h6 => ?_)
  · skip
    refine mv rfl rfl (.want rfl rfl h6) ?_
    refine cmp rfl rfl rfl rfl (.want rfl rfl h6) ?_
    refine pkt rfl h6 rfl rfl .none ?_
    refine asg rfl rfl .none ?_
    refine done ?_
    refine Wp.cond rfl (fun c1 => ?_) (fun c1 => ?_)
    · skip
      refine Wp.seq ?_
      refine reg ?_
      refine asg rfl rfl .none ?_
      refine done ?_
      refine Wp.ret ?_
      refine Ends.ret (.cons (.tmp rfl (Fz.pure rfl)) <|  .nil) ?_
      simp_all [signB, retD] <;> omega
    · skip
      refine Wp.seq ?_
      refine reg ?_
      refine mv rfl rfl .none ?_
      refine cmp rfl rfl rfl rfl .none ?_
      refine mv rfl rfl .none ?_
      refine bcase 13 rfl (fun h13 => ?_) (fun h13 => ?_)
      · skip
        refine mv rfl rfl (.want rfl rfl h13) ?_
        refine cmp rfl rfl rfl rfl (.want rfl rfl h13) ?_
        refine pkt rfl h13 rfl rfl .none ?_
        refine asg rfl rfl .none ?_
        refine done ?_
        refine Wp.cond rfl (fun c2 => ?_) (fun c2 => ?_)
        · skip
          refine Wp.seq ?_
          refine reg ?_
          refine asg rfl rfl .none ?_
          refine done ?_
          refine Wp.ret ?_
          refine Ends.ret (.cons (.tmp rfl (Fz.pure rfl)) <|  .nil) ?_
          simp_all [signB, retD] <;> omega
        · skip
          refine Wp.skip ?_
          refine Wp.seq ?_
          refine reg ?_
          refine asg rfl rfl .none ?_
          refine done ?_
          refine Wp.ret ?_
          refine Ends.ret (.cons (.tmp rfl (Fz.pure rfl)) <|  .nil) ?_
          simp_all [signB, retD] <;> omega
      · skip
        refine sk rfl rfl h13 rfl ?_
        refine sk rfl rfl h13 rfl ?_
        refine pkf rfl h13 rfl rfl .none ?_
        refine asg rfl rfl .none ?_
        refine done ?_
        refine Wp.condF rfl rfl ?_
        refine Wp.skip ?_
        refine Wp.seq ?_
        refine reg ?_
        refine asg rfl rfl .none ?_
        refine done ?_
        refine Wp.ret ?_
        refine Ends.ret (.cons (.tmp rfl (Fz.pure rfl)) <|  .nil) ?_
        simp_all [signB, retD] <;> omega
  · skip
    refine sk rfl rfl h6 rfl ?_
    refine sk rfl rfl h6 rfl ?_
    refine pkf rfl h6 rfl rfl .none ?_
    refine asg rfl rfl .none ?_
    refine done ?_
    refine Wp.condF rfl rfl ?_
    refine Wp.seq ?_
    refine reg ?_
    refine mv rfl rfl .none ?_
    refine cmp rfl rfl rfl rfl .none ?_
    refine mv rfl rfl .none ?_
    refine bcase 13 rfl (fun h13 => ?_) (fun h13 => ?_)
    · skip
      refine mv rfl rfl (.want rfl rfl h13) ?_
      refine cmp rfl rfl rfl rfl (.want rfl rfl h13) ?_
      refine pkt rfl h13 rfl rfl .none ?_
      refine asg rfl rfl .none ?_
      refine done ?_
      refine Wp.cond rfl (fun c3 => ?_) (fun c3 => ?_)
      · skip
        refine Wp.seq ?_
        refine reg ?_
        refine asg rfl rfl .none ?_
        refine done ?_
        refine Wp.ret ?_
        refine Ends.ret (.cons (.tmp rfl (Fz.pure rfl)) <|  .nil) ?_
        simp_all [signB, retD] <;> omega
      · skip
        refine Wp.skip ?_
        refine Wp.seq ?_
        refine reg ?_
        refine asg rfl rfl .none ?_
        refine done ?_
        refine Wp.ret ?_
        refine Ends.ret (.cons (.tmp rfl (Fz.pure rfl)) <|  .nil) ?_
        simp_all [signB, retD] <;> omega
    · skip
      refine sk rfl rfl h13 rfl ?_
      refine sk rfl rfl h13 rfl ?_
      refine pkf rfl h13 rfl rfl .none ?_
      refine asg rfl rfl .none ?_
      refine done ?_
      refine Wp.condF rfl rfl ?_
      refine Wp.skip ?_
      refine Wp.seq ?_
      refine reg ?_
      refine asg rfl rfl .none ?_
      refine done ?_
      refine Wp.ret ?_
      refine Ends.ret (.cons (.tmp rfl (Fz.pure rfl)) <|  .nil) ?_
      simp_all [signB, retD] <;> omega

set_option maxRecDepth 20000 in
theorem f_glyphIs {r : Int} : FnP PP 6 [.int .i32 r] (.bool (signB r)) := by
  refine FnP.of_body Try.func6 rfl (by kernel_rfl) rfl ?_
  refine Wp.seq ?_
  refine reg ?_
  refine asg rfl rfl .none ?_
  refine done ?_
  refine Wp.seq ?_
  refine reg ?_
  refine mv rfl rfl .none ?_
  refine cl rfl rfl f_ValidRune rfl rfl .none ?_
  refine asg rfl rfl .none ?_
  refine done ?_
  refine Wp.ret ?_
  refine Ends.ret (.cons (.tmp rfl (Fz.pure rfl)) <|  .nil) ?_
  rfl

set_option maxRecDepth 20000 in
theorem f_viIs {m o : Int} : FnP PP 9 [.agg [.int .i64 m, .int .i64 o]] (.bool (viIs m o)) := by
  refine FnP.of_body Try.func9 rfl (by kernel_rfl) rfl ?_
  refine Wp.seq ?_
  refine reg ?_
  refine bx 1 rfl rfl rfl rfl .none ?_
  refine asg rfl rfl .none ?_
  refine done ?_
  refine Wp.seq ?_
  refine Wp.seq ?_
  refine reg ?_
  first | refine fa rfl rfl rfl .none ?_ | refine fap rfl rfl rfl rfl .none ?_
  first | refine ld rfl rfl rfl rfl rfl .none ?_ | refine ldp rfl rfl rfl .none ?_
  refine done ?_
  refine Wp.block ?_
  refine Wp.seq ?_
  refine reg ?_
  refine cmp rfl rfl rfl rfl .none ?_
  refine asg rfl rfl .none ?_
  refine done ?_
  refine Wp.cond rfl (fun c1 => ?_) (fun c1 => ?_)
  · skip
    refine Wp.seq ?_
    refine reg ?_
    first | refine fa rfl rfl rfl .none ?_ | refine fap rfl rfl rfl rfl .none ?_
    first | refine ld rfl rfl rfl rfl rfl .none ?_ | refine ldp rfl rfl rfl .none ?_
    refine cmp rfl rfl rfl rfl .none ?_
    refine asg rfl rfl .none ?_
    refine done ?_
    refine Wp.ret ?_
    refine Ends.ret (.cons (.tmp rfl (Fz.pure rfl)) <|  .nil) ?_
    simp_all [viIs, retD] <;> omega
  · skip
    refine Wp.seq ?_
    refine reg ?_
    refine cmp rfl rfl rfl rfl .none ?_
    refine asg rfl rfl .none ?_
    refine done ?_
    refine Wp.cond rfl (fun c2 => ?_) (fun c2 => ?_)
    · skip
      refine Wp.seq ?_
      refine reg ?_
      first | refine fa rfl rfl rfl .none ?_ | refine fap rfl rfl rfl rfl .none ?_
      first | refine ld rfl rfl rfl rfl rfl .none ?_ | refine ldp rfl rfl rfl .none ?_
      refine cmp rfl rfl rfl rfl .none ?_
      refine mv rfl rfl .none ?_
      refine bcase 15 rfl (fun h15 => ?_) (fun h15 => ?_)
      · skip
        first | refine fa rfl rfl rfl (.want rfl rfl h15) ?_ | refine fap rfl rfl rfl rfl (.want rfl rfl h15) ?_
        first | refine ld rfl rfl rfl rfl rfl (.want rfl rfl h15) ?_ | refine ldp rfl rfl rfl (.want rfl rfl h15) ?_
        refine cmp rfl rfl rfl rfl (.want rfl rfl h15) ?_
        refine pkt rfl h15 rfl rfl .none ?_
        refine asg rfl rfl .none ?_
        refine done ?_
        refine Wp.ret ?_
        refine Ends.ret (.cons (.tmp rfl (Fz.pure rfl)) <|  .nil) ?_
        simp_all [viIs, retD] <;> omega
      · skip
        refine sk rfl rfl h15 rfl ?_
        refine sk rfl rfl h15 rfl ?_
        refine sk rfl rfl h15 rfl ?_
        refine pkf rfl h15 rfl rfl .none ?_
        refine asg rfl rfl .none ?_
        refine done ?_
        refine Wp.ret ?_
        refine Ends.ret (.cons (.tmp rfl (Fz.pure rfl)) <|  .nil) ?_
        simp_all [viIs, retD] <;> omega
    · skip
      refine Wp.skip ?_
      refine Wp.seq ?_
      refine reg ?_
      refine asg rfl rfl .none ?_
      refine done ?_
      refine Wp.ret ?_
      refine Ends.ret (.cons (.tmp rfl (Fz.pure rfl)) <|  .nil) ?_
      simp_all [viIs, retD] <;> omega

set_option maxRecDepth 20000 in
theorem f_arrow {k r : Int} : FnP PP 30 [.agg [.int .i64 k, .int .i32 r]] (.bool (decide (3 ≤ k ∧ k ≤ 9))) := by
  refine FnP.of_body Try.func30 rfl (by kernel_rfl) rfl ?_
  refine Wp.seq ?_
  refine reg ?_
  refine bx 1 rfl rfl rfl rfl .none ?_
  refine asg rfl rfl .none ?_
  refine done ?_
  refine Wp.seq ?_
  refine reg ?_
  first | refine fa rfl rfl rfl .none ?_ | refine fap rfl rfl rfl rfl .none ?_
  first | refine ld rfl rfl rfl rfl rfl .none ?_ | refine ldp rfl rfl rfl .none ?_
  refine cmp rfl rfl rfl rfl .none ?_
  refine mv rfl rfl .none ?_
  refine bcase 6 rfl (fun h6 => ?_) (fun h6 => ?_)
  · skip
    first | refine fa rfl rfl rfl (.want rfl rfl h6) ?_ | refine fap rfl rfl rfl rfl (.want rfl rfl h6) ?_
    first | refine ld rfl rfl rfl rfl rfl (.want rfl rfl h6) ?_ | refine ldp rfl rfl rfl (.want rfl rfl h6) ?_
    refine cmp rfl rfl rfl rfl (.want rfl rfl h6) ?_
    refine pkt rfl h6 rfl rfl .none ?_
    refine asg rfl rfl .none ?_
    refine done ?_
    refine Wp.ret ?_
    refine Ends.ret (.cons (.tmp rfl (Fz.pure rfl)) <|  .nil) ?_
    simp_all [retD] <;> omega
  · skip
    refine sk rfl rfl h6 rfl ?_
    refine sk rfl rfl h6 rfl ?_
    refine sk rfl rfl h6 rfl ?_
    refine pkf rfl h6 rfl rfl .none ?_
    refine asg rfl rfl .none ?_
    refine done ?_
    refine Wp.ret ?_
    refine Ends.ret (.cons (.tmp rfl (Fz.pure rfl)) <|  .nil) ?_
    simp_all [retD] <;> omega

end Go.Proofs.Ytoleablcjdbeiaa