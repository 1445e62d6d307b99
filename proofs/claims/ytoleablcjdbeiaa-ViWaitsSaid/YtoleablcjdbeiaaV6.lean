/- Walks of the law of layer 18: ViWaits. -/
import Derived.Test.YtoleablcjdbeiaaV5
namespace Go.Proofs.Ytoleablcjdbeiaa
open Go.Eng

set_option maxRecDepth 20000 in
theorem f_w0 {k r : Int} {dg : Bool} : FnP PP 4 [.int .i64 0, .agg [.int .i64 k, .int .i32 r], .bool dg] (.bool true) := by
  refine FnP.of_body Try.func4 rfl (by kernel_rfl) rfl ?_
  refine Wp.seq ?_
  refine reg ?_
  refine bx 4 rfl rfl rfl rfl .none ?_
  refine asg rfl rfl .none ?_
  refine done ?_
  refine Wp.seq ?_
  refine reg ?_
  refine mv rfl rfl .none ?_
  refine bd rfl rfl rfl .none ?_
  refine al 7 rfl rfl .none ?_
  refine sto rfl rfl rfl rfl rfl rfl .none ?_
  refine done ?_
  refine Wp.seq ?_
  refine Wp.seq ?_
  refine reg ?_
  first | refine ld rfl rfl rfl rfl rfl .none ?_ | refine ldp rfl rfl rfl .none ?_
  refine cl rfl rfl f_viIs rfl rfl .none ?_
  refine nt rfl rfl .none ?_
  refine mv rfl rfl .none ?_
  refine mv rfl rfl (.want rfl rfl rfl) ?_
  refine cmp rfl rfl rfl rfl (.want rfl rfl rfl) ?_
  refine pkf rfl rfl rfl rfl .none ?_
  refine done ?_
  refine Wp.condT rfl rfl ?_
  refine Wp.seq ?_
  refine reg ?_
  refine cl rfl rfl f_commanded rfl rfl .none ?_
  refine asg rfl rfl .none ?_
  refine done ?_
  refine Wp.ret ?_
  refine Ends.ret (.cons (.tmp rfl (Fz.pure rfl)) <|  .nil) ?_
  rfl

set_option maxRecDepth 20000 in
theorem f_wNot {op k r : Int} {dg : Bool} (h : viIs 1 op = false) : FnP PP 4 [.int .i64 op, .agg [.int .i64 k, .int .i32 r], .bool dg] (.bool true) := by
  refine FnP.of_body Try.func4 rfl (by kernel_rfl) rfl ?_
  refine Wp.seq ?_
  refine reg ?_
  refine bx 4 rfl rfl rfl rfl .none ?_
  refine asg rfl rfl .none ?_
  refine done ?_
  refine Wp.seq ?_
  refine reg ?_
  refine mv rfl rfl .none ?_
  refine bd rfl rfl rfl .none ?_
  refine al 7 rfl rfl .none ?_
  refine sto rfl rfl rfl rfl rfl rfl .none ?_
  refine done ?_
  refine Wp.seq ?_
  refine Wp.seq ?_
  refine reg ?_
  first | refine ld rfl rfl rfl rfl rfl .none ?_ | refine ldp rfl rfl rfl .none ?_
  refine cl rfl rfl f_viIs rfl rfl .none ?_
  refine nt rfl rfl .none ?_
  refine mv rfl rfl .none ?_
  refine sk rfl rfl (congrArg Bool.not h) rfl ?_
  refine sk rfl rfl (congrArg Bool.not h) rfl ?_
  refine pkt rfl (congrArg Bool.not h) rfl rfl .none ?_
  refine done ?_
  refine Wp.condT rfl rfl ?_
  refine Wp.seq ?_
  refine reg ?_
  refine cl rfl rfl f_commanded rfl rfl .none ?_
  refine asg rfl rfl .none ?_
  refine done ?_
  refine Wp.ret ?_
  refine Ends.ret (.cons (.tmp rfl (Fz.pure rfl)) <|  .nil) ?_
  rfl

set_option maxRecDepth 20000 in
theorem f_wA1 {r : Int} {dg : Bool} {v : Int × Int} {l : List Act4} (hm : FnP PP 5 [viD (1, 1), keyD (2, r), .bool dg] (resF (v, (16, 0, 0, 0) :: l)))  : FnP PP 4 [.int .i64 1, .agg [.int .i64 2, .int .i32 r], .bool dg] (.bool true) := by
  refine FnP.of_body Try.func4 rfl (by kernel_rfl) rfl ?_
  refine Wp.seq ?_
  refine reg ?_
  refine bx 4 rfl rfl rfl rfl .none ?_
  refine asg rfl rfl .none ?_
  refine done ?_
  refine Wp.seq ?_
  refine reg ?_
  refine mv rfl rfl .none ?_
  refine bd rfl rfl rfl .none ?_
  refine al 7 rfl rfl .none ?_
  refine sto rfl rfl rfl rfl rfl rfl .none ?_
  refine done ?_
  refine Wp.seq ?_
  refine Wp.seq ?_
  refine reg ?_
  first | refine ld rfl rfl rfl rfl rfl .none ?_ | refine ldp rfl rfl rfl .none ?_
  refine cl rfl rfl f_viIs rfl rfl .none ?_
  refine nt rfl rfl .none ?_
  refine mv rfl rfl .none ?_
  refine mv rfl rfl (.want rfl rfl rfl) ?_
  refine cmp rfl rfl rfl rfl (.want rfl rfl rfl) ?_
  refine pkf rfl rfl rfl rfl .none ?_
  refine done ?_
  refine Wp.condF rfl rfl ?_
  refine Wp.skip ?_
  refine Wp.seq ?_
  refine reg ?_
  first | refine ld rfl rfl rfl rfl rfl .none ?_ | refine ldp rfl rfl rfl .none ?_
  first | refine ld rfl rfl rfl rfl rfl .none ?_ | refine ldp rfl rfl rfl .none ?_
  refine mv rfl rfl .none ?_
  refine cl rfl rfl hm rfl rfl .none ?_
  refine mv rfl rfl .none ?_
  refine xt rfl rfl rfl .none ?_
  refine xt rfl rfl rfl .none ?_
  refine al 8 rfl rfl .none ?_
  refine sto rfl rfl rfl rfl rfl rfl .none ?_
  refine asg rfl rfl .none ?_
  refine done ?_
  refine Wp.seq ?_
  refine Wp.seq ?_
  refine reg ?_
  first | refine fa rfl rfl rfl .none ?_ | refine fap rfl rfl rfl rfl .none ?_
  first | refine ld rfl rfl rfl rfl rfl .none ?_ | refine ldp rfl rfl rfl .none ?_
  refine cmp rfl rfl rfl rfl .none ?_
  refine done ?_
  refine Wp.condT rfl rfl ?_
  refine Wp.seq ?_
  refine reg ?_
  refine cl rfl rfl f_commanded rfl rfl .none ?_
  refine mv rfl rfl .none ?_
  refine mv rfl rfl (.want rfl rfl rfl) ?_
  first | refine ln rfl rfl (.want rfl rfl rfl) ?_ | refine lns rfl rfl (.want rfl rfl rfl) ?_
  refine cmp rfl rfl rfl rfl (.want rfl rfl rfl) ?_
  refine pkt rfl rfl rfl rfl .none ?_
  refine mv rfl rfl .none ?_
  refine mv rfl rfl (.want rfl rfl (by simp; omega)) ?_
  refine ia 0 _ rfl rfl rfl rfl rfl rfl (.want rfl rfl (by simp; omega)) ?_
  first | refine ld rfl rfl rfl rfl rfl (.want rfl rfl (by simp; omega)) ?_ | refine ldp rfl rfl rfl (.want rfl rfl (by simp; omega)) ?_
  refine bd rfl rfl rfl (.want rfl rfl (by simp; omega)) ?_
  refine cms rfl rfl rfl rfl rfl (.want rfl rfl (by simp; omega)) ?_
  refine pkt rfl (by simp; omega) rfl rfl .none ?_
  refine asg rfl rfl .none ?_
  refine done ?_
  refine Wp.ret ?_
  refine Ends.ret (.cons (.tmp rfl (Fz.pure rfl)) <|  .nil) ?_
  rfl

set_option maxRecDepth 20000 in
theorem f_wB1 {r : Int} {dg : Bool} (hm : FnP PP 5 [viD (1, 1), keyD (1, r), .bool dg] (resF ((1, 1), [(14, 0, 0, r)])))  : FnP PP 4 [.int .i64 1, .agg [.int .i64 1, .int .i32 r], .bool dg] (.bool true) := by
  refine FnP.of_body Try.func4 rfl (by kernel_rfl) rfl ?_
  refine Wp.seq ?_
  refine reg ?_
  refine bx 4 rfl rfl rfl rfl .none ?_
  refine asg rfl rfl .none ?_
  refine done ?_
  refine Wp.seq ?_
  refine reg ?_
  refine mv rfl rfl .none ?_
  refine bd rfl rfl rfl .none ?_
  refine al 7 rfl rfl .none ?_
  refine sto rfl rfl rfl rfl rfl rfl .none ?_
  refine done ?_
  refine Wp.seq ?_
  refine Wp.seq ?_
  refine reg ?_
  first | refine ld rfl rfl rfl rfl rfl .none ?_ | refine ldp rfl rfl rfl .none ?_
  refine cl rfl rfl f_viIs rfl rfl .none ?_
  refine nt rfl rfl .none ?_
  refine mv rfl rfl .none ?_
  refine mv rfl rfl (.want rfl rfl rfl) ?_
  refine cmp rfl rfl rfl rfl (.want rfl rfl rfl) ?_
  refine pkf rfl rfl rfl rfl .none ?_
  refine done ?_
  refine Wp.condF rfl rfl ?_
  refine Wp.skip ?_
  refine Wp.seq ?_
  refine reg ?_
  first | refine ld rfl rfl rfl rfl rfl .none ?_ | refine ldp rfl rfl rfl .none ?_
  first | refine ld rfl rfl rfl rfl rfl .none ?_ | refine ldp rfl rfl rfl .none ?_
  refine mv rfl rfl .none ?_
  refine cl rfl rfl hm rfl rfl .none ?_
  refine mv rfl rfl .none ?_
  refine xt rfl rfl rfl .none ?_
  refine xt rfl rfl rfl .none ?_
  refine al 8 rfl rfl .none ?_
  refine sto rfl rfl rfl rfl rfl rfl .none ?_
  refine asg rfl rfl .none ?_
  refine done ?_
  refine Wp.seq ?_
  refine Wp.seq ?_
  refine reg ?_
  first | refine fa rfl rfl rfl .none ?_ | refine fap rfl rfl rfl rfl .none ?_
  first | refine ld rfl rfl rfl rfl rfl .none ?_ | refine ldp rfl rfl rfl .none ?_
  refine cmp rfl rfl rfl rfl .none ?_
  refine done ?_
  refine Wp.condF rfl rfl ?_
  refine Wp.skip ?_
  refine Wp.seq ?_
  refine Wp.seq ?_
  refine reg ?_
  first | refine fa rfl rfl rfl .none ?_ | refine fap rfl rfl rfl rfl .none ?_
  first | refine ld rfl rfl rfl rfl rfl .none ?_ | refine ldp rfl rfl rfl .none ?_
  refine cmp rfl rfl rfl rfl .none ?_
  refine done ?_
  refine Wp.condT rfl rfl ?_
  refine Wp.seq ?_
  refine reg ?_
  refine cl rfl rfl f_commanded rfl rfl .none ?_
  refine mv rfl rfl .none ?_
  first | refine ld rfl rfl rfl rfl rfl (.want rfl rfl rfl) ?_ | refine ldp rfl rfl rfl (.want rfl rfl rfl) ?_
  first | refine ld rfl rfl rfl rfl rfl (.want rfl rfl rfl) ?_ | refine ldp rfl rfl rfl (.want rfl rfl rfl) ?_
  refine cms rfl rfl rfl rfl rfl (.want rfl rfl rfl) ?_
  refine pkt rfl rfl rfl rfl .none ?_
  refine mv rfl rfl .none ?_
  refine mv rfl rfl (.want rfl rfl rfl) ?_
  first | refine ln rfl rfl (.want rfl rfl rfl) ?_ | refine lns rfl rfl (.want rfl rfl rfl) ?_
  refine cmp rfl rfl rfl rfl (.want rfl rfl rfl) ?_
  refine pkt rfl rfl rfl rfl .none ?_
  refine mv rfl rfl .none ?_
  refine mv rfl rfl (.want rfl rfl rfl) ?_
  refine ia 0 _ rfl rfl rfl rfl rfl rfl (.want rfl rfl rfl) ?_
  first | refine fa rfl rfl rfl (.want rfl rfl rfl) ?_ | refine fap rfl rfl rfl rfl (.want rfl rfl rfl) ?_
  first | refine ld rfl rfl rfl rfl rfl (.want rfl rfl rfl) ?_ | refine ldp rfl rfl rfl (.want rfl rfl rfl) ?_
  refine cmp rfl rfl rfl rfl (.want rfl rfl rfl) ?_
  refine pkt rfl rfl rfl rfl .none ?_
  refine asg rfl rfl .none ?_
  refine done ?_
  refine Wp.ret ?_
  refine Ends.ret (.cons (.tmp rfl (Fz.pure rfl)) <|  .nil) ?_
  rfl

set_option maxRecDepth 20000 in
theorem f_wC1 {k : Int} {r : Int} {dg : Bool} {y : (Int × Int) × List Act4} (hk : (k == 2) = false) (hm : FnP PP 5 [viD (1, 1), keyD (k, r), .bool dg] (resF ((1, 0), [(16, 0, 0, 0)]))) (hn : FnP PP 5 [viD (1, 0), keyD (k, r), .bool dg] (resF y)) : FnP PP 4 [.int .i64 1, .agg [.int .i64 k, .int .i32 r], .bool dg] (.bool true) := by
  refine FnP.of_body Try.func4 rfl (by kernel_rfl) rfl ?_
  refine Wp.seq ?_
  refine reg ?_
  refine bx 4 rfl rfl rfl rfl .none ?_
  refine asg rfl rfl .none ?_
  refine done ?_
  refine Wp.seq ?_
  refine reg ?_
  refine mv rfl rfl .none ?_
  refine bd rfl rfl rfl .none ?_
  refine al 7 rfl rfl .none ?_
  refine sto rfl rfl rfl rfl rfl rfl .none ?_
  refine done ?_
  refine Wp.seq ?_
  refine Wp.seq ?_
  refine reg ?_
  first | refine ld rfl rfl rfl rfl rfl .none ?_ | refine ldp rfl rfl rfl .none ?_
  refine cl rfl rfl f_viIs rfl rfl .none ?_
  refine nt rfl rfl .none ?_
  refine mv rfl rfl .none ?_
  refine mv rfl rfl (.want rfl rfl rfl) ?_
  refine cmp rfl rfl rfl rfl (.want rfl rfl rfl) ?_
  refine pkf rfl rfl rfl rfl .none ?_
  refine done ?_
  refine Wp.condF rfl rfl ?_
  refine Wp.skip ?_
  refine Wp.seq ?_
  refine reg ?_
  first | refine ld rfl rfl rfl rfl rfl .none ?_ | refine ldp rfl rfl rfl .none ?_
  first | refine ld rfl rfl rfl rfl rfl .none ?_ | refine ldp rfl rfl rfl .none ?_
  refine mv rfl rfl .none ?_
  refine cl rfl rfl hm rfl rfl .none ?_
  refine mv rfl rfl .none ?_
  refine xt rfl rfl rfl .none ?_
  refine xt rfl rfl rfl .none ?_
  refine al 8 rfl rfl .none ?_
  refine sto rfl rfl rfl rfl rfl rfl .none ?_
  refine asg rfl rfl .none ?_
  refine done ?_
  refine Wp.seq ?_
  refine Wp.seq ?_
  refine reg ?_
  first | refine fa rfl rfl rfl .none ?_ | refine fap rfl rfl rfl rfl .none ?_
  first | refine ld rfl rfl rfl rfl rfl .none ?_ | refine ldp rfl rfl rfl .none ?_
  refine cmp rfl rfl rfl rfl .none ?_
  refine done ?_
  refine Wp.condF rfl hk ?_
  refine Wp.skip ?_
  refine Wp.seq ?_
  refine Wp.seq ?_
  refine reg ?_
  first | refine fa rfl rfl rfl .none ?_ | refine fap rfl rfl rfl rfl .none ?_
  first | refine ld rfl rfl rfl rfl rfl .none ?_ | refine ldp rfl rfl rfl .none ?_
  refine cmp rfl rfl rfl rfl .none ?_
  refine done ?_
  refine Wp.condF rfl rfl ?_
  refine Wp.skip ?_
  refine Wp.seq ?_
  refine Wp.seq ?_
  refine reg ?_
  refine mv rfl rfl .none ?_
  first | refine ln rfl rfl .none ?_ | refine lns rfl rfl .none ?_
  refine cmp rfl rfl rfl rfl .none ?_
  refine done ?_
  refine Wp.condF rfl rfl ?_
  refine Wp.skip ?_
  refine Wp.seq ?_
  refine reg ?_
  refine bd rfl rfl rfl .none ?_
  first | refine ld rfl rfl rfl rfl rfl .none ?_ | refine ldp rfl rfl rfl .none ?_
  refine mv rfl rfl .none ?_
  refine cl rfl rfl hn rfl rfl .none ?_
  refine mv rfl rfl .none ?_
  refine xt rfl rfl rfl .none ?_
  refine xt rfl rfl rfl .none ?_
  refine al 10 rfl rfl .none ?_
  refine sto rfl rfl rfl rfl rfl rfl .none ?_
  refine asg rfl rfl .none ?_
  refine done ?_
  refine Wp.seq ?_
  refine reg ?_
  refine mv rfl rfl .none ?_
  refine cmp rfl rfl rfl rfl .none ?_
  refine asg rfl rfl .none ?_
  refine done ?_
  refine Wp.seq ?_
  refine reg ?_
  refine mv rfl rfl .none ?_
  refine ia 0 _ rfl rfl rfl rfl rfl rfl .none ?_
  first | refine fa rfl rfl rfl .none ?_ | refine fap rfl rfl rfl rfl .none ?_
  first | refine ld rfl rfl rfl rfl rfl .none ?_ | refine ldp rfl rfl rfl .none ?_
  refine cmp rfl rfl rfl rfl .none ?_
  refine mv rfl rfl .none ?_
  refine sk rfl rfl rfl rfl ?_
  refine sk rfl rfl rfl rfl ?_
  refine sk rfl rfl rfl rfl ?_
  refine sk rfl rfl rfl rfl ?_
  refine sk rfl rfl rfl rfl ?_
  refine sk rfl rfl rfl rfl ?_
  refine sk rfl rfl rfl rfl ?_
  refine pkf rfl rfl rfl rfl .none ?_
  refine mv rfl rfl .none ?_
  refine sk rfl rfl rfl rfl ?_
  refine sk rfl rfl rfl rfl ?_
  refine sk rfl rfl rfl rfl ?_
  refine sk rfl rfl rfl rfl ?_
  refine sk rfl rfl rfl rfl ?_
  refine sk rfl rfl rfl rfl ?_
  refine sk rfl rfl rfl rfl ?_
  refine pkf rfl rfl rfl rfl .none ?_
  refine mv rfl rfl .none ?_
  refine sk rfl rfl rfl rfl ?_
  refine sk rfl rfl rfl rfl ?_
  refine sk rfl rfl rfl rfl ?_
  refine sk rfl rfl rfl rfl ?_
  refine sk rfl rfl rfl rfl ?_
  refine sk rfl rfl rfl rfl ?_
  refine pkf rfl rfl rfl rfl .none ?_
  refine asg rfl rfl .none ?_
  refine done ?_
  refine Wp.seq ?_
  refine Wp.seq ?_
  refine reg ?_
  refine mv rfl rfl .none ?_
  refine done ?_
  refine Wp.condF rfl rfl ?_
  refine Wp.skip ?_
  refine Wp.seq ?_
  refine reg ?_
  refine cl rfl rfl f_commanded rfl rfl .none ?_
  refine mv rfl rfl .none ?_
  first | refine fa rfl rfl rfl (.want rfl rfl rfl) ?_ | refine fap rfl rfl rfl rfl (.want rfl rfl rfl) ?_
  first | refine ld rfl rfl rfl rfl rfl (.want rfl rfl rfl) ?_ | refine ldp rfl rfl rfl (.want rfl rfl rfl) ?_
  refine cmp rfl rfl rfl rfl (.want rfl rfl rfl) ?_
  refine pkt rfl rfl rfl rfl .none ?_
  refine mv rfl rfl .none ?_
  refine mv rfl rfl (.want rfl rfl rfl) ?_
  refine ia 0 _ rfl rfl rfl rfl rfl rfl (.want rfl rfl rfl) ?_
  first | refine ld rfl rfl rfl rfl rfl (.want rfl rfl rfl) ?_ | refine ldp rfl rfl rfl (.want rfl rfl rfl) ?_
  refine bd rfl rfl rfl (.want rfl rfl rfl) ?_
  refine cms rfl rfl rfl rfl rfl (.want rfl rfl rfl) ?_
  refine pkt rfl rfl rfl rfl .none ?_
  refine asg rfl rfl .none ?_
  refine done ?_
  refine Wp.ret ?_
  refine Ends.ret (.cons (.tmp rfl (Fz.pure rfl)) <|  .nil) ?_
  rfl

set_option maxRecDepth 20000 in
theorem f_wD1 {r : Int} {dg : Bool} (hm : FnP PP 5 [viD (1, 1), keyD (1, r), .bool dg] (resF ((1, 0), [(1, 10, 2, 0)]))) (hn : FnP PP 5 [viD (1, 0), keyD (1, r), .bool dg] (resF ((1, 1), []))) : FnP PP 4 [.int .i64 1, .agg [.int .i64 1, .int .i32 r], .bool dg] (.bool true) := by
  refine FnP.of_body Try.func4 rfl (by kernel_rfl) rfl ?_
  refine Wp.seq ?_
  refine reg ?_
  refine bx 4 rfl rfl rfl rfl .none ?_
  refine asg rfl rfl .none ?_
  refine done ?_
  refine Wp.seq ?_
  refine reg ?_
  refine mv rfl rfl .none ?_
  refine bd rfl rfl rfl .none ?_
  refine al 7 rfl rfl .none ?_
  refine sto rfl rfl rfl rfl rfl rfl .none ?_
  refine done ?_
  refine Wp.seq ?_
  refine Wp.seq ?_
  refine reg ?_
  first | refine ld rfl rfl rfl rfl rfl .none ?_ | refine ldp rfl rfl rfl .none ?_
  refine cl rfl rfl f_viIs rfl rfl .none ?_
  refine nt rfl rfl .none ?_
  refine mv rfl rfl .none ?_
  refine mv rfl rfl (.want rfl rfl rfl) ?_
  refine cmp rfl rfl rfl rfl (.want rfl rfl rfl) ?_
  refine pkf rfl rfl rfl rfl .none ?_
  refine done ?_
  refine Wp.condF rfl rfl ?_
  refine Wp.skip ?_
  refine Wp.seq ?_
  refine reg ?_
  first | refine ld rfl rfl rfl rfl rfl .none ?_ | refine ldp rfl rfl rfl .none ?_
  first | refine ld rfl rfl rfl rfl rfl .none ?_ | refine ldp rfl rfl rfl .none ?_
  refine mv rfl rfl .none ?_
  refine cl rfl rfl hm rfl rfl .none ?_
  refine mv rfl rfl .none ?_
  refine xt rfl rfl rfl .none ?_
  refine xt rfl rfl rfl .none ?_
  refine al 8 rfl rfl .none ?_
  refine sto rfl rfl rfl rfl rfl rfl .none ?_
  refine asg rfl rfl .none ?_
  refine done ?_
  refine Wp.seq ?_
  refine Wp.seq ?_
  refine reg ?_
  first | refine fa rfl rfl rfl .none ?_ | refine fap rfl rfl rfl rfl .none ?_
  first | refine ld rfl rfl rfl rfl rfl .none ?_ | refine ldp rfl rfl rfl .none ?_
  refine cmp rfl rfl rfl rfl .none ?_
  refine done ?_
  refine Wp.condF rfl rfl ?_
  refine Wp.skip ?_
  refine Wp.seq ?_
  refine Wp.seq ?_
  refine reg ?_
  first | refine fa rfl rfl rfl .none ?_ | refine fap rfl rfl rfl rfl .none ?_
  first | refine ld rfl rfl rfl rfl rfl .none ?_ | refine ldp rfl rfl rfl .none ?_
  refine cmp rfl rfl rfl rfl .none ?_
  refine done ?_
  refine Wp.condF rfl rfl ?_
  refine Wp.skip ?_
  refine Wp.seq ?_
  refine Wp.seq ?_
  refine reg ?_
  refine mv rfl rfl .none ?_
  first | refine ln rfl rfl .none ?_ | refine lns rfl rfl .none ?_
  refine cmp rfl rfl rfl rfl .none ?_
  refine done ?_
  refine Wp.condF rfl rfl ?_
  refine Wp.skip ?_
  refine Wp.seq ?_
  refine reg ?_
  refine bd rfl rfl rfl .none ?_
  first | refine ld rfl rfl rfl rfl rfl .none ?_ | refine ldp rfl rfl rfl .none ?_
  refine mv rfl rfl .none ?_
  refine cl rfl rfl hn rfl rfl .none ?_
  refine mv rfl rfl .none ?_
  refine xt rfl rfl rfl .none ?_
  refine xt rfl rfl rfl .none ?_
  refine al 10 rfl rfl .none ?_
  refine sto rfl rfl rfl rfl rfl rfl .none ?_
  refine asg rfl rfl .none ?_
  refine done ?_
  refine Wp.seq ?_
  refine reg ?_
  refine mv rfl rfl .none ?_
  refine cmp rfl rfl rfl rfl .none ?_
  refine asg rfl rfl .none ?_
  refine done ?_
  refine Wp.seq ?_
  refine reg ?_
  refine mv rfl rfl .none ?_
  refine ia 0 _ rfl rfl rfl rfl rfl rfl .none ?_
  first | refine fa rfl rfl rfl .none ?_ | refine fap rfl rfl rfl rfl .none ?_
  first | refine ld rfl rfl rfl rfl rfl .none ?_ | refine ldp rfl rfl rfl .none ?_
  refine cmp rfl rfl rfl rfl .none ?_
  refine mv rfl rfl .none ?_
  refine mv rfl rfl (.want rfl rfl rfl) ?_
  refine ia 0 _ rfl rfl rfl rfl rfl rfl (.want rfl rfl rfl) ?_
  first | refine fa rfl rfl rfl (.want rfl rfl rfl) ?_ | refine fap rfl rfl rfl rfl (.want rfl rfl rfl) ?_
  first | refine ld rfl rfl rfl rfl rfl (.want rfl rfl rfl) ?_ | refine ldp rfl rfl rfl (.want rfl rfl rfl) ?_
  refine cmp rfl rfl rfl rfl (.want rfl rfl rfl) ?_
  refine mv rfl rfl (.want rfl rfl rfl) ?_
  refine cmb rfl rfl rfl rfl (.want rfl rfl rfl) ?_
  refine pkt rfl rfl rfl rfl .none ?_
  refine mv rfl rfl .none ?_
  refine mv rfl rfl (.want rfl rfl rfl) ?_
  refine ia 0 _ rfl rfl rfl rfl rfl rfl (.want rfl rfl rfl) ?_
  first | refine fa rfl rfl rfl (.want rfl rfl rfl) ?_ | refine fap rfl rfl rfl rfl (.want rfl rfl rfl) ?_
  first | refine ld rfl rfl rfl rfl rfl (.want rfl rfl rfl) ?_ | refine ldp rfl rfl rfl (.want rfl rfl rfl) ?_
  refine cmp rfl rfl rfl rfl (.want rfl rfl rfl) ?_
  refine mv rfl rfl (.want rfl rfl rfl) ?_
  refine cmb rfl rfl rfl rfl (.want rfl rfl rfl) ?_
  refine pkt rfl rfl rfl rfl .none ?_
  refine mv rfl rfl .none ?_
  first | refine fa rfl rfl rfl (.want rfl rfl rfl) ?_ | refine fap rfl rfl rfl rfl (.want rfl rfl rfl) ?_
  first | refine ld rfl rfl rfl rfl rfl (.want rfl rfl rfl) ?_ | refine ldp rfl rfl rfl (.want rfl rfl rfl) ?_
  refine cmp rfl rfl rfl rfl (.want rfl rfl rfl) ?_
  refine mv rfl rfl (.want rfl rfl rfl) ?_
  refine cmp rfl rfl rfl rfl (.want rfl rfl rfl) ?_
  refine cmb rfl rfl rfl rfl (.want rfl rfl rfl) ?_
  refine pkt rfl rfl rfl rfl .none ?_
  refine asg rfl rfl .none ?_
  refine done ?_
  refine Wp.seq ?_
  refine Wp.seq ?_
  refine reg ?_
  refine mv rfl rfl .none ?_
  refine done ?_
  refine Wp.condT rfl rfl ?_
  refine Wp.seq ?_
  refine reg ?_
  refine cl rfl rfl f_commanded rfl rfl .none ?_
  refine mv rfl rfl .none ?_
  refine mv rfl rfl (.want rfl rfl rfl) ?_
  refine ia 0 _ rfl rfl rfl rfl rfl rfl (.want rfl rfl rfl) ?_
  first | refine fa rfl rfl rfl (.want rfl rfl rfl) ?_ | refine fap rfl rfl rfl rfl (.want rfl rfl rfl) ?_
  first | refine ld rfl rfl rfl rfl rfl (.want rfl rfl rfl) ?_ | refine ldp rfl rfl rfl (.want rfl rfl rfl) ?_
  refine cmp rfl rfl rfl rfl (.want rfl rfl rfl) ?_
  refine mv rfl rfl (.want rfl rfl rfl) ?_
  first | refine fa rfl rfl rfl (.want rfl rfl rfl) ?_ | refine fap rfl rfl rfl rfl (.want rfl rfl rfl) ?_
  first | refine ld rfl rfl rfl rfl rfl (.want rfl rfl rfl) ?_ | refine ldp rfl rfl rfl (.want rfl rfl rfl) ?_
  refine mv rfl rfl (.want rfl rfl rfl) ?_
  refine cmp rfl rfl rfl rfl (.want rfl rfl rfl) ?_
  refine pkt rfl rfl rfl rfl (.want rfl rfl rfl) ?_
  refine mv rfl rfl (.want rfl rfl rfl) ?_
  refine sk rfl rfl rfl rfl ?_
  refine sk rfl rfl rfl rfl ?_
  refine sk rfl rfl rfl rfl ?_
  refine sk rfl rfl rfl rfl ?_
  refine sk rfl rfl rfl rfl ?_
  refine sk rfl rfl rfl rfl ?_
  refine sk rfl rfl rfl rfl ?_
  refine sk rfl rfl rfl rfl ?_
  refine pkt rfl rfl rfl rfl (.want rfl rfl rfl) ?_
  refine pkt rfl rfl rfl rfl .none ?_
  refine asg rfl rfl .none ?_
  refine done ?_
  refine Wp.ret ?_
  refine Ends.ret (.cons (.tmp rfl (Fz.pure rfl)) <|  .nil) ?_
  rfl

set_option maxRecDepth 20000 in
theorem f_wE1 {r : Int} {dg : Bool} {m : Int} (h9 : m ≤ 9) (hm : FnP PP 5 [viD (1, 1), keyD (1, r), .bool dg] (resF ((1, 0), [(1, m, 2, 0)]))) (hn : FnP PP 5 [viD (1, 0), keyD (1, r), .bool dg] (resF ((1, 0), [(1, m, 0, 0)]))) : FnP PP 4 [.int .i64 1, .agg [.int .i64 1, .int .i32 r], .bool dg] (.bool true) := by
  refine FnP.of_body Try.func4 rfl (by kernel_rfl) rfl ?_
  refine Wp.seq ?_
  refine reg ?_
  refine bx 4 rfl rfl rfl rfl .none ?_
  refine asg rfl rfl .none ?_
  refine done ?_
  refine Wp.seq ?_
  refine reg ?_
  refine mv rfl rfl .none ?_
  refine bd rfl rfl rfl .none ?_
  refine al 7 rfl rfl .none ?_
  refine sto rfl rfl rfl rfl rfl rfl .none ?_
  refine done ?_
  refine Wp.seq ?_
  refine Wp.seq ?_
  refine reg ?_
  first | refine ld rfl rfl rfl rfl rfl .none ?_ | refine ldp rfl rfl rfl .none ?_
  refine cl rfl rfl f_viIs rfl rfl .none ?_
  refine nt rfl rfl .none ?_
  refine mv rfl rfl .none ?_
  refine mv rfl rfl (.want rfl rfl rfl) ?_
  refine cmp rfl rfl rfl rfl (.want rfl rfl rfl) ?_
  refine pkf rfl rfl rfl rfl .none ?_
  refine done ?_
  refine Wp.condF rfl rfl ?_
  refine Wp.skip ?_
  refine Wp.seq ?_
  refine reg ?_
  first | refine ld rfl rfl rfl rfl rfl .none ?_ | refine ldp rfl rfl rfl .none ?_
  first | refine ld rfl rfl rfl rfl rfl .none ?_ | refine ldp rfl rfl rfl .none ?_
  refine mv rfl rfl .none ?_
  refine cl rfl rfl hm rfl rfl .none ?_
  refine mv rfl rfl .none ?_
  refine xt rfl rfl rfl .none ?_
  refine xt rfl rfl rfl .none ?_
  refine al 8 rfl rfl .none ?_
  refine sto rfl rfl rfl rfl rfl rfl .none ?_
  refine asg rfl rfl .none ?_
  refine done ?_
  refine Wp.seq ?_
  refine Wp.seq ?_
  refine reg ?_
  first | refine fa rfl rfl rfl .none ?_ | refine fap rfl rfl rfl rfl .none ?_
  first | refine ld rfl rfl rfl rfl rfl .none ?_ | refine ldp rfl rfl rfl .none ?_
  refine cmp rfl rfl rfl rfl .none ?_
  refine done ?_
  refine Wp.condF rfl rfl ?_
  refine Wp.skip ?_
  refine Wp.seq ?_
  refine Wp.seq ?_
  refine reg ?_
  first | refine fa rfl rfl rfl .none ?_ | refine fap rfl rfl rfl rfl .none ?_
  first | refine ld rfl rfl rfl rfl rfl .none ?_ | refine ldp rfl rfl rfl .none ?_
  refine cmp rfl rfl rfl rfl .none ?_
  refine done ?_
  refine Wp.condF rfl rfl ?_
  refine Wp.skip ?_
  refine Wp.seq ?_
  refine Wp.seq ?_
  refine reg ?_
  refine mv rfl rfl .none ?_
  first | refine ln rfl rfl .none ?_ | refine lns rfl rfl .none ?_
  refine cmp rfl rfl rfl rfl .none ?_
  refine done ?_
  refine Wp.condF rfl rfl ?_
  refine Wp.skip ?_
  refine Wp.seq ?_
  refine reg ?_
  refine bd rfl rfl rfl .none ?_
  first | refine ld rfl rfl rfl rfl rfl .none ?_ | refine ldp rfl rfl rfl .none ?_
  refine mv rfl rfl .none ?_
  refine cl rfl rfl hn rfl rfl .none ?_
  refine mv rfl rfl .none ?_
  refine xt rfl rfl rfl .none ?_
  refine xt rfl rfl rfl .none ?_
  refine al 10 rfl rfl .none ?_
  refine sto rfl rfl rfl rfl rfl rfl .none ?_
  refine asg rfl rfl .none ?_
  refine done ?_
  refine Wp.seq ?_
  refine reg ?_
  refine mv rfl rfl .none ?_
  refine cmp rfl rfl rfl rfl .none ?_
  refine asg rfl rfl .none ?_
  refine done ?_
  refine Wp.seq ?_
  refine reg ?_
  refine mv rfl rfl .none ?_
  refine ia 0 _ rfl rfl rfl rfl rfl rfl .none ?_
  first | refine fa rfl rfl rfl .none ?_ | refine fap rfl rfl rfl rfl .none ?_
  first | refine ld rfl rfl rfl rfl rfl .none ?_ | refine ldp rfl rfl rfl .none ?_
  refine cmp rfl rfl rfl rfl .none ?_
  refine mv rfl rfl .none ?_
  refine mv rfl rfl (.want rfl rfl rfl) ?_
  refine ia 0 _ rfl rfl rfl rfl rfl rfl (.want rfl rfl rfl) ?_
  first | refine fa rfl rfl rfl (.want rfl rfl rfl) ?_ | refine fap rfl rfl rfl rfl (.want rfl rfl rfl) ?_
  first | refine ld rfl rfl rfl rfl rfl (.want rfl rfl rfl) ?_ | refine ldp rfl rfl rfl (.want rfl rfl rfl) ?_
  refine cmp rfl rfl rfl rfl (.want rfl rfl rfl) ?_
  refine mv rfl rfl (.want rfl rfl rfl) ?_
  refine cmb rfl rfl rfl rfl (.want rfl rfl rfl) ?_
  refine pkt rfl rfl rfl rfl .none ?_
  refine mv rfl rfl .none ?_
  refine mv rfl rfl (.want rfl rfl rfl) ?_
  refine ia 0 _ rfl rfl rfl rfl rfl rfl (.want rfl rfl rfl) ?_
  first | refine fa rfl rfl rfl (.want rfl rfl rfl) ?_ | refine fap rfl rfl rfl rfl (.want rfl rfl rfl) ?_
  first | refine ld rfl rfl rfl rfl rfl (.want rfl rfl rfl) ?_ | refine ldp rfl rfl rfl (.want rfl rfl rfl) ?_
  refine cmp rfl rfl rfl rfl (.want rfl rfl rfl) ?_
  refine mv rfl rfl (.want rfl rfl rfl) ?_
  refine cmb rfl rfl rfl rfl (.want rfl rfl rfl) ?_
  refine pkt rfl rfl rfl rfl .none ?_
  refine mv rfl rfl .none ?_
  first | refine fa rfl rfl rfl (.want rfl rfl rfl) ?_ | refine fap rfl rfl rfl rfl (.want rfl rfl rfl) ?_
  first | refine ld rfl rfl rfl rfl rfl (.want rfl rfl rfl) ?_ | refine ldp rfl rfl rfl (.want rfl rfl rfl) ?_
  refine cmp rfl rfl rfl rfl (.want rfl rfl rfl) ?_
  refine mv rfl rfl (.want rfl rfl rfl) ?_
  refine cmp rfl rfl rfl rfl (.want rfl rfl rfl) ?_
  refine cmb rfl rfl rfl rfl (.want rfl rfl rfl) ?_
  refine pkt rfl rfl rfl rfl .none ?_
  refine asg rfl rfl .none ?_
  refine done ?_
  refine Wp.seq ?_
  refine Wp.seq ?_
  refine reg ?_
  refine mv rfl rfl .none ?_
  refine done ?_
  refine Wp.condT rfl rfl ?_
  refine Wp.seq ?_
  refine reg ?_
  refine cl rfl rfl f_commanded rfl rfl .none ?_
  refine mv rfl rfl .none ?_
  refine mv rfl rfl (.want rfl rfl rfl) ?_
  refine ia 0 _ rfl rfl rfl rfl rfl rfl (.want rfl rfl rfl) ?_
  first | refine fa rfl rfl rfl (.want rfl rfl rfl) ?_ | refine fap rfl rfl rfl rfl (.want rfl rfl rfl) ?_
  first | refine ld rfl rfl rfl rfl rfl (.want rfl rfl rfl) ?_ | refine ldp rfl rfl rfl (.want rfl rfl rfl) ?_
  refine cmp rfl rfl rfl rfl (.want rfl rfl rfl) ?_
  refine mv rfl rfl (.want rfl rfl rfl) ?_
  refine sk rfl rfl (by simp; omega) rfl ?_
  refine sk rfl rfl (by simp; omega) rfl ?_
  refine sk rfl rfl (by simp; omega) rfl ?_
  refine sk rfl rfl (by simp; omega) rfl ?_
  refine pkf rfl (by simp; omega) rfl rfl (.want rfl rfl rfl) ?_
  refine mv rfl rfl (.want rfl rfl rfl) ?_
  refine mv rfl rfl (.want rfl rfl rfl) ?_
  refine mv rfl rfl (.want rfl rfl rfl) ?_
  refine ia 0 _ rfl rfl rfl rfl rfl rfl (.want rfl rfl rfl) ?_
  first | refine fa rfl rfl rfl (.want rfl rfl rfl) ?_ | refine fap rfl rfl rfl rfl (.want rfl rfl rfl) ?_
  first | refine ld rfl rfl rfl rfl rfl (.want rfl rfl rfl) ?_ | refine ldp rfl rfl rfl (.want rfl rfl rfl) ?_
  refine bd rfl rfl rfl (.want rfl rfl rfl) ?_
  refine bs rfl rfl rfl rfl (.want rfl rfl rfl) ?_
  refine cl rfl rfl (f_same (l := [(1, m, 0, 0)]) (m := [(1, m, 0, 0)]) (by simp)) rfl rfl (.want rfl rfl rfl) ?_
  refine pkf rfl rfl rfl rfl (.want rfl rfl rfl) ?_
  refine pkt rfl rfl rfl rfl .none ?_
  refine asg rfl rfl .none ?_
  refine done ?_
  refine Wp.ret ?_
  refine Ends.ret (.cons (.tmp rfl (Fz.pure rfl)) <|  .nil) ?_
  first | rfl | simp [retD]

set_option maxRecDepth 20000 in
theorem f_wA2 {r : Int} {dg : Bool} {v : Int × Int} {l : List Act4} (hm : FnP PP 5 [viD (1, 2), keyD (2, r), .bool dg] (resF (v, (16, 0, 0, 0) :: l)))  : FnP PP 4 [.int .i64 2, .agg [.int .i64 2, .int .i32 r], .bool dg] (.bool true) := by
  refine FnP.of_body Try.func4 rfl (by kernel_rfl) rfl ?_
  refine Wp.seq ?_
  refine reg ?_
  refine bx 4 rfl rfl rfl rfl .none ?_
  refine asg rfl rfl .none ?_
  refine done ?_
  refine Wp.seq ?_
  refine reg ?_
  refine mv rfl rfl .none ?_
  refine bd rfl rfl rfl .none ?_
  refine al 7 rfl rfl .none ?_
  refine sto rfl rfl rfl rfl rfl rfl .none ?_
  refine done ?_
  refine Wp.seq ?_
  refine Wp.seq ?_
  refine reg ?_
  first | refine ld rfl rfl rfl rfl rfl .none ?_ | refine ldp rfl rfl rfl .none ?_
  refine cl rfl rfl f_viIs rfl rfl .none ?_
  refine nt rfl rfl .none ?_
  refine mv rfl rfl .none ?_
  refine mv rfl rfl (.want rfl rfl rfl) ?_
  refine cmp rfl rfl rfl rfl (.want rfl rfl rfl) ?_
  refine pkf rfl rfl rfl rfl .none ?_
  refine done ?_
  refine Wp.condF rfl rfl ?_
  refine Wp.skip ?_
  refine Wp.seq ?_
  refine reg ?_
  first | refine ld rfl rfl rfl rfl rfl .none ?_ | refine ldp rfl rfl rfl .none ?_
  first | refine ld rfl rfl rfl rfl rfl .none ?_ | refine ldp rfl rfl rfl .none ?_
  refine mv rfl rfl .none ?_
  refine cl rfl rfl hm rfl rfl .none ?_
  refine mv rfl rfl .none ?_
  refine xt rfl rfl rfl .none ?_
  refine xt rfl rfl rfl .none ?_
  refine al 8 rfl rfl .none ?_
  refine sto rfl rfl rfl rfl rfl rfl .none ?_
  refine asg rfl rfl .none ?_
  refine done ?_
  refine Wp.seq ?_
  refine Wp.seq ?_
  refine reg ?_
  first | refine fa rfl rfl rfl .none ?_ | refine fap rfl rfl rfl rfl .none ?_
  first | refine ld rfl rfl rfl rfl rfl .none ?_ | refine ldp rfl rfl rfl .none ?_
  refine cmp rfl rfl rfl rfl .none ?_
  refine done ?_
  refine Wp.condT rfl rfl ?_
  refine Wp.seq ?_
  refine reg ?_
  refine cl rfl rfl f_commanded rfl rfl .none ?_
  refine mv rfl rfl .none ?_
  refine mv rfl rfl (.want rfl rfl rfl) ?_
  first | refine ln rfl rfl (.want rfl rfl rfl) ?_ | refine lns rfl rfl (.want rfl rfl rfl) ?_
  refine cmp rfl rfl rfl rfl (.want rfl rfl rfl) ?_
  refine pkt rfl rfl rfl rfl .none ?_
  refine mv rfl rfl .none ?_
  refine mv rfl rfl (.want rfl rfl (by simp; omega)) ?_
  refine ia 0 _ rfl rfl rfl rfl rfl rfl (.want rfl rfl (by simp; omega)) ?_
  first | refine ld rfl rfl rfl rfl rfl (.want rfl rfl (by simp; omega)) ?_ | refine ldp rfl rfl rfl (.want rfl rfl (by simp; omega)) ?_
  refine bd rfl rfl rfl (.want rfl rfl (by simp; omega)) ?_
  refine cms rfl rfl rfl rfl rfl (.want rfl rfl (by simp; omega)) ?_
  refine pkt rfl (by simp; omega) rfl rfl .none ?_
  refine asg rfl rfl .none ?_
  refine done ?_
  refine Wp.ret ?_
  refine Ends.ret (.cons (.tmp rfl (Fz.pure rfl)) <|  .nil) ?_
  rfl

set_option maxRecDepth 20000 in
theorem f_wB2 {r : Int} {dg : Bool} (hm : FnP PP 5 [viD (1, 2), keyD (1, r), .bool dg] (resF ((1, 2), [(14, 0, 0, r)])))  : FnP PP 4 [.int .i64 2, .agg [.int .i64 1, .int .i32 r], .bool dg] (.bool true) := by
  refine FnP.of_body Try.func4 rfl (by kernel_rfl) rfl ?_
  refine Wp.seq ?_
  refine reg ?_
  refine bx 4 rfl rfl rfl rfl .none ?_
  refine asg rfl rfl .none ?_
  refine done ?_
  refine Wp.seq ?_
  refine reg ?_
  refine mv rfl rfl .none ?_
  refine bd rfl rfl rfl .none ?_
  refine al 7 rfl rfl .none ?_
  refine sto rfl rfl rfl rfl rfl rfl .none ?_
  refine done ?_
  refine Wp.seq ?_
  refine Wp.seq ?_
  refine reg ?_
  first | refine ld rfl rfl rfl rfl rfl .none ?_ | refine ldp rfl rfl rfl .none ?_
  refine cl rfl rfl f_viIs rfl rfl .none ?_
  refine nt rfl rfl .none ?_
  refine mv rfl rfl .none ?_
  refine mv rfl rfl (.want rfl rfl rfl) ?_
  refine cmp rfl rfl rfl rfl (.want rfl rfl rfl) ?_
  refine pkf rfl rfl rfl rfl .none ?_
  refine done ?_
  refine Wp.condF rfl rfl ?_
  refine Wp.skip ?_
  refine Wp.seq ?_
  refine reg ?_
  first | refine ld rfl rfl rfl rfl rfl .none ?_ | refine ldp rfl rfl rfl .none ?_
  first | refine ld rfl rfl rfl rfl rfl .none ?_ | refine ldp rfl rfl rfl .none ?_
  refine mv rfl rfl .none ?_
  refine cl rfl rfl hm rfl rfl .none ?_
  refine mv rfl rfl .none ?_
  refine xt rfl rfl rfl .none ?_
  refine xt rfl rfl rfl .none ?_
  refine al 8 rfl rfl .none ?_
  refine sto rfl rfl rfl rfl rfl rfl .none ?_
  refine asg rfl rfl .none ?_
  refine done ?_
  refine Wp.seq ?_
  refine Wp.seq ?_
  refine reg ?_
  first | refine fa rfl rfl rfl .none ?_ | refine fap rfl rfl rfl rfl .none ?_
  first | refine ld rfl rfl rfl rfl rfl .none ?_ | refine ldp rfl rfl rfl .none ?_
  refine cmp rfl rfl rfl rfl .none ?_
  refine done ?_
  refine Wp.condF rfl rfl ?_
  refine Wp.skip ?_
  refine Wp.seq ?_
  refine Wp.seq ?_
  refine reg ?_
  first | refine fa rfl rfl rfl .none ?_ | refine fap rfl rfl rfl rfl .none ?_
  first | refine ld rfl rfl rfl rfl rfl .none ?_ | refine ldp rfl rfl rfl .none ?_
  refine cmp rfl rfl rfl rfl .none ?_
  refine done ?_
  refine Wp.condT rfl rfl ?_
  refine Wp.seq ?_
  refine reg ?_
  refine cl rfl rfl f_commanded rfl rfl .none ?_
  refine mv rfl rfl .none ?_
  first | refine ld rfl rfl rfl rfl rfl (.want rfl rfl rfl) ?_ | refine ldp rfl rfl rfl (.want rfl rfl rfl) ?_
  first | refine ld rfl rfl rfl rfl rfl (.want rfl rfl rfl) ?_ | refine ldp rfl rfl rfl (.want rfl rfl rfl) ?_
  refine cms rfl rfl rfl rfl rfl (.want rfl rfl rfl) ?_
  refine pkt rfl rfl rfl rfl .none ?_
  refine mv rfl rfl .none ?_
  refine mv rfl rfl (.want rfl rfl rfl) ?_
  first | refine ln rfl rfl (.want rfl rfl rfl) ?_ | refine lns rfl rfl (.want rfl rfl rfl) ?_
  refine cmp rfl rfl rfl rfl (.want rfl rfl rfl) ?_
  refine pkt rfl rfl rfl rfl .none ?_
  refine mv rfl rfl .none ?_
  refine mv rfl rfl (.want rfl rfl rfl) ?_
  refine ia 0 _ rfl rfl rfl rfl rfl rfl (.want rfl rfl rfl) ?_
  first | refine fa rfl rfl rfl (.want rfl rfl rfl) ?_ | refine fap rfl rfl rfl rfl (.want rfl rfl rfl) ?_
  first | refine ld rfl rfl rfl rfl rfl (.want rfl rfl rfl) ?_ | refine ldp rfl rfl rfl (.want rfl rfl rfl) ?_
  refine cmp rfl rfl rfl rfl (.want rfl rfl rfl) ?_
  refine pkt rfl rfl rfl rfl .none ?_
  refine asg rfl rfl .none ?_
  refine done ?_
  refine Wp.ret ?_
  refine Ends.ret (.cons (.tmp rfl (Fz.pure rfl)) <|  .nil) ?_
  rfl

set_option maxRecDepth 20000 in
theorem f_wC2 {k : Int} {r : Int} {dg : Bool} {y : (Int × Int) × List Act4} (hk : (k == 2) = false) (hm : FnP PP 5 [viD (1, 2), keyD (k, r), .bool dg] (resF ((1, 0), [(16, 0, 0, 0)]))) (hn : FnP PP 5 [viD (1, 0), keyD (k, r), .bool dg] (resF y)) : FnP PP 4 [.int .i64 2, .agg [.int .i64 k, .int .i32 r], .bool dg] (.bool true) := by
  refine FnP.of_body Try.func4 rfl (by kernel_rfl) rfl ?_
  refine Wp.seq ?_
  refine reg ?_
  refine bx 4 rfl rfl rfl rfl .none ?_
  refine asg rfl rfl .none ?_
  refine done ?_
  refine Wp.seq ?_
  refine reg ?_
  refine mv rfl rfl .none ?_
  refine bd rfl rfl rfl .none ?_
  refine al 7 rfl rfl .none ?_
  refine sto rfl rfl rfl rfl rfl rfl .none ?_
  refine done ?_
  refine Wp.seq ?_
  refine Wp.seq ?_
  refine reg ?_
  first | refine ld rfl rfl rfl rfl rfl .none ?_ | refine ldp rfl rfl rfl .none ?_
  refine cl rfl rfl f_viIs rfl rfl .none ?_
  refine nt rfl rfl .none ?_
  refine mv rfl rfl .none ?_
  refine mv rfl rfl (.want rfl rfl rfl) ?_
  refine cmp rfl rfl rfl rfl (.want rfl rfl rfl) ?_
  refine pkf rfl rfl rfl rfl .none ?_
  refine done ?_
  refine Wp.condF rfl rfl ?_
  refine Wp.skip ?_
  refine Wp.seq ?_
  refine reg ?_
  first | refine ld rfl rfl rfl rfl rfl .none ?_ | refine ldp rfl rfl rfl .none ?_
  first | refine ld rfl rfl rfl rfl rfl .none ?_ | refine ldp rfl rfl rfl .none ?_
  refine mv rfl rfl .none ?_
  refine cl rfl rfl hm rfl rfl .none ?_
  refine mv rfl rfl .none ?_
  refine xt rfl rfl rfl .none ?_
  refine xt rfl rfl rfl .none ?_
  refine al 8 rfl rfl .none ?_
  refine sto rfl rfl rfl rfl rfl rfl .none ?_
  refine asg rfl rfl .none ?_
  refine done ?_
  refine Wp.seq ?_
  refine Wp.seq ?_
  refine reg ?_
  first | refine fa rfl rfl rfl .none ?_ | refine fap rfl rfl rfl rfl .none ?_
  first | refine ld rfl rfl rfl rfl rfl .none ?_ | refine ldp rfl rfl rfl .none ?_
  refine cmp rfl rfl rfl rfl .none ?_
  refine done ?_
  refine Wp.condF rfl hk ?_
  refine Wp.skip ?_
  refine Wp.seq ?_
  refine Wp.seq ?_
  refine reg ?_
  first | refine fa rfl rfl rfl .none ?_ | refine fap rfl rfl rfl rfl .none ?_
  first | refine ld rfl rfl rfl rfl rfl .none ?_ | refine ldp rfl rfl rfl .none ?_
  refine cmp rfl rfl rfl rfl .none ?_
  refine done ?_
  refine Wp.condF rfl rfl ?_
  refine Wp.skip ?_
  refine Wp.seq ?_
  refine Wp.seq ?_
  refine reg ?_
  refine mv rfl rfl .none ?_
  first | refine ln rfl rfl .none ?_ | refine lns rfl rfl .none ?_
  refine cmp rfl rfl rfl rfl .none ?_
  refine done ?_
  refine Wp.condF rfl rfl ?_
  refine Wp.skip ?_
  refine Wp.seq ?_
  refine reg ?_
  refine bd rfl rfl rfl .none ?_
  first | refine ld rfl rfl rfl rfl rfl .none ?_ | refine ldp rfl rfl rfl .none ?_
  refine mv rfl rfl .none ?_
  refine cl rfl rfl hn rfl rfl .none ?_
  refine mv rfl rfl .none ?_
  refine xt rfl rfl rfl .none ?_
  refine xt rfl rfl rfl .none ?_
  refine al 10 rfl rfl .none ?_
  refine sto rfl rfl rfl rfl rfl rfl .none ?_
  refine asg rfl rfl .none ?_
  refine done ?_
  refine Wp.seq ?_
  refine reg ?_
  refine mv rfl rfl .none ?_
  refine cmp rfl rfl rfl rfl .none ?_
  refine asg rfl rfl .none ?_
  refine done ?_
  refine Wp.seq ?_
  refine reg ?_
  refine mv rfl rfl .none ?_
  refine ia 0 _ rfl rfl rfl rfl rfl rfl .none ?_
  first | refine fa rfl rfl rfl .none ?_ | refine fap rfl rfl rfl rfl .none ?_
  first | refine ld rfl rfl rfl rfl rfl .none ?_ | refine ldp rfl rfl rfl .none ?_
  refine cmp rfl rfl rfl rfl .none ?_
  refine mv rfl rfl .none ?_
  refine sk rfl rfl rfl rfl ?_
  refine sk rfl rfl rfl rfl ?_
  refine sk rfl rfl rfl rfl ?_
  refine sk rfl rfl rfl rfl ?_
  refine sk rfl rfl rfl rfl ?_
  refine sk rfl rfl rfl rfl ?_
  refine sk rfl rfl rfl rfl ?_
  refine pkf rfl rfl rfl rfl .none ?_
  refine mv rfl rfl .none ?_
  refine sk rfl rfl rfl rfl ?_
  refine sk rfl rfl rfl rfl ?_
  refine sk rfl rfl rfl rfl ?_
  refine sk rfl rfl rfl rfl ?_
  refine sk rfl rfl rfl rfl ?_
  refine sk rfl rfl rfl rfl ?_
  refine sk rfl rfl rfl rfl ?_
  refine pkf rfl rfl rfl rfl .none ?_
  refine mv rfl rfl .none ?_
  refine sk rfl rfl rfl rfl ?_
  refine sk rfl rfl rfl rfl ?_
  refine sk rfl rfl rfl rfl ?_
  refine sk rfl rfl rfl rfl ?_
  refine sk rfl rfl rfl rfl ?_
  refine sk rfl rfl rfl rfl ?_
  refine pkf rfl rfl rfl rfl .none ?_
  refine asg rfl rfl .none ?_
  refine done ?_
  refine Wp.seq ?_
  refine Wp.seq ?_
  refine reg ?_
  refine mv rfl rfl .none ?_
  refine done ?_
  refine Wp.condF rfl rfl ?_
  refine Wp.skip ?_
  refine Wp.seq ?_
  refine reg ?_
  refine cl rfl rfl f_commanded rfl rfl .none ?_
  refine mv rfl rfl .none ?_
  first | refine fa rfl rfl rfl (.want rfl rfl rfl) ?_ | refine fap rfl rfl rfl rfl (.want rfl rfl rfl) ?_
  first | refine ld rfl rfl rfl rfl rfl (.want rfl rfl rfl) ?_ | refine ldp rfl rfl rfl (.want rfl rfl rfl) ?_
  refine cmp rfl rfl rfl rfl (.want rfl rfl rfl) ?_
  refine pkt rfl rfl rfl rfl .none ?_
  refine mv rfl rfl .none ?_
  refine mv rfl rfl (.want rfl rfl rfl) ?_
  refine ia 0 _ rfl rfl rfl rfl rfl rfl (.want rfl rfl rfl) ?_
  first | refine ld rfl rfl rfl rfl rfl (.want rfl rfl rfl) ?_ | refine ldp rfl rfl rfl (.want rfl rfl rfl) ?_
  refine bd rfl rfl rfl (.want rfl rfl rfl) ?_
  refine cms rfl rfl rfl rfl rfl (.want rfl rfl rfl) ?_
  refine pkt rfl rfl rfl rfl .none ?_
  refine asg rfl rfl .none ?_
  refine done ?_
  refine Wp.ret ?_
  refine Ends.ret (.cons (.tmp rfl (Fz.pure rfl)) <|  .nil) ?_
  rfl

set_option maxRecDepth 20000 in
theorem f_wD2 {r : Int} {dg : Bool} (hm : FnP PP 5 [viD (1, 2), keyD (1, r), .bool dg] (resF ((0, 0), [(1, 10, 2, 0)]))) (hn : FnP PP 5 [viD (1, 0), keyD (1, r), .bool dg] (resF ((1, 2), []))) : FnP PP 4 [.int .i64 2, .agg [.int .i64 1, .int .i32 r], .bool dg] (.bool true) := by
  refine FnP.of_body Try.func4 rfl (by kernel_rfl) rfl ?_
  refine Wp.seq ?_
  refine reg ?_
  refine bx 4 rfl rfl rfl rfl .none ?_
  refine asg rfl rfl .none ?_
  refine done ?_
  refine Wp.seq ?_
  refine reg ?_
  refine mv rfl rfl .none ?_
  refine bd rfl rfl rfl .none ?_
  refine al 7 rfl rfl .none ?_
  refine sto rfl rfl rfl rfl rfl rfl .none ?_
  refine done ?_
  refine Wp.seq ?_
  refine Wp.seq ?_
  refine reg ?_
  first | refine ld rfl rfl rfl rfl rfl .none ?_ | refine ldp rfl rfl rfl .none ?_
  refine cl rfl rfl f_viIs rfl rfl .none ?_
  refine nt rfl rfl .none ?_
  refine mv rfl rfl .none ?_
  refine mv rfl rfl (.want rfl rfl rfl) ?_
  refine cmp rfl rfl rfl rfl (.want rfl rfl rfl) ?_
  refine pkf rfl rfl rfl rfl .none ?_
  refine done ?_
  refine Wp.condF rfl rfl ?_
  refine Wp.skip ?_
  refine Wp.seq ?_
  refine reg ?_
  first | refine ld rfl rfl rfl rfl rfl .none ?_ | refine ldp rfl rfl rfl .none ?_
  first | refine ld rfl rfl rfl rfl rfl .none ?_ | refine ldp rfl rfl rfl .none ?_
  refine mv rfl rfl .none ?_
  refine cl rfl rfl hm rfl rfl .none ?_
  refine mv rfl rfl .none ?_
  refine xt rfl rfl rfl .none ?_
  refine xt rfl rfl rfl .none ?_
  refine al 8 rfl rfl .none ?_
  refine sto rfl rfl rfl rfl rfl rfl .none ?_
  refine asg rfl rfl .none ?_
  refine done ?_
  refine Wp.seq ?_
  refine Wp.seq ?_
  refine reg ?_
  first | refine fa rfl rfl rfl .none ?_ | refine fap rfl rfl rfl rfl .none ?_
  first | refine ld rfl rfl rfl rfl rfl .none ?_ | refine ldp rfl rfl rfl .none ?_
  refine cmp rfl rfl rfl rfl .none ?_
  refine done ?_
  refine Wp.condF rfl rfl ?_
  refine Wp.skip ?_
  refine Wp.seq ?_
  refine Wp.seq ?_
  refine reg ?_
  first | refine fa rfl rfl rfl .none ?_ | refine fap rfl rfl rfl rfl .none ?_
  first | refine ld rfl rfl rfl rfl rfl .none ?_ | refine ldp rfl rfl rfl .none ?_
  refine cmp rfl rfl rfl rfl .none ?_
  refine done ?_
  refine Wp.condF rfl rfl ?_
  refine Wp.skip ?_
  refine Wp.seq ?_
  refine Wp.seq ?_
  refine reg ?_
  refine mv rfl rfl .none ?_
  first | refine ln rfl rfl .none ?_ | refine lns rfl rfl .none ?_
  refine cmp rfl rfl rfl rfl .none ?_
  refine done ?_
  refine Wp.condF rfl rfl ?_
  refine Wp.skip ?_
  refine Wp.seq ?_
  refine reg ?_
  refine bd rfl rfl rfl .none ?_
  first | refine ld rfl rfl rfl rfl rfl .none ?_ | refine ldp rfl rfl rfl .none ?_
  refine mv rfl rfl .none ?_
  refine cl rfl rfl hn rfl rfl .none ?_
  refine mv rfl rfl .none ?_
  refine xt rfl rfl rfl .none ?_
  refine xt rfl rfl rfl .none ?_
  refine al 10 rfl rfl .none ?_
  refine sto rfl rfl rfl rfl rfl rfl .none ?_
  refine asg rfl rfl .none ?_
  refine done ?_
  refine Wp.seq ?_
  refine reg ?_
  refine mv rfl rfl .none ?_
  refine cmp rfl rfl rfl rfl .none ?_
  refine asg rfl rfl .none ?_
  refine done ?_
  refine Wp.seq ?_
  refine reg ?_
  refine mv rfl rfl .none ?_
  refine ia 0 _ rfl rfl rfl rfl rfl rfl .none ?_
  first | refine fa rfl rfl rfl .none ?_ | refine fap rfl rfl rfl rfl .none ?_
  first | refine ld rfl rfl rfl rfl rfl .none ?_ | refine ldp rfl rfl rfl .none ?_
  refine cmp rfl rfl rfl rfl .none ?_
  refine mv rfl rfl .none ?_
  refine mv rfl rfl (.want rfl rfl rfl) ?_
  refine ia 0 _ rfl rfl rfl rfl rfl rfl (.want rfl rfl rfl) ?_
  first | refine fa rfl rfl rfl (.want rfl rfl rfl) ?_ | refine fap rfl rfl rfl rfl (.want rfl rfl rfl) ?_
  first | refine ld rfl rfl rfl rfl rfl (.want rfl rfl rfl) ?_ | refine ldp rfl rfl rfl (.want rfl rfl rfl) ?_
  refine cmp rfl rfl rfl rfl (.want rfl rfl rfl) ?_
  refine mv rfl rfl (.want rfl rfl rfl) ?_
  refine cmb rfl rfl rfl rfl (.want rfl rfl rfl) ?_
  refine pkt rfl rfl rfl rfl .none ?_
  refine mv rfl rfl .none ?_
  refine mv rfl rfl (.want rfl rfl rfl) ?_
  refine ia 0 _ rfl rfl rfl rfl rfl rfl (.want rfl rfl rfl) ?_
  first | refine fa rfl rfl rfl (.want rfl rfl rfl) ?_ | refine fap rfl rfl rfl rfl (.want rfl rfl rfl) ?_
  first | refine ld rfl rfl rfl rfl rfl (.want rfl rfl rfl) ?_ | refine ldp rfl rfl rfl (.want rfl rfl rfl) ?_
  refine cmp rfl rfl rfl rfl (.want rfl rfl rfl) ?_
  refine mv rfl rfl (.want rfl rfl rfl) ?_
  refine cmb rfl rfl rfl rfl (.want rfl rfl rfl) ?_
  refine pkt rfl rfl rfl rfl .none ?_
  refine mv rfl rfl .none ?_
  first | refine fa rfl rfl rfl (.want rfl rfl rfl) ?_ | refine fap rfl rfl rfl rfl (.want rfl rfl rfl) ?_
  first | refine ld rfl rfl rfl rfl rfl (.want rfl rfl rfl) ?_ | refine ldp rfl rfl rfl (.want rfl rfl rfl) ?_
  refine cmp rfl rfl rfl rfl (.want rfl rfl rfl) ?_
  refine mv rfl rfl (.want rfl rfl rfl) ?_
  refine cmp rfl rfl rfl rfl (.want rfl rfl rfl) ?_
  refine cmb rfl rfl rfl rfl (.want rfl rfl rfl) ?_
  refine pkt rfl rfl rfl rfl .none ?_
  refine asg rfl rfl .none ?_
  refine done ?_
  refine Wp.seq ?_
  refine Wp.seq ?_
  refine reg ?_
  refine mv rfl rfl .none ?_
  refine done ?_
  refine Wp.condT rfl rfl ?_
  refine Wp.seq ?_
  refine reg ?_
  refine cl rfl rfl f_commanded rfl rfl .none ?_
  refine mv rfl rfl .none ?_
  refine mv rfl rfl (.want rfl rfl rfl) ?_
  refine ia 0 _ rfl rfl rfl rfl rfl rfl (.want rfl rfl rfl) ?_
  first | refine fa rfl rfl rfl (.want rfl rfl rfl) ?_ | refine fap rfl rfl rfl rfl (.want rfl rfl rfl) ?_
  first | refine ld rfl rfl rfl rfl rfl (.want rfl rfl rfl) ?_ | refine ldp rfl rfl rfl (.want rfl rfl rfl) ?_
  refine cmp rfl rfl rfl rfl (.want rfl rfl rfl) ?_
  refine mv rfl rfl (.want rfl rfl rfl) ?_
  first | refine fa rfl rfl rfl (.want rfl rfl rfl) ?_ | refine fap rfl rfl rfl rfl (.want rfl rfl rfl) ?_
  first | refine ld rfl rfl rfl rfl rfl (.want rfl rfl rfl) ?_ | refine ldp rfl rfl rfl (.want rfl rfl rfl) ?_
  refine mv rfl rfl (.want rfl rfl rfl) ?_
  refine cmp rfl rfl rfl rfl (.want rfl rfl rfl) ?_
  refine pkt rfl rfl rfl rfl (.want rfl rfl rfl) ?_
  refine mv rfl rfl (.want rfl rfl rfl) ?_
  refine sk rfl rfl rfl rfl ?_
  refine sk rfl rfl rfl rfl ?_
  refine sk rfl rfl rfl rfl ?_
  refine sk rfl rfl rfl rfl ?_
  refine sk rfl rfl rfl rfl ?_
  refine sk rfl rfl rfl rfl ?_
  refine sk rfl rfl rfl rfl ?_
  refine sk rfl rfl rfl rfl ?_
  refine pkt rfl rfl rfl rfl (.want rfl rfl rfl) ?_
  refine pkt rfl rfl rfl rfl .none ?_
  refine asg rfl rfl .none ?_
  refine done ?_
  refine Wp.ret ?_
  refine Ends.ret (.cons (.tmp rfl (Fz.pure rfl)) <|  .nil) ?_
  rfl

set_option maxRecDepth 20000 in
theorem f_wE2 {r : Int} {dg : Bool} {m : Int} (h9 : m ≤ 9) (hm : FnP PP 5 [viD (1, 2), keyD (1, r), .bool dg] (resF ((0, 0), [(1, m, 2, 0)]))) (hn : FnP PP 5 [viD (1, 0), keyD (1, r), .bool dg] (resF ((1, 0), [(1, m, 0, 0)]))) : FnP PP 4 [.int .i64 2, .agg [.int .i64 1, .int .i32 r], .bool dg] (.bool true) := by
  refine FnP.of_body Try.func4 rfl (by kernel_rfl) rfl ?_
  refine Wp.seq ?_
  refine reg ?_
  refine bx 4 rfl rfl rfl rfl .none ?_
  refine asg rfl rfl .none ?_
  refine done ?_
  refine Wp.seq ?_
  refine reg ?_
  refine mv rfl rfl .none ?_
  refine bd rfl rfl rfl .none ?_
  refine al 7 rfl rfl .none ?_
  refine sto rfl rfl rfl rfl rfl rfl .none ?_
  refine done ?_
  refine Wp.seq ?_
  refine Wp.seq ?_
  refine reg ?_
  first | refine ld rfl rfl rfl rfl rfl .none ?_ | refine ldp rfl rfl rfl .none ?_
  refine cl rfl rfl f_viIs rfl rfl .none ?_
  refine nt rfl rfl .none ?_
  refine mv rfl rfl .none ?_
  refine mv rfl rfl (.want rfl rfl rfl) ?_
  refine cmp rfl rfl rfl rfl (.want rfl rfl rfl) ?_
  refine pkf rfl rfl rfl rfl .none ?_
  refine done ?_
  refine Wp.condF rfl rfl ?_
  refine Wp.skip ?_
  refine Wp.seq ?_
  refine reg ?_
  first | refine ld rfl rfl rfl rfl rfl .none ?_ | refine ldp rfl rfl rfl .none ?_
  first | refine ld rfl rfl rfl rfl rfl .none ?_ | refine ldp rfl rfl rfl .none ?_
  refine mv rfl rfl .none ?_
  refine cl rfl rfl hm rfl rfl .none ?_
  refine mv rfl rfl .none ?_
  refine xt rfl rfl rfl .none ?_
  refine xt rfl rfl rfl .none ?_
  refine al 8 rfl rfl .none ?_
  refine sto rfl rfl rfl rfl rfl rfl .none ?_
  refine asg rfl rfl .none ?_
  refine done ?_
  refine Wp.seq ?_
  refine Wp.seq ?_
  refine reg ?_
  first | refine fa rfl rfl rfl .none ?_ | refine fap rfl rfl rfl rfl .none ?_
  first | refine ld rfl rfl rfl rfl rfl .none ?_ | refine ldp rfl rfl rfl .none ?_
  refine cmp rfl rfl rfl rfl .none ?_
  refine done ?_
  refine Wp.condF rfl rfl ?_
  refine Wp.skip ?_
  refine Wp.seq ?_
  refine Wp.seq ?_
  refine reg ?_
  first | refine fa rfl rfl rfl .none ?_ | refine fap rfl rfl rfl rfl .none ?_
  first | refine ld rfl rfl rfl rfl rfl .none ?_ | refine ldp rfl rfl rfl .none ?_
  refine cmp rfl rfl rfl rfl .none ?_
  refine done ?_
  refine Wp.condF rfl rfl ?_
  refine Wp.skip ?_
  refine Wp.seq ?_
  refine Wp.seq ?_
  refine reg ?_
  refine mv rfl rfl .none ?_
  first | refine ln rfl rfl .none ?_ | refine lns rfl rfl .none ?_
  refine cmp rfl rfl rfl rfl .none ?_
  refine done ?_
  refine Wp.condF rfl rfl ?_
  refine Wp.skip ?_
  refine Wp.seq ?_
  refine reg ?_
  refine bd rfl rfl rfl .none ?_
  first | refine ld rfl rfl rfl rfl rfl .none ?_ | refine ldp rfl rfl rfl .none ?_
  refine mv rfl rfl .none ?_
  refine cl rfl rfl hn rfl rfl .none ?_
  refine mv rfl rfl .none ?_
  refine xt rfl rfl rfl .none ?_
  refine xt rfl rfl rfl .none ?_
  refine al 10 rfl rfl .none ?_
  refine sto rfl rfl rfl rfl rfl rfl .none ?_
  refine asg rfl rfl .none ?_
  refine done ?_
  refine Wp.seq ?_
  refine reg ?_
  refine mv rfl rfl .none ?_
  refine cmp rfl rfl rfl rfl .none ?_
  refine asg rfl rfl .none ?_
  refine done ?_
  refine Wp.seq ?_
  refine reg ?_
  refine mv rfl rfl .none ?_
  refine ia 0 _ rfl rfl rfl rfl rfl rfl .none ?_
  first | refine fa rfl rfl rfl .none ?_ | refine fap rfl rfl rfl rfl .none ?_
  first | refine ld rfl rfl rfl rfl rfl .none ?_ | refine ldp rfl rfl rfl .none ?_
  refine cmp rfl rfl rfl rfl .none ?_
  refine mv rfl rfl .none ?_
  refine mv rfl rfl (.want rfl rfl rfl) ?_
  refine ia 0 _ rfl rfl rfl rfl rfl rfl (.want rfl rfl rfl) ?_
  first | refine fa rfl rfl rfl (.want rfl rfl rfl) ?_ | refine fap rfl rfl rfl rfl (.want rfl rfl rfl) ?_
  first | refine ld rfl rfl rfl rfl rfl (.want rfl rfl rfl) ?_ | refine ldp rfl rfl rfl (.want rfl rfl rfl) ?_
  refine cmp rfl rfl rfl rfl (.want rfl rfl rfl) ?_
  refine mv rfl rfl (.want rfl rfl rfl) ?_
  refine cmb rfl rfl rfl rfl (.want rfl rfl rfl) ?_
  refine pkt rfl rfl rfl rfl .none ?_
  refine mv rfl rfl .none ?_
  refine mv rfl rfl (.want rfl rfl rfl) ?_
  refine ia 0 _ rfl rfl rfl rfl rfl rfl (.want rfl rfl rfl) ?_
  first | refine fa rfl rfl rfl (.want rfl rfl rfl) ?_ | refine fap rfl rfl rfl rfl (.want rfl rfl rfl) ?_
  first | refine ld rfl rfl rfl rfl rfl (.want rfl rfl rfl) ?_ | refine ldp rfl rfl rfl (.want rfl rfl rfl) ?_
  refine cmp rfl rfl rfl rfl (.want rfl rfl rfl) ?_
  refine mv rfl rfl (.want rfl rfl rfl) ?_
  refine cmb rfl rfl rfl rfl (.want rfl rfl rfl) ?_
  refine pkt rfl rfl rfl rfl .none ?_
  refine mv rfl rfl .none ?_
  first | refine fa rfl rfl rfl (.want rfl rfl rfl) ?_ | refine fap rfl rfl rfl rfl (.want rfl rfl rfl) ?_
  first | refine ld rfl rfl rfl rfl rfl (.want rfl rfl rfl) ?_ | refine ldp rfl rfl rfl (.want rfl rfl rfl) ?_
  refine cmp rfl rfl rfl rfl (.want rfl rfl rfl) ?_
  refine mv rfl rfl (.want rfl rfl rfl) ?_
  refine cmp rfl rfl rfl rfl (.want rfl rfl rfl) ?_
  refine cmb rfl rfl rfl rfl (.want rfl rfl rfl) ?_
  refine pkt rfl rfl rfl rfl .none ?_
  refine asg rfl rfl .none ?_
  refine done ?_
  refine Wp.seq ?_
  refine Wp.seq ?_
  refine reg ?_
  refine mv rfl rfl .none ?_
  refine done ?_
  refine Wp.condT rfl rfl ?_
  refine Wp.seq ?_
  refine reg ?_
  refine cl rfl rfl f_commanded rfl rfl .none ?_
  refine mv rfl rfl .none ?_
  refine mv rfl rfl (.want rfl rfl rfl) ?_
  refine ia 0 _ rfl rfl rfl rfl rfl rfl (.want rfl rfl rfl) ?_
  first | refine fa rfl rfl rfl (.want rfl rfl rfl) ?_ | refine fap rfl rfl rfl rfl (.want rfl rfl rfl) ?_
  first | refine ld rfl rfl rfl rfl rfl (.want rfl rfl rfl) ?_ | refine ldp rfl rfl rfl (.want rfl rfl rfl) ?_
  refine cmp rfl rfl rfl rfl (.want rfl rfl rfl) ?_
  refine mv rfl rfl (.want rfl rfl rfl) ?_
  refine sk rfl rfl (by simp; omega) rfl ?_
  refine sk rfl rfl (by simp; omega) rfl ?_
  refine sk rfl rfl (by simp; omega) rfl ?_
  refine sk rfl rfl (by simp; omega) rfl ?_
  refine pkf rfl (by simp; omega) rfl rfl (.want rfl rfl rfl) ?_
  refine mv rfl rfl (.want rfl rfl rfl) ?_
  refine mv rfl rfl (.want rfl rfl rfl) ?_
  refine mv rfl rfl (.want rfl rfl rfl) ?_
  refine ia 0 _ rfl rfl rfl rfl rfl rfl (.want rfl rfl rfl) ?_
  first | refine fa rfl rfl rfl (.want rfl rfl rfl) ?_ | refine fap rfl rfl rfl rfl (.want rfl rfl rfl) ?_
  first | refine ld rfl rfl rfl rfl rfl (.want rfl rfl rfl) ?_ | refine ldp rfl rfl rfl (.want rfl rfl rfl) ?_
  refine bd rfl rfl rfl (.want rfl rfl rfl) ?_
  refine bs rfl rfl rfl rfl (.want rfl rfl rfl) ?_
  refine cl rfl rfl (f_same (l := [(1, m, 0, 0)]) (m := [(1, m, 0, 0)]) (by simp)) rfl rfl (.want rfl rfl rfl) ?_
  refine pkf rfl rfl rfl rfl (.want rfl rfl rfl) ?_
  refine pkt rfl rfl rfl rfl .none ?_
  refine asg rfl rfl .none ?_
  refine done ?_
  refine Wp.ret ?_
  refine Ends.ret (.cons (.tmp rfl (Fz.pure rfl)) <|  .nil) ?_
  first | rfl | simp [retD]

set_option maxRecDepth 20000 in
theorem f_wA3 {r : Int} {dg : Bool} {v : Int × Int} {l : List Act4} (hm : FnP PP 5 [viD (1, 3), keyD (2, r), .bool dg] (resF (v, (16, 0, 0, 0) :: l)))  : FnP PP 4 [.int .i64 3, .agg [.int .i64 2, .int .i32 r], .bool dg] (.bool true) := by
  refine FnP.of_body Try.func4 rfl (by kernel_rfl) rfl ?_
  refine Wp.seq ?_
  refine reg ?_
  refine bx 4 rfl rfl rfl rfl .none ?_
  refine asg rfl rfl .none ?_
  refine done ?_
  refine Wp.seq ?_
  refine reg ?_
  refine mv rfl rfl .none ?_
  refine bd rfl rfl rfl .none ?_
  refine al 7 rfl rfl .none ?_
  refine sto rfl rfl rfl rfl rfl rfl .none ?_
  refine done ?_
  refine Wp.seq ?_
  refine Wp.seq ?_
  refine reg ?_
  first | refine ld rfl rfl rfl rfl rfl .none ?_ | refine ldp rfl rfl rfl .none ?_
  refine cl rfl rfl f_viIs rfl rfl .none ?_
  refine nt rfl rfl .none ?_
  refine mv rfl rfl .none ?_
  refine mv rfl rfl (.want rfl rfl rfl) ?_
  refine cmp rfl rfl rfl rfl (.want rfl rfl rfl) ?_
  refine pkf rfl rfl rfl rfl .none ?_
  refine done ?_
  refine Wp.condF rfl rfl ?_
  refine Wp.skip ?_
  refine Wp.seq ?_
  refine reg ?_
  first | refine ld rfl rfl rfl rfl rfl .none ?_ | refine ldp rfl rfl rfl .none ?_
  first | refine ld rfl rfl rfl rfl rfl .none ?_ | refine ldp rfl rfl rfl .none ?_
  refine mv rfl rfl .none ?_
  refine cl rfl rfl hm rfl rfl .none ?_
  refine mv rfl rfl .none ?_
  refine xt rfl rfl rfl .none ?_
  refine xt rfl rfl rfl .none ?_
  refine al 8 rfl rfl .none ?_
  refine sto rfl rfl rfl rfl rfl rfl .none ?_
  refine asg rfl rfl .none ?_
  refine done ?_
  refine Wp.seq ?_
  refine Wp.seq ?_
  refine reg ?_
  first | refine fa rfl rfl rfl .none ?_ | refine fap rfl rfl rfl rfl .none ?_
  first | refine ld rfl rfl rfl rfl rfl .none ?_ | refine ldp rfl rfl rfl .none ?_
  refine cmp rfl rfl rfl rfl .none ?_
  refine done ?_
  refine Wp.condT rfl rfl ?_
  refine Wp.seq ?_
  refine reg ?_
  refine cl rfl rfl f_commanded rfl rfl .none ?_
  refine mv rfl rfl .none ?_
  refine mv rfl rfl (.want rfl rfl rfl) ?_
  first | refine ln rfl rfl (.want rfl rfl rfl) ?_ | refine lns rfl rfl (.want rfl rfl rfl) ?_
  refine cmp rfl rfl rfl rfl (.want rfl rfl rfl) ?_
  refine pkt rfl rfl rfl rfl .none ?_
  refine mv rfl rfl .none ?_
  refine mv rfl rfl (.want rfl rfl (by simp; omega)) ?_
  refine ia 0 _ rfl rfl rfl rfl rfl rfl (.want rfl rfl (by simp; omega)) ?_
  first | refine ld rfl rfl rfl rfl rfl (.want rfl rfl (by simp; omega)) ?_ | refine ldp rfl rfl rfl (.want rfl rfl (by simp; omega)) ?_
  refine bd rfl rfl rfl (.want rfl rfl (by simp; omega)) ?_
  refine cms rfl rfl rfl rfl rfl (.want rfl rfl (by simp; omega)) ?_
  refine pkt rfl (by simp; omega) rfl rfl .none ?_
  refine asg rfl rfl .none ?_
  refine done ?_
  refine Wp.ret ?_
  refine Ends.ret (.cons (.tmp rfl (Fz.pure rfl)) <|  .nil) ?_
  rfl

set_option maxRecDepth 20000 in
theorem f_wB3 {r : Int} {dg : Bool} (hm : FnP PP 5 [viD (1, 3), keyD (1, r), .bool dg] (resF ((1, 3), [(14, 0, 0, r)])))  : FnP PP 4 [.int .i64 3, .agg [.int .i64 1, .int .i32 r], .bool dg] (.bool true) := by
  refine FnP.of_body Try.func4 rfl (by kernel_rfl) rfl ?_
  refine Wp.seq ?_
  refine reg ?_
  refine bx 4 rfl rfl rfl rfl .none ?_
  refine asg rfl rfl .none ?_
  refine done ?_
  refine Wp.seq ?_
  refine reg ?_
  refine mv rfl rfl .none ?_
  refine bd rfl rfl rfl .none ?_
  refine al 7 rfl rfl .none ?_
  refine sto rfl rfl rfl rfl rfl rfl .none ?_
  refine done ?_
  refine Wp.seq ?_
  refine Wp.seq ?_
  refine reg ?_
  first | refine ld rfl rfl rfl rfl rfl .none ?_ | refine ldp rfl rfl rfl .none ?_
  refine cl rfl rfl f_viIs rfl rfl .none ?_
  refine nt rfl rfl .none ?_
  refine mv rfl rfl .none ?_
  refine mv rfl rfl (.want rfl rfl rfl) ?_
  refine cmp rfl rfl rfl rfl (.want rfl rfl rfl) ?_
  refine pkf rfl rfl rfl rfl .none ?_
  refine done ?_
  refine Wp.condF rfl rfl ?_
  refine Wp.skip ?_
  refine Wp.seq ?_
  refine reg ?_
  first | refine ld rfl rfl rfl rfl rfl .none ?_ | refine ldp rfl rfl rfl .none ?_
  first | refine ld rfl rfl rfl rfl rfl .none ?_ | refine ldp rfl rfl rfl .none ?_
  refine mv rfl rfl .none ?_
  refine cl rfl rfl hm rfl rfl .none ?_
  refine mv rfl rfl .none ?_
  refine xt rfl rfl rfl .none ?_
  refine xt rfl rfl rfl .none ?_
  refine al 8 rfl rfl .none ?_
  refine sto rfl rfl rfl rfl rfl rfl .none ?_
  refine asg rfl rfl .none ?_
  refine done ?_
  refine Wp.seq ?_
  refine Wp.seq ?_
  refine reg ?_
  first | refine fa rfl rfl rfl .none ?_ | refine fap rfl rfl rfl rfl .none ?_
  first | refine ld rfl rfl rfl rfl rfl .none ?_ | refine ldp rfl rfl rfl .none ?_
  refine cmp rfl rfl rfl rfl .none ?_
  refine done ?_
  refine Wp.condF rfl rfl ?_
  refine Wp.skip ?_
  refine Wp.seq ?_
  refine Wp.seq ?_
  refine reg ?_
  first | refine fa rfl rfl rfl .none ?_ | refine fap rfl rfl rfl rfl .none ?_
  first | refine ld rfl rfl rfl rfl rfl .none ?_ | refine ldp rfl rfl rfl .none ?_
  refine cmp rfl rfl rfl rfl .none ?_
  refine done ?_
  refine Wp.condT rfl rfl ?_
  refine Wp.seq ?_
  refine reg ?_
  refine cl rfl rfl f_commanded rfl rfl .none ?_
  refine mv rfl rfl .none ?_
  first | refine ld rfl rfl rfl rfl rfl (.want rfl rfl rfl) ?_ | refine ldp rfl rfl rfl (.want rfl rfl rfl) ?_
  first | refine ld rfl rfl rfl rfl rfl (.want rfl rfl rfl) ?_ | refine ldp rfl rfl rfl (.want rfl rfl rfl) ?_
  refine cms rfl rfl rfl rfl rfl (.want rfl rfl rfl) ?_
  refine pkt rfl rfl rfl rfl .none ?_
  refine mv rfl rfl .none ?_
  refine mv rfl rfl (.want rfl rfl rfl) ?_
  first | refine ln rfl rfl (.want rfl rfl rfl) ?_ | refine lns rfl rfl (.want rfl rfl rfl) ?_
  refine cmp rfl rfl rfl rfl (.want rfl rfl rfl) ?_
  refine pkt rfl rfl rfl rfl .none ?_
  refine mv rfl rfl .none ?_
  refine mv rfl rfl (.want rfl rfl rfl) ?_
  refine ia 0 _ rfl rfl rfl rfl rfl rfl (.want rfl rfl rfl) ?_
  first | refine fa rfl rfl rfl (.want rfl rfl rfl) ?_ | refine fap rfl rfl rfl rfl (.want rfl rfl rfl) ?_
  first | refine ld rfl rfl rfl rfl rfl (.want rfl rfl rfl) ?_ | refine ldp rfl rfl rfl (.want rfl rfl rfl) ?_
  refine cmp rfl rfl rfl rfl (.want rfl rfl rfl) ?_
  refine pkt rfl rfl rfl rfl .none ?_
  refine asg rfl rfl .none ?_
  refine done ?_
  refine Wp.ret ?_
  refine Ends.ret (.cons (.tmp rfl (Fz.pure rfl)) <|  .nil) ?_
  rfl

set_option maxRecDepth 20000 in
theorem f_wC3 {k : Int} {r : Int} {dg : Bool} {y : (Int × Int) × List Act4} (hk : (k == 2) = false) (hm : FnP PP 5 [viD (1, 3), keyD (k, r), .bool dg] (resF ((1, 0), [(16, 0, 0, 0)]))) (hn : FnP PP 5 [viD (1, 0), keyD (k, r), .bool dg] (resF y)) : FnP PP 4 [.int .i64 3, .agg [.int .i64 k, .int .i32 r], .bool dg] (.bool true) := by
  refine FnP.of_body Try.func4 rfl (by kernel_rfl) rfl ?_
  refine Wp.seq ?_
  refine reg ?_
  refine bx 4 rfl rfl rfl rfl .none ?_
  refine asg rfl rfl .none ?_
  refine done ?_
  refine Wp.seq ?_
  refine reg ?_
  refine mv rfl rfl .none ?_
  refine bd rfl rfl rfl .none ?_
  refine al 7 rfl rfl .none ?_
  refine sto rfl rfl rfl rfl rfl rfl .none ?_
  refine done ?_
  refine Wp.seq ?_
  refine Wp.seq ?_
  refine reg ?_
  first | refine ld rfl rfl rfl rfl rfl .none ?_ | refine ldp rfl rfl rfl .none ?_
  refine cl rfl rfl f_viIs rfl rfl .none ?_
  refine nt rfl rfl .none ?_
  refine mv rfl rfl .none ?_
  refine mv rfl rfl (.want rfl rfl rfl) ?_
  refine cmp rfl rfl rfl rfl (.want rfl rfl rfl) ?_
  refine pkf rfl rfl rfl rfl .none ?_
  refine done ?_
  refine Wp.condF rfl rfl ?_
  refine Wp.skip ?_
  refine Wp.seq ?_
  refine reg ?_
  first | refine ld rfl rfl rfl rfl rfl .none ?_ | refine ldp rfl rfl rfl .none ?_
  first | refine ld rfl rfl rfl rfl rfl .none ?_ | refine ldp rfl rfl rfl .none ?_
  refine mv rfl rfl .none ?_
  refine cl rfl rfl hm rfl rfl .none ?_
  refine mv rfl rfl .none ?_
  refine xt rfl rfl rfl .none ?_
  refine xt rfl rfl rfl .none ?_
  refine al 8 rfl rfl .none ?_
  refine sto rfl rfl rfl rfl rfl rfl .none ?_
  refine asg rfl rfl .none ?_
  refine done ?_
  refine Wp.seq ?_
  refine Wp.seq ?_
  refine reg ?_
  first | refine fa rfl rfl rfl .none ?_ | refine fap rfl rfl rfl rfl .none ?_
  first | refine ld rfl rfl rfl rfl rfl .none ?_ | refine ldp rfl rfl rfl .none ?_
  refine cmp rfl rfl rfl rfl .none ?_
  refine done ?_
  refine Wp.condF rfl hk ?_
  refine Wp.skip ?_
  refine Wp.seq ?_
  refine Wp.seq ?_
  refine reg ?_
  first | refine fa rfl rfl rfl .none ?_ | refine fap rfl rfl rfl rfl .none ?_
  first | refine ld rfl rfl rfl rfl rfl .none ?_ | refine ldp rfl rfl rfl .none ?_
  refine cmp rfl rfl rfl rfl .none ?_
  refine done ?_
  refine Wp.condF rfl rfl ?_
  refine Wp.skip ?_
  refine Wp.seq ?_
  refine Wp.seq ?_
  refine reg ?_
  refine mv rfl rfl .none ?_
  first | refine ln rfl rfl .none ?_ | refine lns rfl rfl .none ?_
  refine cmp rfl rfl rfl rfl .none ?_
  refine done ?_
  refine Wp.condF rfl rfl ?_
  refine Wp.skip ?_
  refine Wp.seq ?_
  refine reg ?_
  refine bd rfl rfl rfl .none ?_
  first | refine ld rfl rfl rfl rfl rfl .none ?_ | refine ldp rfl rfl rfl .none ?_
  refine mv rfl rfl .none ?_
  refine cl rfl rfl hn rfl rfl .none ?_
  refine mv rfl rfl .none ?_
  refine xt rfl rfl rfl .none ?_
  refine xt rfl rfl rfl .none ?_
  refine al 10 rfl rfl .none ?_
  refine sto rfl rfl rfl rfl rfl rfl .none ?_
  refine asg rfl rfl .none ?_
  refine done ?_
  refine Wp.seq ?_
  refine reg ?_
  refine mv rfl rfl .none ?_
  refine cmp rfl rfl rfl rfl .none ?_
  refine asg rfl rfl .none ?_
  refine done ?_
  refine Wp.seq ?_
  refine reg ?_
  refine mv rfl rfl .none ?_
  refine ia 0 _ rfl rfl rfl rfl rfl rfl .none ?_
  first | refine fa rfl rfl rfl .none ?_ | refine fap rfl rfl rfl rfl .none ?_
  first | refine ld rfl rfl rfl rfl rfl .none ?_ | refine ldp rfl rfl rfl .none ?_
  refine cmp rfl rfl rfl rfl .none ?_
  refine mv rfl rfl .none ?_
  refine sk rfl rfl rfl rfl ?_
  refine sk rfl rfl rfl rfl ?_
  refine sk rfl rfl rfl rfl ?_
  refine sk rfl rfl rfl rfl ?_
  refine sk rfl rfl rfl rfl ?_
  refine sk rfl rfl rfl rfl ?_
  refine sk rfl rfl rfl rfl ?_
  refine pkf rfl rfl rfl rfl .none ?_
  refine mv rfl rfl .none ?_
  refine sk rfl rfl rfl rfl ?_
  refine sk rfl rfl rfl rfl ?_
  refine sk rfl rfl rfl rfl ?_
  refine sk rfl rfl rfl rfl ?_
  refine sk rfl rfl rfl rfl ?_
  refine sk rfl rfl rfl rfl ?_
  refine sk rfl rfl rfl rfl ?_
  refine pkf rfl rfl rfl rfl .none ?_
  refine mv rfl rfl .none ?_
  refine sk rfl rfl rfl rfl ?_
  refine sk rfl rfl rfl rfl ?_
  refine sk rfl rfl rfl rfl ?_
  refine sk rfl rfl rfl rfl ?_
  refine sk rfl rfl rfl rfl ?_
  refine sk rfl rfl rfl rfl ?_
  refine pkf rfl rfl rfl rfl .none ?_
  refine asg rfl rfl .none ?_
  refine done ?_
  refine Wp.seq ?_
  refine Wp.seq ?_
  refine reg ?_
  refine mv rfl rfl .none ?_
  refine done ?_
  refine Wp.condF rfl rfl ?_
  refine Wp.skip ?_
  refine Wp.seq ?_
  refine reg ?_
  refine cl rfl rfl f_commanded rfl rfl .none ?_
  refine mv rfl rfl .none ?_
  first | refine fa rfl rfl rfl (.want rfl rfl rfl) ?_ | refine fap rfl rfl rfl rfl (.want rfl rfl rfl) ?_
  first | refine ld rfl rfl rfl rfl rfl (.want rfl rfl rfl) ?_ | refine ldp rfl rfl rfl (.want rfl rfl rfl) ?_
  refine cmp rfl rfl rfl rfl (.want rfl rfl rfl) ?_
  refine pkt rfl rfl rfl rfl .none ?_
  refine mv rfl rfl .none ?_
  refine mv rfl rfl (.want rfl rfl rfl) ?_
  refine ia 0 _ rfl rfl rfl rfl rfl rfl (.want rfl rfl rfl) ?_
  first | refine ld rfl rfl rfl rfl rfl (.want rfl rfl rfl) ?_ | refine ldp rfl rfl rfl (.want rfl rfl rfl) ?_
  refine bd rfl rfl rfl (.want rfl rfl rfl) ?_
  refine cms rfl rfl rfl rfl rfl (.want rfl rfl rfl) ?_
  refine pkt rfl rfl rfl rfl .none ?_
  refine asg rfl rfl .none ?_
  refine done ?_
  refine Wp.ret ?_
  refine Ends.ret (.cons (.tmp rfl (Fz.pure rfl)) <|  .nil) ?_
  rfl

set_option maxRecDepth 20000 in
theorem f_wD3 {r : Int} {dg : Bool} (hm : FnP PP 5 [viD (1, 3), keyD (1, r), .bool dg] (resF ((1, 0), [(1, 10, 3, 0)]))) (hn : FnP PP 5 [viD (1, 0), keyD (1, r), .bool dg] (resF ((1, 3), []))) : FnP PP 4 [.int .i64 3, .agg [.int .i64 1, .int .i32 r], .bool dg] (.bool true) := by
  refine FnP.of_body Try.func4 rfl (by kernel_rfl) rfl ?_
  refine Wp.seq ?_
  refine reg ?_
  refine bx 4 rfl rfl rfl rfl .none ?_
  refine asg rfl rfl .none ?_
  refine done ?_
  refine Wp.seq ?_
  refine reg ?_
  refine mv rfl rfl .none ?_
  refine bd rfl rfl rfl .none ?_
  refine al 7 rfl rfl .none ?_
  refine sto rfl rfl rfl rfl rfl rfl .none ?_
  refine done ?_
  refine Wp.seq ?_
  refine Wp.seq ?_
  refine reg ?_
  first | refine ld rfl rfl rfl rfl rfl .none ?_ | refine ldp rfl rfl rfl .none ?_
  refine cl rfl rfl f_viIs rfl rfl .none ?_
  refine nt rfl rfl .none ?_
  refine mv rfl rfl .none ?_
  refine mv rfl rfl (.want rfl rfl rfl) ?_
  refine cmp rfl rfl rfl rfl (.want rfl rfl rfl) ?_
  refine pkf rfl rfl rfl rfl .none ?_
  refine done ?_
  refine Wp.condF rfl rfl ?_
  refine Wp.skip ?_
  refine Wp.seq ?_
  refine reg ?_
  first | refine ld rfl rfl rfl rfl rfl .none ?_ | refine ldp rfl rfl rfl .none ?_
  first | refine ld rfl rfl rfl rfl rfl .none ?_ | refine ldp rfl rfl rfl .none ?_
  refine mv rfl rfl .none ?_
  refine cl rfl rfl hm rfl rfl .none ?_
  refine mv rfl rfl .none ?_
  refine xt rfl rfl rfl .none ?_
  refine xt rfl rfl rfl .none ?_
  refine al 8 rfl rfl .none ?_
  refine sto rfl rfl rfl rfl rfl rfl .none ?_
  refine asg rfl rfl .none ?_
  refine done ?_
  refine Wp.seq ?_
  refine Wp.seq ?_
  refine reg ?_
  first | refine fa rfl rfl rfl .none ?_ | refine fap rfl rfl rfl rfl .none ?_
  first | refine ld rfl rfl rfl rfl rfl .none ?_ | refine ldp rfl rfl rfl .none ?_
  refine cmp rfl rfl rfl rfl .none ?_
  refine done ?_
  refine Wp.condF rfl rfl ?_
  refine Wp.skip ?_
  refine Wp.seq ?_
  refine Wp.seq ?_
  refine reg ?_
  first | refine fa rfl rfl rfl .none ?_ | refine fap rfl rfl rfl rfl .none ?_
  first | refine ld rfl rfl rfl rfl rfl .none ?_ | refine ldp rfl rfl rfl .none ?_
  refine cmp rfl rfl rfl rfl .none ?_
  refine done ?_
  refine Wp.condF rfl rfl ?_
  refine Wp.skip ?_
  refine Wp.seq ?_
  refine Wp.seq ?_
  refine reg ?_
  refine mv rfl rfl .none ?_
  first | refine ln rfl rfl .none ?_ | refine lns rfl rfl .none ?_
  refine cmp rfl rfl rfl rfl .none ?_
  refine done ?_
  refine Wp.condF rfl rfl ?_
  refine Wp.skip ?_
  refine Wp.seq ?_
  refine reg ?_
  refine bd rfl rfl rfl .none ?_
  first | refine ld rfl rfl rfl rfl rfl .none ?_ | refine ldp rfl rfl rfl .none ?_
  refine mv rfl rfl .none ?_
  refine cl rfl rfl hn rfl rfl .none ?_
  refine mv rfl rfl .none ?_
  refine xt rfl rfl rfl .none ?_
  refine xt rfl rfl rfl .none ?_
  refine al 10 rfl rfl .none ?_
  refine sto rfl rfl rfl rfl rfl rfl .none ?_
  refine asg rfl rfl .none ?_
  refine done ?_
  refine Wp.seq ?_
  refine reg ?_
  refine mv rfl rfl .none ?_
  refine cmp rfl rfl rfl rfl .none ?_
  refine asg rfl rfl .none ?_
  refine done ?_
  refine Wp.seq ?_
  refine reg ?_
  refine mv rfl rfl .none ?_
  refine ia 0 _ rfl rfl rfl rfl rfl rfl .none ?_
  first | refine fa rfl rfl rfl .none ?_ | refine fap rfl rfl rfl rfl .none ?_
  first | refine ld rfl rfl rfl rfl rfl .none ?_ | refine ldp rfl rfl rfl .none ?_
  refine cmp rfl rfl rfl rfl .none ?_
  refine mv rfl rfl .none ?_
  refine mv rfl rfl (.want rfl rfl rfl) ?_
  refine ia 0 _ rfl rfl rfl rfl rfl rfl (.want rfl rfl rfl) ?_
  first | refine fa rfl rfl rfl (.want rfl rfl rfl) ?_ | refine fap rfl rfl rfl rfl (.want rfl rfl rfl) ?_
  first | refine ld rfl rfl rfl rfl rfl (.want rfl rfl rfl) ?_ | refine ldp rfl rfl rfl (.want rfl rfl rfl) ?_
  refine cmp rfl rfl rfl rfl (.want rfl rfl rfl) ?_
  refine mv rfl rfl (.want rfl rfl rfl) ?_
  refine cmb rfl rfl rfl rfl (.want rfl rfl rfl) ?_
  refine pkt rfl rfl rfl rfl .none ?_
  refine mv rfl rfl .none ?_
  refine mv rfl rfl (.want rfl rfl rfl) ?_
  refine ia 0 _ rfl rfl rfl rfl rfl rfl (.want rfl rfl rfl) ?_
  first | refine fa rfl rfl rfl (.want rfl rfl rfl) ?_ | refine fap rfl rfl rfl rfl (.want rfl rfl rfl) ?_
  first | refine ld rfl rfl rfl rfl rfl (.want rfl rfl rfl) ?_ | refine ldp rfl rfl rfl (.want rfl rfl rfl) ?_
  refine cmp rfl rfl rfl rfl (.want rfl rfl rfl) ?_
  refine mv rfl rfl (.want rfl rfl rfl) ?_
  refine cmb rfl rfl rfl rfl (.want rfl rfl rfl) ?_
  refine pkt rfl rfl rfl rfl .none ?_
  refine mv rfl rfl .none ?_
  first | refine fa rfl rfl rfl (.want rfl rfl rfl) ?_ | refine fap rfl rfl rfl rfl (.want rfl rfl rfl) ?_
  first | refine ld rfl rfl rfl rfl rfl (.want rfl rfl rfl) ?_ | refine ldp rfl rfl rfl (.want rfl rfl rfl) ?_
  refine cmp rfl rfl rfl rfl (.want rfl rfl rfl) ?_
  refine mv rfl rfl (.want rfl rfl rfl) ?_
  refine cmp rfl rfl rfl rfl (.want rfl rfl rfl) ?_
  refine cmb rfl rfl rfl rfl (.want rfl rfl rfl) ?_
  refine pkt rfl rfl rfl rfl .none ?_
  refine asg rfl rfl .none ?_
  refine done ?_
  refine Wp.seq ?_
  refine Wp.seq ?_
  refine reg ?_
  refine mv rfl rfl .none ?_
  refine done ?_
  refine Wp.condT rfl rfl ?_
  refine Wp.seq ?_
  refine reg ?_
  refine cl rfl rfl f_commanded rfl rfl .none ?_
  refine mv rfl rfl .none ?_
  refine mv rfl rfl (.want rfl rfl rfl) ?_
  refine ia 0 _ rfl rfl rfl rfl rfl rfl (.want rfl rfl rfl) ?_
  first | refine fa rfl rfl rfl (.want rfl rfl rfl) ?_ | refine fap rfl rfl rfl rfl (.want rfl rfl rfl) ?_
  first | refine ld rfl rfl rfl rfl rfl (.want rfl rfl rfl) ?_ | refine ldp rfl rfl rfl (.want rfl rfl rfl) ?_
  refine cmp rfl rfl rfl rfl (.want rfl rfl rfl) ?_
  refine mv rfl rfl (.want rfl rfl rfl) ?_
  first | refine fa rfl rfl rfl (.want rfl rfl rfl) ?_ | refine fap rfl rfl rfl rfl (.want rfl rfl rfl) ?_
  first | refine ld rfl rfl rfl rfl rfl (.want rfl rfl rfl) ?_ | refine ldp rfl rfl rfl (.want rfl rfl rfl) ?_
  refine mv rfl rfl (.want rfl rfl rfl) ?_
  refine cmp rfl rfl rfl rfl (.want rfl rfl rfl) ?_
  refine pkt rfl rfl rfl rfl (.want rfl rfl rfl) ?_
  refine mv rfl rfl (.want rfl rfl rfl) ?_
  refine sk rfl rfl rfl rfl ?_
  refine sk rfl rfl rfl rfl ?_
  refine sk rfl rfl rfl rfl ?_
  refine sk rfl rfl rfl rfl ?_
  refine sk rfl rfl rfl rfl ?_
  refine sk rfl rfl rfl rfl ?_
  refine sk rfl rfl rfl rfl ?_
  refine sk rfl rfl rfl rfl ?_
  refine pkt rfl rfl rfl rfl (.want rfl rfl rfl) ?_
  refine pkt rfl rfl rfl rfl .none ?_
  refine asg rfl rfl .none ?_
  refine done ?_
  refine Wp.ret ?_
  refine Ends.ret (.cons (.tmp rfl (Fz.pure rfl)) <|  .nil) ?_
  rfl

set_option maxRecDepth 20000 in
theorem f_wE3 {r : Int} {dg : Bool} {m : Int} (h9 : m ≤ 9) (hm : FnP PP 5 [viD (1, 3), keyD (1, r), .bool dg] (resF ((1, 0), [(1, m, 3, 0)]))) (hn : FnP PP 5 [viD (1, 0), keyD (1, r), .bool dg] (resF ((1, 0), [(1, m, 0, 0)]))) : FnP PP 4 [.int .i64 3, .agg [.int .i64 1, .int .i32 r], .bool dg] (.bool true) := by
  refine FnP.of_body Try.func4 rfl (by kernel_rfl) rfl ?_
  refine Wp.seq ?_
  refine reg ?_
  refine bx 4 rfl rfl rfl rfl .none ?_
  refine asg rfl rfl .none ?_
  refine done ?_
  refine Wp.seq ?_
  refine reg ?_
  refine mv rfl rfl .none ?_
  refine bd rfl rfl rfl .none ?_
  refine al 7 rfl rfl .none ?_
  refine sto rfl rfl rfl rfl rfl rfl .none ?_
  refine done ?_
  refine Wp.seq ?_
  refine Wp.seq ?_
  refine reg ?_
  first | refine ld rfl rfl rfl rfl rfl .none ?_ | refine ldp rfl rfl rfl .none ?_
  refine cl rfl rfl f_viIs rfl rfl .none ?_
  refine nt rfl rfl .none ?_
  refine mv rfl rfl .none ?_
  refine mv rfl rfl (.want rfl rfl rfl) ?_
  refine cmp rfl rfl rfl rfl (.want rfl rfl rfl) ?_
  refine pkf rfl rfl rfl rfl .none ?_
  refine done ?_
  refine Wp.condF rfl rfl ?_
  refine Wp.skip ?_
  refine Wp.seq ?_
  refine reg ?_
  first | refine ld rfl rfl rfl rfl rfl .none ?_ | refine ldp rfl rfl rfl .none ?_
  first | refine ld rfl rfl rfl rfl rfl .none ?_ | refine ldp rfl rfl rfl .none ?_
  refine mv rfl rfl .none ?_
  refine cl rfl rfl hm rfl rfl .none ?_
  refine mv rfl rfl .none ?_
  refine xt rfl rfl rfl .none ?_
  refine xt rfl rfl rfl .none ?_
  refine al 8 rfl rfl .none ?_
  refine sto rfl rfl rfl rfl rfl rfl .none ?_
  refine asg rfl rfl .none ?_
  refine done ?_
  refine Wp.seq ?_
  refine Wp.seq ?_
  refine reg ?_
  first | refine fa rfl rfl rfl .none ?_ | refine fap rfl rfl rfl rfl .none ?_
  first | refine ld rfl rfl rfl rfl rfl .none ?_ | refine ldp rfl rfl rfl .none ?_
  refine cmp rfl rfl rfl rfl .none ?_
  refine done ?_
  refine Wp.condF rfl rfl ?_
  refine Wp.skip ?_
  refine Wp.seq ?_
  refine Wp.seq ?_
  refine reg ?_
  first | refine fa rfl rfl rfl .none ?_ | refine fap rfl rfl rfl rfl .none ?_
  first | refine ld rfl rfl rfl rfl rfl .none ?_ | refine ldp rfl rfl rfl .none ?_
  refine cmp rfl rfl rfl rfl .none ?_
  refine done ?_
  refine Wp.condF rfl rfl ?_
  refine Wp.skip ?_
  refine Wp.seq ?_
  refine Wp.seq ?_
  refine reg ?_
  refine mv rfl rfl .none ?_
  first | refine ln rfl rfl .none ?_ | refine lns rfl rfl .none ?_
  refine cmp rfl rfl rfl rfl .none ?_
  refine done ?_
  refine Wp.condF rfl rfl ?_
  refine Wp.skip ?_
  refine Wp.seq ?_
  refine reg ?_
  refine bd rfl rfl rfl .none ?_
  first | refine ld rfl rfl rfl rfl rfl .none ?_ | refine ldp rfl rfl rfl .none ?_
  refine mv rfl rfl .none ?_
  refine cl rfl rfl hn rfl rfl .none ?_
  refine mv rfl rfl .none ?_
  refine xt rfl rfl rfl .none ?_
  refine xt rfl rfl rfl .none ?_
  refine al 10 rfl rfl .none ?_
  refine sto rfl rfl rfl rfl rfl rfl .none ?_
  refine asg rfl rfl .none ?_
  refine done ?_
  refine Wp.seq ?_
  refine reg ?_
  refine mv rfl rfl .none ?_
  refine cmp rfl rfl rfl rfl .none ?_
  refine asg rfl rfl .none ?_
  refine done ?_
  refine Wp.seq ?_
  refine reg ?_
  refine mv rfl rfl .none ?_
  refine ia 0 _ rfl rfl rfl rfl rfl rfl .none ?_
  first | refine fa rfl rfl rfl .none ?_ | refine fap rfl rfl rfl rfl .none ?_
  first | refine ld rfl rfl rfl rfl rfl .none ?_ | refine ldp rfl rfl rfl .none ?_
  refine cmp rfl rfl rfl rfl .none ?_
  refine mv rfl rfl .none ?_
  refine mv rfl rfl (.want rfl rfl rfl) ?_
  refine ia 0 _ rfl rfl rfl rfl rfl rfl (.want rfl rfl rfl) ?_
  first | refine fa rfl rfl rfl (.want rfl rfl rfl) ?_ | refine fap rfl rfl rfl rfl (.want rfl rfl rfl) ?_
  first | refine ld rfl rfl rfl rfl rfl (.want rfl rfl rfl) ?_ | refine ldp rfl rfl rfl (.want rfl rfl rfl) ?_
  refine cmp rfl rfl rfl rfl (.want rfl rfl rfl) ?_
  refine mv rfl rfl (.want rfl rfl rfl) ?_
  refine cmb rfl rfl rfl rfl (.want rfl rfl rfl) ?_
  refine pkt rfl rfl rfl rfl .none ?_
  refine mv rfl rfl .none ?_
  refine mv rfl rfl (.want rfl rfl rfl) ?_
  refine ia 0 _ rfl rfl rfl rfl rfl rfl (.want rfl rfl rfl) ?_
  first | refine fa rfl rfl rfl (.want rfl rfl rfl) ?_ | refine fap rfl rfl rfl rfl (.want rfl rfl rfl) ?_
  first | refine ld rfl rfl rfl rfl rfl (.want rfl rfl rfl) ?_ | refine ldp rfl rfl rfl (.want rfl rfl rfl) ?_
  refine cmp rfl rfl rfl rfl (.want rfl rfl rfl) ?_
  refine mv rfl rfl (.want rfl rfl rfl) ?_
  refine cmb rfl rfl rfl rfl (.want rfl rfl rfl) ?_
  refine pkt rfl rfl rfl rfl .none ?_
  refine mv rfl rfl .none ?_
  first | refine fa rfl rfl rfl (.want rfl rfl rfl) ?_ | refine fap rfl rfl rfl rfl (.want rfl rfl rfl) ?_
  first | refine ld rfl rfl rfl rfl rfl (.want rfl rfl rfl) ?_ | refine ldp rfl rfl rfl (.want rfl rfl rfl) ?_
  refine cmp rfl rfl rfl rfl (.want rfl rfl rfl) ?_
  refine mv rfl rfl (.want rfl rfl rfl) ?_
  refine cmp rfl rfl rfl rfl (.want rfl rfl rfl) ?_
  refine cmb rfl rfl rfl rfl (.want rfl rfl rfl) ?_
  refine pkt rfl rfl rfl rfl .none ?_
  refine asg rfl rfl .none ?_
  refine done ?_
  refine Wp.seq ?_
  refine Wp.seq ?_
  refine reg ?_
  refine mv rfl rfl .none ?_
  refine done ?_
  refine Wp.condT rfl rfl ?_
  refine Wp.seq ?_
  refine reg ?_
  refine cl rfl rfl f_commanded rfl rfl .none ?_
  refine mv rfl rfl .none ?_
  refine mv rfl rfl (.want rfl rfl rfl) ?_
  refine ia 0 _ rfl rfl rfl rfl rfl rfl (.want rfl rfl rfl) ?_
  first | refine fa rfl rfl rfl (.want rfl rfl rfl) ?_ | refine fap rfl rfl rfl rfl (.want rfl rfl rfl) ?_
  first | refine ld rfl rfl rfl rfl rfl (.want rfl rfl rfl) ?_ | refine ldp rfl rfl rfl (.want rfl rfl rfl) ?_
  refine cmp rfl rfl rfl rfl (.want rfl rfl rfl) ?_
  refine mv rfl rfl (.want rfl rfl rfl) ?_
  refine sk rfl rfl (by simp; omega) rfl ?_
  refine sk rfl rfl (by simp; omega) rfl ?_
  refine sk rfl rfl (by simp; omega) rfl ?_
  refine sk rfl rfl (by simp; omega) rfl ?_
  refine pkf rfl (by simp; omega) rfl rfl (.want rfl rfl rfl) ?_
  refine mv rfl rfl (.want rfl rfl rfl) ?_
  refine mv rfl rfl (.want rfl rfl rfl) ?_
  refine mv rfl rfl (.want rfl rfl rfl) ?_
  refine ia 0 _ rfl rfl rfl rfl rfl rfl (.want rfl rfl rfl) ?_
  first | refine fa rfl rfl rfl (.want rfl rfl rfl) ?_ | refine fap rfl rfl rfl rfl (.want rfl rfl rfl) ?_
  first | refine ld rfl rfl rfl rfl rfl (.want rfl rfl rfl) ?_ | refine ldp rfl rfl rfl (.want rfl rfl rfl) ?_
  refine bd rfl rfl rfl (.want rfl rfl rfl) ?_
  refine bs rfl rfl rfl rfl (.want rfl rfl rfl) ?_
  refine cl rfl rfl (f_same (l := [(1, m, 0, 0)]) (m := [(1, m, 0, 0)]) (by simp)) rfl rfl (.want rfl rfl rfl) ?_
  refine pkf rfl rfl rfl rfl (.want rfl rfl rfl) ?_
  refine pkt rfl rfl rfl rfl .none ?_
  refine asg rfl rfl .none ?_
  refine done ?_
  refine Wp.ret ?_
  refine Ends.ret (.cons (.tmp rfl (Fz.pure rfl)) <|  .nil) ?_
  first | rfl | simp [retD]

def leadsOk : Bool := leadsL.all fun p => decide (0 < p.2 ∧ p.2 ≤ 9)
theorem leads_bound (r : Int) (dg : Bool) : leadsS r dg = 0 ∨ (0 < leadsS r dg ∧ leadsS r dg ≤ 9) := by
  unfold leadsS
  split
  · exact .inl rfl
  · cases hl : lookL leadsL r with
    | none => exact .inl rfl
    | some y =>
      have h : leadsOk = true := by decide
      exact .inr (of_decide_eq_true ((List.all_eq_true.1 h) _ (lookL_mem hl)))
theorem obS_leads {r : Int} {dg : Bool} (h : 0 < leadsS r dg) : obS 1 r dg = ((1, 0), [(1, leadsS r dg, 0, 0)]) := by simp [obS, h]
theorem f_wO1 {k r : Int} {dg : Bool} : FnP PP 4 [.int .i64 1, .agg [.int .i64 k, .int .i32 r], .bool dg] (.bool true) := by
  by_cases hk : k = 2
  · subst hk
    exact f_wA1 (v := (obS 1 r dg).1) (l := (obS 1 r dg).2) (mapOf (f_mapw1 (k := 2) (r := r) (dg := dg)) (by rw [if_neg (by decide)]; rfl))
  · have hk2 : (k == 2) = false := by simpa using hk
    have hn : FnP PP 5 [viD (1, 0), keyD (k, r), .bool dg] (resF (obS k r dg)) := mapOf (f_map1 (k := k) (r := r) (dg := dg)) (if_pos hk)
    have hm : FnP PP 5 [viD (1, 1), keyD (k, r), .bool dg] (resF (waS 1 k r dg)) := mapOf (f_mapw1 (k := k) (r := r) (dg := dg)) (if_pos hk)
    by_cases h1 : k = 1
    · subst h1
      by_cases ho : r = 100
      · subst ho
        exact f_wD1 (mapOf hm (by cases dg <;> decide)) (mapOf hn (by cases dg <;> decide))
      · rcases leads_bound r dg with hl | ⟨hl, hl9⟩
        · by_cases hd : 48 ≤ r ∧ r ≤ 57
          · exact f_wB1 (mapOf hm (by simp [waS, ho, hl, hd]))
          · exact f_wC1 hk2 (mapOf hm (by simp only [waS]; rw [if_neg (by omega)]; simp [ho, hl])) hn
        · exact f_wE1 hl9 (mapOf hm (by simp only [waS]; rw [if_neg (by omega)]; simp [ho]; omega)) (mapOf hn (obS_leads hl))
    · exact f_wC1 hk2 (mapOf hm (by simp [waS, h1])) hn
theorem f_wO2 {k r : Int} {dg : Bool} : FnP PP 4 [.int .i64 2, .agg [.int .i64 k, .int .i32 r], .bool dg] (.bool true) := by
  by_cases hk : k = 2
  · subst hk
    exact f_wA2 (v := (obS 1 r dg).1) (l := (obS 1 r dg).2) (mapOf (f_mapw2 (k := 2) (r := r) (dg := dg)) (by rw [if_neg (by decide)]; rfl))
  · have hk2 : (k == 2) = false := by simpa using hk
    have hn : FnP PP 5 [viD (1, 0), keyD (k, r), .bool dg] (resF (obS k r dg)) := mapOf (f_map1 (k := k) (r := r) (dg := dg)) (if_pos hk)
    have hm : FnP PP 5 [viD (1, 2), keyD (k, r), .bool dg] (resF (waS 2 k r dg)) := mapOf (f_mapw2 (k := k) (r := r) (dg := dg)) (if_pos hk)
    by_cases h1 : k = 1
    · subst h1
      by_cases ho : r = 99
      · subst ho
        exact f_wD2 (mapOf hm (by cases dg <;> decide)) (mapOf hn (by cases dg <;> decide))
      · rcases leads_bound r dg with hl | ⟨hl, hl9⟩
        · by_cases hd : 48 ≤ r ∧ r ≤ 57
          · exact f_wB2 (mapOf hm (by simp [waS, ho, hl, hd]))
          · exact f_wC2 hk2 (mapOf hm (by simp only [waS]; rw [if_neg (by omega)]; simp [ho, hl])) hn
        · exact f_wE2 hl9 (mapOf hm (by simp only [waS]; rw [if_neg (by omega)]; simp [ho]; omega)) (mapOf hn (obS_leads hl))
    · exact f_wC2 hk2 (mapOf hm (by simp [waS, h1])) hn
theorem f_wO3 {k r : Int} {dg : Bool} : FnP PP 4 [.int .i64 3, .agg [.int .i64 k, .int .i32 r], .bool dg] (.bool true) := by
  by_cases hk : k = 2
  · subst hk
    exact f_wA3 (v := (obS 1 r dg).1) (l := (obS 1 r dg).2) (mapOf (f_mapw3 (k := 2) (r := r) (dg := dg)) (by rw [if_neg (by decide)]; rfl))
  · have hk2 : (k == 2) = false := by simpa using hk
    have hn : FnP PP 5 [viD (1, 0), keyD (k, r), .bool dg] (resF (obS k r dg)) := mapOf (f_map1 (k := k) (r := r) (dg := dg)) (if_pos hk)
    have hm : FnP PP 5 [viD (1, 3), keyD (k, r), .bool dg] (resF (waS 3 k r dg)) := mapOf (f_mapw3 (k := k) (r := r) (dg := dg)) (if_pos hk)
    by_cases h1 : k = 1
    · subst h1
      by_cases ho : r = 121
      · subst ho
        exact f_wD3 (mapOf hm (by cases dg <;> decide)) (mapOf hn (by cases dg <;> decide))
      · rcases leads_bound r dg with hl | ⟨hl, hl9⟩
        · by_cases hd : 48 ≤ r ∧ r ≤ 57
          · exact f_wB3 (mapOf hm (by simp [waS, ho, hl, hd]))
          · exact f_wC3 hk2 (mapOf hm (by simp only [waS]; rw [if_neg (by omega)]; simp [ho, hl])) hn
        · exact f_wE3 hl9 (mapOf hm (by simp only [waS]; rw [if_neg (by omega)]; simp [ho]; omega)) (mapOf hn (obS_leads hl))
    · exact f_wC3 hk2 (mapOf hm (by simp [waS, h1])) hn
theorem f_ViWaits {op k r : Int} {dg : Bool} : FnP PP 4 [.int .i64 op, .agg [.int .i64 k, .int .i32 r], .bool dg] (.bool true) := by
  by_cases h0 : op = 0
  · subst h0; exact f_w0
  · cases hv : viIs 1 op with
    | false => exact f_wNot hv
    | true =>
      have h3 : 0 ≤ op ∧ op ≤ 3 := by simpa [viIs] using hv
      obtain h | h | h : op = 1 ∨ op = 2 ∨ op = 3 := by omega
      · subst h; exact f_wO1
      · subst h; exact f_wO2
      · subst h; exact f_wO3
end Go.Proofs.Ytoleablcjdbeiaa