/- Walks of layers 17 and 18: the small ones, and the keys' maps. -/
import Derived.Test.YtoleablcjdbeiaaV1
namespace Go.Proofs.Ytoleablcjdbeiaa
open Go.Eng
theorem notT {b : Bool} (h : (!b) = false) : b = true := by cases b <;> simp_all
theorem notF {b : Bool} (h : (!b) = true) : ¬ b = true := by cases b <;> simp_all
abbrev Act4 := Int × Int × Int × Int
def actD (a : Act4) : D := .agg [.int .i64 a.1, .int .i64 a.2.1, .int .i64 a.2.2.1, .int .i32 a.2.2.2]
def actR (a : Act4) : List D := [.int .i64 a.1, .int .i64 a.2.1, .int .i64 a.2.2.1, .int .i32 a.2.2.2]
def keyD (k : Int × Int) : D := .agg [.int .i64 k.1, .int .i32 k.2]
def viD (v : Int × Int) : D := .agg [.int .i64 v.1, .int .i64 v.2]
theorem keyEq (x y : Int × Int) : eqKD (some [0, 0]) (keyD x) (keyD y) = some (decide (x = y)) := by
  obtain ⟨a, b⟩ := x
  obtain ⟨c, d⟩ := y
  simp only [eqKD, keyD, eqDs, if_true, Option.some.injEq, Prod.mk.injEq]
  by_cases h1 : a = c <;> by_cases h2 : b = d <;> simp [h1, h2]
theorem intEq (k : IntKind) (x y : Int) : eqKD none (.int k x) (.int k y) = some (decide (x = y)) := by
  simp only [eqKD, if_true, Option.some.injEq]
  by_cases h1 : x = y <;> simp [h1]
def boundL : List ((Int × Int) × Act4) := [
  ((1, 1), (1, 3, 0, 0)), ((1, 5), (1, 4, 0, 0)), ((1, 2), (1, 1, 0, 0)), ((1, 6), (1, 2, 0, 0)), ((1, 4), (1, 2, 1, 0)), ((1, 8), (1, 1, 1, 0)), ((1, 127), (1, 1, 1, 0)),
  ((1, 7), (16, 0, 0, 0)), ((1, 12), (17, 0, 0, 0)), ((1, 10), (7, 0, 0, 0)), ((1, 13), (7, 0, 0, 0)), ((1, 11), (1, 4, 2, 0)), ((1, 21), (1, 3, 2, 0)), ((1, 23), (1, 6, 2, 0)),
  ((1, 14), (9, 0, 0, 0)), ((1, 16), (8, 0, 0, 0)), ((1, 17), (13, 0, 0, 0)), ((1, 22), (13, 0, 0, 0)), ((1, 18), (11, 0, 0, 0)), ((1, 19), (12, 0, 0, 0)),
  ((1, 20), (6, 0, 0, 0)), ((1, 25), (3, 0, 0, 0)), ((1, 31), (5, 0, 0, 0)),
  ((2, 98), (1, 6, 0, 0)), ((2, 102), (1, 5, 0, 0)), ((2, 100), (1, 5, 2, 0)), ((2, 8), (1, 6, 2, 0)), ((2, 127), (1, 6, 2, 0)), ((2, 117), (1, 5, 4, 0)), ((2, 108), (1, 5, 5, 0)), ((2, 99), (1, 5, 6, 0)),
  ((2, 121), (4, 0, 0, 0)), ((2, 112), (10, 0, 0, 0)), ((2, 45), (15, 0, 0, 0)),
  ((3, 0), (8, 0, 0, 0)), ((4, 0), (9, 0, 0, 0)), ((5, 0), (1, 2, 0, 0)), ((6, 0), (1, 1, 0, 0)), ((7, 0), (1, 3, 0, 0)), ((8, 0), (1, 4, 0, 0)), ((9, 0), (1, 2, 1, 0))]
def emMap (k r : Int) : Act4 :=
  let r' := if k ≠ 1 ∧ k ≠ 2 then 0 else r
  if (lookL boundL (k, r')).isSome then (lookL boundL (k, r')).getD (0, 0, 0, 0)
  else if k = 1 ∧ signB r' = true ∧ (32 ≤ r' ∨ r' = 9) then (2, 0, 0, r')
  else if k = 2 ∧ 48 ≤ r' ∧ r' ≤ 57 then (14, 0, 0, r') else (0, 0, 0, 0)
def leadsL : List (Int × Int) := [(104, 1), (108, 2), (32, 2), (48, 3), (94, 3), (36, 4), (119, 7), (98, 8), (101, 9)]
def leadsS (r : Int) (dg : Bool) : Int := if r = 48 ∧ dg = true then 0 else (lookL leadsL r).getD 0
def ansD (x : (Int × Int) × List Act4) : D := .agg [.int .i64 x.1.1, .int .i64 x.1.2, .rows true (x.2.map actR)]
def signL : List (Int × ((Int × Int) × List Act4)) := [
  (120, ((1, 0), [(1, 2, 2, 0)])), (88, ((1, 0), [(1, 1, 2, 0)])), (68, ((1, 0), [(1, 4, 2, 0)])), (67, ((0, 0), [(1, 4, 2, 0)])),
  (100, ((1, 1), [])), (99, ((1, 2), [])), (121, ((1, 3), [])),
  (105, ((0, 0), [(16, 0, 0, 0)])), (97, ((0, 0), [(1, 2, 0, 0)])), (65, ((0, 0), [(1, 4, 0, 0)])), (73, ((0, 0), [(1, 3, 0, 0)])),
  (112, ((1, 0), [(3, 0, 0, 0)])), (117, ((1, 0), [(5, 0, 0, 0)])), (107, ((1, 0), [(8, 0, 0, 0)])), (45, ((1, 0), [(8, 0, 0, 0)])), (106, ((1, 0), [(9, 0, 0, 0)])), (43, ((1, 0), [(9, 0, 0, 0)])),
  (47, ((1, 0), [(11, 0, 0, 0)])), (63, ((1, 0), [(12, 0, 0, 0)])), (12, ((1, 0), [(17, 0, 0, 0)])), (10, ((0, 0), [(7, 0, 0, 0)])), (13, ((0, 0), [(7, 0, 0, 0)]))]
def signS (r : Int) : (Int × Int) × List Act4 := if (lookL signL r).isSome then (lookL signL r).getD ((0, 0), []) else ((1, 0), [(16, 0, 0, 0)])
def resD (x : (Int × Int) × List Act4) : D := .tup [viD x.1, .rows true (x.2.map actR)]

set_option maxRecDepth 20000 in
theorem f_emove {m o : Int} : FnP PP 36 [.int .i64 m, .int .i64 o] (actD (1, m, o, 0)) := by
  refine FnP.of_body Try.func36 rfl (by kernel_rfl) rfl ?_
  refine Wp.seq ?_
  refine reg ?_
  refine al 4 rfl rfl .none ?_
  refine done ?_
  refine Wp.seq ?_
  refine reg ?_
  refine mv rfl rfl .none ?_
  refine mv rfl rfl .none ?_
  refine bd rfl rfl rfl .none ?_
  refine sto rfl rfl rfl rfl rfl rfl .none ?_
  refine done ?_
  refine Wp.ret ?_
  refine Ends.ret (.cons (.cell rfl rfl rfl (Nat.le_of_ble_eq_true rfl) (Fz.pure rfl)) <|  .nil) ?_
  rfl

set_option maxRecDepth 20000 in
theorem f_eact {k : Int} : FnP PP 37 [.int .i64 k] (actD (k, 0, 0, 0)) := by
  refine FnP.of_body Try.func37 rfl (by kernel_rfl) rfl ?_
  refine Wp.seq ?_
  refine reg ?_
  refine al 2 rfl rfl .none ?_
  refine done ?_
  refine Wp.seq ?_
  refine reg ?_
  refine mv rfl rfl .none ?_
  refine bd rfl rfl rfl .none ?_
  refine sto rfl rfl rfl rfl rfl rfl .none ?_
  refine done ?_
  refine Wp.ret ?_
  refine Ends.ret (.cons (.cell rfl rfl rfl (Nat.le_of_ble_eq_true rfl) (Fz.pure rfl)) <|  .nil) ?_
  rfl

set_option maxRecDepth 20000 in
theorem f_eb1 {r : Int} : FnP PP 33 [.int .i32 r] (keyD (1, r)) := by
  refine FnP.of_body Try.func33 rfl (by kernel_rfl) rfl ?_
  refine Wp.seq ?_
  refine reg ?_
  refine al 2 rfl rfl .none ?_
  refine done ?_
  refine Wp.seq ?_
  refine reg ?_
  refine mv rfl rfl .none ?_
  refine bd rfl rfl rfl .none ?_
  refine sto rfl rfl rfl rfl rfl rfl .none ?_
  refine done ?_
  refine Wp.ret ?_
  refine Ends.ret (.cons (.cell rfl rfl rfl (Nat.le_of_ble_eq_true rfl) (Fz.pure rfl)) <|  .nil) ?_
  rfl

set_option maxRecDepth 20000 in
theorem f_eb2 {r : Int} : FnP PP 34 [.int .i32 r] (keyD (2, r)) := by
  refine FnP.of_body Try.func34 rfl (by kernel_rfl) rfl ?_
  refine Wp.seq ?_
  refine reg ?_
  refine al 2 rfl rfl .none ?_
  refine done ?_
  refine Wp.seq ?_
  refine reg ?_
  refine mv rfl rfl .none ?_
  refine bd rfl rfl rfl .none ?_
  refine sto rfl rfl rfl rfl rfl rfl .none ?_
  refine done ?_
  refine Wp.ret ?_
  refine Ends.ret (.cons (.cell rfl rfl rfl (Nat.le_of_ble_eq_true rfl) (Fz.pure rfl)) <|  .nil) ?_
  rfl

set_option maxRecDepth 20000 in
theorem f_eb3 {k : Int} : FnP PP 35 [.int .i64 k] (keyD (k, 0)) := by
  refine FnP.of_body Try.func35 rfl (by kernel_rfl) rfl ?_
  refine Wp.seq ?_
  refine reg ?_
  refine al 2 rfl rfl .none ?_
  refine done ?_
  refine Wp.seq ?_
  refine reg ?_
  refine mv rfl rfl .none ?_
  refine bd rfl rfl rfl .none ?_
  refine sto rfl rfl rfl rfl rfl rfl .none ?_
  refine done ?_
  refine Wp.ret ?_
  refine Ends.ret (.cons (.cell rfl rfl rfl (Nat.le_of_ble_eq_true rfl) (Fz.pure rfl)) <|  .nil) ?_
  rfl

set_option maxRecDepth 20000 in
theorem f_vcommand {o : Int} : FnP PP 28 [.int .i64 o] (viD (1, o)) := by
  refine FnP.of_body Try.func28 rfl (by kernel_rfl) rfl ?_
  refine Wp.seq ?_
  refine reg ?_
  refine al 2 rfl rfl .none ?_
  refine done ?_
  refine Wp.seq ?_
  refine reg ?_
  refine mv rfl rfl .none ?_
  refine bd rfl rfl rfl .none ?_
  refine sto rfl rfl rfl rfl rfl rfl .none ?_
  refine done ?_
  refine Wp.ret ?_
  refine Ends.ret (.cons (.cell rfl rfl rfl (Nat.le_of_ble_eq_true rfl) (Fz.pure rfl)) <|  .nil) ?_
  rfl

set_option maxRecDepth 20000 in
theorem f_vact {k : Int} : FnP PP 39 [.int .i64 k] (.rows true [actR (k, 0, 0, 0)]) := by
  refine FnP.of_body Try.func39 rfl (by kernel_rfl) rfl ?_
  refine Wp.seq ?_
  refine reg ?_
  refine asg rfl rfl .none ?_
  refine done ?_
  refine Wp.seq ?_
  refine reg ?_
  refine mv rfl rfl .none ?_
  refine bd rfl rfl rfl .none ?_
  refine bs rfl rfl rfl rfl .none ?_
  refine asg rfl rfl .none ?_
  refine done ?_
  refine Wp.ret ?_
  refine Ends.ret (.cons (.tmp rfl (Fz.pure rfl)) <|  .nil) ?_
  rfl

set_option maxRecDepth 20000 in
theorem f_vmove {m o : Int} : FnP PP 29 [.int .i64 m, .int .i64 o] (.rows true [actR (1, m, o, 0)]) := by
  refine FnP.of_body Try.func29 rfl (by kernel_rfl) rfl ?_
  refine Wp.seq ?_
  refine reg ?_
  refine asg rfl rfl .none ?_
  refine done ?_
  refine Wp.seq ?_
  refine reg ?_
  refine mv rfl rfl .none ?_
  refine mv rfl rfl .none ?_
  refine bd rfl rfl rfl .none ?_
  refine bs rfl rfl rfl rfl .none ?_
  refine asg rfl rfl .none ?_
  refine done ?_
  refine Wp.ret ?_
  refine Ends.ret (.cons (.tmp rfl (Fz.pure rfl)) <|  .nil) ?_
  rfl

set_option maxRecDepth 20000 in
theorem f_leads {r : Int} {dg : Bool} : FnP PP 40 [.int .i32 r, .bool dg] (.int .i64 (leadsS r dg)) := by
  refine FnP.of_body Try.func40 rfl (by kernel_rfl) rfl ?_
  refine Wp.seq ?_
  refine reg ?_
  refine asg rfl rfl .none ?_
  refine done ?_
  refine Wp.seq ?_
  refine Wp.seq ?_
  refine reg ?_
  refine mv rfl rfl .none ?_
  refine cmp rfl rfl rfl rfl .none ?_
  refine mv rfl rfl .none ?_
  refine bcase 7 rfl (fun h7 => ?_) (fun h7 => ?_)
  · skip
    refine mv rfl rfl (.want rfl rfl h7) ?_
    refine pkt rfl h7 rfl rfl .none ?_
    refine done ?_
    refine Wp.cond rfl (fun c1 => ?_) (fun c1 => ?_)
    · skip
      refine Wp.seq ?_
      refine reg ?_
      refine asg rfl rfl .none ?_
      refine done ?_
      refine Wp.ret ?_
      refine Ends.ret (.cons (.tmp rfl (Fz.pure rfl)) <|  .nil) ?_
      simp_all [leadsS, retD]
    · skip
      refine Wp.skip ?_
      refine Wp.seq ?_
      refine reg ?_
      refine mkm 10 rfl rfl .none ?_
      refine ins rfl rfl rfl rfl rfl .none ?_
      refine ins rfl rfl rfl rfl rfl .none ?_
      refine ins rfl rfl rfl rfl rfl .none ?_
      refine ins rfl rfl rfl rfl rfl .none ?_
      refine ins rfl rfl rfl rfl rfl .none ?_
      refine ins rfl rfl rfl rfl rfl .none ?_
      refine ins rfl rfl rfl rfl rfl .none ?_
      refine ins rfl rfl rfl rfl rfl .none ?_
      refine ins rfl rfl rfl rfl rfl .none ?_
      refine mv rfl rfl .none ?_
      refine mv rfl rfl .none ?_
      refine lko (D.int .i32) (D.int .i64) leadsL r 0 rfl rfl rfl rfl rfl (fun p _ => intEq _ _ _) (by decide) rfl rfl rfl rfl rfl .none ?_
      refine asg rfl rfl .none ?_
      refine done ?_
      refine Wp.ret ?_
      refine Ends.ret (.cons (.tmp rfl (Fz.pure rfl)) <|  .nil) ?_
      simp_all [leadsS, retD]
  · skip
    refine sk rfl rfl h7 rfl ?_
    refine pkf rfl h7 rfl rfl .none ?_
    refine done ?_
    refine Wp.condF rfl rfl ?_
    refine Wp.skip ?_
    refine Wp.seq ?_
    refine reg ?_
    refine mkm 10 rfl rfl .none ?_
    refine ins rfl rfl rfl rfl rfl .none ?_
    refine ins rfl rfl rfl rfl rfl .none ?_
    refine ins rfl rfl rfl rfl rfl .none ?_
    refine ins rfl rfl rfl rfl rfl .none ?_
    refine ins rfl rfl rfl rfl rfl .none ?_
    refine ins rfl rfl rfl rfl rfl .none ?_
    refine ins rfl rfl rfl rfl rfl .none ?_
    refine ins rfl rfl rfl rfl rfl .none ?_
    refine ins rfl rfl rfl rfl rfl .none ?_
    refine mv rfl rfl .none ?_
    refine mv rfl rfl .none ?_
    refine lko (D.int .i32) (D.int .i64) leadsL r 0 rfl rfl rfl rfl rfl (fun p _ => intEq _ _ _) (by decide) rfl rfl rfl rfl rfl .none ?_
    refine asg rfl rfl .none ?_
    refine done ?_
    refine Wp.ret ?_
    refine Ends.ret (.cons (.tmp rfl (Fz.pure rfl)) <|  .nil) ?_
    simp_all [leadsS, retD]

set_option maxRecDepth 20000 in
theorem f_sign {r : Int} : FnP PP 41 [.int .i32 r] (resD (signS r)) := by
  refine FnP.of_body Try.func41 rfl (by kernel_rfl) rfl ?_
  refine Wp.seq ?_
  refine reg ?_
  refine al 2 rfl rfl .none ?_
  refine asg rfl rfl .none ?_
  refine done ?_
  refine Wp.seq ?_
  refine reg ?_
  refine bd rfl rfl rfl .none ?_
  refine al 4 rfl rfl .none ?_
  refine sto rfl rfl rfl rfl rfl rfl .none ?_
  refine done ?_
  refine Wp.seq ?_
  refine reg ?_
  refine cl rfl rfl f_vcommand rfl rfl .none ?_
  refine al 5 rfl rfl .none ?_
  refine sto rfl rfl rfl rfl rfl rfl .none ?_
  refine done ?_
  refine Wp.seq ?_
  refine regd mixed ?_
  refine mkm 11 rfl rfl .none ?_
  first | refine ld rfl rfl rfl rfl rfl .none ?_ | refine ldp rfl rfl rfl .none ?_
  refine cl rfl rfl f_vmove rfl rfl .none ?_
  refine bd rfl rfl rfl .none ?_
  refine ins rfl rfl rfl rfl rfl .none ?_
  first | refine ld rfl rfl rfl rfl rfl .none ?_ | refine ldp rfl rfl rfl .none ?_
  refine cl rfl rfl f_vmove rfl rfl .none ?_
  refine bd rfl rfl rfl .none ?_
  refine ins rfl rfl rfl rfl rfl .none ?_
  first | refine ld rfl rfl rfl rfl rfl .none ?_ | refine ldp rfl rfl rfl .none ?_
  refine cl rfl rfl f_vmove rfl rfl .none ?_
  refine bd rfl rfl rfl .none ?_
  refine ins rfl rfl rfl rfl rfl .none ?_
  first | refine ld rfl rfl rfl rfl rfl .none ?_ | refine ldp rfl rfl rfl .none ?_
  refine cl rfl rfl f_vmove rfl rfl .none ?_
  refine bd rfl rfl rfl .none ?_
  refine ins rfl rfl rfl rfl rfl .none ?_
  refine cl rfl rfl f_vcommand rfl rfl .none ?_
  refine bd rfl rfl rfl .none ?_
  refine ins rfl rfl rfl rfl rfl .none ?_
  refine cl rfl rfl f_vcommand rfl rfl .none ?_
  refine bd rfl rfl rfl .none ?_
  refine ins rfl rfl rfl rfl rfl .none ?_
  refine cl rfl rfl f_vcommand rfl rfl .none ?_
  refine bd rfl rfl rfl .none ?_
  refine ins rfl rfl rfl rfl rfl .none ?_
  first | refine ld rfl rfl rfl rfl rfl .none ?_ | refine ldp rfl rfl rfl .none ?_
  refine cl rfl rfl f_vact rfl rfl .none ?_
  refine bd rfl rfl rfl .none ?_
  refine ins rfl rfl rfl rfl rfl .none ?_
  first | refine ld rfl rfl rfl rfl rfl .none ?_ | refine ldp rfl rfl rfl .none ?_
  refine cl rfl rfl f_vmove rfl rfl .none ?_
  refine bd rfl rfl rfl .none ?_
  refine ins rfl rfl rfl rfl rfl .none ?_
  first | refine ld rfl rfl rfl rfl rfl .none ?_ | refine ldp rfl rfl rfl .none ?_
  refine cl rfl rfl f_vmove rfl rfl .none ?_
  refine bd rfl rfl rfl .none ?_
  refine ins rfl rfl rfl rfl rfl .none ?_
  first | refine ld rfl rfl rfl rfl rfl .none ?_ | refine ldp rfl rfl rfl .none ?_
  refine cl rfl rfl f_vmove rfl rfl .none ?_
  refine bd rfl rfl rfl .none ?_
  refine ins rfl rfl rfl rfl rfl .none ?_
  first | refine ld rfl rfl rfl rfl rfl .none ?_ | refine ldp rfl rfl rfl .none ?_
  refine cl rfl rfl f_vact rfl rfl .none ?_
  refine bd rfl rfl rfl .none ?_
  refine ins rfl rfl rfl rfl rfl .none ?_
  first | refine ld rfl rfl rfl rfl rfl .none ?_ | refine ldp rfl rfl rfl .none ?_
  refine cl rfl rfl f_vact rfl rfl .none ?_
  refine bd rfl rfl rfl .none ?_
  refine ins rfl rfl rfl rfl rfl .none ?_
  first | refine ld rfl rfl rfl rfl rfl .none ?_ | refine ldp rfl rfl rfl .none ?_
  refine cl rfl rfl f_vact rfl rfl .none ?_
  refine bd rfl rfl rfl .none ?_
  refine ins rfl rfl rfl rfl rfl .none ?_
  first | refine ld rfl rfl rfl rfl rfl .none ?_ | refine ldp rfl rfl rfl .none ?_
  refine cl rfl rfl f_vact rfl rfl .none ?_
  refine bd rfl rfl rfl .none ?_
  refine ins rfl rfl rfl rfl rfl .none ?_
  first | refine ld rfl rfl rfl rfl rfl .none ?_ | refine ldp rfl rfl rfl .none ?_
  refine cl rfl rfl f_vact rfl rfl .none ?_
  refine bd rfl rfl rfl .none ?_
  refine ins rfl rfl rfl rfl rfl .none ?_
  first | refine ld rfl rfl rfl rfl rfl .none ?_ | refine ldp rfl rfl rfl .none ?_
  refine cl rfl rfl f_vact rfl rfl .none ?_
  refine bd rfl rfl rfl .none ?_
  refine ins rfl rfl rfl rfl rfl .none ?_
  first | refine ld rfl rfl rfl rfl rfl .none ?_ | refine ldp rfl rfl rfl .none ?_
  refine cl rfl rfl f_vact rfl rfl .none ?_
  refine bd rfl rfl rfl .none ?_
  refine ins rfl rfl rfl rfl rfl .none ?_
  first | refine ld rfl rfl rfl rfl rfl .none ?_ | refine ldp rfl rfl rfl .none ?_
  refine cl rfl rfl f_vact rfl rfl .none ?_
  refine bd rfl rfl rfl .none ?_
  refine ins rfl rfl rfl rfl rfl .none ?_
  first | refine ld rfl rfl rfl rfl rfl .none ?_ | refine ldp rfl rfl rfl .none ?_
  refine cl rfl rfl f_vact rfl rfl .none ?_
  refine bd rfl rfl rfl .none ?_
  refine ins rfl rfl rfl rfl rfl .none ?_
  first | refine ld rfl rfl rfl rfl rfl .none ?_ | refine ldp rfl rfl rfl .none ?_
  refine cl rfl rfl f_vact rfl rfl .none ?_
  refine bd rfl rfl rfl .none ?_
  refine ins rfl rfl rfl rfl rfl .none ?_
  first | refine ld rfl rfl rfl rfl rfl .none ?_ | refine ldp rfl rfl rfl .none ?_
  refine cl rfl rfl f_vact rfl rfl .none ?_
  refine bd rfl rfl rfl .none ?_
  refine ins rfl rfl rfl rfl rfl .none ?_
  refine mv rfl rfl .none ?_
  refine mv rfl rfl .none ?_
  refine lko (D.int .i32) ansD signL r ((0, 0), []) rfl rfl rfl rfl rfl (fun p _ => intEq _ _ _) (by decide) rfl rfl rfl rfl rfl .none ?_
  refine mv rfl rfl .none ?_
  refine xt rfl rfl rfl .none ?_
  refine xt rfl rfl rfl .none ?_
  refine al 6 rfl rfl .none ?_
  refine sto rfl rfl rfl rfl rfl rfl .none ?_
  refine asg rfl rfl .none ?_
  refine done ⟨by kernel_rfl, by kernel_rfl, ?_⟩
  refine Wp.seq ?_
  refine Wp.seq ?_
  refine reg ?_
  refine mv rfl rfl .none ?_
  refine nt rfl rfl .none ?_
  refine done ?_
  refine Wp.cond rfl (fun c1 => ?_) (fun c1 => ?_)
  · skip
    refine Wp.seq ?_
    refine regd mixed ?_
    first | refine ld rfl rfl rfl rfl rfl .none ?_ | refine ldp rfl rfl rfl .none ?_
    refine cl rfl rfl f_vact rfl rfl .none ?_
    refine sto rfl rfl rfl rfl rfl rfl .none ?_
    refine asg rfl rfl .none ?_
    refine done ⟨by kernel_rfl, by kernel_rfl, ?_⟩
    refine Wp.ret ?_
    refine Ends.ret (.cons (.cell rfl rfl rfl (Nat.le_of_ble_eq_true rfl) (Fz.pure rfl)) <| .cons (.tmp rfl (Fz.pure rfl)) <|  .nil) ?_
    first | (rw [signS, if_neg (notF c1)]; rfl) | (rw [signS, if_pos (notT c1)]; rfl)
  · skip
    refine Wp.skip ?_
    refine Wp.seq ?_
    refine regd mixed ?_
    first | refine fa rfl rfl rfl .none ?_ | refine fap rfl rfl rfl rfl .none ?_
    first | refine ld rfl rfl rfl rfl rfl .none ?_ | refine ldp rfl rfl rfl .none ?_
    first | refine fa rfl rfl rfl .none ?_ | refine fap rfl rfl rfl rfl .none ?_
    first | refine ld rfl rfl rfl rfl rfl .none ?_ | refine ldp rfl rfl rfl .none ?_
    refine sto rfl rfl rfl rfl rfl rfl .none ?_
    refine asg rfl rfl .none ?_
    refine done ⟨by kernel_rfl, by kernel_rfl, ?_⟩
    refine Wp.ret ?_
    refine Ends.ret (.cons (.cell rfl rfl rfl (Nat.le_of_ble_eq_true rfl) (Fz.pure rfl)) <| .cons (.tmp rfl (Fz.pure rfl)) <|  .nil) ?_
    first | (rw [signS, if_neg (notF c1)]; rfl) | (rw [signS, if_pos (notT c1)]; rfl)

set_option maxRecDepth 20000 in
theorem f_bound  : FnP PP 32 [] (.pmap (boundL.map fun p => (keyD p.1, actD p.2))) := by
  refine FnP.of_body Try.func32 rfl (by kernel_rfl) rfl ?_
  refine Wp.seq ?_
  refine reg ?_
  refine asg rfl rfl .none ?_
  refine done ?_
  refine Wp.seq ?_
  refine reg ?_
  refine asg rfl rfl .none ?_
  refine done ?_
  refine Wp.seq ?_
  refine reg ?_
  refine asg rfl rfl .none ?_
  refine done ?_
  refine Wp.seq ?_
  refine reg ?_
  refine asg rfl rfl .none ?_
  refine done ?_
  refine Wp.seq ?_
  refine regd mixed ?_
  refine mkm 4 rfl rfl .none ?_
  refine mv rfl rfl .none ?_
  refine cl rfl rfl f_eb1 rfl rfl .none ?_
  refine cl rfl rfl f_emove rfl rfl .none ?_
  refine ins rfl rfl rfl rfl rfl .none ?_
  refine mv rfl rfl .none ?_
  refine cl rfl rfl f_eb1 rfl rfl .none ?_
  refine cl rfl rfl f_emove rfl rfl .none ?_
  refine ins rfl rfl rfl rfl rfl .none ?_
  refine mv rfl rfl .none ?_
  refine cl rfl rfl f_eb1 rfl rfl .none ?_
  refine cl rfl rfl f_emove rfl rfl .none ?_
  refine ins rfl rfl rfl rfl rfl .none ?_
  refine mv rfl rfl .none ?_
  refine cl rfl rfl f_eb1 rfl rfl .none ?_
  refine cl rfl rfl f_emove rfl rfl .none ?_
  refine ins rfl rfl rfl rfl rfl .none ?_
  refine mv rfl rfl .none ?_
  refine cl rfl rfl f_eb1 rfl rfl .none ?_
  refine cl rfl rfl f_emove rfl rfl .none ?_
  refine ins rfl rfl rfl rfl rfl .none ?_
  refine mv rfl rfl .none ?_
  refine cl rfl rfl f_eb1 rfl rfl .none ?_
  refine cl rfl rfl f_emove rfl rfl .none ?_
  refine ins rfl rfl rfl rfl rfl .none ?_
  refine mv rfl rfl .none ?_
  refine cl rfl rfl f_eb1 rfl rfl .none ?_
  refine cl rfl rfl f_emove rfl rfl .none ?_
  refine ins rfl rfl rfl rfl rfl .none ?_
  refine mv rfl rfl .none ?_
  refine cl rfl rfl f_eb1 rfl rfl .none ?_
  refine cl rfl rfl f_eact rfl rfl .none ?_
  refine ins rfl rfl rfl rfl rfl .none ?_
  refine mv rfl rfl .none ?_
  refine cl rfl rfl f_eb1 rfl rfl .none ?_
  refine cl rfl rfl f_eact rfl rfl .none ?_
  refine ins rfl rfl rfl rfl rfl .none ?_
  refine mv rfl rfl .none ?_
  refine cl rfl rfl f_eb1 rfl rfl .none ?_
  refine cl rfl rfl f_eact rfl rfl .none ?_
  refine ins rfl rfl rfl rfl rfl .none ?_
  refine mv rfl rfl .none ?_
  refine cl rfl rfl f_eb1 rfl rfl .none ?_
  refine cl rfl rfl f_eact rfl rfl .none ?_
  refine ins rfl rfl rfl rfl rfl .none ?_
  refine mv rfl rfl .none ?_
  refine cl rfl rfl f_eb1 rfl rfl .none ?_
  refine cl rfl rfl f_emove rfl rfl .none ?_
  refine ins rfl rfl rfl rfl rfl .none ?_
  refine mv rfl rfl .none ?_
  refine cl rfl rfl f_eb1 rfl rfl .none ?_
  refine cl rfl rfl f_emove rfl rfl .none ?_
  refine ins rfl rfl rfl rfl rfl .none ?_
  refine mv rfl rfl .none ?_
  refine cl rfl rfl f_eb1 rfl rfl .none ?_
  refine cl rfl rfl f_emove rfl rfl .none ?_
  refine ins rfl rfl rfl rfl rfl .none ?_
  refine mv rfl rfl .none ?_
  refine cl rfl rfl f_eb1 rfl rfl .none ?_
  refine cl rfl rfl f_eact rfl rfl .none ?_
  refine ins rfl rfl rfl rfl rfl .none ?_
  refine mv rfl rfl .none ?_
  refine cl rfl rfl f_eb1 rfl rfl .none ?_
  refine cl rfl rfl f_eact rfl rfl .none ?_
  refine ins rfl rfl rfl rfl rfl .none ?_
  refine mv rfl rfl .none ?_
  refine cl rfl rfl f_eb1 rfl rfl .none ?_
  refine cl rfl rfl f_eact rfl rfl .none ?_
  refine ins rfl rfl rfl rfl rfl .none ?_
  refine mv rfl rfl .none ?_
  refine cl rfl rfl f_eb1 rfl rfl .none ?_
  refine cl rfl rfl f_eact rfl rfl .none ?_
  refine ins rfl rfl rfl rfl rfl .none ?_
  refine mv rfl rfl .none ?_
  refine cl rfl rfl f_eb1 rfl rfl .none ?_
  refine cl rfl rfl f_eact rfl rfl .none ?_
  refine ins rfl rfl rfl rfl rfl .none ?_
  refine mv rfl rfl .none ?_
  refine cl rfl rfl f_eb1 rfl rfl .none ?_
  refine cl rfl rfl f_eact rfl rfl .none ?_
  refine ins rfl rfl rfl rfl rfl .none ?_
  refine mv rfl rfl .none ?_
  refine cl rfl rfl f_eb1 rfl rfl .none ?_
  refine cl rfl rfl f_eact rfl rfl .none ?_
  refine ins rfl rfl rfl rfl rfl .none ?_
  refine mv rfl rfl .none ?_
  refine cl rfl rfl f_eb1 rfl rfl .none ?_
  refine cl rfl rfl f_eact rfl rfl .none ?_
  refine ins rfl rfl rfl rfl rfl .none ?_
  refine mv rfl rfl .none ?_
  refine cl rfl rfl f_eb1 rfl rfl .none ?_
  refine cl rfl rfl f_eact rfl rfl .none ?_
  refine ins rfl rfl rfl rfl rfl .none ?_
  refine mv rfl rfl .none ?_
  refine cl rfl rfl f_eb2 rfl rfl .none ?_
  refine cl rfl rfl f_emove rfl rfl .none ?_
  refine ins rfl rfl rfl rfl rfl .none ?_
  refine mv rfl rfl .none ?_
  refine cl rfl rfl f_eb2 rfl rfl .none ?_
  refine cl rfl rfl f_emove rfl rfl .none ?_
  refine ins rfl rfl rfl rfl rfl .none ?_
  refine mv rfl rfl .none ?_
  refine cl rfl rfl f_eb2 rfl rfl .none ?_
  refine cl rfl rfl f_emove rfl rfl .none ?_
  refine ins rfl rfl rfl rfl rfl .none ?_
  refine mv rfl rfl .none ?_
  refine cl rfl rfl f_eb2 rfl rfl .none ?_
  refine cl rfl rfl f_emove rfl rfl .none ?_
  refine ins rfl rfl rfl rfl rfl .none ?_
  refine mv rfl rfl .none ?_
  refine cl rfl rfl f_eb2 rfl rfl .none ?_
  refine cl rfl rfl f_emove rfl rfl .none ?_
  refine ins rfl rfl rfl rfl rfl .none ?_
  refine mv rfl rfl .none ?_
  refine cl rfl rfl f_eb2 rfl rfl .none ?_
  refine cl rfl rfl f_emove rfl rfl .none ?_
  refine ins rfl rfl rfl rfl rfl .none ?_
  refine mv rfl rfl .none ?_
  refine cl rfl rfl f_eb2 rfl rfl .none ?_
  refine cl rfl rfl f_emove rfl rfl .none ?_
  refine ins rfl rfl rfl rfl rfl .none ?_
  refine mv rfl rfl .none ?_
  refine cl rfl rfl f_eb2 rfl rfl .none ?_
  refine cl rfl rfl f_emove rfl rfl .none ?_
  refine ins rfl rfl rfl rfl rfl .none ?_
  refine mv rfl rfl .none ?_
  refine cl rfl rfl f_eb2 rfl rfl .none ?_
  refine cl rfl rfl f_eact rfl rfl .none ?_
  refine ins rfl rfl rfl rfl rfl .none ?_
  refine mv rfl rfl .none ?_
  refine cl rfl rfl f_eb2 rfl rfl .none ?_
  refine cl rfl rfl f_eact rfl rfl .none ?_
  refine ins rfl rfl rfl rfl rfl .none ?_
  refine mv rfl rfl .none ?_
  refine cl rfl rfl f_eb2 rfl rfl .none ?_
  refine cl rfl rfl f_eact rfl rfl .none ?_
  refine ins rfl rfl rfl rfl rfl .none ?_
  refine mv rfl rfl .none ?_
  refine cl rfl rfl f_eb3 rfl rfl .none ?_
  refine cl rfl rfl f_eact rfl rfl .none ?_
  refine ins rfl rfl rfl rfl rfl .none ?_
  refine mv rfl rfl .none ?_
  refine cl rfl rfl f_eb3 rfl rfl .none ?_
  refine cl rfl rfl f_eact rfl rfl .none ?_
  refine ins rfl rfl rfl rfl rfl .none ?_
  refine mv rfl rfl .none ?_
  refine cl rfl rfl f_eb3 rfl rfl .none ?_
  refine cl rfl rfl f_emove rfl rfl .none ?_
  refine ins rfl rfl rfl rfl rfl .none ?_
  refine mv rfl rfl .none ?_
  refine cl rfl rfl f_eb3 rfl rfl .none ?_
  refine cl rfl rfl f_emove rfl rfl .none ?_
  refine ins rfl rfl rfl rfl rfl .none ?_
  refine mv rfl rfl .none ?_
  refine cl rfl rfl f_eb3 rfl rfl .none ?_
  refine cl rfl rfl f_emove rfl rfl .none ?_
  refine ins rfl rfl rfl rfl rfl .none ?_
  refine mv rfl rfl .none ?_
  refine cl rfl rfl f_eb3 rfl rfl .none ?_
  refine cl rfl rfl f_emove rfl rfl .none ?_
  refine ins rfl rfl rfl rfl rfl .none ?_
  refine mv rfl rfl .none ?_
  refine cl rfl rfl f_eb3 rfl rfl .none ?_
  refine cl rfl rfl f_emove rfl rfl .none ?_
  refine ins rfl rfl rfl rfl rfl .none ?_
  refine mv rfl rfl .none ?_
  refine asg rfl rfl .none ?_
  refine done ⟨by kernel_rfl, by kernel_rfl, ?_⟩
  refine Wp.ret ?_
  refine Ends.ret (.cons (.tmp rfl (Fz.omap rfl rfl)) <|  .nil) ?_
  rfl

end Go.Proofs.Ytoleablcjdbeiaa