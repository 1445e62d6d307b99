/- Own texts of this claim, laid together: E7, E8, E9, SpG, E14, SpH, SpI, SpJ, E10. -/
import Derived.RangeFuncNested
import Derived.RangeFuncBound
import Derived.RangeFuncCalls
import Derived.RangeFuncLeaves
import Derived.RangeFuncBox
import Derived.Shelf.Abstract
import Derived.Shelf.RegionOpen
import Derived.WalkKit
import Derived.OwnWalkIn
import Derived.TacticsInMore
import Derived.LoopNIn
import Derived.LoopIn
import Derived.Test.YtkcdmmafkpplhaaGreatEditorTypesB3
set_option linter.unusedVariables false
set_option linter.unusedSimpArgs false
/- Walks of layer 23 (a line that is edited). -/
namespace Go.Proofs.YtkcdmmafkpplhaaGreat
open Go.Eng
theorem opp_get {m : Int} (h : 0 ≤ m ∧ m ≤ 9) : ([.int .i64 0, .int .i64 2, .int .i64 1, .int .i64 0, .int .i64 0, .int .i64 6, .int .i64 5, .int .i64 8, .int .i64 7, .int .i64 8] : List D)[m.toNat]? = some (.int .i64 (oppS m)) := by
  rcases (by omega : m = 0 ∨ m = 1 ∨ m = 2 ∨ m = 3 ∨ m = 4 ∨ m = 5 ∨ m = 6 ∨ m = 7 ∨ m = 8 ∨ m = 9) with rfl | rfl | rfl | rfl | rfl | rfl | rfl | rfl | rfl | rfl <;> rfl
theorem fore_le (l : List Int) (i : Int) : foreS l i ≤ l.length := passF_le (passF_le (clampS_le l i))
theorem behind_le (l : List Int) (i : Int) : behindS l i ≤ l.length := Nat.le_trans passB_le (Nat.le_trans passB_le (clampS_le l i))
theorem next_le (l : List Int) (i : Int) : nextS l i ≤ l.length := by
  unfold nextS
  split
  · exact clampS_le l i
  · split
    · exact passF_le (clampS_le l i)
    · exact passF_le (passF_le (clampS_le l i))
theorem prev_le (l : List Int) (i : Int) : prevS l i ≤ l.length := by
  unfold prevS
  split
  · omega
  · exact Nat.le_trans passB_le (Nat.le_trans passB_le (clampS_le l i))
theorem tail_le (l : List Int) (i : Int) : tailS l i ≤ l.length := by
  unfold tailS
  split
  · omega
  · split
    · exact passF_le (by omega)
    · exact Nat.le_trans (Nat.sub_le _ _) (passF_le (passF_le (by omega)))
theorem step_le {l : List Int} {i : Nat} {m : Int} (h : i ≤ l.length) : stepS l i m ≤ l.length := by
  unfold stepS
  have h1 := fore_le l i; have h2 := behind_le l i; have h3 := next_le l i; have h4 := prev_le l i; have h5 := tail_le l i
  repeat' split
  all_goals omega
theorem iter_le {l : List Int} {m : Int} : ∀ (n i : Nat), i ≤ l.length → iterS l m n i ≤ l.length
  | 0, i, h => h
  | n + 1, i, h => by
    simp only [iterS]
    split
    · exact h
    · exact iter_le n _ (step_le h)
theorem target_le (l : List Int) (i m n : Int) (h : 0 ≤ i ∧ i ≤ l.length) : 0 ≤ (targetS l i m n).1 ∧ (targetS l i m n).1 ≤ l.length := by
  unfold targetS
  generalize dirS m n = q
  have := iter_le (l := l) (m := q) n.natAbs i.toNat (by omega)
  split
  · simp only; omega
  · split
    · simp only; omega
    · split
      · simp only; omega
      · simp only; omega
theorem cut_a (g : Gap) (n : Int) : (cutS g n).1.a.length ≤ g.a.length := by
  unfold cutS
  split
  · exact Nat.le_refl _
  · split
    · exact Nat.le_refl _
    · simp; omega
theorem cut_b (g : Gap) (n : Int) : (cutS g n).1.b.length ≤ g.b.length := by
  unfold cutS
  split
  · exact Nat.le_refl _
  · split
    · simp
    · exact Nat.le_refl _
theorem span_le (l : List Int) (i : Nat) (to m : Int) (h1 : i ≤ l.length) (h2 : 0 ≤ to ∧ to ≤ l.length) : 0 ≤ (spanS l i to m).1 ∧ (spanS l i to m).1 ≤ (spanS l i to m).2 ∧ (spanS l i to m).2 ≤ l.length := by
  unfold spanS
  split
  · simp only; omega
  · split
    · simp only; omega
    · simp only; omega
theorem gap_sm {g : Gap} (h : gapIs g = true) : g.sm := by
  obtain ⟨a, b⟩ := g
  exact ⟨Nat.le_trans (gapIs_a h) (by decide), Nat.le_trans (gapIs_b h) (by decide)⟩
theorem editIs_sm {p q : List Int} {k : List (List Int)} {u : List Gap} {la tu si : Int} (h : editIs ⟨⟨p, q⟩, k, u, la, tu, si⟩ = true) :
    (∀ g ∈ u, g.sm) ∧ p.length ≤ 1000 ∧ q.length ≤ 1000 ∧ (la = 3 → 0 ≤ tu ∧ tu ≤ 1000000 ∧ 0 < k.length ∧ 0 ≤ si ∧ si ≤ 1000000) := by
  simp only [editIs, Bool.and_eq_true, decide_eq_true_eq] at h
  obtain ⟨⟨⟨hg, hk⟩, hu, hl⟩, hs⟩ := h
  have ha := gapIs_a hg; have hb := gapIs_b hg; have hk8 := killIs_len hk
  refine ⟨fun g hgu => ?_, by omega, by omega, fun h3 => ?_⟩
  · simp only [undoIs, Bool.and_eq_true, List.all_eq_true] at hu
    exact gap_sm (hu.1 g hgu)
  · rw [if_pos h3] at hs
    simp only [decide_eq_true_eq] at hs
    omega
theorem counts_le {n : Int} (h : countsB n = true) : -9999 ≤ n ∧ n ≤ 9999 := by simpa [countsB] using h
theorem known_kind {a : ActE} (h : knownB a = true) : 1 ≤ a.kind ∧ a.kind ≤ 6 := by
  simp only [knownB, Bool.and_eq_true, decide_eq_true_eq] at h; exact h.1
theorem getS_len (k : List (List Int)) (t : Int) : (getS k t).1.length ≤ 200 := by
  unfold getS
  split
  · simp
  · split
    · simp
    · exact killIs_one (by simp_all) _

theorem f_counts_k1 {p : Prop} (h : p := by
    refine congrArg D.bool ?_; unfold countsB; simp_all <;> omega) : p := h
set_option maxRecDepth 20000 in
theorem f_counts {n : Int} : FnP PP 131 [.int .i64 n] (.bool (countsB n)) := by
  refine FnP.of_body Tryz.func131 rfl (by kernel_rfl) rfl ?_
  refine Wp.seq <| reg <| asg0 rfl <| done ?_
  refine Wp.seq <| reg <| mv0 rfl <| cmp0 rfl <| mv0 rfl ?_
  refine bcase 5 rfl (fun h5 => ?_) (fun h5 => ?_)
  have nh5 := Nz h5
  refine mv1 rfl h5 rfl <| cmp1 rfl h5 rfl <| pkt0 rfl h5 <| asg0 rfl <| done ?_
  refine Wp.ret ?_
  refine Ends.ret (.cons (.tmp rfl (Fz.pure rfl)) <|  .nil) ?_
  exact f_counts_k1
  have nh5 := Nz h5
  refine sk0 rfl h5 <| sk0 rfl h5 <| pkf0 rfl h5 <| asg0 rfl <| done ?_
  refine Wp.ret ?_
  refine Ends.ret (.cons (.tmp rfl (Fz.pure rfl)) <|  .nil) ?_
  exact f_counts_k1

set_option maxRecDepth 20000 in
theorem f_opposite {m : Int} (h : 0 ≤ m ∧ m ≤ 9) : FnP PP 182 [.int .i64 m] (.int .i64 (oppS m)) := by
  refine FnP.of_body Tryz.func182 rfl (by kernel_rfl) rfl ?_
  refine Wp.seq <| reg <| asg0 rfl <| done ?_
  refine Wp.seq <| reg <| bda rfl rfl rfl .none ?_
  refine mv0 rfl <| ixA (m.toNat) rfl rfl Eq' Bd (opp_get h) rfl .none ?_
  refine asg0 rfl <| done ?_
  refine Wp.ret ?_
  refine Ends.ret (.cons (.tmp rfl (Fz.pure rfl)) <|  .nil) ?_
  rfl

theorem f_stepOne_k1 {p : Prop} (h : p := by
    show _ = _; unfold stepS; (repeat' split) <;> first | rfl | (exfalso; omega) | (exfalso; simp_all; done) | (exfalso; simp_all <;> omega) | (exact congrArg (fun z : Int => D.int .i64 z) (by omega))) : p := h
set_option maxRecDepth 20000 in
theorem f_stepOne {l : List Int} {i : Nat} {m : Int} (h : i ≤ l.length) (hl : l.length ≤ 2000000) : FnP PP 183 [rl l, .int .i64 (i : Nat), .int .i64 m] (.int .i64 (stepS l i m : Nat)) := by
  refine FnP.of_body Tryz.func183 rfl (by kernel_rfl) rfl ?_
  refine Wp.bound 0 rfl (fun hb0 => ?_)
  simp only [D.bd, D.bdL, List.length_map, and_true] at hb0
  refine Wp.seq <| reg <| asg0 rfl <| done ?_
  refine Wp.seq <| Wp.seq <| reg <| mv0 rfl <| done ?_
  refine Wp.block <| Wp.seq <| reg <| cmp0 rfl <| asg0 rfl <| done ?_
  refine Wp.cond rfl (fun c1 => ?_) (fun c1 => ?_)
  have nc1 := Nz c1
  refine Wp.seq <| reg <| mv0 rfl <| ar0 rfl (wrapI Bd) <| mx0 rfl ?_
  refine asg0 rfl <| done ?_
  refine Wp.ret ?_
  refine Ends.ret (.cons (.tmp rfl (Fz.pure rfl)) <|  .nil) ?_
  exact f_stepOne_k1
  have nc1 := Nz c1
  refine Wp.seq <| reg <| cmp0 rfl <| asg0 rfl <| done ?_
  refine Wp.cond rfl (fun c2 => ?_) (fun c2 => ?_)
  have nc2 := Nz c2
  refine Wp.seq <| reg <| mv0 rfl <| ar0 rfl (wrapI Bd) <| mv0 rfl ?_
  first | refine lnM0 rfl ?_ | refine lns0 rfl ?_ | refine ln0 rfl ?_
  refine mn0 rfl ?_
  refine asg0 rfl <| done ?_
  refine Wp.ret ?_
  refine Ends.ret (.cons (.tmp rfl (Fz.pure rfl)) <|  .nil) ?_
  exact f_stepOne_k1
  have nc2 := Nz c2
  refine Wp.seq <| reg <| cmp0 rfl <| asg0 rfl <| done ?_
  refine Wp.cond rfl (fun c3 => ?_) (fun c3 => ?_)
  have nc3 := Nz c3
  refine Wp.seq <| reg <| mv0 rfl <| mv0 rfl <| clw0 rfl f_Fore rfl ?_
  refine asg0 rfl <| done ?_
  refine Wp.ret ?_
  refine Ends.ret (.cons (.tmp rfl (Fz.pure rfl)) <|  .nil) ?_
  exact f_stepOne_k1
  have nc3 := Nz c3
  refine Wp.seq <| reg <| cmp0 rfl <| asg0 rfl <| done ?_
  refine Wp.cond rfl (fun c4 => ?_) (fun c4 => ?_)
  have nc4 := Nz c4
  refine Wp.seq <| reg <| mv0 rfl <| mv0 rfl <| clw0 rfl f_Behind rfl ?_
  refine asg0 rfl <| done ?_
  refine Wp.ret ?_
  refine Ends.ret (.cons (.tmp rfl (Fz.pure rfl)) <|  .nil) ?_
  exact f_stepOne_k1
  have nc4 := Nz c4
  refine Wp.seq <| reg <| cmp0 rfl <| asg0 rfl <| done ?_
  refine Wp.cond rfl (fun c5 => ?_) (fun c5 => ?_)
  have nc5 := Nz c5
  refine Wp.seq <| reg <| mv0 rfl <| mv0 rfl <| clw0 rfl f_Next rfl ?_
  refine asg0 rfl <| done ?_
  refine Wp.ret ?_
  refine Ends.ret (.cons (.tmp rfl (Fz.pure rfl)) <|  .nil) ?_
  exact f_stepOne_k1
  have nc5 := Nz c5
  refine Wp.seq <| reg <| cmp0 rfl <| asg0 rfl <| done ?_
  refine Wp.cond rfl (fun c6 => ?_) (fun c6 => ?_)
  have nc6 := Nz c6
  refine Wp.seq <| reg <| mv0 rfl <| mv0 rfl <| clw0 rfl f_Prev rfl ?_
  refine asg0 rfl <| done ?_
  refine Wp.ret ?_
  refine Ends.ret (.cons (.tmp rfl (Fz.pure rfl)) <|  .nil) ?_
  exact f_stepOne_k1
  have nc6 := Nz c6
  refine Wp.skip <| Wp.seq <| reg <| mv0 rfl <| mv0 rfl <| clw0 rfl f_Tail rfl ?_
  refine asg0 rfl <| done ?_
  refine Wp.ret ?_
  refine Ends.ret (.cons (.tmp rfl (Fz.pure rfl)) <|  .nil) ?_
  exact f_stepOne_k1

theorem f_target_k1 {p : Prop} (h : p := by
    show _ = _; unfold targetD targetS; (repeat' split) <;> first | rfl | (exfalso; omega) | (exfalso; simp_all; done) | (exfalso; simp_all <;> omega) | (rw [show iterS l (dirS m n) n.natAbs i.toNat = x.2 by first | (rw [← hx1, hy3, show x.1 = 0 by omega]; rfl) | (rw [← hx1, hy3, show x.1 = (x.1 - 1) + 1 by omega]; simp only [iterS]; rw [if_pos (by omega)])]; rfl)) : p := h
set_option maxRecDepth 20000 in
theorem f_target {l : List Int} {i m n : Int} (hl : l.length ≤ 2000000) : FnP PP 162 [rl l, .int .i64 i, .int .i64 m, .int .i64 n] (targetD (targetS l i m n)) := by
  refine FnP.of_body Tryz.func162 rfl (by kernel_rfl) rfl ?_
  refine Wp.bound 0 rfl (fun hb0 => ?_)
  simp only [D.bd, D.bdL, List.length_map, and_true] at hb0
  refine Wp.seq <| reg <| asg0 rfl <| asg0 rfl <| done ?_
  refine Wp.cutK (α := Int × Int) [0, 1] [] (fun x tl => (2, .int .i64 x.1) :: (3, .int .i64 x.2) :: tl) (fun x tl => tl) (fun x => x.1 = dirS m n ∧ x.2 = n.natAbs ∧ 0 ≤ i ∧ i ≤ l.length ∧ 1 ≤ m ∧ m ≤ 10 ∧ m ≠ 3 ∧ m ≠ 4 ∧ m ≠ 10 ∧ countsB n = true) rfl rfl ?_ ?_
  refine Wp.block <| Wp.seq <| reg <| mv0 rfl <| cmp0 rfl <| mv0 rfl ?_
  refine bcase 14 rfl (fun h14 => ?_) (fun h14 => ?_)
  have nh14 := Nz h14
  refine sk0 rfl h14 <| sk0 rfl h14 <| sk0 rfl h14 <| sk0 rfl h14 <| pkt0 rfl h14 <| mv0 rfl <| sk0 rfl rfl <| sk0 rfl rfl <| pkt0 rfl rfl <| mv0 rfl <| sk0 rfl rfl <| sk0 rfl rfl <| pkt0 rfl rfl <| mv0 rfl <| sk0 rfl rfl <| sk0 rfl rfl <| sk0 rfl rfl <| pkt0 rfl rfl <| asg0 rfl <| done ?_
  refine Wp.condT rfl rfl <| Wp.seq <| reg <| asg0 rfl <| asg0 rfl <| done ?_
  refine Wp.ret ?_
  refine Ends.ret (.cons (.tmp rfl (Fz.pure rfl)) <| .cons (.tmp rfl (Fz.pure rfl)) <|  .nil) ?_
  exact f_target_k1
  have nh14 := Nz h14
  refine mv1 rfl h14 rfl <| mv1 rfl h14 rfl ?_
  first | refine lnM1 rfl h14 rfl ?_ | refine lns1 rfl h14 rfl ?_ | refine ln1 rfl h14 rfl ?_
  refine cmp1 rfl h14 rfl <| pkf0 rfl h14 <| mv0 rfl ?_
  refine bcase 20 rfl (fun h20 => ?_) (fun h20 => ?_)
  have nh20 := Nz h20
  refine sk0 rfl h20 <| sk0 rfl h20 <| pkt0 rfl h20 <| mv0 rfl <| sk0 rfl rfl <| sk0 rfl rfl <| pkt0 rfl rfl <| mv0 rfl <| sk0 rfl rfl <| sk0 rfl rfl <| sk0 rfl rfl <| pkt0 rfl rfl <| asg0 rfl <| done ?_
  refine Wp.condT rfl rfl <| Wp.seq <| reg <| asg0 rfl <| asg0 rfl <| done ?_
  refine Wp.ret ?_
  refine Ends.ret (.cons (.tmp rfl (Fz.pure rfl)) <| .cons (.tmp rfl (Fz.pure rfl)) <|  .nil) ?_
  exact f_target_k1
  have nh20 := Nz h20
  refine mv1 rfl h20 rfl <| cmp1 rfl h20 rfl <| pkf0 rfl h20 <| mv0 rfl ?_
  refine bcase 24 rfl (fun h24 => ?_) (fun h24 => ?_)
  have nh24 := Nz h24
  refine sk0 rfl h24 <| sk0 rfl h24 <| pkt0 rfl h24 <| mv0 rfl <| sk0 rfl rfl <| sk0 rfl rfl <| sk0 rfl rfl <| pkt0 rfl rfl <| asg0 rfl <| done ?_
  refine Wp.condT rfl rfl <| Wp.seq <| reg <| asg0 rfl <| asg0 rfl <| done ?_
  refine Wp.ret ?_
  refine Ends.ret (.cons (.tmp rfl (Fz.pure rfl)) <| .cons (.tmp rfl (Fz.pure rfl)) <|  .nil) ?_
  exact f_target_k1
  have nh24 := Nz h24
  refine mv1 rfl h24 rfl <| cmp1 rfl h24 rfl <| pkf0 rfl h24 <| mv0 rfl ?_
  refine bcase 28 rfl (fun h28 => ?_) (fun h28 => ?_)
  have nh28 := Nz h28
  refine sk0 rfl h28 <| sk0 rfl h28 <| sk0 rfl h28 <| pkt0 rfl h28 <| asg0 rfl <| done ?_
  refine Wp.condT rfl rfl <| Wp.seq <| reg <| asg0 rfl <| asg0 rfl <| done ?_
  refine Wp.ret ?_
  refine Ends.ret (.cons (.tmp rfl (Fz.pure rfl)) <| .cons (.tmp rfl (Fz.pure rfl)) <|  .nil) ?_
  exact f_target_k1
  have nh28 := Nz h28
  refine mv1 rfl h28 rfl <| clw1 rfl h28 rfl f_counts rfl ?_
  refine nt1 rfl h28 rfl <| pkf0 rfl h28 <| asg0 rfl <| done ?_
  refine Wp.cond rfl (fun c1 => ?_) (fun c1 => ?_)
  have nc1 := Nz c1
  refine Wp.seq <| reg <| asg0 rfl <| asg0 rfl <| done ?_
  refine Wp.ret ?_
  refine Ends.ret (.cons (.tmp rfl (Fz.pure rfl)) <| .cons (.tmp rfl (Fz.pure rfl)) <|  .nil) ?_
  exact f_target_k1
  have nc1 := Nz c1
  refine Wp.seq <| reg <| mv0 rfl <| cmp0 rfl <| asg0 rfl <| done ?_
  refine Wp.cond rfl (fun c2 => ?_) (fun c2 => ?_)
  have nc2 := Nz c2
  refine Wp.seq <| reg <| asg0 rfl <| asg0 rfl <| done ?_
  refine Wp.ret ?_
  refine Ends.ret (.cons (.tmp rfl (Fz.pure rfl)) <| .cons (.tmp rfl (Fz.pure rfl)) <|  .nil) ?_
  exact f_target_k1
  have nc2 := Nz c2
  refine Wp.seq <| reg <| mv0 rfl <| cmp0 rfl <| mv0 rfl ?_
  refine bcase 39 rfl (fun h39 => ?_) (fun h39 => ?_)
  have nh39 := Nz h39
  refine sk0 rfl h39 <| sk0 rfl h39 <| pkt0 rfl h39 <| asg0 rfl <| done ?_
  refine Wp.condT rfl rfl <| Wp.seq <| reg <| mv0 rfl ?_
  first | refine lnM0 rfl ?_ | refine lns0 rfl ?_ | refine ln0 rfl ?_
  refine asg0 rfl <| asg0 rfl <| done ?_
  refine Wp.ret ?_
  refine Ends.ret (.cons (.tmp rfl (Fz.pure rfl)) <| .cons (.tmp rfl (Fz.pure rfl)) <|  .nil) ?_
  exact f_target_k1
  have nh39 := Nz h39
  refine mv1 rfl h39 rfl <| cmp1 rfl h39 rfl <| pkf0 rfl h39 <| asg0 rfl <| done ?_
  refine Wp.cond rfl (fun c3 => ?_) (fun c3 => ?_)
  have nc3 := Nz c3
  refine Wp.seq <| reg <| mv0 rfl ?_
  first | refine lnM0 rfl ?_ | refine lns0 rfl ?_ | refine ln0 rfl ?_
  refine asg0 rfl <| asg0 rfl <| done ?_
  refine Wp.ret ?_
  refine Ends.ret (.cons (.tmp rfl (Fz.pure rfl)) <| .cons (.tmp rfl (Fz.pure rfl)) <|  .nil) ?_
  exact f_target_k1
  have nc3 := Nz c3
  refine Wp.seq <| reg <| mv0 rfl <| cmp0 rfl <| asg0 rfl <| done ?_
  refine Wp.cond rfl (fun c4 => ?_) (fun c4 => ?_)
  have nc4 := Nz c4
  refine reg <| mv0 rfl <| clw0 rfl (f_opposite Dis) rfl ?_
  have hcn : -9999 ≤ n ∧ n ≤ 9999 := by simp_all [countsB]
  refine mv0 rfl <| ng _ rfl (wrapI Bd) rfl .none ?_
  refine asg0 rfl <| asg0 rfl <| done ?_
  first | exact ⟨(oppS m, -n), ⟨(if_pos (by omega)).symm, by simp only; omega, by omega, by omega, by omega, by omega, by omega, by omega, by omega, by simp_all⟩, Rp, Rp, rfl⟩ | exact ⟨(m, n), ⟨(if_neg (by omega)).symm, by simp only; omega, by omega, by omega, by omega, by omega, by omega, by omega, by omega, by simp_all⟩, Rp, Rp, rfl⟩
  have nc4 := Nz c4
  refine Wp.skip ?_
  first | exact ⟨(oppS m, -n), ⟨(if_pos (by omega)).symm, by simp only; omega, by omega, by omega, by omega, by omega, by omega, by omega, by omega, by simp_all⟩, Rp, Rp, rfl⟩ | exact ⟨(m, n), ⟨(if_neg (by omega)).symm, by simp only; omega, by omega, by omega, by omega, by omega, by omega, by omega, by omega, by simp_all⟩, Rp, Rp, rfl⟩
  intro x hx
  generalize hmo : x.1 = mo at *; obtain ⟨hx1, hx2, hi1, hi2, hm1, hm2, hm3, hm4, hm5, hcn⟩ := hx
  refine Wp.seq <| Wp.block ?_
  refine Wp.loopK (α := Nat × Nat) [0, 2] [] (fun x tl => (3, .int .i64 (x.1 : Nat)) :: (1, .int .i64 (x.2 : Nat)) :: tl) (fun x tl => tl) (fun x => x.2 ≤ l.length ∧ x.1 ≤ 9999 ∧ iterS l mo n.natAbs i.toNat = iterS l mo x.1 x.2) (fun x => x.1) ((n.natAbs, i.toNat)) rfl rfl (⟨by simp only; omega, by simp only; simp [countsB] at hcn; omega, rfl⟩) (⟨congrArg (fun z : Int => some (D.int .i64 z)) (hx2), congrArg (fun z : Int => some (D.int .i64 z)) (by simp only; omega), Rp⟩) (Rp) ?_
  intro x hx
  obtain ⟨hy1, hy2, hy3⟩ := hx
  refine Wp.seq <| Wp.seq <| reg <| mv0 rfl <| cmp0 rfl <| done ?_
  refine Wp.cond rfl (fun c5 => ?_) (fun c5 => ?_)
  have nc5 := Nz c5
  refine Wp.skip <| Wp.seq <| Wp.block <| Wp.seq <| reg <| mv0 rfl <| mv0 rfl <| mv0 rfl <| clw0 rfl (f_stepOne Dis Dis) rfl ?_
  refine asg0 rfl <| done ?_
  refine Wp.seq <| Wp.seq <| reg <| mv0 rfl <| mv0 rfl <| cmp0 rfl <| done ?_
  refine Wp.cond rfl (fun c6 => ?_) (fun c6 => ?_)
  have nc6 := Nz c6
  refine Wp.exit <| Wp.seq <| reg <| mv0 rfl <| asg0 rfl <| asg0 rfl <| done ?_
  refine Wp.ret ?_
  refine Ends.ret (.cons (.tmp rfl (Fz.pure rfl)) <| .cons (.tmp rfl (Fz.pure rfl)) <|  .nil) ?_
  exact f_target_k1
  have nc6 := Nz c6
  refine Wp.skip <| reg <| mv0 rfl <| asg0 rfl <| done ?_
  refine reg <| mv0 rfl <| ar0 rfl (wrapI Bd) <| asg0 rfl <| done ?_
  exact ⟨(x.1 - 1, stepS l x.2 mo), ⟨step_le hy1, by simp only; omega, by rw [hy3, show x.1 = (x.1 - 1) + 1 by omega]; simp only [iterS]; rw [if_neg (by omega)]; simp⟩, by simp only; omega, ⟨congrArg (fun z : Int => some (D.int .i64 z)) (by simp only; omega), rfl, Rp⟩, Rp, rfl⟩
  have nc5 := Nz c5
  refine Wp.exit <| Wp.seq <| reg <| mv0 rfl <| asg0 rfl <| asg0 rfl <| done ?_
  refine Wp.ret ?_
  refine Ends.ret (.cons (.tmp rfl (Fz.pure rfl)) <| .cons (.tmp rfl (Fz.pure rfl)) <|  .nil) ?_
  exact f_target_k1

theorem f_editIs_k1 {p : Prop} (h : p := by
    refine congrArg D.bool ?_; unfold editIs; simp_all <;> first | omega | (rw [Bool.eq_iff_iff]; simp_all; done) | (rw [Bool.eq_iff_iff]; simp_all <;> omega)) : p := h
set_option maxRecDepth 20000 in
theorem f_editIs {a b : List Int} {k : List (List Int)} {u : List Gap} {la tu si : Int} (hu : ∀ g ∈ u, g.sm) (h1 : a.length ≤ 1000000) (h2 : b.length ≤ 1000000) : FnP PP 42 [.agg [rl a, rl b, rlL k, gpL u, .int .i64 la, .int .i64 tu, .int .i64 si]] (.bool (editIs ⟨⟨a, b⟩, k, u, la, tu, si⟩)) := by
  refine FnP.of_body Tryz.func42 rfl (by kernel_rfl) rfl ?_
  refine Wp.seq <| reg <| bx0 65 rfl ?_
  refine asg0 rfl <| done ?_
  refine Wp.seq <| Wp.block <| Wp.seq <| reg <| faA0 rfl ?_
  refine ldA0 rfl ?_
  refine clw0 rfl (f_gapIs Dis Dis) rfl ?_
  refine nt0 rfl <| mv0 rfl ?_
  refine bcase 8 rfl (fun h8 => ?_) (fun h8 => ?_)
  have nh8 := Nz h8
  refine sk0 rfl h8 <| sk0 rfl h8 <| sk0 rfl h8 <| sk0 rfl h8 <| pkt0 rfl h8 <| mv0 rfl <| sk0 rfl rfl <| sk0 rfl rfl <| sk0 rfl rfl <| sk0 rfl rfl <| pkt0 rfl rfl <| mv0 rfl <| sk0 rfl rfl <| sk0 rfl rfl <| sk0 rfl rfl <| pkt0 rfl rfl <| mv0 rfl <| sk0 rfl rfl <| sk0 rfl rfl <| sk0 rfl rfl <| pkt0 rfl rfl <| asg0 rfl <| done ?_
  refine Wp.condT rfl rfl <| Wp.seq <| reg <| asg0 rfl <| done ?_
  refine Wp.ret ?_
  refine Ends.ret (.cons (.tmp rfl (Fz.pure rfl)) <|  .nil) ?_
  exact f_editIs_k1
  have nh8 := Nz h8
  refine faA1 rfl h8 rfl ?_
  refine ldA1 rfl h8 rfl ?_
  refine clw1 rfl h8 rfl f_killIs rfl ?_
  refine nt1 rfl h8 rfl <| pkf0 rfl h8 <| mv0 rfl ?_
  refine bcase 14 rfl (fun h14 => ?_) (fun h14 => ?_)
  have nh14 := Nz h14
  refine sk0 rfl h14 <| sk0 rfl h14 <| sk0 rfl h14 <| sk0 rfl h14 <| pkt0 rfl h14 <| mv0 rfl <| sk0 rfl rfl <| sk0 rfl rfl <| sk0 rfl rfl <| pkt0 rfl rfl <| mv0 rfl <| sk0 rfl rfl <| sk0 rfl rfl <| sk0 rfl rfl <| pkt0 rfl rfl <| asg0 rfl <| done ?_
  refine Wp.condT rfl rfl <| Wp.seq <| reg <| asg0 rfl <| done ?_
  refine Wp.ret ?_
  refine Ends.ret (.cons (.tmp rfl (Fz.pure rfl)) <|  .nil) ?_
  exact f_editIs_k1
  have nh14 := Nz h14
  refine faA1 rfl h14 rfl ?_
  refine ldA1 rfl h14 rfl ?_
  refine clw1 rfl h14 rfl (f_undoIs Dis) rfl ?_
  refine nt1 rfl h14 rfl <| pkf0 rfl h14 <| mv0 rfl ?_
  refine bcase 20 rfl (fun h20 => ?_) (fun h20 => ?_)
  have nh20 := Nz h20
  refine sk0 rfl h20 <| sk0 rfl h20 <| sk0 rfl h20 <| pkt0 rfl h20 <| mv0 rfl <| sk0 rfl rfl <| sk0 rfl rfl <| sk0 rfl rfl <| pkt0 rfl rfl <| asg0 rfl <| done ?_
  refine Wp.condT rfl rfl <| Wp.seq <| reg <| asg0 rfl <| done ?_
  refine Wp.ret ?_
  refine Ends.ret (.cons (.tmp rfl (Fz.pure rfl)) <|  .nil) ?_
  exact f_editIs_k1
  have nh20 := Nz h20
  refine faA1 rfl h20 rfl ?_
  refine ldA1 rfl h20 rfl ?_
  refine cmp1 rfl h20 rfl <| pkf0 rfl h20 <| mv0 rfl ?_
  refine bcase 25 rfl (fun h25 => ?_) (fun h25 => ?_)
  have nh25 := Nz h25
  refine sk0 rfl h25 <| sk0 rfl h25 <| sk0 rfl h25 <| pkt0 rfl h25 <| asg0 rfl <| done ?_
  refine Wp.condT rfl rfl <| Wp.seq <| reg <| asg0 rfl <| done ?_
  refine Wp.ret ?_
  refine Ends.ret (.cons (.tmp rfl (Fz.pure rfl)) <|  .nil) ?_
  exact f_editIs_k1
  have nh25 := Nz h25
  refine faA1 rfl h25 rfl ?_
  refine ldA1 rfl h25 rfl ?_
  refine cmp1 rfl h25 rfl <| pkf0 rfl h25 <| asg0 rfl <| done ?_
  refine Wp.cond rfl (fun c1 => ?_) (fun c1 => ?_)
  have nc1 := Nz c1
  refine Wp.seq <| reg <| asg0 rfl <| done ?_
  refine Wp.ret ?_
  refine Ends.ret (.cons (.tmp rfl (Fz.pure rfl)) <|  .nil) ?_
  exact f_editIs_k1
  have nc1 := Nz c1
  refine Wp.seq <| reg <| faA0 rfl ?_
  refine ldA0 rfl ?_
  refine cmp0 rfl <| asg0 rfl <| done ?_
  refine Wp.cond rfl (fun c2 => ?_) (fun c2 => ?_)
  have nc2 := Nz c2
  refine Wp.seq <| reg <| faA0 rfl ?_
  refine ldA0 rfl ?_
  refine cmp0 rfl <| mv0 rfl ?_
  refine bcase 37 rfl (fun h37 => ?_) (fun h37 => ?_)
  have nh37 := Nz h37
  refine faA1 rfl h37 rfl ?_
  refine ldA1 rfl h37 rfl ?_
  refine faA1 rfl h37 rfl ?_
  refine faA1 rfl h37 rfl ?_
  refine ldA1 rfl h37 rfl ?_
  first | refine lnM1 rfl h37 rfl ?_ | refine lns1 rfl h37 rfl ?_ | refine ln1 rfl h37 rfl ?_
  refine cmp1 rfl h37 rfl <| pkt0 rfl h37 <| mv0 rfl ?_
  refine bcase 46 rfl (fun h46 => ?_) (fun h46 => ?_)
  have nh46 := Nz h46
  refine faA1 rfl h46 rfl ?_
  refine ldA1 rfl h46 rfl ?_
  refine cmp1 rfl h46 rfl <| pkt0 rfl h46 <| mv0 rfl ?_
  refine bcase 51 rfl (fun h51 => ?_) (fun h51 => ?_)
  have nh51 := Nz h51
  refine faA1 rfl h51 rfl ?_
  refine ldA1 rfl h51 rfl ?_
  refine faA1 rfl h51 rfl ?_
  refine faA1 rfl h51 rfl ?_
  refine ldA1 rfl h51 rfl ?_
  first | refine lnM1 rfl h51 rfl ?_ | refine lns1 rfl h51 rfl ?_ | refine ln1 rfl h51 rfl ?_
  refine cmp1 rfl h51 rfl <| pkt0 rfl h51 <| asg0 rfl <| done ?_
  refine Wp.ret ?_
  refine Ends.ret (.cons (.tmp rfl (Fz.pure rfl)) <|  .nil) ?_
  exact f_editIs_k1
  have nh51 := Nz h51
  refine sk0 rfl h51 <| sk0 rfl h51 <| sk0 rfl h51 <| sk0 rfl h51 <| sk0 rfl h51 <| sk0 rfl h51 <| sk0 rfl h51 <| pkf0 rfl h51 <| asg0 rfl <| done ?_
  refine Wp.ret ?_
  refine Ends.ret (.cons (.tmp rfl (Fz.pure rfl)) <|  .nil) ?_
  exact f_editIs_k1
  have nh46 := Nz h46
  refine sk0 rfl h46 <| sk0 rfl h46 <| sk0 rfl h46 <| pkf0 rfl h46 <| mv0 rfl <| sk0 rfl rfl <| sk0 rfl rfl <| sk0 rfl rfl <| sk0 rfl rfl <| sk0 rfl rfl <| sk0 rfl rfl <| sk0 rfl rfl <| pkf0 rfl rfl <| asg0 rfl <| done ?_
  refine Wp.ret ?_
  refine Ends.ret (.cons (.tmp rfl (Fz.pure rfl)) <|  .nil) ?_
  exact f_editIs_k1
  have nh37 := Nz h37
  refine sk0 rfl h37 <| sk0 rfl h37 <| sk0 rfl h37 <| sk0 rfl h37 <| sk0 rfl h37 <| sk0 rfl h37 <| sk0 rfl h37 <| pkf0 rfl h37 <| mv0 rfl <| sk0 rfl rfl <| sk0 rfl rfl <| sk0 rfl rfl <| pkf0 rfl rfl <| mv0 rfl <| sk0 rfl rfl <| sk0 rfl rfl <| sk0 rfl rfl <| sk0 rfl rfl <| sk0 rfl rfl <| sk0 rfl rfl <| sk0 rfl rfl <| pkf0 rfl rfl <| asg0 rfl <| done ?_
  refine Wp.ret ?_
  refine Ends.ret (.cons (.tmp rfl (Fz.pure rfl)) <|  .nil) ?_
  exact f_editIs_k1
  have nc2 := Nz c2
  refine Wp.skip <| Wp.seq <| reg <| faA0 rfl ?_
  refine ldA0 rfl ?_
  refine cmp0 rfl <| mv0 rfl ?_
  refine bcase 63 rfl (fun h63 => ?_) (fun h63 => ?_)
  have nh63 := Nz h63
  refine faA1 rfl h63 rfl ?_
  refine ldA1 rfl h63 rfl ?_
  refine cmp1 rfl h63 rfl <| pkt0 rfl h63 <| asg0 rfl <| done ?_
  refine Wp.ret ?_
  refine Ends.ret (.cons (.tmp rfl (Fz.pure rfl)) <|  .nil) ?_
  exact f_editIs_k1
  have nh63 := Nz h63
  refine sk0 rfl h63 <| sk0 rfl h63 <| sk0 rfl h63 <| pkf0 rfl h63 <| asg0 rfl <| done ?_
  refine Wp.ret ?_
  refine Ends.ret (.cons (.tmp rfl (Fz.pure rfl)) <|  .nil) ?_
  exact f_editIs_k1

set_option maxRecDepth 20000 in
theorem f_wrem {w x : Edit} {a : ActE} {n : Int} (hu : ∀ g ∈ w.u, g.sm) (h1 : w.g.a.length ≤ 1000) (h2 : w.g.b.length ≤ 1000) : FnG PP 164 [.ptr 0 0] [(0, .cells 159 (workC w x a n))] (.tup []) [(0, .cells 159 (workC w (remS w x) a n))] [0] := by
  refine FnG.of_body 1 Tryz.func164 rfl (by kernel_rfl) rfl rfl rfl ?_
  refine regd mixed ?_
  refine mv0 rfl <| mv0 rfl <| nck0 rfl <| faA0 rfl ?_
  refine faA0 rfl ?_
  refine ldA0 rfl ?_
  refine mv0 rfl <| nck0 rfl <| faA0 rfl ?_
  refine faA0 rfl ?_
  refine ldA0 rfl ?_
  refine clw0 rfl (f_push Dis Dis Dis) rfl ?_
  refine nck0 rfl <| faA0 rfl ?_
  refine faA0 rfl ?_
  refine stw0 rfl ?_
  refine done ⟨by kernel_rfl, by kernel_rfl, ?_⟩
  refine EndsG.one (.inl rfl) ( .nil) ?_ rfl ?_
  · rfl
  · exact .of_eq rfl

set_option maxRecDepth 20000 in
theorem f_wlay {w x : Edit} {a : ActE} {n : Int} {l : List Int} {i : Int} : FnG PP 185 [.ptr 0 0, rl l, .int .i64 i] [(0, .cells 159 (workC w x a n))] (.tup []) [(0, .cells 159 (workC w (layS x l i) a n))] [0] := by
  refine FnG.of_body 1 Tryz.func185 rfl (by kernel_rfl) rfl rfl rfl ?_
  refine reg <| mv0 rfl <| mv0 rfl <| mv0 rfl <| clw0 rfl f_of rfl ?_
  refine mv0 rfl <| xt0 rfl <| xt0 rfl <| nck0 rfl <| faA0 rfl ?_
  refine faA0 rfl ?_
  refine stw0 rfl ?_
  refine done ?_
  refine EndsG.one (.inl rfl) ( .nil) ?_ rfl ?_
  · rfl
  · exact .of_eq rfl

set_option maxRecDepth 20000 in
theorem f_wput {w x : Edit} {a : ActE} {n : Int} {p q l : List Int} (h1 : p.length ≤ 1000000) (h2 : q.length ≤ 1000000) (h3 : l.length ≤ 1000000) : FnG PP 165 [.ptr 0 0, .agg [rl p, rl q], rl l] [(0, .cells 159 (workC w x a n))] (.int .i64 (putS x ⟨p, q⟩ l).2) [(0, .cells 159 (workC w (putS x ⟨p, q⟩ l).1 a n))] [0] := by
  refine FnG.of_body 1 Tryz.func165 rfl (by kernel_rfl) rfl rfl rfl ?_
  refine Wp.seq <| reg <| bx0 68 rfl ?_
  refine asg0 rfl <| done ?_
  refine Wp.seq <| reg <| ldA0 rfl ?_
  refine mv0 rfl <| clw0 rfl (f_ins Dis Dis Dis) rfl ?_
  refine mv0 rfl <| xt0 rfl <| xt0 rfl <| al0 71 rfl ?_
  refine stw0 rfl ?_
  refine asg0 rfl <| done ?_
  refine Wp.seq <| reg <| mv0 rfl <| ldA0 rfl ?_
  refine nck0 rfl <| faA0 rfl ?_
  refine faA0 rfl ?_
  refine stw0 rfl ?_
  refine done ?_
  refine Wp.seq <| reg <| mv0 rfl <| asg0 rfl <| done ?_
  refine Wp.ret ?_
  refine EndsG.one (.inr rfl) (.cons (.tmp rfl FzG.same) <|  .nil) ?_ rfl ?_
  · rfl
  · exact .of_eq rfl

set_option maxRecDepth 20000 in
theorem f_wtext {w x : Edit} {a : ActE} {n : Int} {p q : List Int} {tu : Int} (h1 : p.length ≤ 1000000) (h2 : q.length ≤ 1000000) : FnG PP 167 [.ptr 0 0, .agg [rl p, rl q], .int .i64 tu] [(0, .cells 159 (workC w x a n))] (.int .i64 (textE w x ⟨p, q⟩ tu).2) [(0, .cells 159 (workC w (textE w x ⟨p, q⟩ tu).1 a n))] [0] := by
  refine FnG.of_body 1 Tryz.func167 rfl (by kernel_rfl) rfl rfl rfl ?_
  refine Wp.seq <| reg <| bx0 68 rfl ?_
  refine asg0 rfl <| done ?_
  refine Wp.seq <| reg <| mv0 rfl <| nck0 rfl <| faA0 rfl ?_
  refine faA0 rfl ?_
  refine ldA0 rfl ?_
  refine mv0 rfl <| clw0 rfl f_killGet rfl ?_
  refine mv0 rfl <| xt0 rfl <| xt0 rfl <| asg0 rfl <| asg0 rfl <| done ?_
  refine Wp.seq <| reg <| mv0 rfl <| mv0 rfl <| mv0 rfl <| mv0 rfl <| mv0 rfl ?_
  first | refine lnM0 rfl ?_ | refine lns0 rfl ?_ | refine ln0 rfl ?_
  refine nck0 rfl <| faA0 rfl ?_
  refine faA0 rfl ?_
  refine stw0 rfl ?_
  refine nck0 rfl <| faA0 rfl ?_
  refine faA0 rfl ?_
  refine stw0 rfl ?_
  refine nck0 rfl <| faA0 rfl ?_
  refine faA0 rfl ?_
  refine stw0 rfl ?_
  refine done ?_
  refine Wp.seq <| reg ?_
  have hgl := getS_len w.k tu
  refine mv0 rfl <| ldA0 rfl ?_
  refine mv0 rfl <| clmw0 0 rfl (f_wput (x := ⟨x.g, x.k, x.u, 3, tu, (getS w.k tu).1.length⟩) h1 h2 (by omega)) rfl ?_
  refine asg0 rfl <| done ?_
  refine Wp.ret ?_
  refine EndsG.one (.inr rfl) (.cons (.tmp rfl FzG.same) <|  .nil) ?_ rfl ?_
  · rfl
  · exact .of_eq rfl

theorem f_wyank_k1 {p : Prop} (h : p := by
    first | (unfold yankS; rw [if_pos (by omega)]; rfl) | (unfold yankS; rw [if_neg (by omega)]; rfl)) : p := h
theorem f_wyank_k2 {p : Prop} (h : p := by
    first | (unfold yankS; rw [if_pos (by omega)]; exact .of_eq rfl) | (unfold yankS; rw [if_neg (by omega)]; exact .of_eq rfl)) : p := h
set_option maxRecDepth 20000 in
theorem f_wyank {w x : Edit} {a : ActE} {n : Int} (hu : ∀ g ∈ w.u, g.sm) (h1 : w.g.a.length ≤ 1000) (h2 : w.g.b.length ≤ 1000) : FnG PP 134 [.ptr 0 0] [(0, .cells 159 (workC w x a n))] (.int .i64 (yankS w x).2) [(0, .cells 159 (workC w (yankS w x).1 a n))] [0] := by
  refine FnG.of_body 1 Tryz.func134 rfl (by kernel_rfl) rfl rfl rfl ?_
  refine Wp.seq <| reg <| asg0 rfl <| done ?_
  refine Wp.seq <| Wp.seq <| reg <| mv0 rfl <| nck0 rfl <| faA0 rfl ?_
  refine faA0 rfl ?_
  refine faA0 rfl ?_
  refine ldA0 rfl ?_
  first | refine lnM0 rfl ?_ | refine lns0 rfl ?_ | refine ln0 rfl ?_
  refine cmp0 rfl <| done ?_
  refine Wp.cond rfl (fun c1 => ?_) (fun c1 => ?_)
  have nc1 := Nz c1
  refine Wp.seq <| reg <| asg0 rfl <| done ?_
  refine Wp.ret ?_
  refine EndsG.one (.inr rfl) (.cons (.tmp rfl FzG.same) <|  .nil) ?_ rfl ?_
  · exact f_wyank_k1
  · exact f_wyank_k2
  have nc1 := Nz c1
  refine Wp.skip <| Wp.seq <| reg <| mv0 rfl <| clmw0 0 rfl (f_wrem Dis Dis Dis) rfl ?_
  refine done ?_
  refine Wp.seq <| reg <| mv0 rfl <| mv0 rfl <| nck0 rfl <| faA0 rfl ?_
  refine faA0 rfl ?_
  refine ldA0 rfl ?_
  refine clmw0 0 rfl (f_wtext (x := remS w x) (by omega) (by omega)) rfl ?_
  refine asg0 rfl <| done ?_
  refine Wp.ret ?_
  refine EndsG.one (.inr rfl) (.cons (.tmp rfl FzG.same) <|  .nil) ?_ rfl ?_
  · exact f_wyank_k1
  · exact f_wyank_k2

theorem f_wpop_k1 {p : Prop} (h : p := by
    first | (unfold popE; rw [if_pos (by omega)]; rfl) | (unfold popE; rw [if_neg (by omega)]; rfl)) : p := h
theorem f_wpop_k2 {p : Prop} (h : p := by
    first | (unfold popE; rw [if_pos (by omega)]; exact .of_eq rfl) | (unfold popE; rw [if_neg (by omega)]; exact .of_eq rfl)) : p := h
set_option maxRecDepth 20000 in
theorem f_wpop {w x : Edit} {a : ActE} {n : Int} (hu : ∀ g ∈ w.u, g.sm) (h1 : w.g.a.length ≤ 1000) (h2 : w.g.b.length ≤ 1000) (h3 : w.last = 3 → 0 ≤ w.turn ∧ w.turn ≤ 1000000 ∧ 0 < w.k.length ∧ 0 ≤ w.size ∧ w.size ≤ 1000000) : FnG PP 135 [.ptr 0 0] [(0, .cells 159 (workC w x a n))] (.int .i64 (popE w x).2) [(0, .cells 159 (workC w (popE w x).1 a n))] [0] := by
  refine FnG.of_body 1 Tryz.func135 rfl (by kernel_rfl) rfl rfl rfl ?_
  refine Wp.seq <| reg <| asg0 rfl <| done ?_
  refine Wp.seq <| Wp.seq <| reg <| mv0 rfl <| nck0 rfl <| faA0 rfl ?_
  refine faA0 rfl ?_
  refine ldA0 rfl ?_
  refine cmp0 rfl <| done ?_
  refine Wp.cond rfl (fun c1 => ?_) (fun c1 => ?_)
  have nc1 := Nz c1
  refine Wp.seq <| reg <| asg0 rfl <| done ?_
  refine Wp.ret ?_
  refine EndsG.one (.inr rfl) (.cons (.tmp rfl FzG.same) <|  .nil) ?_ rfl ?_
  · exact f_wpop_k1
  · exact f_wpop_k2
  have nc1 := Nz c1
  refine Wp.skip <| Wp.seq <| regd mixed ?_
  have h3' := h3 (by omega)
  refine mv0 rfl <| nck0 rfl <| faA0 rfl ?_
  refine faA0 rfl ?_
  refine ldA0 rfl ?_
  refine mv0 rfl <| nck0 rfl <| faA0 rfl ?_
  refine faA0 rfl ?_
  refine ldA0 rfl ?_
  refine ng _ rfl (wrapI Bd) rfl .none ?_
  refine clw0 rfl (f_cut (by omega) (by omega) (by omega)) rfl ?_
  refine mv0 rfl <| xt0 rfl <| xt0 rfl <| al0 67 rfl ?_
  refine stw0 rfl ?_
  refine asg0 rfl ?_
  refine done ⟨by kernel_rfl, by kernel_rfl, ?_⟩
  refine Wp.seq <| regd mixed ?_
  refine mv0 rfl <| ldA0 rfl ?_
  refine mv0 rfl <| nck0 rfl <| faA0 rfl ?_
  refine faA0 rfl ?_
  refine ldA0 rfl ?_
  refine ar0 rfl (wrapI Bd) <| mv0 rfl <| nck0 rfl <| faA0 rfl ?_
  refine faA0 rfl ?_
  refine faA0 rfl ?_
  refine ldA0 rfl ?_
  first | refine lnM0 rfl ?_ | refine lns0 rfl ?_ | refine ln0 rfl ?_
  refine rm (((w.turn + 1).toNat % w.k.length : Nat) : Int) rfl rfl Bd (tmod_nat (by omega) _) rfl .none ?_
  refine clmw0 0 rfl (f_wtext (by have := cut_a ⟨w.g.a, w.g.b⟩ (-w.size); simp only at this; omega) (by have := cut_b ⟨w.g.a, w.g.b⟩ (-w.size); simp only at this; omega)) rfl ?_
  refine asg0 rfl ?_
  refine done ⟨by kernel_rfl, by kernel_rfl, ?_⟩
  refine Wp.ret ?_
  refine EndsG.one (.inr rfl) (.cons (.tmp rfl FzG.same) <|  .nil) ?_ rfl ?_
  · exact f_wpop_k1
  · exact f_wpop_k2

theorem f_wback_k1 {p : Prop} (h : p := by
    first | (unfold backS; rw [if_pos (by omega)]; rfl) | (unfold backS; rw [if_neg (by omega)]; rfl)) : p := h
theorem f_wback_k2 {p : Prop} (h : p := by
    first | (unfold backS; rw [if_pos (by omega)]; exact .of_eq rfl) | (unfold backS; rw [if_neg (by omega)]; exact .of_eq rfl)) : p := h
set_option maxRecDepth 20000 in
theorem f_wback {w x : Edit} {a : ActE} {n : Int} (hu : ∀ g ∈ w.u, g.sm) (h1 : w.g.a.length ≤ 1000) (h2 : w.g.b.length ≤ 1000) : FnG PP 136 [.ptr 0 0] [(0, .cells 159 (workC w x a n))] (.int .i64 (backS w x).2) [(0, .cells 159 (workC w (backS w x).1 a n))] [0] := by
  refine FnG.of_body 1 Tryz.func136 rfl (by kernel_rfl) rfl rfl rfl ?_
  refine Wp.seq <| reg <| asg0 rfl <| done ?_
  refine Wp.seq <| reg <| mv0 rfl <| nck0 rfl <| faA0 rfl ?_
  refine faA0 rfl ?_
  refine ldA0 rfl ?_
  refine clw0 rfl (f_pop Dis) rfl ?_
  refine mv0 rfl <| xt0 rfl <| xt0 rfl <| xt0 rfl <| al0 67 rfl ?_
  refine al0 68 rfl ?_
  refine stw0 rfl ?_
  refine stw0 rfl ?_
  refine asg0 rfl <| done ?_
  refine Wp.seq <| Wp.seq <| reg <| mv0 rfl <| cmp0 rfl <| done ?_
  refine Wp.cond rfl (fun c1 => ?_) (fun c1 => ?_)
  have nc1 := Nz c1
  refine Wp.seq <| reg <| asg0 rfl <| done ?_
  refine Wp.ret ?_
  refine EndsG.one (.inr rfl) (.cons (.tmp rfl FzG.same) <|  .nil) ?_ rfl ?_
  · exact f_wback_k1
  · exact f_wback_k2
  have nc1 := Nz c1
  refine Wp.skip <| Wp.seq <| regd mixed ?_
  refine mv0 rfl <| mv0 rfl <| ldA0 rfl ?_
  refine ldA0 rfl ?_
  refine nck0 rfl <| faA0 rfl ?_
  refine faA0 rfl ?_
  refine stw0 rfl ?_
  refine nck0 rfl <| faA0 rfl ?_
  refine faA0 rfl ?_
  refine stw0 rfl ?_
  refine done ⟨by kernel_rfl, by kernel_rfl, ?_⟩
  refine Wp.seq <| reg <| asg0 rfl <| done ?_
  refine Wp.ret ?_
  refine EndsG.one (.inr rfl) (.cons (.tmp rfl FzG.same) <|  .nil) ?_ rfl ?_
  · exact f_wback_k1
  · exact f_wback_k2

set_option maxRecDepth 20000 in
theorem f_wswap {w x : Edit} {a : ActE} {n : Int} (hu : ∀ g ∈ w.u, g.sm) (h1 : w.g.a.length ≤ 1000) (h2 : w.g.b.length ≤ 1000) : FnG PP 137 [.ptr 0 0] [(0, .cells 159 (workC w x a n))] (.int .i64 (swapE w x).2) [(0, .cells 159 (workC w (swapE w x).1 a n))] [0] := by
  refine FnG.of_body 1 Tryz.func137 rfl (by kernel_rfl) rfl rfl rfl ?_
  refine Wp.seq <| reg <| asg0 rfl <| done ?_
  refine Wp.seq <| reg <| mv0 rfl <| nck0 rfl <| faA0 rfl ?_
  refine faA0 rfl ?_
  refine ldA0 rfl ?_
  refine clw0 rfl (f_swap Dis Dis) rfl ?_
  refine mv0 rfl <| xt0 rfl <| xt0 rfl <| al0 67 rfl ?_
  refine stw0 rfl ?_
  refine asg0 rfl <| done ?_
  refine Wp.seq <| reg <| mv0 rfl <| clmw0 0 rfl (f_wrem Dis Dis Dis) rfl ?_
  refine done ?_
  refine Wp.seq <| reg <| mv0 rfl <| ldA0 rfl ?_
  refine nck0 rfl <| faA0 rfl ?_
  refine faA0 rfl ?_
  refine stw0 rfl ?_
  refine done ?_
  refine Wp.seq <| reg <| mv0 rfl <| asg0 rfl <| done ?_
  refine Wp.ret ?_
  refine EndsG.one (.inr rfl) (.cons (.tmp rfl FzG.same) <|  .nil) ?_ rfl ?_
  · rfl
  · exact .of_eq rfl

theorem f_winsert_k1 {p : Prop} (h : p := by
    unfold insertS; first | (rw [if_pos (by omega)]; rfl) | (rw [if_neg (by omega), if_pos (by omega)]; rfl) | (rw [if_neg (by omega), if_neg (by omega)]; rfl)) : p := h
theorem f_winsert_k2 {p : Prop} (h : p := by
    unfold insertS; first | (rw [if_pos (by omega)]; exact .of_eq rfl) | (rw [if_neg (by omega), if_pos (by omega)]; exact .of_eq rfl) | (rw [if_neg (by omega), if_neg (by omega)]; exact .of_eq rfl)) : p := h
set_option maxRecDepth 20000 in
theorem f_winsert {w x : Edit} {a : ActE} {n : Int} (hu : ∀ g ∈ w.u, g.sm) (h1 : w.g.a.length ≤ 1000) (h2 : w.g.b.length ≤ 1000) (hn : n ≤ 9999) : FnG PP 133 [.ptr 0 0] [(0, .cells 159 (workC w x a n))] (.int .i64 (insertS w x a.r n).2) [(0, .cells 159 (workC w (insertS w x a.r n).1 a n))] [0] := by
  refine FnG.of_body 1 Tryz.func133 rfl (by kernel_rfl) rfl rfl rfl ?_
  refine Wp.seq <| reg <| asg0 rfl <| done ?_
  refine Wp.seq <| Wp.block <| Wp.seq <| reg <| mv0 rfl <| nck0 rfl <| faA0 rfl ?_
  refine ldA0 rfl ?_
  refine cmp0 rfl <| asg0 rfl <| done ?_
  refine Wp.cond rfl (fun c1 => ?_) (fun c1 => ?_)
  have nc1 := Nz c1
  refine Wp.seq <| reg <| asg0 rfl <| done ?_
  refine Wp.ret ?_
  refine EndsG.one (.inr rfl) (.cons (.tmp rfl FzG.same) <|  .nil) ?_ rfl ?_
  · exact f_winsert_k1
  · exact f_winsert_k2
  have nc1 := Nz c1
  refine Wp.seq <| reg <| mv0 rfl <| nck0 rfl <| faA0 rfl ?_
  refine faA0 rfl ?_
  refine ldA0 rfl ?_
  refine cmp0 rfl <| asg0 rfl <| done ?_
  refine Wp.cond rfl (fun c2 => ?_) (fun c2 => ?_)
  have nc2 := Nz c2
  refine reg <| mv0 rfl <| clmw0 0 rfl (f_wrem Dis Dis Dis) rfl ?_
  refine done ?_
  refine Wp.seq <| reg <| mv0 rfl <| nck0 rfl <| faA0 rfl ?_
  refine faA0 rfl ?_
  refine stw0 rfl ?_
  refine done ?_
  refine Wp.seq <| regd mixed ?_
  refine mv0 rfl <| mv0 rfl <| nck0 rfl <| faA0 rfl ?_
  refine faA0 rfl ?_
  refine ldA0 rfl ?_
  refine mv0 rfl <| nck0 rfl <| faA0 rfl ?_
  refine faA0 rfl ?_
  refine ldA0 rfl ?_
  refine bsM0 runR [a.r] rfl ?_
  refine mv0 rfl <| nck0 rfl <| faA0 rfl ?_
  refine ldA0 rfl ?_
  refine clw0 rfl (FnO.toP (f_repeat (by omega))) rfl ?_
  first | refine clmw0 0 rfl (f_wput (x := lastI (remS w x)) (by omega) (by omega) (by rw [List.length_replicate]; omega)) rfl ?_ | refine clmw0 0 rfl (f_wput (x := lastI x) (by omega) (by omega) (by rw [List.length_replicate]; omega)) rfl ?_
  refine asg0 rfl ?_
  refine done ⟨by kernel_rfl, by kernel_rfl, ?_⟩
  refine Wp.ret ?_
  refine EndsG.one (.inr rfl) (.cons (.tmp rfl FzG.same) <|  .nil) ?_ rfl ?_
  · exact f_winsert_k1
  · exact f_winsert_k2
  have nc2 := Nz c2
  refine Wp.skip <| Wp.seq <| reg <| mv0 rfl <| nck0 rfl <| faA0 rfl ?_
  refine faA0 rfl ?_
  refine stw0 rfl ?_
  refine done ?_
  refine Wp.seq <| regd mixed ?_
  refine mv0 rfl <| mv0 rfl <| nck0 rfl <| faA0 rfl ?_
  refine faA0 rfl ?_
  refine ldA0 rfl ?_
  refine mv0 rfl <| nck0 rfl <| faA0 rfl ?_
  refine faA0 rfl ?_
  refine ldA0 rfl ?_
  refine bsM0 runR [a.r] rfl ?_
  refine mv0 rfl <| nck0 rfl <| faA0 rfl ?_
  refine ldA0 rfl ?_
  refine clw0 rfl (FnO.toP (f_repeat (by omega))) rfl ?_
  first | refine clmw0 0 rfl (f_wput (x := lastI (remS w x)) (by omega) (by omega) (by rw [List.length_replicate]; omega)) rfl ?_ | refine clmw0 0 rfl (f_wput (x := lastI x) (by omega) (by omega) (by rw [List.length_replicate]; omega)) rfl ?_
  refine asg0 rfl ?_
  refine done ⟨by kernel_rfl, by kernel_rfl, ?_⟩
  refine Wp.ret ?_
  refine EndsG.one (.inr rfl) (.cons (.tmp rfl FzG.same) <|  .nil) ?_ rfl ?_
  · exact f_winsert_k1
  · exact f_winsert_k2

theorem f_wpass_k1 {p : Prop} (h : p := by
    unfold passS; first | (rw [if_pos (by omega)]; rfl) | (rw [if_neg (by omega), if_pos (by omega)]; rfl) | (rw [if_neg (by omega), if_neg (by omega), if_pos (by omega)]; rfl) | (rw [if_neg (by omega), if_neg (by omega), if_neg (by omega)]; rfl)) : p := h
theorem f_wpass_k2 {p : Prop} (h : p := by
    unfold passS; first | (rw [if_pos (by omega)]; exact .of_eq rfl) | (rw [if_neg (by omega), if_pos (by omega)]; exact .of_eq rfl) | (rw [if_neg (by omega), if_neg (by omega), if_pos (by omega), show howS w on = 0 from if_pos (by omega)]; exact .of_eq rfl) | (rw [if_neg (by omega), if_neg (by omega), if_pos (by omega), show howS w on = 1 from (if_neg (by omega)).trans (if_pos (by assumption))]; exact .of_eq rfl) | (rw [if_neg (by omega), if_neg (by omega), if_pos (by omega), show howS w on = -1 from (if_neg (by omega)).trans (if_neg (by simp_all))]; exact .of_eq rfl) | (rw [if_neg (by omega), if_neg (by omega), if_neg (by omega)]; exact .of_eq rfl)) : p := h
set_option maxRecDepth 20000 in
theorem f_wpass {w x : Edit} {a : ActE} {n : Int} (hu : ∀ g ∈ w.u, g.sm) (h1 : w.g.a.length ≤ 1000) (h2 : w.g.b.length ≤ 1000) {l : List Int} {lo hi : Int} {on : Bool} (h3 : l.length ≤ 1000000) (h4 : 0 ≤ lo) (h5 : lo ≤ hi) (h6 : hi ≤ l.length) : FnG PP 163 [.ptr 0 0, rl l, .int .i64 lo, .int .i64 hi, .bool on] [(0, .cells 159 (workC w x a n))] (.int .i64 (passS w x a.op l lo hi on).2) [(0, .cells 159 (workC w (passS w x a.op l lo hi on).1 a n))] [0] := by
  refine FnG.of_body 1 Tryz.func163 rfl (by kernel_rfl) rfl rfl rfl ?_
  refine Wp.seq <| reg <| asg0 rfl <| done ?_
  refine Wp.seq <| reg <| mv0 rfl <| mv0 rfl <| mv0 rfl <| sl2M (lo.toNat) (hi.toNat) (subS l lo hi) rfl rfl rfl Og Og ⟨Bd, Bd⟩ rfl rfl .none ?_
  refine asg0 rfl <| done ?_
  refine Wp.seq <| Wp.seq <| reg <| mv0 rfl <| nck0 rfl <| faA0 rfl ?_
  refine faA0 rfl ?_
  refine ldA0 rfl ?_
  refine cmp0 rfl <| done ?_
  refine Wp.cond rfl (fun c1 => ?_) (fun c1 => ?_)
  have nc1 := Nz c1
  refine Wp.seq <| reg <| mv0 rfl <| mv0 rfl <| nck0 rfl <| faA0 rfl ?_
  refine faA0 rfl ?_
  refine ldA0 rfl ?_
  refine mv0 rfl <| clw0 rfl f_killAdd rfl ?_
  refine nck0 rfl <| faA0 rfl ?_
  refine faA0 rfl ?_
  refine stw0 rfl ?_
  refine done ?_
  refine Wp.seq <| reg <| mv0 rfl <| mv0 rfl <| mv0 rfl <| clmw0 0 rfl (f_wlay (x := killE w x (subS l lo hi) 0)) rfl ?_
  refine done ?_
  refine Wp.seq <| reg <| asg0 rfl <| done ?_
  refine Wp.ret ?_
  refine EndsG.one (.inr rfl) (.cons (.tmp rfl FzG.same) <|  .nil) ?_ rfl ?_
  · exact f_wpass_k1
  · exact f_wpass_k2
  have nc1 := Nz c1
  refine Wp.skip <| Wp.seq <| reg <| mv0 rfl <| clmw0 0 rfl (f_wrem Dis Dis Dis) rfl ?_
  refine done ?_
  refine Wp.seq <| Wp.seq <| reg <| mv0 rfl <| nck0 rfl <| faA0 rfl ?_
  refine faA0 rfl ?_
  refine ldA0 rfl ?_
  refine cmp0 rfl <| done ?_
  refine Wp.cond rfl (fun c2 => ?_) (fun c2 => ?_)
  have nc2 := Nz c2
  refine Wp.seq <| reg <| mv0 rfl <| mv0 rfl <| mv0 rfl <| mv0 rfl <| nck0 rfl <| faA0 rfl ?_
  refine faA0 rfl ?_
  refine ldA0 rfl ?_
  refine clw0 rfl (f_change Dis) rfl ?_
  refine mv0 rfl <| xt0 rfl <| xt0 rfl <| asg0 rfl <| asg0 rfl <| done ?_
  refine Wp.seq <| reg <| mv0 rfl <| mv0 rfl <| mv0 rfl <| clmw0 0 rfl (f_wlay (x := remS w x)) rfl ?_
  refine done ?_
  refine Wp.seq <| reg <| asg0 rfl <| done ?_
  refine Wp.ret ?_
  refine EndsG.one (.inr rfl) (.cons (.tmp rfl FzG.same) <|  .nil) ?_ rfl ?_
  · exact f_wpass_k1
  · exact f_wpass_k2
  have nc2 := Nz c2
  refine Wp.skip <| Wp.seq <| Wp.seq <| reg <| mv0 rfl <| nck0 rfl <| faA0 rfl ?_
  refine faA0 rfl ?_
  refine ldA0 rfl ?_
  refine cmp0 rfl <| done ?_
  refine Wp.cond rfl (fun c3 => ?_) (fun c3 => ?_)
  have nc3 := Nz c3
  refine Wp.seq <| reg <| asg0 rfl <| done ?_
  refine Wp.seq <| Wp.block <| Wp.seq <| reg <| mv0 rfl <| nck0 rfl <| faA0 rfl ?_
  refine faA0 rfl ?_
  refine ldA0 rfl ?_
  refine cmp0 rfl <| asg0 rfl <| done ?_
  refine Wp.cond rfl (fun c4 => ?_) (fun c4 => ?_)
  have nc4 := Nz c4
  refine Wp.skip <| Wp.seq <| reg <| mv0 rfl <| mv0 rfl <| nck0 rfl <| faA0 rfl ?_
  refine faA0 rfl ?_
  refine ldA0 rfl ?_
  refine mv0 rfl <| mv0 rfl <| clw0 rfl f_killAdd rfl ?_
  refine nck0 rfl <| faA0 rfl ?_
  refine faA0 rfl ?_
  refine stw0 rfl ?_
  refine done ?_
  refine reg <| mv0 rfl <| nck0 rfl <| faA0 rfl ?_
  refine faA0 rfl ?_
  refine stw0 rfl ?_
  refine done ?_
  refine Wp.seq <| regd mixed ?_
  refine mv0 rfl <| mv0 rfl <| mv0 rfl <| sl2M (0) (lo.toNat) (l.take lo.toNat) rfl rfl rfl Og Og ⟨Bd, Bd⟩ (by simp) rfl .none ?_
  refine mv0 rfl <| mv0 rfl <| sl2M (hi.toNat) (l.length) (l.drop hi.toNat) rfl rfl rfl Og Og ⟨Bd, Bd⟩ (by simp) rfl .none ?_
  refine bsM0 rowC [l.take lo.toNat, l.drop hi.toNat] rfl ?_
  refine clw0 rfl (FnO.toP (f_concat (by simp only [List.flatten_cons, List.flatten_nil, List.length_append, List.length_take, List.length_drop, List.length_nil]; omega))) rfl ?_
  refine mv0 rfl ?_
  first | refine clmw0 0 rfl (f_wlay (x := remS w x)) rfl ?_ | refine clmw0 0 rfl (f_wlay (x := cutE w x (subS l lo hi) 0)) rfl ?_ | refine clmw0 0 rfl (f_wlay (x := cutE w x (subS l lo hi) 1)) rfl ?_ | refine clmw0 0 rfl (f_wlay (x := cutE w x (subS l lo hi) (-1))) rfl ?_
  refine done ⟨by kernel_rfl, by kernel_rfl, ?_⟩
  refine Wp.seq <| reg <| asg0 rfl <| done ?_
  refine Wp.ret ?_
  refine EndsG.one (.inr rfl) (.cons (.tmp rfl FzG.same) <|  .nil) ?_ rfl ?_
  · exact f_wpass_k1
  · exact f_wpass_k2
  have nc4 := Nz c4
  refine Wp.seq <| reg <| mv0 rfl <| asg0 rfl <| done ?_
  refine Wp.cond rfl (fun c5 => ?_) (fun c5 => ?_)
  have nc5 := Nz c5
  refine reg <| asg0 rfl <| done ?_
  refine Wp.seq <| reg <| mv0 rfl <| mv0 rfl <| nck0 rfl <| faA0 rfl ?_
  refine faA0 rfl ?_
  refine ldA0 rfl ?_
  refine mv0 rfl <| mv0 rfl <| clw0 rfl f_killAdd rfl ?_
  refine nck0 rfl <| faA0 rfl ?_
  refine faA0 rfl ?_
  refine stw0 rfl ?_
  refine done ?_
  refine reg <| mv0 rfl <| nck0 rfl <| faA0 rfl ?_
  refine faA0 rfl ?_
  refine stw0 rfl ?_
  refine done ?_
  refine Wp.seq <| regd mixed ?_
  refine mv0 rfl <| mv0 rfl <| mv0 rfl <| sl2M (0) (lo.toNat) (l.take lo.toNat) rfl rfl rfl Og Og ⟨Bd, Bd⟩ (by simp) rfl .none ?_
  refine mv0 rfl <| mv0 rfl <| sl2M (hi.toNat) (l.length) (l.drop hi.toNat) rfl rfl rfl Og Og ⟨Bd, Bd⟩ (by simp) rfl .none ?_
  refine bsM0 rowC [l.take lo.toNat, l.drop hi.toNat] rfl ?_
  refine clw0 rfl (FnO.toP (f_concat (by simp only [List.flatten_cons, List.flatten_nil, List.length_append, List.length_take, List.length_drop, List.length_nil]; omega))) rfl ?_
  refine mv0 rfl ?_
  first | refine clmw0 0 rfl (f_wlay (x := remS w x)) rfl ?_ | refine clmw0 0 rfl (f_wlay (x := cutE w x (subS l lo hi) 0)) rfl ?_ | refine clmw0 0 rfl (f_wlay (x := cutE w x (subS l lo hi) 1)) rfl ?_ | refine clmw0 0 rfl (f_wlay (x := cutE w x (subS l lo hi) (-1))) rfl ?_
  refine done ⟨by kernel_rfl, by kernel_rfl, ?_⟩
  refine Wp.seq <| reg <| asg0 rfl <| done ?_
  refine Wp.ret ?_
  refine EndsG.one (.inr rfl) (.cons (.tmp rfl FzG.same) <|  .nil) ?_ rfl ?_
  · exact f_wpass_k1
  · exact f_wpass_k2
  have nc5 := Nz c5
  refine reg <| asg0 rfl <| done ?_
  refine Wp.seq <| reg <| mv0 rfl <| mv0 rfl <| nck0 rfl <| faA0 rfl ?_
  refine faA0 rfl ?_
  refine ldA0 rfl ?_
  refine mv0 rfl <| mv0 rfl <| clw0 rfl f_killAdd rfl ?_
  refine nck0 rfl <| faA0 rfl ?_
  refine faA0 rfl ?_
  refine stw0 rfl ?_
  refine done ?_
  refine reg <| mv0 rfl <| nck0 rfl <| faA0 rfl ?_
  refine faA0 rfl ?_
  refine stw0 rfl ?_
  refine done ?_
  refine Wp.seq <| regd mixed ?_
  refine mv0 rfl <| mv0 rfl <| mv0 rfl <| sl2M (0) (lo.toNat) (l.take lo.toNat) rfl rfl rfl Og Og ⟨Bd, Bd⟩ (by simp) rfl .none ?_
  refine mv0 rfl <| mv0 rfl <| sl2M (hi.toNat) (l.length) (l.drop hi.toNat) rfl rfl rfl Og Og ⟨Bd, Bd⟩ (by simp) rfl .none ?_
  refine bsM0 rowC [l.take lo.toNat, l.drop hi.toNat] rfl ?_
  refine clw0 rfl (FnO.toP (f_concat (by simp only [List.flatten_cons, List.flatten_nil, List.length_append, List.length_take, List.length_drop, List.length_nil]; omega))) rfl ?_
  refine mv0 rfl ?_
  first | refine clmw0 0 rfl (f_wlay (x := remS w x)) rfl ?_ | refine clmw0 0 rfl (f_wlay (x := cutE w x (subS l lo hi) 0)) rfl ?_ | refine clmw0 0 rfl (f_wlay (x := cutE w x (subS l lo hi) 1)) rfl ?_ | refine clmw0 0 rfl (f_wlay (x := cutE w x (subS l lo hi) (-1))) rfl ?_
  refine done ⟨by kernel_rfl, by kernel_rfl, ?_⟩
  refine Wp.seq <| reg <| asg0 rfl <| done ?_
  refine Wp.ret ?_
  refine EndsG.one (.inr rfl) (.cons (.tmp rfl FzG.same) <|  .nil) ?_ rfl ?_
  · exact f_wpass_k1
  · exact f_wpass_k2
  have nc3 := Nz c3
  refine Wp.skip <| Wp.seq <| regd mixed ?_
  refine mv0 rfl <| mv0 rfl <| mv0 rfl <| sl2M (0) (lo.toNat) (l.take lo.toNat) rfl rfl rfl Og Og ⟨Bd, Bd⟩ (by simp) rfl .none ?_
  refine mv0 rfl <| mv0 rfl <| sl2M (hi.toNat) (l.length) (l.drop hi.toNat) rfl rfl rfl Og Og ⟨Bd, Bd⟩ (by simp) rfl .none ?_
  refine bsM0 rowC [l.take lo.toNat, l.drop hi.toNat] rfl ?_
  refine clw0 rfl (FnO.toP (f_concat (by simp only [List.flatten_cons, List.flatten_nil, List.length_append, List.length_take, List.length_drop, List.length_nil]; omega))) rfl ?_
  refine mv0 rfl ?_
  first | refine clmw0 0 rfl (f_wlay (x := remS w x)) rfl ?_ | refine clmw0 0 rfl (f_wlay (x := cutE w x (subS l lo hi) 0)) rfl ?_ | refine clmw0 0 rfl (f_wlay (x := cutE w x (subS l lo hi) 1)) rfl ?_ | refine clmw0 0 rfl (f_wlay (x := cutE w x (subS l lo hi) (-1))) rfl ?_
  refine done ⟨by kernel_rfl, by kernel_rfl, ?_⟩
  refine Wp.seq <| reg <| asg0 rfl <| done ?_
  refine Wp.ret ?_
  refine EndsG.one (.inr rfl) (.cons (.tmp rfl FzG.same) <|  .nil) ?_ rfl ?_
  · exact f_wpass_k1
  · exact f_wpass_k2

theorem f_wmove_k1 {p : Prop} (h : p := by
    try have hon : decide ((w.g.a.length : Int) < (targetS (w.g.a ++ w.g.b) w.g.a.length a.move n).1 ∨ a.move = 10) = true := decide_eq_true (.inl (by omega))
    unfold moveS moveT; first | (rw [if_pos (by omega), if_pos (by omega)]; rfl) | (rw [if_pos (by omega), if_neg (by omega)]; rfl) | (rw [if_neg (by omega), ← hx, if_pos (by omega)]; rfl) | (rw [if_neg (by omega), ← hx, if_neg (by omega), hon]; rfl)) : p := h
theorem f_wmove_k2 {p : Prop} (h : p := by
    try have hon : decide ((w.g.a.length : Int) < (targetS (w.g.a ++ w.g.b) w.g.a.length a.move n).1 ∨ a.move = 10) = true := decide_eq_true (.inl (by omega))
    unfold moveS moveT; first | (rw [if_pos (by omega), if_pos (by omega)]; exact .of_eq rfl) | (rw [if_pos (by omega), if_neg (by omega)]; exact .of_eq rfl) | (rw [if_neg (by omega), ← hx, if_pos (by omega)]; exact .of_eq rfl) | (rw [if_neg (by omega), ← hx, if_neg (by omega), hon]; exact .of_eq rfl)) : p := h
set_option maxRecDepth 20000 in
theorem f_wmove {w x : Edit} {a : ActE} {n : Int} (hu : ∀ g ∈ w.u, g.sm) (h1 : w.g.a.length ≤ 1000) (h2 : w.g.b.length ≤ 1000) : FnG PP 132 [.ptr 0 0] [(0, .cells 159 (workC w x a n))] (.int .i64 (moveS w x a n).2) [(0, .cells 159 (workC w (moveS w x a n).1 a n))] [0] := by
  refine FnG.of_body 1 Tryz.func132 rfl (by kernel_rfl) rfl rfl rfl ?_
  refine Wp.seq <| reg <| asg0 rfl <| done ?_
  refine Wp.seq <| reg <| mv0 rfl <| nck0 rfl <| faA0 rfl ?_
  refine faA0 rfl ?_
  refine ldA0 rfl ?_
  refine clw0 rfl (FnO.toP (f_textO Dis Dis)) rfl ?_
  refine asg0 rfl <| done ?_
  refine Wp.seq <| reg <| mv0 rfl <| nck0 rfl <| faA0 rfl ?_
  refine faA0 rfl ?_
  refine faA0 rfl ?_
  refine ldA0 rfl ?_
  first | refine lnM0 rfl ?_ | refine lns0 rfl ?_ | refine ln0 rfl ?_
  refine asg0 rfl <| done ?_
  refine Wp.seq <| regd mixed ?_
  refine mv0 rfl <| mv0 rfl <| mv0 rfl <| nck0 rfl <| faA0 rfl ?_
  refine faA0 rfl ?_
  refine ldA0 rfl ?_
  refine mv0 rfl <| nck0 rfl <| faA0 rfl ?_
  refine ldA0 rfl ?_
  refine clw0 rfl (f_target (by simp only [List.length_append]; omega)) rfl ?_
  refine mv0 rfl <| xt0 rfl <| xt0 rfl <| asg0 rfl <| asg0 rfl ?_
  refine done ⟨by kernel_rfl, by kernel_rfl, ?_⟩
  refine Wp.seq <| Wp.seq <| reg ?_
  have ht := target_le (w.g.a ++ w.g.b) w.g.a.length a.move n (by simp only [List.length_append]; omega); simp only [List.length_append] at ht
  refine mv0 rfl <| nck0 rfl <| faA0 rfl ?_
  refine faA0 rfl ?_
  refine ldA0 rfl ?_
  refine cmp0 rfl <| done ?_
  refine Wp.cond rfl (fun c1 => ?_) (fun c1 => ?_)
  have nc1 := Nz c1
  refine Wp.seq <| Wp.seq <| reg <| mv0 rfl <| mv0 rfl <| cmp0 rfl <| done ?_
  refine Wp.cond rfl (fun c2 => ?_) (fun c2 => ?_)
  have nc2 := Nz c2
  refine Wp.seq <| reg <| asg0 rfl <| done ?_
  refine Wp.ret ?_
  refine EndsG.one (.inr rfl) (.cons (.tmp rfl FzG.same) <|  .nil) ?_ rfl ?_
  · exact f_wmove_k1
  · exact f_wmove_k2
  have nc2 := Nz c2
  refine Wp.skip <| Wp.seq <| reg <| mv0 rfl <| mv0 rfl <| nck0 rfl <| faA0 rfl ?_
  refine faA0 rfl ?_
  refine ldA0 rfl ?_
  refine mv0 rfl <| clw0 rfl (f_go Dis Dis) rfl ?_
  refine nck0 rfl <| faA0 rfl ?_
  refine faA0 rfl ?_
  refine stw0 rfl ?_
  refine done ?_
  refine Wp.seq <| reg <| asg0 rfl <| done ?_
  refine Wp.ret ?_
  refine EndsG.one (.inr rfl) (.cons (.tmp rfl FzG.same) <|  .nil) ?_ rfl ?_
  · exact f_wmove_k1
  · exact f_wmove_k2
  have nc1 := Nz c1
  refine Wp.skip <| Wp.seq <| reg <| mv0 rfl <| mv0 rfl <| mn0 rfl ?_
  refine mv0 rfl <| mv0 rfl <| mx0 rfl ?_
  refine asg0 rfl <| asg0 rfl <| done ?_
  refine Wp.cutK (α := Int × Int) [0, 3, 4, 5] [0] (fun x tl => (7, .int .i64 x.1) :: (8, .int .i64 x.2) :: tl) (fun x tl => tl) (fun x => x = spanS (w.g.a ++ w.g.b) w.g.a.length (targetS (w.g.a ++ w.g.b) w.g.a.length a.move n).1 a.move) rfl rfl ?_ ?_
  refine Wp.block <| Wp.seq <| reg <| mv0 rfl <| nck0 rfl <| faA0 rfl ?_
  refine faA0 rfl ?_
  refine ldA0 rfl ?_
  refine cmp0 rfl <| asg0 rfl <| done ?_
  refine Wp.cond rfl (fun c3 => ?_) (fun c3 => ?_)
  have nc3 := Nz c3
  refine reg <| mv0 rfl ?_
  first | refine lnM0 rfl ?_ | refine lns0 rfl ?_ | refine ln0 rfl ?_
  refine asg0 rfl <| asg0 rfl <| done ?_
  first | exact ⟨(0, (((w.g.a ++ w.g.b).length : Nat) : Int)), (if_pos (by omega)).symm, Rp, Rp, rfl⟩ | exact ⟨(_, _), ((if_neg (by omega)).trans (if_pos (by omega))).symm, Rp, Rp, rfl⟩ | exact ⟨(_, _), ((if_neg (by omega)).trans (if_neg (by omega))).symm, Rp, Rp, rfl⟩
  have nc3 := Nz c3
  refine Wp.seq <| reg <| mv0 rfl <| nck0 rfl <| faA0 rfl ?_
  refine faA0 rfl ?_
  refine ldA0 rfl ?_
  refine cmp0 rfl <| mv0 rfl ?_
  refine bcase 79 rfl (fun h79 => ?_) (fun h79 => ?_)
  have nh79 := Nz h79
  refine mv1 rfl h79 rfl <| mv1 rfl h79 rfl <| cmp1 rfl h79 rfl <| pkt0 rfl h79 <| asg0 rfl <| done ?_
  refine Wp.cond rfl (fun c4 => ?_) (fun c4 => ?_)
  have nc4 := Nz c4
  refine reg <| mv0 rfl <| ar0 rfl (wrapI Bd) <| mv0 rfl ?_
  first | refine lnM0 rfl ?_ | refine lns0 rfl ?_ | refine ln0 rfl ?_
  refine mn0 rfl ?_
  refine asg0 rfl <| done ?_
  first | exact ⟨(0, (((w.g.a ++ w.g.b).length : Nat) : Int)), (if_pos (by omega)).symm, Rp, Rp, rfl⟩ | exact ⟨(_, _), ((if_neg (by omega)).trans (if_pos (by omega))).symm, Rp, Rp, rfl⟩ | exact ⟨(_, _), ((if_neg (by omega)).trans (if_neg (by omega))).symm, Rp, Rp, rfl⟩
  have nc4 := Nz c4
  refine Wp.skip ?_
  first | exact ⟨(0, (((w.g.a ++ w.g.b).length : Nat) : Int)), (if_pos (by omega)).symm, Rp, Rp, rfl⟩ | exact ⟨(_, _), ((if_neg (by omega)).trans (if_pos (by omega))).symm, Rp, Rp, rfl⟩ | exact ⟨(_, _), ((if_neg (by omega)).trans (if_neg (by omega))).symm, Rp, Rp, rfl⟩
  have nh79 := Nz h79
  refine sk0 rfl h79 <| sk0 rfl h79 <| sk0 rfl h79 <| pkf0 rfl h79 <| asg0 rfl <| done ?_
  refine Wp.condF rfl rfl <| Wp.skip ?_
  first | exact ⟨(0, (((w.g.a ++ w.g.b).length : Nat) : Int)), (if_pos (by omega)).symm, Rp, Rp, rfl⟩ | exact ⟨(_, _), ((if_neg (by omega)).trans (if_pos (by omega))).symm, Rp, Rp, rfl⟩ | exact ⟨(_, _), ((if_neg (by omega)).trans (if_neg (by omega))).symm, Rp, Rp, rfl⟩
  intro x hx
  skip
  refine Wp.seq <| Wp.seq <| reg <| mv0 rfl <| mv0 rfl <| cmp0 rfl <| done ?_
  refine Wp.cond rfl (fun c5 => ?_) (fun c5 => ?_)
  have nc5 := Nz c5
  refine Wp.seq <| reg <| asg0 rfl <| done ?_
  refine Wp.ret ?_
  refine EndsG.one (.inr rfl) (.cons (.tmp rfl FzG.same) <|  .nil) ?_ rfl ?_
  · exact f_wmove_k1
  · exact f_wmove_k2
  have nc5 := Nz c5
  refine Wp.skip <| Wp.seq <| reg ?_
  have hsp := span_le (w.g.a ++ w.g.b) w.g.a.length (targetS (w.g.a ++ w.g.b) w.g.a.length a.move n).1 a.move (by simp only [List.length_append]; omega) (by simp only [List.length_append]; omega); rw [← hx] at hsp; simp only [List.length_append] at hsp
  refine mv0 rfl <| mv0 rfl <| mv0 rfl <| mv0 rfl <| mv0 rfl <| mv0 rfl <| cmp0 rfl <| mv0 rfl ?_
  refine bcase 99 rfl (fun h99 => ?_) (fun h99 => ?_)
  have nh99 := Nz h99
  refine sk0 rfl h99 <| sk0 rfl h99 <| sk0 rfl h99 <| sk0 rfl h99 <| sk0 rfl h99 <| sk0 rfl h99 <| pkt0 rfl h99 ?_
  first | refine clmw0 0 rfl (f_wpass (on := true) hu h1 h2 (by simp only [List.length_append]; omega) (by omega) (by omega) (by simp only [List.length_append]; omega)) rfl ?_ | refine clmw0 0 rfl (f_wpass hu h1 h2 (by simp only [List.length_append]; omega) (by omega) (by omega) (by simp only [List.length_append]; omega)) rfl ?_
  refine asg0 rfl <| done ?_
  refine Wp.ret ?_
  refine EndsG.one (.inr rfl) (.cons (.tmp rfl FzG.same) <|  .nil) ?_ rfl ?_
  · exact f_wmove_k1
  · exact f_wmove_k2
  have nh99 := Nz h99
  have hon : decide ((w.g.a.length : Int) < (targetS (w.g.a ++ w.g.b) w.g.a.length a.move n).1 ∨ a.move = 10) = (a.move == 10) := by rw [Bool.eq_iff_iff]; simp; omega
  refine mv1 rfl h99 rfl <| nck1 rfl h99 rfl <| faA1 rfl h99 rfl ?_
  refine faA1 rfl h99 rfl ?_
  refine ldA1 rfl h99 rfl ?_
  refine cmp1 rfl h99 rfl <| pkf0 rfl h99 ?_
  first | refine clmw0 0 rfl (f_wpass (on := true) hu h1 h2 (by simp only [List.length_append]; omega) (by omega) (by omega) (by simp only [List.length_append]; omega)) rfl ?_ | refine clmw0 0 rfl (f_wpass hu h1 h2 (by simp only [List.length_append]; omega) (by omega) (by omega) (by simp only [List.length_append]; omega)) rfl ?_
  refine asg0 rfl <| done ?_
  refine Wp.ret ?_
  refine EndsG.one (.inr rfl) (.cons (.tmp rfl FzG.same) <|  .nil) ?_ rfl ?_
  · exact f_wmove_k1
  · exact f_wmove_k2

theorem f_editDo_k1 {p : Prop} (h : p := by
    first | (have _h := e1; unfold doD doS; first | (rw [if_neg (by simp [e1, e2, e3]), show actsS ⟨⟨p, q⟩, k, u, la, tu, si⟩ ⟨kd, mo, op, r⟩ n = moveS ⟨⟨p, q⟩, k, u, la, tu, si⟩ ⟨⟨p, q⟩, k, u, 0, 0, 0⟩ ⟨kd, mo, op, r⟩ n from by unfold actsS; rw [if_neg (by omega), if_neg (by omega), if_neg (by omega), if_neg (by omega), if_neg (by omega)]]; first | (rw [if_pos (by assumption)]; rfl) | (rw [if_neg (by omega)]; rfl)) | (rw [if_neg (by simp [e1, e2, e3]), show actsS ⟨⟨p, q⟩, k, u, la, tu, si⟩ ⟨kd, mo, op, r⟩ n = insertS ⟨⟨p, q⟩, k, u, la, tu, si⟩ ⟨⟨p, q⟩, k, u, 0, 0, 0⟩ r n from by unfold actsS; rw [if_pos (by omega)]]; first | (rw [if_pos (by assumption)]; rfl) | (rw [if_neg (by omega)]; rfl)) | (rw [if_neg (by simp [e1, e2, e3]), show actsS ⟨⟨p, q⟩, k, u, la, tu, si⟩ ⟨kd, mo, op, r⟩ n = yankS ⟨⟨p, q⟩, k, u, la, tu, si⟩ ⟨⟨p, q⟩, k, u, 0, 0, 0⟩ from by unfold actsS; rw [if_neg (by omega), if_pos (by omega)]]; first | (rw [if_pos (by assumption)]; rfl) | (rw [if_neg (by omega)]; rfl)) | (rw [if_neg (by simp [e1, e2, e3]), show actsS ⟨⟨p, q⟩, k, u, la, tu, si⟩ ⟨kd, mo, op, r⟩ n = popE ⟨⟨p, q⟩, k, u, la, tu, si⟩ ⟨⟨p, q⟩, k, u, 0, 0, 0⟩ from by unfold actsS; rw [if_neg (by omega), if_neg (by omega), if_pos (by omega)]]; first | (rw [if_pos (by assumption)]; rfl) | (rw [if_neg (by omega)]; rfl)) | (rw [if_neg (by simp [e1, e2, e3]), show actsS ⟨⟨p, q⟩, k, u, la, tu, si⟩ ⟨kd, mo, op, r⟩ n = backS ⟨⟨p, q⟩, k, u, la, tu, si⟩ ⟨⟨p, q⟩, k, u, 0, 0, 0⟩ from by unfold actsS; rw [if_neg (by omega), if_neg (by omega), if_neg (by omega), if_pos (by omega)]]; first | (rw [if_pos (by assumption)]; rfl) | (rw [if_neg (by omega)]; rfl)) | (rw [if_neg (by simp [e1, e2, e3]), show actsS ⟨⟨p, q⟩, k, u, la, tu, si⟩ ⟨kd, mo, op, r⟩ n = swapE ⟨⟨p, q⟩, k, u, la, tu, si⟩ ⟨⟨p, q⟩, k, u, 0, 0, 0⟩ from by unfold actsS; rw [if_neg (by omega), if_neg (by omega), if_neg (by omega), if_neg (by omega), if_pos (by omega)]]; first | (rw [if_pos (by assumption)]; rfl) | (rw [if_neg (by omega)]; rfl))) | (unfold doD doS; split <;> first | rfl | (exfalso; omega) | (exfalso; simp_all; done) | (exfalso; simp_all [knownB]; done) | (exfalso; simp_all [knownB] <;> omega))) : p := h
set_option maxRecDepth 20000 in
theorem f_editDo {p q : List Int} {k : List (List Int)} {u : List Gap} {la tu si kd mo op r n : Int} (hu : ∀ g ∈ u, g.sm) (h1 : p.length ≤ 1000000) (h2 : q.length ≤ 1000000) : FnP PP 90 [.agg [rl p, rl q, rlL k, gpL u, .int .i64 la, .int .i64 tu, .int .i64 si], .agg [.int .i64 kd, .int .i64 mo, .int .i64 op, .int .i32 r], .int .i64 n] (doD (doS ⟨⟨p, q⟩, k, u, la, tu, si⟩ ⟨kd, mo, op, r⟩ n)) := by
  refine FnP.of_body Tryz.func90 rfl (by kernel_rfl) rfl ?_
  refine Wp.seq <| reg <| bx0 67 rfl ?_
  refine bx0 68 rfl ?_
  refine al0 70 rfl ?_
  refine asg0 rfl <| done ?_
  refine Wp.seq <| Wp.seq <| reg <| ldA0 rfl ?_
  refine clw0 rfl (f_editIs Dis Dis Dis) rfl ?_
  refine nt0 rfl <| mv0 rfl ?_
  refine bcase 14 rfl (fun h14 => ?_) (fun h14 => ?_)
  have nh14 := Nz h14
  refine sk0 rfl h14 <| sk0 rfl h14 <| sk0 rfl h14 <| pkt0 rfl h14 <| mv0 rfl <| sk0 rfl rfl <| sk0 rfl rfl <| sk0 rfl rfl <| pkt0 rfl rfl <| mv0 rfl <| sk0 rfl rfl <| sk0 rfl rfl <| sk0 rfl rfl <| pkt0 rfl rfl <| done ?_
  refine Wp.condT rfl rfl <| Wp.seq <| reg <| bdw0 rfl ?_
  refine stw0 rfl ?_
  refine asg0 rfl <| done ?_
  refine Wp.ret ?_
  refine Ends.ret (.cons (.cell rfl rfl rfl (Nat.le_of_ble_eq_true rfl) (Fz.wk rfl)) <| .cons (.tmp rfl (Fz.pure rfl)) <|  .nil) ?_
  exact f_editDo_k1
  have nh14 := Nz h14
  refine mv1 rfl h14 rfl <| clw1 rfl h14 rfl f_counts rfl ?_
  refine nt1 rfl h14 rfl <| pkf0 rfl h14 <| mv0 rfl ?_
  refine bcase 19 rfl (fun h19 => ?_) (fun h19 => ?_)
  have nh19 := Nz h19
  refine sk0 rfl h19 <| sk0 rfl h19 <| sk0 rfl h19 <| pkt0 rfl h19 <| mv0 rfl <| sk0 rfl rfl <| sk0 rfl rfl <| sk0 rfl rfl <| pkt0 rfl rfl <| done ?_
  refine Wp.condT rfl rfl <| Wp.seq <| reg <| bdw0 rfl ?_
  refine stw0 rfl ?_
  refine asg0 rfl <| done ?_
  refine Wp.ret ?_
  refine Ends.ret (.cons (.cell rfl rfl rfl (Nat.le_of_ble_eq_true rfl) (Fz.wk rfl)) <| .cons (.tmp rfl (Fz.pure rfl)) <|  .nil) ?_
  exact f_editDo_k1
  have nh19 := Nz h19
  refine faA1 rfl h19 rfl ?_
  refine ldA1 rfl h19 rfl ?_
  refine cmp1 rfl h19 rfl <| pkf0 rfl h19 <| mv0 rfl ?_
  refine bcase 24 rfl (fun h24 => ?_) (fun h24 => ?_)
  have nh24 := Nz h24
  refine sk0 rfl h24 <| sk0 rfl h24 <| sk0 rfl h24 <| pkt0 rfl h24 <| done ?_
  refine Wp.condT rfl rfl <| Wp.seq <| reg <| bdw0 rfl ?_
  refine stw0 rfl ?_
  refine asg0 rfl <| done ?_
  refine Wp.ret ?_
  refine Ends.ret (.cons (.cell rfl rfl rfl (Nat.le_of_ble_eq_true rfl) (Fz.wk rfl)) <| .cons (.tmp rfl (Fz.pure rfl)) <|  .nil) ?_
  exact f_editDo_k1
  have nh24 := Nz h24
  refine faA1 rfl h24 rfl ?_
  refine ldA1 rfl h24 rfl ?_
  refine cmp1 rfl h24 rfl <| pkf0 rfl h24 <| done ?_
  refine Wp.cond rfl (fun c1 => ?_) (fun c1 => ?_)
  have nc1 := Nz c1
  refine Wp.seq <| reg <| bdw0 rfl ?_
  refine stw0 rfl ?_
  refine asg0 rfl <| done ?_
  refine Wp.ret ?_
  refine Ends.ret (.cons (.cell rfl rfl rfl (Nat.le_of_ble_eq_true rfl) (Fz.wk rfl)) <| .cons (.tmp rfl (Fz.pure rfl)) <|  .nil) ?_
  exact f_editDo_k1
  have nc1 := Nz c1
  refine Wp.skip ?_
  refine Wp.cutK (α := Unit) [2] [67, 68, 70] (fun x tl => (3, .ptr 67 0) :: (4, .ptr 68 0) :: (6, .ptr 70 0) :: tl) (fun x tl => tl) (fun x => editIs ⟨⟨p, q⟩, k, u, la, tu, si⟩ = true ∧ countsB n = true ∧ knownB ⟨kd, mo, op, r⟩ = true) rfl rfl ?_ ?_
  refine Wp.seq <| reg <| faA0 rfl ?_
  refine ldA0 rfl ?_
  refine cmp0 rfl <| mv0 rfl ?_
  refine bcase 33 rfl (fun h33 => ?_) (fun h33 => ?_)
  have nh33 := Nz h33
  refine faA1 rfl h33 rfl ?_
  refine ldA1 rfl h33 rfl ?_
  refine cmp1 rfl h33 rfl <| mv1 rfl h33 rfl ?_
  refine bcase 37 rfl (fun h37 => ?_) (fun h37 => ?_)
  have nh37 := Nz h37
  refine sk0 rfl h37 <| sk0 rfl h37 <| sk0 rfl h37 <| pkt1 rfl h33 rfl h37 <| mv1 rfl h33 rfl <| sk0 rfl rfl <| sk0 rfl rfl <| sk0 rfl rfl <| pkt1 rfl h33 rfl rfl <| mv1 rfl h33 rfl <| sk0 rfl rfl <| sk0 rfl rfl <| sk0 rfl rfl <| pkt1 rfl h33 rfl rfl <| pkt0 rfl h33 <| mv0 rfl <| sk0 rfl rfl <| sk0 rfl rfl <| sk0 rfl rfl <| sk0 rfl rfl <| sku0 rfl <| sku0 rfl <| sku0 rfl <| sku0 rfl <| sk0 rfl rfl <| pkt0 rfl rfl <| done ?_
  refine Wp.condT rfl rfl <| Wp.seq <| reg <| bdw0 rfl ?_
  refine stw0 rfl ?_
  refine asg0 rfl <| done ?_
  refine Wp.ret ?_
  refine Ends.ret (.cons (.cell rfl rfl rfl (Nat.le_of_ble_eq_true rfl) (Fz.wk rfl)) <| .cons (.tmp rfl (Fz.pure rfl)) <|  .nil) ?_
  exact f_editDo_k1
  have nh37 := Nz h37
  refine faA1 rfl h37 rfl ?_
  refine ldA1 rfl h37 rfl ?_
  refine cmp1 rfl h37 rfl <| pkf1 rfl h33 rfl h37 <| mv1 rfl h33 rfl ?_
  refine bcase 42 rfl (fun h42 => ?_) (fun h42 => ?_)
  have nh42 := Nz h42
  refine sk0 rfl h42 <| sk0 rfl h42 <| sk0 rfl h42 <| pkt1 rfl h33 rfl h42 <| mv1 rfl h33 rfl <| sk0 rfl rfl <| sk0 rfl rfl <| sk0 rfl rfl <| pkt1 rfl h33 rfl rfl <| pkt0 rfl h33 <| mv0 rfl <| sk0 rfl rfl <| sk0 rfl rfl <| sk0 rfl rfl <| sk0 rfl rfl <| sku0 rfl <| sku0 rfl <| sku0 rfl <| sku0 rfl <| sk0 rfl rfl <| pkt0 rfl rfl <| done ?_
  refine Wp.condT rfl rfl <| Wp.seq <| reg <| bdw0 rfl ?_
  refine stw0 rfl ?_
  refine asg0 rfl <| done ?_
  refine Wp.ret ?_
  refine Ends.ret (.cons (.cell rfl rfl rfl (Nat.le_of_ble_eq_true rfl) (Fz.wk rfl)) <| .cons (.tmp rfl (Fz.pure rfl)) <|  .nil) ?_
  exact f_editDo_k1
  have nh42 := Nz h42
  refine faA1 rfl h42 rfl ?_
  refine ldA1 rfl h42 rfl ?_
  refine cmp1 rfl h42 rfl <| pkf1 rfl h33 rfl h42 <| mv1 rfl h33 rfl ?_
  refine bcase 47 rfl (fun h47 => ?_) (fun h47 => ?_)
  have nh47 := Nz h47
  refine sk0 rfl h47 <| sk0 rfl h47 <| sk0 rfl h47 <| pkt1 rfl h33 rfl h47 <| pkt0 rfl h33 <| mv0 rfl <| sk0 rfl rfl <| sk0 rfl rfl <| sk0 rfl rfl <| sk0 rfl rfl <| sku0 rfl <| sku0 rfl <| sku0 rfl <| sku0 rfl <| sk0 rfl rfl <| pkt0 rfl rfl <| done ?_
  refine Wp.condT rfl rfl <| Wp.seq <| reg <| bdw0 rfl ?_
  refine stw0 rfl ?_
  refine asg0 rfl <| done ?_
  refine Wp.ret ?_
  refine Ends.ret (.cons (.cell rfl rfl rfl (Nat.le_of_ble_eq_true rfl) (Fz.wk rfl)) <| .cons (.tmp rfl (Fz.pure rfl)) <|  .nil) ?_
  exact f_editDo_k1
  have nh47 := Nz h47
  refine faA1 rfl h47 rfl ?_
  refine ldA1 rfl h47 rfl ?_
  refine cmp1 rfl h47 rfl <| pkf1 rfl h33 rfl h47 <| pkt0 rfl h33 <| mv0 rfl ?_
  refine bcase 53 rfl (fun h53 => ?_) (fun h53 => ?_)
  have nh53 := Nz h53
  refine sk0 rfl h53 <| sk0 rfl h53 <| sk0 rfl h53 <| sk0 rfl h53 <| sku0 rfl <| sku0 rfl <| sku0 rfl <| sku0 rfl <| sk0 rfl h53 <| pkt0 rfl h53 <| done ?_
  refine Wp.condT rfl rfl <| Wp.seq <| reg <| bdw0 rfl ?_
  refine stw0 rfl ?_
  refine asg0 rfl <| done ?_
  refine Wp.ret ?_
  refine Ends.ret (.cons (.cell rfl rfl rfl (Nat.le_of_ble_eq_true rfl) (Fz.wk rfl)) <| .cons (.tmp rfl (Fz.pure rfl)) <|  .nil) ?_
  exact f_editDo_k1
  have nh53 := Nz h53
  refine faA1 rfl h53 rfl ?_
  refine ldA1 rfl h53 rfl ?_
  refine cmp1 rfl h53 rfl <| mv1 rfl h53 rfl ?_
  refine bcase 57 rfl (fun h57 => ?_) (fun h57 => ?_)
  have nh57 := Nz h57
  refine faA1 rfl h57 rfl ?_
  refine ldA1 rfl h57 rfl ?_
  refine clw1 rfl h57 rfl f_glyphIs rfl ?_
  refine nt1 rfl h57 rfl <| pkt1 rfl h53 rfl h57 <| pkf0 rfl h53 <| done ?_
  refine Wp.cond rfl (fun c2 => ?_) (fun c2 => ?_)
  have nc2 := Nz c2
  refine Wp.seq <| reg <| bdw0 rfl ?_
  refine stw0 rfl ?_
  refine asg0 rfl <| done ?_
  refine Wp.ret ?_
  refine Ends.ret (.cons (.cell rfl rfl rfl (Nat.le_of_ble_eq_true rfl) (Fz.wk rfl)) <| .cons (.tmp rfl (Fz.pure rfl)) <|  .nil) ?_
  exact f_editDo_k1
  have nc2 := Nz c2
  refine Wp.skip ?_
  exact ⟨(), ⟨by simp_all, by simp_all, by first | (unfold knownB; simp_all; done) | (unfold knownB; simp_all <;> omega)⟩, Rp, Rp, rfl⟩
  have nh57 := Nz h57
  refine sk0 rfl h57 <| sk0 rfl h57 <| sk0 rfl h57 <| sk0 rfl h57 <| pkf1 rfl h53 rfl h57 <| pkf0 rfl h53 <| done ?_
  refine Wp.condF rfl rfl <| Wp.skip ?_
  exact ⟨(), ⟨by simp_all, by simp_all, by first | (unfold knownB; simp_all; done) | (unfold knownB; simp_all <;> omega)⟩, Rp, Rp, rfl⟩
  have nh33 := Nz h33
  refine sk0 rfl h33 <| sk0 rfl h33 <| sk0 rfl h33 <| sk0 rfl h33 <| sku0 rfl <| sku0 rfl <| sku0 rfl <| sk0 rfl h33 <| sk0 rfl h33 <| sku0 rfl <| sku0 rfl <| sku0 rfl <| sk0 rfl h33 <| sk0 rfl h33 <| sku0 rfl <| sku0 rfl <| sku0 rfl <| sk0 rfl h33 <| pkf0 rfl h33 <| mv0 rfl <| faA1 rfl rfl rfl ?_
  refine ldA1 rfl rfl rfl ?_
  refine cmp1 rfl rfl rfl <| mv1 rfl rfl rfl ?_
  refine bcase 57 rfl (fun h57 => ?_) (fun h57 => ?_)
  have nh57 := Nz h57
  refine faA1 rfl h57 rfl ?_
  refine ldA1 rfl h57 rfl ?_
  refine clw1 rfl h57 rfl f_glyphIs rfl ?_
  refine nt1 rfl h57 rfl <| pkt1 rfl rfl rfl h57 <| pkf0 rfl rfl <| done ?_
  refine Wp.cond rfl (fun c3 => ?_) (fun c3 => ?_)
  have nc3 := Nz c3
  refine Wp.seq <| reg <| bdw0 rfl ?_
  refine stw0 rfl ?_
  refine asg0 rfl <| done ?_
  refine Wp.ret ?_
  refine Ends.ret (.cons (.cell rfl rfl rfl (Nat.le_of_ble_eq_true rfl) (Fz.wk rfl)) <| .cons (.tmp rfl (Fz.pure rfl)) <|  .nil) ?_
  exact f_editDo_k1
  have nc3 := Nz c3
  refine Wp.skip ?_
  exact ⟨(), ⟨by simp_all, by simp_all, by first | (unfold knownB; simp_all; done) | (unfold knownB; simp_all <;> omega)⟩, Rp, Rp, rfl⟩
  have nh57 := Nz h57
  refine sk0 rfl h57 <| sk0 rfl h57 <| sk0 rfl h57 <| sk0 rfl h57 <| pkf1 rfl rfl rfl h57 <| pkf0 rfl rfl <| done ?_
  refine Wp.condF rfl rfl <| Wp.skip ?_
  exact ⟨(), ⟨by simp_all, by simp_all, by first | (unfold knownB; simp_all; done) | (unfold knownB; simp_all <;> omega)⟩, Rp, Rp, rfl⟩
  intro x hx
  obtain ⟨e1, e2, e3⟩ := hx; obtain ⟨hu, h1, h2, h3⟩ := editIs_sm e1; have hn := counts_le e2; have hkd := known_kind e3
  refine Wp.seq <| reg <| ldA0 rfl ?_
  refine faA0 rfl ?_
  refine ldA0 rfl ?_
  refine faA0 rfl ?_
  refine ldA0 rfl ?_
  refine faA0 rfl ?_
  refine ldA0 rfl ?_
  refine bdw0 rfl ?_
  refine ldA0 rfl ?_
  refine mv0 rfl <| bdw0 rfl ?_
  refine bx0 0 rfl ?_
  refine asg0 rfl <| done ?_
  refine Wp.seq <| reg <| mv0 rfl <| mkb0 rfl ?_
  refine asg0 rfl <| done ?_
  refine Wp.seq <| Wp.seq <| reg <| faA0 rfl ?_
  refine ldA0 rfl ?_
  refine done ?_
  refine Wp.block <| Wp.seq <| reg <| cmp0 rfl <| asg0 rfl <| done ?_
  refine Wp.cond rfl (fun c4 => ?_) (fun c4 => ?_)
  have nc4 := Nz c4
  refine reg <| mv0 rfl <| mkb0 rfl ?_
  refine asg0 rfl <| done ?_
  refine Wp.seq <| Wp.seq <| reg <| mv0 rfl ?_
  first | refine clb 0 rfl rfl (f_wmove (w := ⟨⟨p, q⟩, k, u, la, tu, si⟩) (x := ⟨⟨p, q⟩, k, u, 0, 0, 0⟩) (a := ⟨kd, mo, op, r⟩) (n := n) hu h1 h2) rfl rfl .none ?_ | refine clb 0 rfl rfl (f_winsert (w := ⟨⟨p, q⟩, k, u, la, tu, si⟩) (x := ⟨⟨p, q⟩, k, u, 0, 0, 0⟩) (a := ⟨kd, mo, op, r⟩) (n := n) hu h1 h2 (by omega)) rfl rfl .none ?_ | refine clb 0 rfl rfl (f_wyank (w := ⟨⟨p, q⟩, k, u, la, tu, si⟩) (x := ⟨⟨p, q⟩, k, u, 0, 0, 0⟩) (a := ⟨kd, mo, op, r⟩) (n := n) hu h1 h2) rfl rfl .none ?_ | refine clb 0 rfl rfl (f_wpop (w := ⟨⟨p, q⟩, k, u, la, tu, si⟩) (x := ⟨⟨p, q⟩, k, u, 0, 0, 0⟩) (a := ⟨kd, mo, op, r⟩) (n := n) hu h1 h2 h3) rfl rfl .none ?_ | refine clb 0 rfl rfl (f_wback (w := ⟨⟨p, q⟩, k, u, la, tu, si⟩) (x := ⟨⟨p, q⟩, k, u, 0, 0, 0⟩) (a := ⟨kd, mo, op, r⟩) (n := n) hu h1 h2) rfl rfl .none ?_ | refine clb 0 rfl rfl (f_wswap (w := ⟨⟨p, q⟩, k, u, la, tu, si⟩) (x := ⟨⟨p, q⟩, k, u, 0, 0, 0⟩) (a := ⟨kd, mo, op, r⟩) (n := n) hu h1 h2) rfl rfl .none ?_
  refine asg0 rfl <| done ?_
  refine Wp.seq <| reg <| mv0 rfl <| cmp0 rfl <| done ?_
  refine Wp.cond rfl (fun c5 => ?_) (fun c5 => ?_)
  have nc5 := Nz c5
  refine Wp.seq <| reg <| bdw0 rfl ?_
  refine mv0 rfl <| stw0 rfl ?_
  refine asg0 rfl <| done ?_
  refine Wp.ret ?_
  refine Ends.ret (.cons (.cell rfl rfl rfl (Nat.le_of_ble_eq_true rfl) (Fz.wk rfl)) <| .cons (.tmp rfl (Fz.pure rfl)) <|  .nil) ?_
  exact f_editDo_k1
  have nc5 := Nz c5
  refine Wp.skip <| Wp.seq <| reg <| mv0 rfl <| nck0 rfl <| faA0 rfl ?_
  refine ldA0 rfl ?_
  refine stw0 rfl ?_
  refine asg0 rfl <| done ?_
  refine Wp.ret ?_
  refine Ends.ret (.cons (.cell rfl rfl rfl (Nat.le_of_ble_eq_true rfl) (Fz.wk rfl)) <| .cons (.tmp rfl (Fz.pure rfl)) <|  .nil) ?_
  exact f_editDo_k1
  have nc4 := Nz c4
  refine Wp.seq <| reg <| cmp0 rfl <| asg0 rfl <| done ?_
  refine Wp.cond rfl (fun c6 => ?_) (fun c6 => ?_)
  have nc6 := Nz c6
  refine reg <| mv0 rfl <| mkb0 rfl ?_
  refine asg0 rfl <| done ?_
  refine Wp.seq <| Wp.seq <| reg <| mv0 rfl ?_
  first | refine clb 0 rfl rfl (f_wmove (w := ⟨⟨p, q⟩, k, u, la, tu, si⟩) (x := ⟨⟨p, q⟩, k, u, 0, 0, 0⟩) (a := ⟨kd, mo, op, r⟩) (n := n) hu h1 h2) rfl rfl .none ?_ | refine clb 0 rfl rfl (f_winsert (w := ⟨⟨p, q⟩, k, u, la, tu, si⟩) (x := ⟨⟨p, q⟩, k, u, 0, 0, 0⟩) (a := ⟨kd, mo, op, r⟩) (n := n) hu h1 h2 (by omega)) rfl rfl .none ?_ | refine clb 0 rfl rfl (f_wyank (w := ⟨⟨p, q⟩, k, u, la, tu, si⟩) (x := ⟨⟨p, q⟩, k, u, 0, 0, 0⟩) (a := ⟨kd, mo, op, r⟩) (n := n) hu h1 h2) rfl rfl .none ?_ | refine clb 0 rfl rfl (f_wpop (w := ⟨⟨p, q⟩, k, u, la, tu, si⟩) (x := ⟨⟨p, q⟩, k, u, 0, 0, 0⟩) (a := ⟨kd, mo, op, r⟩) (n := n) hu h1 h2 h3) rfl rfl .none ?_ | refine clb 0 rfl rfl (f_wback (w := ⟨⟨p, q⟩, k, u, la, tu, si⟩) (x := ⟨⟨p, q⟩, k, u, 0, 0, 0⟩) (a := ⟨kd, mo, op, r⟩) (n := n) hu h1 h2) rfl rfl .none ?_ | refine clb 0 rfl rfl (f_wswap (w := ⟨⟨p, q⟩, k, u, la, tu, si⟩) (x := ⟨⟨p, q⟩, k, u, 0, 0, 0⟩) (a := ⟨kd, mo, op, r⟩) (n := n) hu h1 h2) rfl rfl .none ?_
  refine asg0 rfl <| done ?_
  refine Wp.seq <| reg <| mv0 rfl <| cmp0 rfl <| done ?_
  refine Wp.cond rfl (fun c7 => ?_) (fun c7 => ?_)
  have nc7 := Nz c7
  refine Wp.seq <| reg <| bdw0 rfl ?_
  refine mv0 rfl <| stw0 rfl ?_
  refine asg0 rfl <| done ?_
  refine Wp.ret ?_
  refine Ends.ret (.cons (.cell rfl rfl rfl (Nat.le_of_ble_eq_true rfl) (Fz.wk rfl)) <| .cons (.tmp rfl (Fz.pure rfl)) <|  .nil) ?_
  exact f_editDo_k1
  have nc7 := Nz c7
  refine Wp.skip <| Wp.seq <| reg <| mv0 rfl <| nck0 rfl <| faA0 rfl ?_
  refine ldA0 rfl ?_
  refine stw0 rfl ?_
  refine asg0 rfl <| done ?_
  refine Wp.ret ?_
  refine Ends.ret (.cons (.cell rfl rfl rfl (Nat.le_of_ble_eq_true rfl) (Fz.wk rfl)) <| .cons (.tmp rfl (Fz.pure rfl)) <|  .nil) ?_
  exact f_editDo_k1
  have nc6 := Nz c6
  refine Wp.seq <| reg <| cmp0 rfl <| asg0 rfl <| done ?_
  refine Wp.cond rfl (fun c8 => ?_) (fun c8 => ?_)
  have nc8 := Nz c8
  refine reg <| mv0 rfl <| mkb0 rfl ?_
  refine asg0 rfl <| done ?_
  refine Wp.seq <| Wp.seq <| reg <| mv0 rfl ?_
  first | refine clb 0 rfl rfl (f_wmove (w := ⟨⟨p, q⟩, k, u, la, tu, si⟩) (x := ⟨⟨p, q⟩, k, u, 0, 0, 0⟩) (a := ⟨kd, mo, op, r⟩) (n := n) hu h1 h2) rfl rfl .none ?_ | refine clb 0 rfl rfl (f_winsert (w := ⟨⟨p, q⟩, k, u, la, tu, si⟩) (x := ⟨⟨p, q⟩, k, u, 0, 0, 0⟩) (a := ⟨kd, mo, op, r⟩) (n := n) hu h1 h2 (by omega)) rfl rfl .none ?_ | refine clb 0 rfl rfl (f_wyank (w := ⟨⟨p, q⟩, k, u, la, tu, si⟩) (x := ⟨⟨p, q⟩, k, u, 0, 0, 0⟩) (a := ⟨kd, mo, op, r⟩) (n := n) hu h1 h2) rfl rfl .none ?_ | refine clb 0 rfl rfl (f_wpop (w := ⟨⟨p, q⟩, k, u, la, tu, si⟩) (x := ⟨⟨p, q⟩, k, u, 0, 0, 0⟩) (a := ⟨kd, mo, op, r⟩) (n := n) hu h1 h2 h3) rfl rfl .none ?_ | refine clb 0 rfl rfl (f_wback (w := ⟨⟨p, q⟩, k, u, la, tu, si⟩) (x := ⟨⟨p, q⟩, k, u, 0, 0, 0⟩) (a := ⟨kd, mo, op, r⟩) (n := n) hu h1 h2) rfl rfl .none ?_ | refine clb 0 rfl rfl (f_wswap (w := ⟨⟨p, q⟩, k, u, la, tu, si⟩) (x := ⟨⟨p, q⟩, k, u, 0, 0, 0⟩) (a := ⟨kd, mo, op, r⟩) (n := n) hu h1 h2) rfl rfl .none ?_
  refine asg0 rfl <| done ?_
  refine Wp.seq <| reg <| mv0 rfl <| cmp0 rfl <| done ?_
  refine Wp.cond rfl (fun c9 => ?_) (fun c9 => ?_)
  have nc9 := Nz c9
  refine Wp.seq <| reg <| bdw0 rfl ?_
  refine mv0 rfl <| stw0 rfl ?_
  refine asg0 rfl <| done ?_
  refine Wp.ret ?_
  refine Ends.ret (.cons (.cell rfl rfl rfl (Nat.le_of_ble_eq_true rfl) (Fz.wk rfl)) <| .cons (.tmp rfl (Fz.pure rfl)) <|  .nil) ?_
  exact f_editDo_k1
  have nc9 := Nz c9
  refine Wp.skip <| Wp.seq <| reg <| mv0 rfl <| nck0 rfl <| faA0 rfl ?_
  refine ldA0 rfl ?_
  refine stw0 rfl ?_
  refine asg0 rfl <| done ?_
  refine Wp.ret ?_
  refine Ends.ret (.cons (.cell rfl rfl rfl (Nat.le_of_ble_eq_true rfl) (Fz.wk rfl)) <| .cons (.tmp rfl (Fz.pure rfl)) <|  .nil) ?_
  exact f_editDo_k1
  have nc8 := Nz c8
  refine Wp.seq <| reg <| cmp0 rfl <| asg0 rfl <| done ?_
  refine Wp.cond rfl (fun c10 => ?_) (fun c10 => ?_)
  have nc10 := Nz c10
  refine reg <| mv0 rfl <| mkb0 rfl ?_
  refine asg0 rfl <| done ?_
  refine Wp.seq <| Wp.seq <| reg <| mv0 rfl ?_
  first | refine clb 0 rfl rfl (f_wmove (w := ⟨⟨p, q⟩, k, u, la, tu, si⟩) (x := ⟨⟨p, q⟩, k, u, 0, 0, 0⟩) (a := ⟨kd, mo, op, r⟩) (n := n) hu h1 h2) rfl rfl .none ?_ | refine clb 0 rfl rfl (f_winsert (w := ⟨⟨p, q⟩, k, u, la, tu, si⟩) (x := ⟨⟨p, q⟩, k, u, 0, 0, 0⟩) (a := ⟨kd, mo, op, r⟩) (n := n) hu h1 h2 (by omega)) rfl rfl .none ?_ | refine clb 0 rfl rfl (f_wyank (w := ⟨⟨p, q⟩, k, u, la, tu, si⟩) (x := ⟨⟨p, q⟩, k, u, 0, 0, 0⟩) (a := ⟨kd, mo, op, r⟩) (n := n) hu h1 h2) rfl rfl .none ?_ | refine clb 0 rfl rfl (f_wpop (w := ⟨⟨p, q⟩, k, u, la, tu, si⟩) (x := ⟨⟨p, q⟩, k, u, 0, 0, 0⟩) (a := ⟨kd, mo, op, r⟩) (n := n) hu h1 h2 h3) rfl rfl .none ?_ | refine clb 0 rfl rfl (f_wback (w := ⟨⟨p, q⟩, k, u, la, tu, si⟩) (x := ⟨⟨p, q⟩, k, u, 0, 0, 0⟩) (a := ⟨kd, mo, op, r⟩) (n := n) hu h1 h2) rfl rfl .none ?_ | refine clb 0 rfl rfl (f_wswap (w := ⟨⟨p, q⟩, k, u, la, tu, si⟩) (x := ⟨⟨p, q⟩, k, u, 0, 0, 0⟩) (a := ⟨kd, mo, op, r⟩) (n := n) hu h1 h2) rfl rfl .none ?_
  refine asg0 rfl <| done ?_
  refine Wp.seq <| reg <| mv0 rfl <| cmp0 rfl <| done ?_
  refine Wp.cond rfl (fun c11 => ?_) (fun c11 => ?_)
  have nc11 := Nz c11
  refine Wp.seq <| reg <| bdw0 rfl ?_
  refine mv0 rfl <| stw0 rfl ?_
  refine asg0 rfl <| done ?_
  refine Wp.ret ?_
  refine Ends.ret (.cons (.cell rfl rfl rfl (Nat.le_of_ble_eq_true rfl) (Fz.wk rfl)) <| .cons (.tmp rfl (Fz.pure rfl)) <|  .nil) ?_
  exact f_editDo_k1
  have nc11 := Nz c11
  refine Wp.skip <| Wp.seq <| reg <| mv0 rfl <| nck0 rfl <| faA0 rfl ?_
  refine ldA0 rfl ?_
  refine stw0 rfl ?_
  refine asg0 rfl <| done ?_
  refine Wp.ret ?_
  refine Ends.ret (.cons (.cell rfl rfl rfl (Nat.le_of_ble_eq_true rfl) (Fz.wk rfl)) <| .cons (.tmp rfl (Fz.pure rfl)) <|  .nil) ?_
  exact f_editDo_k1
  have nc10 := Nz c10
  refine Wp.seq <| reg <| cmp0 rfl <| asg0 rfl <| done ?_
  refine Wp.cond rfl (fun c12 => ?_) (fun c12 => ?_)
  have nc12 := Nz c12
  refine reg <| mv0 rfl <| mkb0 rfl ?_
  refine asg0 rfl <| done ?_
  refine Wp.seq <| Wp.seq <| reg <| mv0 rfl ?_
  first | refine clb 0 rfl rfl (f_wmove (w := ⟨⟨p, q⟩, k, u, la, tu, si⟩) (x := ⟨⟨p, q⟩, k, u, 0, 0, 0⟩) (a := ⟨kd, mo, op, r⟩) (n := n) hu h1 h2) rfl rfl .none ?_ | refine clb 0 rfl rfl (f_winsert (w := ⟨⟨p, q⟩, k, u, la, tu, si⟩) (x := ⟨⟨p, q⟩, k, u, 0, 0, 0⟩) (a := ⟨kd, mo, op, r⟩) (n := n) hu h1 h2 (by omega)) rfl rfl .none ?_ | refine clb 0 rfl rfl (f_wyank (w := ⟨⟨p, q⟩, k, u, la, tu, si⟩) (x := ⟨⟨p, q⟩, k, u, 0, 0, 0⟩) (a := ⟨kd, mo, op, r⟩) (n := n) hu h1 h2) rfl rfl .none ?_ | refine clb 0 rfl rfl (f_wpop (w := ⟨⟨p, q⟩, k, u, la, tu, si⟩) (x := ⟨⟨p, q⟩, k, u, 0, 0, 0⟩) (a := ⟨kd, mo, op, r⟩) (n := n) hu h1 h2 h3) rfl rfl .none ?_ | refine clb 0 rfl rfl (f_wback (w := ⟨⟨p, q⟩, k, u, la, tu, si⟩) (x := ⟨⟨p, q⟩, k, u, 0, 0, 0⟩) (a := ⟨kd, mo, op, r⟩) (n := n) hu h1 h2) rfl rfl .none ?_ | refine clb 0 rfl rfl (f_wswap (w := ⟨⟨p, q⟩, k, u, la, tu, si⟩) (x := ⟨⟨p, q⟩, k, u, 0, 0, 0⟩) (a := ⟨kd, mo, op, r⟩) (n := n) hu h1 h2) rfl rfl .none ?_
  refine asg0 rfl <| done ?_
  refine Wp.seq <| reg <| mv0 rfl <| cmp0 rfl <| done ?_
  refine Wp.cond rfl (fun c13 => ?_) (fun c13 => ?_)
  have nc13 := Nz c13
  refine Wp.seq <| reg <| bdw0 rfl ?_
  refine mv0 rfl <| stw0 rfl ?_
  refine asg0 rfl <| done ?_
  refine Wp.ret ?_
  refine Ends.ret (.cons (.cell rfl rfl rfl (Nat.le_of_ble_eq_true rfl) (Fz.wk rfl)) <| .cons (.tmp rfl (Fz.pure rfl)) <|  .nil) ?_
  exact f_editDo_k1
  have nc13 := Nz c13
  refine Wp.skip <| Wp.seq <| reg <| mv0 rfl <| nck0 rfl <| faA0 rfl ?_
  refine ldA0 rfl ?_
  refine stw0 rfl ?_
  refine asg0 rfl <| done ?_
  refine Wp.ret ?_
  refine Ends.ret (.cons (.cell rfl rfl rfl (Nat.le_of_ble_eq_true rfl) (Fz.wk rfl)) <| .cons (.tmp rfl (Fz.pure rfl)) <|  .nil) ?_
  exact f_editDo_k1
  have nc12 := Nz c12
  refine Wp.skip <| Wp.seq <| Wp.seq <| reg <| mv0 rfl ?_
  first | refine clb 0 rfl rfl (f_wmove (w := ⟨⟨p, q⟩, k, u, la, tu, si⟩) (x := ⟨⟨p, q⟩, k, u, 0, 0, 0⟩) (a := ⟨kd, mo, op, r⟩) (n := n) hu h1 h2) rfl rfl .none ?_ | refine clb 0 rfl rfl (f_winsert (w := ⟨⟨p, q⟩, k, u, la, tu, si⟩) (x := ⟨⟨p, q⟩, k, u, 0, 0, 0⟩) (a := ⟨kd, mo, op, r⟩) (n := n) hu h1 h2 (by omega)) rfl rfl .none ?_ | refine clb 0 rfl rfl (f_wyank (w := ⟨⟨p, q⟩, k, u, la, tu, si⟩) (x := ⟨⟨p, q⟩, k, u, 0, 0, 0⟩) (a := ⟨kd, mo, op, r⟩) (n := n) hu h1 h2) rfl rfl .none ?_ | refine clb 0 rfl rfl (f_wpop (w := ⟨⟨p, q⟩, k, u, la, tu, si⟩) (x := ⟨⟨p, q⟩, k, u, 0, 0, 0⟩) (a := ⟨kd, mo, op, r⟩) (n := n) hu h1 h2 h3) rfl rfl .none ?_ | refine clb 0 rfl rfl (f_wback (w := ⟨⟨p, q⟩, k, u, la, tu, si⟩) (x := ⟨⟨p, q⟩, k, u, 0, 0, 0⟩) (a := ⟨kd, mo, op, r⟩) (n := n) hu h1 h2) rfl rfl .none ?_ | refine clb 0 rfl rfl (f_wswap (w := ⟨⟨p, q⟩, k, u, la, tu, si⟩) (x := ⟨⟨p, q⟩, k, u, 0, 0, 0⟩) (a := ⟨kd, mo, op, r⟩) (n := n) hu h1 h2) rfl rfl .none ?_
  refine asg0 rfl <| done ?_
  refine Wp.seq <| reg <| mv0 rfl <| cmp0 rfl <| done ?_
  refine Wp.cond rfl (fun c14 => ?_) (fun c14 => ?_)
  have nc14 := Nz c14
  refine Wp.seq <| reg <| bdw0 rfl ?_
  refine mv0 rfl <| stw0 rfl ?_
  refine asg0 rfl <| done ?_
  refine Wp.ret ?_
  refine Ends.ret (.cons (.cell rfl rfl rfl (Nat.le_of_ble_eq_true rfl) (Fz.wk rfl)) <| .cons (.tmp rfl (Fz.pure rfl)) <|  .nil) ?_
  exact f_editDo_k1
  have nc14 := Nz c14
  refine Wp.skip <| Wp.seq <| reg <| mv0 rfl <| nck0 rfl <| faA0 rfl ?_
  refine ldA0 rfl ?_
  refine stw0 rfl ?_
  refine asg0 rfl <| done ?_
  refine Wp.ret ?_
  refine Ends.ret (.cons (.cell rfl rfl rfl (Nat.le_of_ble_eq_true rfl) (Fz.wk rfl)) <| .cons (.tmp rfl (Fz.pure rfl)) <|  .nil) ?_
  exact f_editDo_k1

end Go.Proofs.YtkcdmmafkpplhaaGreat
/- Walks of layers 17 and 18: what a key asks for. -/
namespace Go.Proofs.YtkcdmmafkpplhaaGreat
open Go.Eng
def viIs (m o : Int) : Bool := if m = 0 then o == 0 else if m = 1 then decide (0 ≤ o ∧ o ≤ 3) else false
theorem notT {b : Bool} (h : (!b) = false) : b = true := by cases b <;> simp_all
theorem notF {b : Bool} (h : (!b) = true) : ¬ b = true := by cases b <;> simp_all
abbrev Act4 := Int × Int × Int × Int
def actD4 (a : Act4) : D := .agg [.int .i64 a.1, .int .i64 a.2.1, .int .i64 a.2.2.1, .int .i32 a.2.2.2]
def actR (a : Act4) : List D := [.int .i64 a.1, .int .i64 a.2.1, .int .i64 a.2.2.1, .int .i32 a.2.2.2]
def keyD (k : Int × Int) : D := .agg [.int .i64 k.1, .int .i32 k.2]
def viD (v : Int × Int) : D := .agg [.int .i64 v.1, .int .i64 v.2]
theorem keyEq (x y : Int × Int) : eqKD (some [0, 0]) (keyD x) (keyD y) = some (decide (x = y)) := by
  obtain ⟨a, b⟩ := x
  obtain ⟨c, d⟩ := y
  simp only [eqKD, keyD, eqDs, if_true, Option.some.injEq, Prod.mk.injEq]
  by_cases h1 : a = c <;> by_cases h2 : b = d <;> simp [h1, h2]
theorem intEq (k : IntKind) (x y : Int) : eqKD none (.int k x) (.int k y) = some (decide (x = y)) := by
  simp only [eqKD, if_true, Option.some.injEq]
  by_cases h1 : x = y <;> simp [h1]
def boundL : List ((Int × Int) × Act4) := [
  ((1, 1), (1, 3, 0, 0)), ((1, 5), (1, 4, 0, 0)), ((1, 2), (1, 1, 0, 0)), ((1, 6), (1, 2, 0, 0)), ((1, 4), (1, 2, 1, 0)), ((1, 8), (1, 1, 1, 0)), ((1, 127), (1, 1, 1, 0)),
  ((1, 7), (16, 0, 0, 0)), ((1, 12), (17, 0, 0, 0)), ((1, 10), (7, 0, 0, 0)), ((1, 13), (7, 0, 0, 0)), ((1, 11), (1, 4, 2, 0)), ((1, 21), (1, 3, 2, 0)), ((1, 23), (1, 6, 2, 0)),
  ((1, 14), (9, 0, 0, 0)), ((1, 16), (8, 0, 0, 0)), ((1, 17), (13, 0, 0, 0)), ((1, 22), (13, 0, 0, 0)), ((1, 18), (11, 0, 0, 0)), ((1, 19), (12, 0, 0, 0)),
  ((1, 20), (6, 0, 0, 0)), ((1, 25), (3, 0, 0, 0)), ((1, 31), (5, 0, 0, 0)),
  ((2, 98), (1, 6, 0, 0)), ((2, 102), (1, 5, 0, 0)), ((2, 100), (1, 5, 2, 0)), ((2, 8), (1, 6, 2, 0)), ((2, 127), (1, 6, 2, 0)), ((2, 117), (1, 5, 4, 0)), ((2, 108), (1, 5, 5, 0)), ((2, 99), (1, 5, 6, 0)),
  ((2, 121), (4, 0, 0, 0)), ((2, 112), (10, 0, 0, 0)), ((2, 45), (15, 0, 0, 0)),
  ((3, 0), (8, 0, 0, 0)), ((4, 0), (9, 0, 0, 0)), ((5, 0), (1, 2, 0, 0)), ((6, 0), (1, 1, 0, 0)), ((7, 0), (1, 3, 0, 0)), ((8, 0), (1, 4, 0, 0)), ((9, 0), (1, 2, 1, 0))]
def emMap (k r : Int) : Act4 :=
  let r' := if k ≠ 1 ∧ k ≠ 2 then 0 else r
  if (lookL boundL (k, r')).isSome then (lookL boundL (k, r')).getD (0, 0, 0, 0)
  else if k = 1 ∧ signB r' = true ∧ (32 ≤ r' ∨ r' = 9) then (2, 0, 0, r')
  else if k = 2 ∧ 48 ≤ r' ∧ r' ≤ 57 then (14, 0, 0, r') else (0, 0, 0, 0)
def leadsL : List (Int × Int) := [(104, 1), (108, 2), (32, 2), (48, 3), (94, 3), (36, 4), (119, 7), (98, 8), (101, 9)]
def leadsS (r : Int) (dg : Bool) : Int := if r = 48 ∧ dg = true then 0 else (lookL leadsL r).getD 0
def ansD (x : (Int × Int) × List Act4) : D := .agg [.int .i64 x.1.1, .int .i64 x.1.2, .rows true (x.2.map actR)]
def signL : List (Int × ((Int × Int) × List Act4)) := [
  (120, ((1, 0), [(1, 2, 2, 0)])), (88, ((1, 0), [(1, 1, 2, 0)])), (68, ((1, 0), [(1, 4, 2, 0)])), (67, ((0, 0), [(1, 4, 2, 0)])),
  (100, ((1, 1), [])), (99, ((1, 2), [])), (121, ((1, 3), [])),
  (105, ((0, 0), [(16, 0, 0, 0)])), (97, ((0, 0), [(1, 2, 0, 0)])), (65, ((0, 0), [(1, 4, 0, 0)])), (73, ((0, 0), [(1, 3, 0, 0)])),
  (112, ((1, 0), [(3, 0, 0, 0)])), (117, ((1, 0), [(5, 0, 0, 0)])), (107, ((1, 0), [(8, 0, 0, 0)])), (45, ((1, 0), [(8, 0, 0, 0)])), (106, ((1, 0), [(9, 0, 0, 0)])), (43, ((1, 0), [(9, 0, 0, 0)])),
  (47, ((1, 0), [(11, 0, 0, 0)])), (63, ((1, 0), [(12, 0, 0, 0)])), (12, ((1, 0), [(17, 0, 0, 0)])), (10, ((0, 0), [(7, 0, 0, 0)])), (13, ((0, 0), [(7, 0, 0, 0)]))]
def signS (r : Int) : (Int × Int) × List Act4 := if (lookL signL r).isSome then (lookL signL r).getD ((0, 0), []) else ((1, 0), [(16, 0, 0, 0)])
def resD (x : (Int × Int) × List Act4) : D := .tup [viD x.1, .rows false (x.2.map actR)]
def insK (k r : Int) : (Int × Int) × List Act4 :=
  if k = 10 then ((1, 0), [(1, 1, 0, 0)]) else if 3 ≤ k ∧ k ≤ 9 then ((0, 0), [emMap k r]) else if k ≠ 1 then ((0, 0), [])
  else if r = 8 ∨ r = 127 ∨ r = 10 ∨ r = 13 ∨ r = 12 ∨ r = 21 ∨ r = 22 ∨ r = 23 then ((0, 0), [emMap k r])
  else if (emMap k r).1 ≠ 2 then ((0, 0), []) else ((0, 0), [emMap k r])
def obS (k r : Int) (dg : Bool) : (Int × Int) × List Act4 :=
  if k = 10 ∨ k = 11 then ((1, 0), [(16, 0, 0, 0)]) else if 3 ≤ k ∧ k ≤ 9 then ((1, 0), [emMap k r]) else if k ≠ 1 then ((1, 0), [])
  else if leadsS r dg > 0 then ((1, 0), [(1, leadsS r dg, 0, 0)]) else if 48 ≤ r ∧ r ≤ 57 then ((1, 0), [(14, 0, 0, r)]) else signS r
def waS (w k r : Int) (dg : Bool) : (Int × Int) × List Act4 :=
  let own : Int := if w = 1 then 100 else if w = 2 then 99 else 121
  if k = 1 ∧ r ≠ own ∧ leadsS r dg = 0 ∧ 48 ≤ r ∧ r ≤ 57 then ((1, w), [(14, 0, 0, r)])
  else let m := if k ≠ 1 then 0 else if r = own then 10 else leadsS r dg
    if m = 0 then ((1, 0), [(16, 0, 0, 0)]) else if w = 3 then ((1, 0), [(1, m, 3, 0)]) else if w = 2 then ((0, 0), [(1, m, 2, 0)]) else ((1, 0), [(1, m, 2, 0)])
theorem actClose {a : Act4} {x y z u : Int} {d : D} (hd : D.agg [.int .i64 x, .int .i64 y, .int .i64 z, .int .i32 u] = d) (h : a = (x, y, z, u)) : d = actD4 a := by subst hd h; rfl
theorem actClose' {a : Act4} {x y z u : Int} {d : D} (hd : D.agg [.int .i64 x, .int .i64 y, .int .i64 z, .int .i32 u] = d) (h : a = (x, y, z, u)) : actD4 a = d := by subst hd h; rfl
theorem resC0 {x : (Int × Int) × List Act4} {m o : Int} {d1 d2 : D} (h1 : D.agg [.int .i64 m, .int .i64 o] = d1) (h2 : D.rows false [] = d2) (h : x = ((m, o), [])) : resD x = retD [d1, d2] := by subst h1 h2 h; rfl
theorem resC1 {x : (Int × Int) × List Act4} {m o p q s t : Int} {d1 d2 : D} (h1 : D.agg [.int .i64 m, .int .i64 o] = d1) (h2 : D.rows false [[.int .i64 p, .int .i64 q, .int .i64 s, .int .i32 t]] = d2) (h : x = ((m, o), [(p, q, s, t)])) :
    resD x = retD [d1, d2] := by subst h1 h2 h; rfl
theorem resCx {x y : (Int × Int) × List Act4} {d1 d2 : D} (h1 : viD y.1 = d1) (h2 : D.rows false (y.2.map actR) = d2) (h : x = y) : resD x = retD [d1, d2] := by subst h1 h2 h; rfl
def readsD (m o : Int) : D := if m = 0 then .iface 174 (.agg []) else if o = 0 then .iface 175 (.agg []) else .iface 176 (.int .i64 o)
theorem rowsOk_act (l : List Act4) : RowsOk 4 (l.map actR) := by
  intro r hr
  obtain ⟨a, _, rfl⟩ := List.mem_map.1 hr
  exact ⟨rfl, rfl⟩
theorem pure_act (l : List Act4) : (l.map actR).all D.pureL = true := by
  rw [List.all_eq_true]
  intro r hr
  obtain ⟨a, _, rfl⟩ := List.mem_map.1 hr
  rfl
theorem pure_app (a b : List Act4) : (a.map actR ++ b.map actR).all D.pureL = true := by rw [List.all_append, pure_act, pure_act]; rfl
def signLen : Bool := signL.all fun p => decide (p.2.2.length ≤ 1)
theorem lookL_mem {κ β : Type} [DecidableEq κ] {x : κ} {y : β} : ∀ {L : List (κ × β)}, lookL L x = some y → (x, y) ∈ L
  | [], h => by simp [lookL] at h
  | (k, z) :: L, h => by
    simp only [lookL, List.lookup] at h
    split at h
    · rename_i hx; simp at hx; subst hx; cases h; exact .head _
    · exact .tail _ (lookL_mem h)
theorem signS_len (r : Int) : (signS r).2.length ≤ 1 := by
  unfold signS
  cases hl : lookL signL r with
  | none => simp
  | some y =>
    have h : signLen = true := by decide
    have := (List.all_eq_true.1 h) _ (lookL_mem hl)
    simpa using this
theorem obS_len (k r : Int) (dg : Bool) : (obS k r dg).2.length ≤ 1 := by
  unfold obS
  repeat' split
  all_goals first | exact signS_len r | simp
def metaS (l : List Act4) (r : Int) (dg : Bool) : (Int × Int) × List Act4 := ((obS 1 r dg).1, l ++ (obS 1 r dg).2)
def resF (x : (Int × Int) × List Act4) : D := .tup [viD x.1, .rows false (x.2.map actR)]
theorem resF1 {x : (Int × Int) × List Act4} {d1 : D} {l : List (List D)} (h1 : viD x.1 = d1) (h2 : x.2.map actR = l) : resF x = retD [d1, .rows false l] := by subst h1 h2; rfl

set_option maxRecDepth 20000 in
theorem f_viIs {m o : Int} : FnP PP 44 [.agg [.int .i64 m, .int .i64 o]] (.bool (viIs m o)) := by
  refine FnP.of_body Tryz.func44 rfl (by kernel_rfl) rfl ?_
  refine Wp.seq <| reg <| bx0 65 rfl ?_
  refine asg0 rfl <| done ?_
  refine Wp.seq <| Wp.seq <| reg <| faA0 rfl ?_
  refine ldA0 rfl ?_
  refine done ?_
  refine Wp.block <| Wp.seq <| reg <| cmp0 rfl <| asg0 rfl <| done ?_
  refine Wp.cond rfl (fun c1 => ?_) (fun c1 => ?_)
  have nc1 := Nz c1
  refine Wp.seq <| reg <| faA0 rfl ?_
  refine ldA0 rfl ?_
  refine cmp0 rfl <| asg0 rfl <| done ?_
  refine Wp.ret ?_
  refine Ends.ret (.cons (.tmp rfl (Fz.pure rfl)) <|  .nil) ?_
  simp_all [viIs, retD] <;> omega
  have nc1 := Nz c1
  refine Wp.seq <| reg <| cmp0 rfl <| asg0 rfl <| done ?_
  refine Wp.cond rfl (fun c2 => ?_) (fun c2 => ?_)
  have nc2 := Nz c2
  refine Wp.seq <| reg <| faA0 rfl ?_
  refine ldA0 rfl ?_
  refine cmp0 rfl <| mv0 rfl ?_
  refine bcase 15 rfl (fun h15 => ?_) (fun h15 => ?_)
  have nh15 := Nz h15
  refine faA1 rfl h15 rfl ?_
  refine ldA1 rfl h15 rfl ?_
  refine cmp1 rfl h15 rfl <| pkt0 rfl h15 <| asg0 rfl <| done ?_
  refine Wp.ret ?_
  refine Ends.ret (.cons (.tmp rfl (Fz.pure rfl)) <|  .nil) ?_
  simp_all [viIs, retD] <;> omega
  have nh15 := Nz h15
  refine sk0 rfl h15 <| sk0 rfl h15 <| sk0 rfl h15 <| pkf0 rfl h15 <| asg0 rfl <| done ?_
  refine Wp.ret ?_
  refine Ends.ret (.cons (.tmp rfl (Fz.pure rfl)) <|  .nil) ?_
  simp_all [viIs, retD] <;> omega
  have nc2 := Nz c2
  refine Wp.skip <| Wp.seq <| reg <| asg0 rfl <| done ?_
  refine Wp.ret ?_
  refine Ends.ret (.cons (.tmp rfl (Fz.pure rfl)) <|  .nil) ?_
  simp_all [viIs, retD] <;> omega

set_option maxRecDepth 20000 in
theorem f_arrow {k r : Int} : FnP PP 246 [.agg [.int .i64 k, .int .i32 r]] (.bool (decide (3 ≤ k ∧ k ≤ 9))) := by
  refine FnP.of_body Tryz.func246 rfl (by kernel_rfl) rfl ?_
  refine Wp.seq <| reg <| bx0 65 rfl ?_
  refine asg0 rfl <| done ?_
  refine Wp.seq <| reg <| faA0 rfl ?_
  refine ldA0 rfl ?_
  refine cmp0 rfl <| mv0 rfl ?_
  refine bcase 6 rfl (fun h6 => ?_) (fun h6 => ?_)
  have nh6 := Nz h6
  refine faA1 rfl h6 rfl ?_
  refine ldA1 rfl h6 rfl ?_
  refine cmp1 rfl h6 rfl <| pkt0 rfl h6 <| asg0 rfl <| done ?_
  refine Wp.ret ?_
  refine Ends.ret (.cons (.tmp rfl (Fz.pure rfl)) <|  .nil) ?_
  simp_all [retD] <;> omega
  have nh6 := Nz h6
  refine sk0 rfl h6 <| sk0 rfl h6 <| sk0 rfl h6 <| pkf0 rfl h6 <| asg0 rfl <| done ?_
  refine Wp.ret ?_
  refine Ends.ret (.cons (.tmp rfl (Fz.pure rfl)) <|  .nil) ?_
  simp_all [retD] <;> omega

set_option maxRecDepth 20000 in
theorem f_emove {m o : Int} : FnP PP 150 [.int .i64 m, .int .i64 o] (actD4 (1, m, o, 0)) := by
  refine FnP.of_body Tryz.func150 rfl (by kernel_rfl) rfl ?_
  refine Wp.seq <| reg <| al0 68 rfl ?_
  refine done ?_
  refine Wp.seq <| reg <| mv0 rfl <| mv0 rfl <| bdw0 rfl ?_
  refine stw0 rfl ?_
  refine done ?_
  refine Wp.ret ?_
  refine Ends.ret (.cons (.cell rfl rfl rfl (Nat.le_of_ble_eq_true rfl) (Fz.wk rfl)) <|  .nil) ?_
  rfl

set_option maxRecDepth 20000 in
theorem f_eact {k : Int} : FnP PP 151 [.int .i64 k] (actD4 (k, 0, 0, 0)) := by
  refine FnP.of_body Tryz.func151 rfl (by kernel_rfl) rfl ?_
  refine Wp.seq <| reg <| al0 66 rfl ?_
  refine done ?_
  refine Wp.seq <| reg <| mv0 rfl <| bdw0 rfl ?_
  refine stw0 rfl ?_
  refine done ?_
  refine Wp.ret ?_
  refine Ends.ret (.cons (.cell rfl rfl rfl (Nat.le_of_ble_eq_true rfl) (Fz.wk rfl)) <|  .nil) ?_
  rfl

set_option maxRecDepth 20000 in
theorem f_eb1 {r : Int} : FnP PP 147 [.int .i32 r] (keyD (1, r)) := by
  refine FnP.of_body Tryz.func147 rfl (by kernel_rfl) rfl ?_
  refine Wp.seq <| reg <| al0 66 rfl ?_
  refine done ?_
  refine Wp.seq <| reg <| mv0 rfl <| bdw0 rfl ?_
  refine stw0 rfl ?_
  refine done ?_
  refine Wp.ret ?_
  refine Ends.ret (.cons (.cell rfl rfl rfl (Nat.le_of_ble_eq_true rfl) (Fz.wk rfl)) <|  .nil) ?_
  rfl

set_option maxRecDepth 20000 in
theorem f_eb2 {r : Int} : FnP PP 148 [.int .i32 r] (keyD (2, r)) := by
  refine FnP.of_body Tryz.func148 rfl (by kernel_rfl) rfl ?_
  refine Wp.seq <| reg <| al0 66 rfl ?_
  refine done ?_
  refine Wp.seq <| reg <| mv0 rfl <| bdw0 rfl ?_
  refine stw0 rfl ?_
  refine done ?_
  refine Wp.ret ?_
  refine Ends.ret (.cons (.cell rfl rfl rfl (Nat.le_of_ble_eq_true rfl) (Fz.wk rfl)) <|  .nil) ?_
  rfl

set_option maxRecDepth 20000 in
theorem f_eb3 {k : Int} : FnP PP 149 [.int .i64 k] (keyD (k, 0)) := by
  refine FnP.of_body Tryz.func149 rfl (by kernel_rfl) rfl ?_
  refine Wp.seq <| reg <| al0 66 rfl ?_
  refine done ?_
  refine Wp.seq <| reg <| mv0 rfl <| bdw0 rfl ?_
  refine stw0 rfl ?_
  refine done ?_
  refine Wp.ret ?_
  refine Ends.ret (.cons (.cell rfl rfl rfl (Nat.le_of_ble_eq_true rfl) (Fz.wk rfl)) <|  .nil) ?_
  rfl

set_option maxRecDepth 20000 in
theorem f_vcommand {o : Int} : FnP PP 244 [.int .i64 o] (viD (1, o)) := by
  refine FnP.of_body Tryz.func244 rfl (by kernel_rfl) rfl ?_
  refine Wp.seq <| reg <| al0 66 rfl ?_
  refine done ?_
  refine Wp.seq <| reg <| mv0 rfl <| bdw0 rfl ?_
  refine stw0 rfl ?_
  refine done ?_
  refine Wp.ret ?_
  refine Ends.ret (.cons (.cell rfl rfl rfl (Nat.le_of_ble_eq_true rfl) (Fz.wk rfl)) <|  .nil) ?_
  rfl

set_option maxRecDepth 20000 in
theorem f_vact {k : Int} : FnP PP 248 [.int .i64 k] (.rows true [actR (k, 0, 0, 0)]) := by
  refine FnP.of_body Tryz.func248 rfl (by kernel_rfl) rfl ?_
  refine Wp.seq <| reg <| asg0 rfl <| done ?_
  refine Wp.seq <| reg <| mv0 rfl <| bdw0 rfl ?_
  refine bs0 rfl ?_
  refine asg0 rfl <| done ?_
  refine Wp.ret ?_
  refine Ends.ret (.cons (.tmp rfl (Fz.pure rfl)) <|  .nil) ?_
  rfl

set_option maxRecDepth 20000 in
theorem f_vmove {m o : Int} : FnP PP 245 [.int .i64 m, .int .i64 o] (.rows true [actR (1, m, o, 0)]) := by
  refine FnP.of_body Tryz.func245 rfl (by kernel_rfl) rfl ?_
  refine Wp.seq <| reg <| asg0 rfl <| done ?_
  refine Wp.seq <| reg <| mv0 rfl <| mv0 rfl <| bdw0 rfl ?_
  refine bs0 rfl ?_
  refine asg0 rfl <| done ?_
  refine Wp.ret ?_
  refine Ends.ret (.cons (.tmp rfl (Fz.pure rfl)) <|  .nil) ?_
  rfl

set_option maxRecDepth 20000 in
theorem f_leads {r : Int} {dg : Bool} : FnP PP 249 [.int .i32 r, .bool dg] (.int .i64 (leadsS r dg)) := by
  refine FnP.of_body Tryz.func249 rfl (by kernel_rfl) rfl ?_
  refine Wp.seq <| reg <| asg0 rfl <| done ?_
  refine Wp.seq <| Wp.seq <| reg <| mv0 rfl <| cmp0 rfl <| mv0 rfl ?_
  refine bcase 7 rfl (fun h7 => ?_) (fun h7 => ?_)
  have nh7 := Nz h7
  refine mv1 rfl h7 rfl <| pkt0 rfl h7 <| done ?_
  refine Wp.cond rfl (fun c1 => ?_) (fun c1 => ?_)
  have nc1 := Nz c1
  refine Wp.seq <| reg <| asg0 rfl <| done ?_
  refine Wp.ret ?_
  refine Ends.ret (.cons (.tmp rfl (Fz.pure rfl)) <|  .nil) ?_
  simp_all [leadsS, retD]
  have nc1 := Nz c1
  refine Wp.skip <| Wp.seq <| reg <| mkm 74 rfl rfl .none ?_
  refine ins rfl rfl rfl rfl rfl .none ?_
  refine ins rfl rfl rfl rfl rfl .none ?_
  refine ins rfl rfl rfl rfl rfl .none ?_
  refine ins rfl rfl rfl rfl rfl .none ?_
  refine ins rfl rfl rfl rfl rfl .none ?_
  refine ins rfl rfl rfl rfl rfl .none ?_
  refine ins rfl rfl rfl rfl rfl .none ?_
  refine ins rfl rfl rfl rfl rfl .none ?_
  refine ins rfl rfl rfl rfl rfl .none ?_
  refine mv0 rfl <| mv0 rfl ?_
  refine lko (D.int .i32) (D.int .i64) leadsL r 0 rfl rfl rfl rfl rfl (fun p _ => intEq _ _ _) (by decide) rfl rfl rfl rfl rfl .none ?_
  refine asg0 rfl <| done ?_
  refine Wp.ret ?_
  refine Ends.ret (.cons (.tmp rfl (Fz.pure rfl)) <|  .nil) ?_
  simp_all [leadsS, retD]
  have nh7 := Nz h7
  refine sk0 rfl h7 <| pkf0 rfl h7 <| done ?_
  refine Wp.condF rfl rfl <| Wp.skip <| Wp.seq <| reg <| mkm 74 rfl rfl .none ?_
  refine ins rfl rfl rfl rfl rfl .none ?_
  refine ins rfl rfl rfl rfl rfl .none ?_
  refine ins rfl rfl rfl rfl rfl .none ?_
  refine ins rfl rfl rfl rfl rfl .none ?_
  refine ins rfl rfl rfl rfl rfl .none ?_
  refine ins rfl rfl rfl rfl rfl .none ?_
  refine ins rfl rfl rfl rfl rfl .none ?_
  refine ins rfl rfl rfl rfl rfl .none ?_
  refine ins rfl rfl rfl rfl rfl .none ?_
  refine mv0 rfl <| mv0 rfl ?_
  refine lko (D.int .i32) (D.int .i64) leadsL r 0 rfl rfl rfl rfl rfl (fun p _ => intEq _ _ _) (by decide) rfl rfl rfl rfl rfl .none ?_
  refine asg0 rfl <| done ?_
  refine Wp.ret ?_
  refine Ends.ret (.cons (.tmp rfl (Fz.pure rfl)) <|  .nil) ?_
  simp_all [leadsS, retD]

theorem f_sign_k1 {p : Prop} (h : p := by
    first | (rw [signS, if_neg (notF c1)]; rfl) | (rw [signS, if_pos (notT c1)]; rfl)) : p := h
set_option maxRecDepth 20000 in
theorem f_sign {r : Int} : FnP PP 250 [.int .i32 r] (resD (signS r)) := by
  refine FnP.of_body Tryz.func250 rfl (by kernel_rfl) rfl ?_
  refine Wp.seq <| reg <| al0 66 rfl ?_
  refine asg0 rfl <| done ?_
  refine Wp.seq <| reg <| bd rfl rfl rfl .none ?_
  refine al0 68 rfl ?_
  refine stw0 rfl ?_
  refine done ?_
  refine Wp.seq <| reg <| clw0 rfl f_vcommand rfl ?_
  refine al0 69 rfl ?_
  refine stw0 rfl ?_
  refine done ?_
  refine Wp.seq <| regd mixed ?_
  refine mkm 75 rfl rfl .none ?_
  refine ldA0 rfl ?_
  refine clw0 rfl f_vmove rfl ?_
  refine bd rfl rfl rfl .none ?_
  refine ins rfl rfl rfl rfl rfl .none ?_
  refine ldA0 rfl ?_
  refine clw0 rfl f_vmove rfl ?_
  refine bd rfl rfl rfl .none ?_
  refine ins rfl rfl rfl rfl rfl .none ?_
  refine ldA0 rfl ?_
  refine clw0 rfl f_vmove rfl ?_
  refine bd rfl rfl rfl .none ?_
  refine ins rfl rfl rfl rfl rfl .none ?_
  refine ldA0 rfl ?_
  refine clw0 rfl f_vmove rfl ?_
  refine bd rfl rfl rfl .none ?_
  refine ins rfl rfl rfl rfl rfl .none ?_
  refine clw0 rfl f_vcommand rfl ?_
  refine bd rfl rfl rfl .none ?_
  refine ins rfl rfl rfl rfl rfl .none ?_
  refine clw0 rfl f_vcommand rfl ?_
  refine bd rfl rfl rfl .none ?_
  refine ins rfl rfl rfl rfl rfl .none ?_
  refine clw0 rfl f_vcommand rfl ?_
  refine bd rfl rfl rfl .none ?_
  refine ins rfl rfl rfl rfl rfl .none ?_
  refine ldA0 rfl ?_
  refine clw0 rfl f_vact rfl ?_
  refine bd rfl rfl rfl .none ?_
  refine ins rfl rfl rfl rfl rfl .none ?_
  refine ldA0 rfl ?_
  refine clw0 rfl f_vmove rfl ?_
  refine bd rfl rfl rfl .none ?_
  refine ins rfl rfl rfl rfl rfl .none ?_
  refine ldA0 rfl ?_
  refine clw0 rfl f_vmove rfl ?_
  refine bd rfl rfl rfl .none ?_
  refine ins rfl rfl rfl rfl rfl .none ?_
  refine ldA0 rfl ?_
  refine clw0 rfl f_vmove rfl ?_
  refine bd rfl rfl rfl .none ?_
  refine ins rfl rfl rfl rfl rfl .none ?_
  refine ldA0 rfl ?_
  refine clw0 rfl f_vact rfl ?_
  refine bd rfl rfl rfl .none ?_
  refine ins rfl rfl rfl rfl rfl .none ?_
  refine ldA0 rfl ?_
  refine clw0 rfl f_vact rfl ?_
  refine bd rfl rfl rfl .none ?_
  refine ins rfl rfl rfl rfl rfl .none ?_
  refine ldA0 rfl ?_
  refine clw0 rfl f_vact rfl ?_
  refine bd rfl rfl rfl .none ?_
  refine ins rfl rfl rfl rfl rfl .none ?_
  refine ldA0 rfl ?_
  refine clw0 rfl f_vact rfl ?_
  refine bd rfl rfl rfl .none ?_
  refine ins rfl rfl rfl rfl rfl .none ?_
  refine ldA0 rfl ?_
  refine clw0 rfl f_vact rfl ?_
  refine bd rfl rfl rfl .none ?_
  refine ins rfl rfl rfl rfl rfl .none ?_
  refine ldA0 rfl ?_
  refine clw0 rfl f_vact rfl ?_
  refine bd rfl rfl rfl .none ?_
  refine ins rfl rfl rfl rfl rfl .none ?_
  refine ldA0 rfl ?_
  refine clw0 rfl f_vact rfl ?_
  refine bd rfl rfl rfl .none ?_
  refine ins rfl rfl rfl rfl rfl .none ?_
  refine ldA0 rfl ?_
  refine clw0 rfl f_vact rfl ?_
  refine bd rfl rfl rfl .none ?_
  refine ins rfl rfl rfl rfl rfl .none ?_
  refine ldA0 rfl ?_
  refine clw0 rfl f_vact rfl ?_
  refine bd rfl rfl rfl .none ?_
  refine ins rfl rfl rfl rfl rfl .none ?_
  refine ldA0 rfl ?_
  refine clw0 rfl f_vact rfl ?_
  refine bd rfl rfl rfl .none ?_
  refine ins rfl rfl rfl rfl rfl .none ?_
  refine ldA0 rfl ?_
  refine clw0 rfl f_vact rfl ?_
  refine bd rfl rfl rfl .none ?_
  refine ins rfl rfl rfl rfl rfl .none ?_
  refine mv0 rfl <| mv0 rfl ?_
  refine lko (D.int .i32) ansD signL r ((0, 0), []) rfl rfl rfl rfl rfl (fun p _ => intEq _ _ _) (by decide) rfl rfl rfl rfl rfl .none ?_
  refine mv0 rfl <| xt0 rfl <| xt0 rfl <| al0 70 rfl ?_
  refine stw0 rfl ?_
  refine asg0 rfl ?_
  refine done ⟨by kernel_rfl, by kernel_rfl, ?_⟩
  refine Wp.seq <| Wp.seq <| reg <| mv0 rfl <| nt0 rfl <| done ?_
  refine Wp.cond rfl (fun c1 => ?_) (fun c1 => ?_)
  have nc1 := Nz c1
  refine Wp.seq <| regd mixed ?_
  refine ldA0 rfl ?_
  refine clw0 rfl f_vact rfl ?_
  refine stw0 rfl ?_
  refine asg0 rfl ?_
  refine done ⟨by kernel_rfl, by kernel_rfl, ?_⟩
  refine Wp.ret ?_
  refine Ends.ret (.cons (.cell rfl rfl rfl (Nat.le_of_ble_eq_true rfl) (Fz.wk rfl)) <| .cons (.tmp rfl (Fz.wk rfl)) <|  .nil) ?_
  exact f_sign_k1
  have nc1 := Nz c1
  refine Wp.skip <| Wp.seq <| regd mixed ?_
  refine faA0 rfl ?_
  refine ldA0 rfl ?_
  refine faA0 rfl ?_
  refine ldA0 rfl ?_
  refine stw0 rfl ?_
  refine asg0 rfl ?_
  refine done ⟨by kernel_rfl, by kernel_rfl, ?_⟩
  refine Wp.ret ?_
  refine Ends.ret (.cons (.cell rfl rfl rfl (Nat.le_of_ble_eq_true rfl) (Fz.wk rfl)) <| .cons (.tmp rfl (Fz.wk rfl)) <|  .nil) ?_
  exact f_sign_k1

set_option maxRecDepth 20000 in
theorem f_bound  : FnP PP 96 [] (.pmap (boundL.map fun p => (keyD p.1, actD4 p.2))) := by
  refine FnP.of_body Tryz.func96 rfl (by kernel_rfl) rfl ?_
  refine Wp.seq <| reg <| asg0 rfl <| done ?_
  refine Wp.seq <| reg <| asg0 rfl <| done ?_
  refine Wp.seq <| reg <| asg0 rfl <| done ?_
  refine Wp.seq <| reg <| asg0 rfl <| done ?_
  refine Wp.seq <| regd mixed ?_
  refine mkm 68 rfl rfl .none ?_
  refine mv0 rfl <| clw0 rfl f_eb1 rfl ?_
  refine clw0 rfl f_emove rfl ?_
  refine ins rfl rfl rfl rfl rfl .none ?_
  refine mv0 rfl <| clw0 rfl f_eb1 rfl ?_
  refine clw0 rfl f_emove rfl ?_
  refine ins rfl rfl rfl rfl rfl .none ?_
  refine mv0 rfl <| clw0 rfl f_eb1 rfl ?_
  refine clw0 rfl f_emove rfl ?_
  refine ins rfl rfl rfl rfl rfl .none ?_
  refine mv0 rfl <| clw0 rfl f_eb1 rfl ?_
  refine clw0 rfl f_emove rfl ?_
  refine ins rfl rfl rfl rfl rfl .none ?_
  refine mv0 rfl <| clw0 rfl f_eb1 rfl ?_
  refine clw0 rfl f_emove rfl ?_
  refine ins rfl rfl rfl rfl rfl .none ?_
  refine mv0 rfl <| clw0 rfl f_eb1 rfl ?_
  refine clw0 rfl f_emove rfl ?_
  refine ins rfl rfl rfl rfl rfl .none ?_
  refine mv0 rfl <| clw0 rfl f_eb1 rfl ?_
  refine clw0 rfl f_emove rfl ?_
  refine ins rfl rfl rfl rfl rfl .none ?_
  refine mv0 rfl <| clw0 rfl f_eb1 rfl ?_
  refine clw0 rfl f_eact rfl ?_
  refine ins rfl rfl rfl rfl rfl .none ?_
  refine mv0 rfl <| clw0 rfl f_eb1 rfl ?_
  refine clw0 rfl f_eact rfl ?_
  refine ins rfl rfl rfl rfl rfl .none ?_
  refine mv0 rfl <| clw0 rfl f_eb1 rfl ?_
  refine clw0 rfl f_eact rfl ?_
  refine ins rfl rfl rfl rfl rfl .none ?_
  refine mv0 rfl <| clw0 rfl f_eb1 rfl ?_
  refine clw0 rfl f_eact rfl ?_
  refine ins rfl rfl rfl rfl rfl .none ?_
  refine mv0 rfl <| clw0 rfl f_eb1 rfl ?_
  refine clw0 rfl f_emove rfl ?_
  refine ins rfl rfl rfl rfl rfl .none ?_
  refine mv0 rfl <| clw0 rfl f_eb1 rfl ?_
  refine clw0 rfl f_emove rfl ?_
  refine ins rfl rfl rfl rfl rfl .none ?_
  refine mv0 rfl <| clw0 rfl f_eb1 rfl ?_
  refine clw0 rfl f_emove rfl ?_
  refine ins rfl rfl rfl rfl rfl .none ?_
  refine mv0 rfl <| clw0 rfl f_eb1 rfl ?_
  refine clw0 rfl f_eact rfl ?_
  refine ins rfl rfl rfl rfl rfl .none ?_
  refine mv0 rfl <| clw0 rfl f_eb1 rfl ?_
  refine clw0 rfl f_eact rfl ?_
  refine ins rfl rfl rfl rfl rfl .none ?_
  refine mv0 rfl <| clw0 rfl f_eb1 rfl ?_
  refine clw0 rfl f_eact rfl ?_
  refine ins rfl rfl rfl rfl rfl .none ?_
  refine mv0 rfl <| clw0 rfl f_eb1 rfl ?_
  refine clw0 rfl f_eact rfl ?_
  refine ins rfl rfl rfl rfl rfl .none ?_
  refine mv0 rfl <| clw0 rfl f_eb1 rfl ?_
  refine clw0 rfl f_eact rfl ?_
  refine ins rfl rfl rfl rfl rfl .none ?_
  refine mv0 rfl <| clw0 rfl f_eb1 rfl ?_
  refine clw0 rfl f_eact rfl ?_
  refine ins rfl rfl rfl rfl rfl .none ?_
  refine mv0 rfl <| clw0 rfl f_eb1 rfl ?_
  refine clw0 rfl f_eact rfl ?_
  refine ins rfl rfl rfl rfl rfl .none ?_
  refine mv0 rfl <| clw0 rfl f_eb1 rfl ?_
  refine clw0 rfl f_eact rfl ?_
  refine ins rfl rfl rfl rfl rfl .none ?_
  refine mv0 rfl <| clw0 rfl f_eb1 rfl ?_
  refine clw0 rfl f_eact rfl ?_
  refine ins rfl rfl rfl rfl rfl .none ?_
  refine mv0 rfl <| clw0 rfl f_eb2 rfl ?_
  refine clw0 rfl f_emove rfl ?_
  refine ins rfl rfl rfl rfl rfl .none ?_
  refine mv0 rfl <| clw0 rfl f_eb2 rfl ?_
  refine clw0 rfl f_emove rfl ?_
  refine ins rfl rfl rfl rfl rfl .none ?_
  refine mv0 rfl <| clw0 rfl f_eb2 rfl ?_
  refine clw0 rfl f_emove rfl ?_
  refine ins rfl rfl rfl rfl rfl .none ?_
  refine mv0 rfl <| clw0 rfl f_eb2 rfl ?_
  refine clw0 rfl f_emove rfl ?_
  refine ins rfl rfl rfl rfl rfl .none ?_
  refine mv0 rfl <| clw0 rfl f_eb2 rfl ?_
  refine clw0 rfl f_emove rfl ?_
  refine ins rfl rfl rfl rfl rfl .none ?_
  refine mv0 rfl <| clw0 rfl f_eb2 rfl ?_
  refine clw0 rfl f_emove rfl ?_
  refine ins rfl rfl rfl rfl rfl .none ?_
  refine mv0 rfl <| clw0 rfl f_eb2 rfl ?_
  refine clw0 rfl f_emove rfl ?_
  refine ins rfl rfl rfl rfl rfl .none ?_
  refine mv0 rfl <| clw0 rfl f_eb2 rfl ?_
  refine clw0 rfl f_emove rfl ?_
  refine ins rfl rfl rfl rfl rfl .none ?_
  refine mv0 rfl <| clw0 rfl f_eb2 rfl ?_
  refine clw0 rfl f_eact rfl ?_
  refine ins rfl rfl rfl rfl rfl .none ?_
  refine mv0 rfl <| clw0 rfl f_eb2 rfl ?_
  refine clw0 rfl f_eact rfl ?_
  refine ins rfl rfl rfl rfl rfl .none ?_
  refine mv0 rfl <| clw0 rfl f_eb2 rfl ?_
  refine clw0 rfl f_eact rfl ?_
  refine ins rfl rfl rfl rfl rfl .none ?_
  refine mv0 rfl <| clw0 rfl f_eb3 rfl ?_
  refine clw0 rfl f_eact rfl ?_
  refine ins rfl rfl rfl rfl rfl .none ?_
  refine mv0 rfl <| clw0 rfl f_eb3 rfl ?_
  refine clw0 rfl f_eact rfl ?_
  refine ins rfl rfl rfl rfl rfl .none ?_
  refine mv0 rfl <| clw0 rfl f_eb3 rfl ?_
  refine clw0 rfl f_emove rfl ?_
  refine ins rfl rfl rfl rfl rfl .none ?_
  refine mv0 rfl <| clw0 rfl f_eb3 rfl ?_
  refine clw0 rfl f_emove rfl ?_
  refine ins rfl rfl rfl rfl rfl .none ?_
  refine mv0 rfl <| clw0 rfl f_eb3 rfl ?_
  refine clw0 rfl f_emove rfl ?_
  refine ins rfl rfl rfl rfl rfl .none ?_
  refine mv0 rfl <| clw0 rfl f_eb3 rfl ?_
  refine clw0 rfl f_emove rfl ?_
  refine ins rfl rfl rfl rfl rfl .none ?_
  refine mv0 rfl <| clw0 rfl f_eb3 rfl ?_
  refine clw0 rfl f_emove rfl ?_
  refine ins rfl rfl rfl rfl rfl .none ?_
  refine mv0 rfl <| asg0 rfl ?_
  refine done ⟨by kernel_rfl, by kernel_rfl, ?_⟩
  refine Wp.ret ?_
  refine Ends.ret (.cons (.tmp rfl (Fz.omap rfl rfl)) <|  .nil) ?_
  rfl

theorem f_emMap_k1 {p : Prop} (h : p := by
    refine actClose' rfl ?_; simp only [emMap, ← hx]; clear hx; generalize lookL boundL (k, x) = o at *; cases o <;> simp_all <;> omega) : p := h
set_option maxRecDepth 20000 in
theorem f_emMap {k r : Int} : FnP PP 62 [.agg [.int .i64 k, .int .i32 r]] (actD4 (emMap k r)) := by
  refine FnP.of_body Tryz.func62 rfl (by kernel_rfl) rfl ?_
  refine Wp.seq <| reg <| bx0 65 rfl ?_
  refine al0 66 rfl ?_
  refine done ?_
  refine Wp.cutK (α := Int) [1, 2] [66] (fun x tl => tl) (fun x tl => (65, some (.cells 53 [.int .i64 k, .int .i32 x])) :: tl) (fun x => x = if k ≠ 1 ∧ k ≠ 2 then 0 else r) rfl rfl ?_ ?_
  refine Wp.seq <| reg <| faA0 rfl ?_
  refine ldA0 rfl ?_
  refine cmp0 rfl <| mv0 rfl ?_
  refine bcase 8 rfl (fun h8 => ?_) (fun h8 => ?_)
  have nh8 := Nz h8
  refine faA1 rfl h8 rfl ?_
  refine ldA1 rfl h8 rfl ?_
  refine cmp1 rfl h8 rfl <| pkt0 rfl h8 <| done ?_
  refine Wp.cond rfl (fun c1 => ?_) (fun c1 => ?_)
  have nc1 := Nz c1
  refine reg <| faA0 rfl ?_
  refine stw0 rfl ?_
  refine done ?_
  refine ⟨_, ?_, Rp, Rp, rfl⟩ <;> simp_all
  have nc1 := Nz c1
  refine Wp.skip ?_
  refine ⟨_, ?_, Rp, Rp, rfl⟩ <;> simp_all
  have nh8 := Nz h8
  refine sk0 rfl h8 <| sk0 rfl h8 <| sk0 rfl h8 <| pkf0 rfl h8 <| done ?_
  refine Wp.condF rfl rfl <| Wp.skip ?_
  refine ⟨_, ?_, Rp, Rp, rfl⟩ <;> simp_all
  intro x hx
  skip
  refine Wp.seq <| regd mixed ?_
  refine clw0 rfl f_bound rfl ?_
  refine ldA0 rfl ?_
  refine lkp keyD actD4 boundL (k, x) (0, 0, 0, 0) rfl rfl rfl rfl (fun p _ => keyEq _ _) (by decide) rfl rfl rfl rfl rfl .none ?_
  refine mv0 rfl <| xt0 rfl <| xt0 rfl <| al0 67 rfl ?_
  refine stw0 rfl ?_
  refine asg0 rfl ?_
  refine done ⟨by kernel_rfl, by kernel_rfl, ?_⟩
  refine Wp.seq <| Wp.block <| Wp.seq <| reg <| mv0 rfl <| asg0 rfl <| done ?_
  refine Wp.cond rfl (fun c2 => ?_) (fun c2 => ?_)
  have nc2 := Nz c2
  refine Wp.seq <| reg <| ldA0 rfl ?_
  refine stw0 rfl ?_
  refine done ?_
  refine Wp.ret ?_
  refine Ends.ret (.cons (.cell rfl rfl rfl (Nat.le_of_ble_eq_true rfl) (Fz.wk rfl)) <|  .nil) ?_
  exact f_emMap_k1
  have nc2 := Nz c2
  refine Wp.seq <| reg <| faA0 rfl ?_
  refine ldA0 rfl ?_
  refine cmp0 rfl <| mv0 rfl ?_
  refine bcase 27 rfl (fun h27 => ?_) (fun h27 => ?_)
  have nh27 := Nz h27
  refine faA1 rfl h27 rfl ?_
  refine ldA1 rfl h27 rfl ?_
  refine clw1 rfl h27 rfl f_glyphIs rfl ?_
  refine pkt0 rfl h27 <| mv0 rfl ?_
  refine bcase 32 rfl (fun h32 => ?_) (fun h32 => ?_)
  have nh32 := Nz h32
  refine faA1 rfl h32 rfl ?_
  refine ldA1 rfl h32 rfl ?_
  refine cmp1 rfl h32 rfl <| mv1 rfl h32 rfl ?_
  refine bcase 36 rfl (fun h36 => ?_) (fun h36 => ?_)
  have nh36 := Nz h36
  refine sk0 rfl h36 <| sk0 rfl h36 <| sk0 rfl h36 <| pkt1 rfl h32 rfl h36 <| pkt0 rfl h32 <| asg0 rfl <| done ?_
  refine Wp.condT rfl rfl <| Wp.seq <| reg <| faA0 rfl ?_
  refine ldA0 rfl ?_
  refine bdw0 rfl ?_
  refine stw0 rfl ?_
  refine done ?_
  refine Wp.ret ?_
  refine Ends.ret (.cons (.cell rfl rfl rfl (Nat.le_of_ble_eq_true rfl) (Fz.wk rfl)) <|  .nil) ?_
  exact f_emMap_k1
  have nh36 := Nz h36
  refine faA1 rfl h36 rfl ?_
  refine ldA1 rfl h36 rfl ?_
  refine cmp1 rfl h36 rfl <| pkf1 rfl h32 rfl h36 <| pkt0 rfl h32 <| asg0 rfl <| done ?_
  refine Wp.cond rfl (fun c3 => ?_) (fun c3 => ?_)
  have nc3 := Nz c3
  refine Wp.seq <| reg <| faA0 rfl ?_
  refine ldA0 rfl ?_
  refine bdw0 rfl ?_
  refine stw0 rfl ?_
  refine done ?_
  refine Wp.ret ?_
  refine Ends.ret (.cons (.cell rfl rfl rfl (Nat.le_of_ble_eq_true rfl) (Fz.wk rfl)) <|  .nil) ?_
  exact f_emMap_k1
  have nc3 := Nz c3
  refine Wp.seq <| reg <| faA0 rfl ?_
  refine ldA0 rfl ?_
  refine cmp0 rfl <| mv0 rfl ?_
  refine bcase 49 rfl (fun h49 => ?_) (fun h49 => ?_)
  have nh49 := Nz h49
  refine faA1 rfl h49 rfl ?_
  refine ldA1 rfl h49 rfl ?_
  refine cmp1 rfl h49 rfl <| pkt0 rfl h49 <| mv0 rfl ?_
  refine bcase 54 rfl (fun h54 => ?_) (fun h54 => ?_)
  have nh54 := Nz h54
  refine faA1 rfl h54 rfl ?_
  refine ldA1 rfl h54 rfl ?_
  refine cmp1 rfl h54 rfl <| pkt0 rfl h54 <| asg0 rfl <| done ?_
  refine Wp.cond rfl (fun c4 => ?_) (fun c4 => ?_)
  have nc4 := Nz c4
  refine Wp.seq <| reg <| faA0 rfl ?_
  refine ldA0 rfl ?_
  refine bdw0 rfl ?_
  refine stw0 rfl ?_
  refine done ?_
  refine Wp.ret ?_
  refine Ends.ret (.cons (.cell rfl rfl rfl (Nat.le_of_ble_eq_true rfl) (Fz.wk rfl)) <|  .nil) ?_
  exact f_emMap_k1
  have nc4 := Nz c4
  refine Wp.skip <| Wp.seq <| reg <| bdw0 rfl ?_
  refine stw0 rfl ?_
  refine done ?_
  refine Wp.ret ?_
  refine Ends.ret (.cons (.cell rfl rfl rfl (Nat.le_of_ble_eq_true rfl) (Fz.wk rfl)) <|  .nil) ?_
  exact f_emMap_k1
  have nh54 := Nz h54
  refine sk0 rfl h54 <| sk0 rfl h54 <| sk0 rfl h54 <| pkf0 rfl h54 <| asg0 rfl <| done ?_
  refine Wp.condF rfl rfl <| Wp.skip <| Wp.seq <| reg <| bdw0 rfl ?_
  refine stw0 rfl ?_
  refine done ?_
  refine Wp.ret ?_
  refine Ends.ret (.cons (.cell rfl rfl rfl (Nat.le_of_ble_eq_true rfl) (Fz.wk rfl)) <|  .nil) ?_
  exact f_emMap_k1
  have nh49 := Nz h49
  refine sk0 rfl h49 <| sk0 rfl h49 <| sk0 rfl h49 <| pkf0 rfl h49 <| mv0 rfl <| sk0 rfl rfl <| sk0 rfl rfl <| sk0 rfl rfl <| pkf0 rfl rfl <| asg0 rfl <| done ?_
  refine Wp.condF rfl rfl <| Wp.skip <| Wp.seq <| reg <| bdw0 rfl ?_
  refine stw0 rfl ?_
  refine done ?_
  refine Wp.ret ?_
  refine Ends.ret (.cons (.cell rfl rfl rfl (Nat.le_of_ble_eq_true rfl) (Fz.wk rfl)) <|  .nil) ?_
  exact f_emMap_k1
  have nh32 := Nz h32
  refine sk0 rfl h32 <| sk0 rfl h32 <| sk0 rfl h32 <| sk0 rfl h32 <| sku0 rfl <| sku0 rfl <| sku0 rfl <| sk0 rfl h32 <| pkf0 rfl h32 <| asg0 rfl <| done ?_
  refine Wp.condF rfl rfl <| Wp.seq <| reg <| faA0 rfl ?_
  refine ldA0 rfl ?_
  refine cmp0 rfl <| mv0 rfl ?_
  refine bcase 49 rfl (fun h49 => ?_) (fun h49 => ?_)
  have nh49 := Nz h49
  refine faA1 rfl h49 rfl ?_
  refine ldA1 rfl h49 rfl ?_
  refine cmp1 rfl h49 rfl <| pkt0 rfl h49 <| mv0 rfl ?_
  refine bcase 54 rfl (fun h54 => ?_) (fun h54 => ?_)
  have nh54 := Nz h54
  refine faA1 rfl h54 rfl ?_
  refine ldA1 rfl h54 rfl ?_
  refine cmp1 rfl h54 rfl <| pkt0 rfl h54 <| asg0 rfl <| done ?_
  refine Wp.cond rfl (fun c5 => ?_) (fun c5 => ?_)
  have nc5 := Nz c5
  refine Wp.seq <| reg <| faA0 rfl ?_
  refine ldA0 rfl ?_
  refine bdw0 rfl ?_
  refine stw0 rfl ?_
  refine done ?_
  refine Wp.ret ?_
  refine Ends.ret (.cons (.cell rfl rfl rfl (Nat.le_of_ble_eq_true rfl) (Fz.wk rfl)) <|  .nil) ?_
  exact f_emMap_k1
  have nc5 := Nz c5
  refine Wp.skip <| Wp.seq <| reg <| bdw0 rfl ?_
  refine stw0 rfl ?_
  refine done ?_
  refine Wp.ret ?_
  refine Ends.ret (.cons (.cell rfl rfl rfl (Nat.le_of_ble_eq_true rfl) (Fz.wk rfl)) <|  .nil) ?_
  exact f_emMap_k1
  have nh54 := Nz h54
  refine sk0 rfl h54 <| sk0 rfl h54 <| sk0 rfl h54 <| pkf0 rfl h54 <| asg0 rfl <| done ?_
  refine Wp.condF rfl rfl <| Wp.skip <| Wp.seq <| reg <| bdw0 rfl ?_
  refine stw0 rfl ?_
  refine done ?_
  refine Wp.ret ?_
  refine Ends.ret (.cons (.cell rfl rfl rfl (Nat.le_of_ble_eq_true rfl) (Fz.wk rfl)) <|  .nil) ?_
  exact f_emMap_k1
  have nh49 := Nz h49
  refine sk0 rfl h49 <| sk0 rfl h49 <| sk0 rfl h49 <| pkf0 rfl h49 <| mv0 rfl <| sk0 rfl rfl <| sk0 rfl rfl <| sk0 rfl rfl <| pkf0 rfl rfl <| asg0 rfl <| done ?_
  refine Wp.condF rfl rfl <| Wp.skip <| Wp.seq <| reg <| bdw0 rfl ?_
  refine stw0 rfl ?_
  refine done ?_
  refine Wp.ret ?_
  refine Ends.ret (.cons (.cell rfl rfl rfl (Nat.le_of_ble_eq_true rfl) (Fz.wk rfl)) <|  .nil) ?_
  exact f_emMap_k1
  have nh27 := Nz h27
  refine sk0 rfl h27 <| sk0 rfl h27 <| sk0 rfl h27 <| pkf0 rfl h27 <| mv0 rfl <| sk0 rfl rfl <| sk0 rfl rfl <| sk0 rfl rfl <| sk0 rfl rfl <| sku0 rfl <| sku0 rfl <| sku0 rfl <| sk0 rfl rfl <| pkf0 rfl rfl <| asg0 rfl <| done ?_
  refine Wp.condF rfl rfl <| Wp.seq <| reg <| faA0 rfl ?_
  refine ldA0 rfl ?_
  refine cmp0 rfl <| mv0 rfl ?_
  refine bcase 49 rfl (fun h49 => ?_) (fun h49 => ?_)
  have nh49 := Nz h49
  refine faA1 rfl h49 rfl ?_
  refine ldA1 rfl h49 rfl ?_
  refine cmp1 rfl h49 rfl <| pkt0 rfl h49 <| mv0 rfl ?_
  refine bcase 54 rfl (fun h54 => ?_) (fun h54 => ?_)
  have nh54 := Nz h54
  refine faA1 rfl h54 rfl ?_
  refine ldA1 rfl h54 rfl ?_
  refine cmp1 rfl h54 rfl <| pkt0 rfl h54 <| asg0 rfl <| done ?_
  refine Wp.cond rfl (fun c6 => ?_) (fun c6 => ?_)
  have nc6 := Nz c6
  refine Wp.seq <| reg <| faA0 rfl ?_
  refine ldA0 rfl ?_
  refine bdw0 rfl ?_
  refine stw0 rfl ?_
  refine done ?_
  refine Wp.ret ?_
  refine Ends.ret (.cons (.cell rfl rfl rfl (Nat.le_of_ble_eq_true rfl) (Fz.wk rfl)) <|  .nil) ?_
  exact f_emMap_k1
  have nc6 := Nz c6
  refine Wp.skip <| Wp.seq <| reg <| bdw0 rfl ?_
  refine stw0 rfl ?_
  refine done ?_
  refine Wp.ret ?_
  refine Ends.ret (.cons (.cell rfl rfl rfl (Nat.le_of_ble_eq_true rfl) (Fz.wk rfl)) <|  .nil) ?_
  exact f_emMap_k1
  have nh54 := Nz h54
  refine sk0 rfl h54 <| sk0 rfl h54 <| sk0 rfl h54 <| pkf0 rfl h54 <| asg0 rfl <| done ?_
  refine Wp.condF rfl rfl <| Wp.skip <| Wp.seq <| reg <| bdw0 rfl ?_
  refine stw0 rfl ?_
  refine done ?_
  refine Wp.ret ?_
  refine Ends.ret (.cons (.cell rfl rfl rfl (Nat.le_of_ble_eq_true rfl) (Fz.wk rfl)) <|  .nil) ?_
  exact f_emMap_k1
  have nh49 := Nz h49
  refine sk0 rfl h49 <| sk0 rfl h49 <| sk0 rfl h49 <| pkf0 rfl h49 <| mv0 rfl <| sk0 rfl rfl <| sk0 rfl rfl <| sk0 rfl rfl <| pkf0 rfl rfl <| asg0 rfl <| done ?_
  refine Wp.condF rfl rfl <| Wp.skip <| Wp.seq <| reg <| bdw0 rfl ?_
  refine stw0 rfl ?_
  refine done ?_
  refine Wp.ret ?_
  refine Ends.ret (.cons (.cell rfl rfl rfl (Nat.le_of_ble_eq_true rfl) (Fz.wk rfl)) <|  .nil) ?_
  exact f_emMap_k1

set_option maxRecDepth 20000 in
theorem f_reads {m o : Int} : FnP PP 97 [.agg [.int .i64 m, .int .i64 o]] (readsD m o) := by
  refine FnP.of_body Tryz.func97 rfl (by kernel_rfl) rfl ?_
  refine Wp.seq <| reg <| bx0 65 rfl ?_
  refine asg0 rfl <| done ?_
  refine Wp.seq <| Wp.block <| Wp.seq <| reg <| faA0 rfl ?_
  refine ldA0 rfl ?_
  refine cmp0 rfl <| asg0 rfl <| done ?_
  refine Wp.cond rfl (fun c1 => ?_) (fun c1 => ?_)
  have nc1 := Nz c1
  refine Wp.seq <| reg <| bdw0 rfl ?_
  refine ifc0 rfl ?_
  refine asg0 rfl <| done ?_
  refine Wp.ret ?_
  refine Ends.ret (.cons (.tmp rfl (Fz.pure rfl)) <|  .nil) ?_
  simp_all [readsD, retD, D.wkL]
  have nc1 := Nz c1
  refine Wp.seq <| reg <| faA0 rfl ?_
  refine ldA0 rfl ?_
  refine cmp0 rfl <| asg0 rfl <| done ?_
  refine Wp.cond rfl (fun c2 => ?_) (fun c2 => ?_)
  have nc2 := Nz c2
  refine Wp.seq <| reg <| bdw0 rfl ?_
  refine ifc0 rfl ?_
  refine asg0 rfl <| done ?_
  refine Wp.ret ?_
  refine Ends.ret (.cons (.tmp rfl (Fz.pure rfl)) <|  .nil) ?_
  simp_all [readsD, retD, D.wkL]
  have nc2 := Nz c2
  refine Wp.skip <| Wp.seq <| reg <| faA0 rfl ?_
  refine ldA0 rfl ?_
  refine ifc0 rfl ?_
  refine asg0 rfl <| done ?_
  refine Wp.ret ?_
  refine Ends.ret (.cons (.tmp rfl (Fz.pure rfl)) <|  .nil) ?_
  simp_all [readsD, retD, D.wkL]

theorem f_insK_k1 {p : Prop} (h : p := by
    (first | refine resC0 rfl rfl ?_ | refine resC1 rfl rfl ?_); simp only [insK]; simp_all <;> first | omega | exact Prod.ext (by assumption) rfl) : p := h
set_option maxRecDepth 20000 in
theorem f_insK {k r : Int} {dg : Bool} : FnP PP 243 [.agg [], .agg [.int .i64 k, .int .i32 r], .bool dg] (resD (insK k r)) := by
  refine FnP.of_body Tryz.func243 rfl (by kernel_rfl) rfl ?_
  refine Wp.seq <| reg <| bx0 67 rfl ?_
  refine bx0 68 rfl ?_
  refine al0 70 rfl ?_
  refine asg0 rfl <| done ?_
  refine Wp.seq <| Wp.block <| Wp.seq <| reg <| faA0 rfl ?_
  refine ldA0 rfl ?_
  refine cmp0 rfl <| asg0 rfl <| done ?_
  refine Wp.cond rfl (fun c1 => ?_) (fun c1 => ?_)
  have nc1 := Nz c1
  refine Wp.seq <| reg <| clw0 rfl f_vcommand rfl ?_
  refine clw0 rfl f_vmove rfl ?_
  refine stw0 rfl ?_
  refine asg0 rfl <| done ?_
  refine Wp.ret ?_
  refine Ends.ret (.cons (.cell rfl rfl rfl (Nat.le_of_ble_eq_true rfl) (Fz.wk rfl)) <| .cons (.tmp rfl (Fz.wk rfl)) <|  .nil) ?_
  exact f_insK_k1
  have nc1 := Nz c1
  refine Wp.seq <| reg <| ldA0 rfl ?_
  refine clw0 rfl f_arrow rfl ?_
  refine asg0 rfl <| done ?_
  refine Wp.cond rfl (fun c2 => ?_) (fun c2 => ?_)
  have nc2 := Nz c2
  refine Wp.seq <| reg <| bdw0 rfl ?_
  refine ldA0 rfl ?_
  refine clw0 rfl f_emMap rfl ?_
  refine bs0 rfl ?_
  refine stw0 rfl ?_
  refine asg0 rfl <| done ?_
  refine Wp.ret ?_
  refine Ends.ret (.cons (.cell rfl rfl rfl (Nat.le_of_ble_eq_true rfl) (Fz.wk rfl)) <| .cons (.tmp rfl (Fz.wk rfl)) <|  .nil) ?_
  exact f_insK_k1
  have nc2 := Nz c2
  refine Wp.seq <| reg <| faA0 rfl ?_
  refine ldA0 rfl ?_
  refine cmp0 rfl <| asg0 rfl <| done ?_
  refine Wp.cond rfl (fun c3 => ?_) (fun c3 => ?_)
  have nc3 := Nz c3
  refine Wp.seq <| reg <| bdw0 rfl ?_
  refine stw0 rfl ?_
  refine asg0 rfl <| done ?_
  refine Wp.ret ?_
  refine Ends.ret (.cons (.cell rfl rfl rfl (Nat.le_of_ble_eq_true rfl) (Fz.wk rfl)) <| .cons (.tmp rfl (Fz.wk rfl)) <|  .nil) ?_
  exact f_insK_k1
  have nc3 := Nz c3
  refine Wp.skip <| Wp.seq <| reg <| ldA0 rfl ?_
  refine clw0 rfl f_emMap rfl ?_
  refine al0 72 rfl ?_
  refine stw0 rfl ?_
  refine done ?_
  refine Wp.seq <| Wp.seq <| reg <| faA0 rfl ?_
  refine ldA0 rfl ?_
  refine done ?_
  refine Wp.block <| Wp.seq <| Wp.seq <| reg <| cmp0 rfl <| asg0 rfl <| done ?_
  refine Wp.cond rfl (fun c4 => ?_) (fun c4 => ?_)
  have nc4 := Nz c4
  refine Wp.skip <| Wp.condT rfl c4 <| Wp.skip <| Wp.seq <| regd mixed ?_
  refine bdw0 rfl ?_
  refine ldA0 rfl ?_
  refine bs0 rfl ?_
  refine stw0 rfl ?_
  refine asg0 rfl ?_
  refine done ⟨by kernel_rfl, by kernel_rfl, ?_⟩
  refine Wp.ret ?_
  refine Ends.ret (.cons (.cell rfl rfl rfl (Nat.le_of_ble_eq_true rfl) (Fz.wk rfl)) <| .cons (.tmp rfl (Fz.wk rfl)) <|  .nil) ?_
  exact f_insK_k1
  have nc4 := Nz c4
  refine Wp.seq <| reg <| cmp0 rfl <| asg0 rfl <| done ?_
  refine Wp.cond rfl (fun c5 => ?_) (fun c5 => ?_)
  have nc5 := Nz c5
  refine Wp.skip <| Wp.condT rfl c5 <| Wp.skip <| Wp.seq <| regd mixed ?_
  refine bdw0 rfl ?_
  refine ldA0 rfl ?_
  refine bs0 rfl ?_
  refine stw0 rfl ?_
  refine asg0 rfl ?_
  refine done ⟨by kernel_rfl, by kernel_rfl, ?_⟩
  refine Wp.ret ?_
  refine Ends.ret (.cons (.cell rfl rfl rfl (Nat.le_of_ble_eq_true rfl) (Fz.wk rfl)) <| .cons (.tmp rfl (Fz.wk rfl)) <|  .nil) ?_
  exact f_insK_k1
  have nc5 := Nz c5
  refine Wp.seq <| reg <| cmp0 rfl <| asg0 rfl <| done ?_
  refine Wp.cond rfl (fun c6 => ?_) (fun c6 => ?_)
  have nc6 := Nz c6
  refine Wp.skip <| Wp.condT rfl c6 <| Wp.skip <| Wp.seq <| regd mixed ?_
  refine bdw0 rfl ?_
  refine ldA0 rfl ?_
  refine bs0 rfl ?_
  refine stw0 rfl ?_
  refine asg0 rfl ?_
  refine done ⟨by kernel_rfl, by kernel_rfl, ?_⟩
  refine Wp.ret ?_
  refine Ends.ret (.cons (.cell rfl rfl rfl (Nat.le_of_ble_eq_true rfl) (Fz.wk rfl)) <| .cons (.tmp rfl (Fz.wk rfl)) <|  .nil) ?_
  exact f_insK_k1
  have nc6 := Nz c6
  refine Wp.seq <| reg <| cmp0 rfl <| asg0 rfl <| done ?_
  refine Wp.cond rfl (fun c7 => ?_) (fun c7 => ?_)
  have nc7 := Nz c7
  refine Wp.skip <| Wp.condT rfl c7 <| Wp.skip <| Wp.seq <| regd mixed ?_
  refine bdw0 rfl ?_
  refine ldA0 rfl ?_
  refine bs0 rfl ?_
  refine stw0 rfl ?_
  refine asg0 rfl ?_
  refine done ⟨by kernel_rfl, by kernel_rfl, ?_⟩
  refine Wp.ret ?_
  refine Ends.ret (.cons (.cell rfl rfl rfl (Nat.le_of_ble_eq_true rfl) (Fz.wk rfl)) <| .cons (.tmp rfl (Fz.wk rfl)) <|  .nil) ?_
  exact f_insK_k1
  have nc7 := Nz c7
  refine Wp.seq <| reg <| cmp0 rfl <| asg0 rfl <| done ?_
  refine Wp.cond rfl (fun c8 => ?_) (fun c8 => ?_)
  have nc8 := Nz c8
  refine Wp.skip <| Wp.condT rfl c8 <| Wp.skip <| Wp.seq <| regd mixed ?_
  refine bdw0 rfl ?_
  refine ldA0 rfl ?_
  refine bs0 rfl ?_
  refine stw0 rfl ?_
  refine asg0 rfl ?_
  refine done ⟨by kernel_rfl, by kernel_rfl, ?_⟩
  refine Wp.ret ?_
  refine Ends.ret (.cons (.cell rfl rfl rfl (Nat.le_of_ble_eq_true rfl) (Fz.wk rfl)) <| .cons (.tmp rfl (Fz.wk rfl)) <|  .nil) ?_
  exact f_insK_k1
  have nc8 := Nz c8
  refine Wp.seq <| reg <| cmp0 rfl <| asg0 rfl <| done ?_
  refine Wp.cond rfl (fun c9 => ?_) (fun c9 => ?_)
  have nc9 := Nz c9
  refine Wp.skip <| Wp.condT rfl c9 <| Wp.skip <| Wp.seq <| regd mixed ?_
  refine bdw0 rfl ?_
  refine ldA0 rfl ?_
  refine bs0 rfl ?_
  refine stw0 rfl ?_
  refine asg0 rfl ?_
  refine done ⟨by kernel_rfl, by kernel_rfl, ?_⟩
  refine Wp.ret ?_
  refine Ends.ret (.cons (.cell rfl rfl rfl (Nat.le_of_ble_eq_true rfl) (Fz.wk rfl)) <| .cons (.tmp rfl (Fz.wk rfl)) <|  .nil) ?_
  exact f_insK_k1
  have nc9 := Nz c9
  refine Wp.seq <| reg <| cmp0 rfl <| asg0 rfl <| done ?_
  refine Wp.cond rfl (fun c10 => ?_) (fun c10 => ?_)
  have nc10 := Nz c10
  refine Wp.skip <| Wp.condT rfl c10 <| Wp.skip <| Wp.seq <| regd mixed ?_
  refine bdw0 rfl ?_
  refine ldA0 rfl ?_
  refine bs0 rfl ?_
  refine stw0 rfl ?_
  refine asg0 rfl ?_
  refine done ⟨by kernel_rfl, by kernel_rfl, ?_⟩
  refine Wp.ret ?_
  refine Ends.ret (.cons (.cell rfl rfl rfl (Nat.le_of_ble_eq_true rfl) (Fz.wk rfl)) <| .cons (.tmp rfl (Fz.wk rfl)) <|  .nil) ?_
  exact f_insK_k1
  have nc10 := Nz c10
  refine reg <| cmp0 rfl <| asg0 rfl <| done ?_
  refine Wp.cond rfl (fun c11 => ?_) (fun c11 => ?_)
  have nc11 := Nz c11
  refine Wp.skip <| Wp.seq <| regd mixed ?_
  refine bdw0 rfl ?_
  refine ldA0 rfl ?_
  refine bs0 rfl ?_
  refine stw0 rfl ?_
  refine asg0 rfl ?_
  refine done ⟨by kernel_rfl, by kernel_rfl, ?_⟩
  refine Wp.ret ?_
  refine Ends.ret (.cons (.cell rfl rfl rfl (Nat.le_of_ble_eq_true rfl) (Fz.wk rfl)) <| .cons (.tmp rfl (Fz.wk rfl)) <|  .nil) ?_
  exact f_insK_k1
  have nc11 := Nz c11
  refine Wp.seq <| reg <| faA0 rfl ?_
  refine ldA0 rfl ?_
  refine cmp0 rfl <| done ?_
  refine Wp.cond rfl (fun c12 => ?_) (fun c12 => ?_)
  have nc12 := Nz c12
  refine Wp.seq <| reg <| bdw0 rfl ?_
  refine stw0 rfl ?_
  refine asg0 rfl <| done ?_
  refine Wp.ret ?_
  refine Ends.ret (.cons (.cell rfl rfl rfl (Nat.le_of_ble_eq_true rfl) (Fz.wk rfl)) <| .cons (.tmp rfl (Fz.wk rfl)) <|  .nil) ?_
  exact f_insK_k1
  have nc12 := Nz c12
  refine Wp.skip <| Wp.seq <| regd mixed ?_
  refine bdw0 rfl ?_
  refine ldA0 rfl ?_
  refine bs0 rfl ?_
  refine stw0 rfl ?_
  refine asg0 rfl ?_
  refine done ⟨by kernel_rfl, by kernel_rfl, ?_⟩
  refine Wp.ret ?_
  refine Ends.ret (.cons (.cell rfl rfl rfl (Nat.le_of_ble_eq_true rfl) (Fz.wk rfl)) <| .cons (.tmp rfl (Fz.wk rfl)) <|  .nil) ?_
  exact f_insK_k1

theorem f_ob_k1 {p : Prop} (h : p := by
    (first | refine resC0 rfl rfl ?_ | refine resC1 rfl rfl ?_ | refine resCx rfl rfl ?_); simp only [obS]; simp_all <;> first | omega | rw [if_neg (by omega), if_neg (by omega)]) : p := h
set_option maxRecDepth 20000 in
theorem f_ob {k r : Int} {dg : Bool} : FnP PP 247 [.agg [], .agg [.int .i64 k, .int .i32 r], .bool dg] (resD (obS k r dg)) := by
  refine FnP.of_body Tryz.func247 rfl (by kernel_rfl) rfl ?_
  refine Wp.seq <| reg <| bx0 67 rfl ?_
  refine bx0 68 rfl ?_
  refine al0 70 rfl ?_
  refine asg0 rfl <| done ?_
  refine Wp.seq <| Wp.block <| Wp.seq <| reg <| faA0 rfl ?_
  refine ldA0 rfl ?_
  refine cmp0 rfl <| mv0 rfl ?_
  refine bcase 13 rfl (fun h13 => ?_) (fun h13 => ?_)
  have nh13 := Nz h13
  refine sk0 rfl h13 <| sk0 rfl h13 <| sk0 rfl h13 <| pkt0 rfl h13 <| asg0 rfl <| done ?_
  refine Wp.condT rfl rfl <| Wp.seq <| reg <| clw0 rfl f_vcommand rfl ?_
  refine clw0 rfl f_vact rfl ?_
  refine stw0 rfl ?_
  refine asg0 rfl <| done ?_
  refine Wp.ret ?_
  refine Ends.ret (.cons (.cell rfl rfl rfl (Nat.le_of_ble_eq_true rfl) (Fz.wk rfl)) <| .cons (.tmp rfl (Fz.wk rfl)) <|  .nil) ?_
  exact f_ob_k1
  have nh13 := Nz h13
  refine faA1 rfl h13 rfl ?_
  refine ldA1 rfl h13 rfl ?_
  refine cmp1 rfl h13 rfl <| pkf0 rfl h13 <| asg0 rfl <| done ?_
  refine Wp.cond rfl (fun c1 => ?_) (fun c1 => ?_)
  have nc1 := Nz c1
  refine Wp.seq <| reg <| clw0 rfl f_vcommand rfl ?_
  refine clw0 rfl f_vact rfl ?_
  refine stw0 rfl ?_
  refine asg0 rfl <| done ?_
  refine Wp.ret ?_
  refine Ends.ret (.cons (.cell rfl rfl rfl (Nat.le_of_ble_eq_true rfl) (Fz.wk rfl)) <| .cons (.tmp rfl (Fz.wk rfl)) <|  .nil) ?_
  exact f_ob_k1
  have nc1 := Nz c1
  refine Wp.seq <| reg <| ldA0 rfl ?_
  refine clw0 rfl f_arrow rfl ?_
  refine asg0 rfl <| done ?_
  refine Wp.cond rfl (fun c2 => ?_) (fun c2 => ?_)
  have nc2 := Nz c2
  refine Wp.seq <| regd mixed ?_
  refine clw0 rfl f_vcommand rfl ?_
  refine ldA0 rfl ?_
  refine clw0 rfl f_emMap rfl ?_
  refine bs0 rfl ?_
  refine stw0 rfl ?_
  refine asg0 rfl ?_
  refine done ⟨by kernel_rfl, by kernel_rfl, ?_⟩
  refine Wp.ret ?_
  refine Ends.ret (.cons (.cell rfl rfl rfl (Nat.le_of_ble_eq_true rfl) (Fz.wk rfl)) <| .cons (.tmp rfl (Fz.wk rfl)) <|  .nil) ?_
  exact f_ob_k1
  have nc2 := Nz c2
  refine Wp.seq <| reg <| faA0 rfl ?_
  refine ldA0 rfl ?_
  refine cmp0 rfl <| asg0 rfl <| done ?_
  refine Wp.cond rfl (fun c3 => ?_) (fun c3 => ?_)
  have nc3 := Nz c3
  refine Wp.seq <| reg <| clw0 rfl f_vcommand rfl ?_
  refine stw0 rfl ?_
  refine asg0 rfl <| done ?_
  refine Wp.ret ?_
  refine Ends.ret (.cons (.cell rfl rfl rfl (Nat.le_of_ble_eq_true rfl) (Fz.wk rfl)) <| .cons (.tmp rfl (Fz.wk rfl)) <|  .nil) ?_
  exact f_ob_k1
  have nc3 := Nz c3
  refine Wp.skip <| Wp.seq <| Wp.seq <| reg <| faA0 rfl ?_
  refine ldA0 rfl ?_
  refine mv0 rfl <| clw0 rfl f_leads rfl ?_
  refine asg0 rfl <| done ?_
  refine Wp.seq <| reg <| mv0 rfl <| cmp0 rfl <| done ?_
  refine Wp.cond rfl (fun c4 => ?_) (fun c4 => ?_)
  have nc4 := Nz c4
  refine Wp.seq <| reg <| clw0 rfl f_vcommand rfl ?_
  refine mv0 rfl <| clw0 rfl f_vmove rfl ?_
  refine stw0 rfl ?_
  refine asg0 rfl <| done ?_
  refine Wp.ret ?_
  refine Ends.ret (.cons (.cell rfl rfl rfl (Nat.le_of_ble_eq_true rfl) (Fz.wk rfl)) <| .cons (.tmp rfl (Fz.wk rfl)) <|  .nil) ?_
  exact f_ob_k1
  have nc4 := Nz c4
  refine Wp.skip <| Wp.seq <| Wp.seq <| reg <| faA0 rfl ?_
  refine ldA0 rfl ?_
  refine cmp0 rfl <| mv0 rfl ?_
  refine bcase 44 rfl (fun h44 => ?_) (fun h44 => ?_)
  have nh44 := Nz h44
  refine faA1 rfl h44 rfl ?_
  refine ldA1 rfl h44 rfl ?_
  refine cmp1 rfl h44 rfl <| pkt0 rfl h44 <| done ?_
  refine Wp.cond rfl (fun c5 => ?_) (fun c5 => ?_)
  have nc5 := Nz c5
  refine Wp.seq <| regd mixed ?_
  refine clw0 rfl f_vcommand rfl ?_
  refine faA0 rfl ?_
  refine ldA0 rfl ?_
  refine bdw0 rfl ?_
  refine bs0 rfl ?_
  refine stw0 rfl ?_
  refine asg0 rfl ?_
  refine done ⟨by kernel_rfl, by kernel_rfl, ?_⟩
  refine Wp.ret ?_
  refine Ends.ret (.cons (.cell rfl rfl rfl (Nat.le_of_ble_eq_true rfl) (Fz.wk rfl)) <| .cons (.tmp rfl (Fz.wk rfl)) <|  .nil) ?_
  exact f_ob_k1
  have nc5 := Nz c5
  refine Wp.skip <| Wp.seq <| reg <| faA0 rfl ?_
  refine ldA0 rfl ?_
  refine clw0 rfl f_sign rfl ?_
  refine xt0 rfl <| xt0 rfl <| stw0 rfl ?_
  refine asg0 rfl <| done ?_
  refine Wp.ret ?_
  refine Ends.ret (.cons (.cell rfl rfl rfl (Nat.le_of_ble_eq_true rfl) (Fz.wk rfl)) <| .cons (.tmp rfl (Fz.wk rfl)) <|  .nil) ?_
  exact f_ob_k1
  have nh44 := Nz h44
  refine sk0 rfl h44 <| sk0 rfl h44 <| sk0 rfl h44 <| pkf0 rfl h44 <| done ?_
  refine Wp.condF rfl rfl <| Wp.skip <| Wp.seq <| reg <| faA0 rfl ?_
  refine ldA0 rfl ?_
  refine clw0 rfl f_sign rfl ?_
  refine xt0 rfl <| xt0 rfl <| stw0 rfl ?_
  refine asg0 rfl <| done ?_
  refine Wp.ret ?_
  refine Ends.ret (.cons (.cell rfl rfl rfl (Nat.le_of_ble_eq_true rfl) (Fz.wk rfl)) <| .cons (.tmp rfl (Fz.wk rfl)) <|  .nil) ?_
  exact f_ob_k1

theorem f_wa1_k1 {p : Prop} (h : p := by
    (first | refine resC0 rfl rfl ?_ | refine resC1 rfl rfl ?_); simp only [waS]; simp_all <;> omega) : p := h
set_option maxRecDepth 20000 in
theorem f_wa1 {k r : Int} {dg : Bool} : FnP PP 251 [.int .i64 1, .agg [.int .i64 k, .int .i32 r], .bool dg] (resD (waS 1 k r dg)) := by
  refine FnP.of_body Tryz.func251 rfl (by kernel_rfl) rfl ?_
  refine Wp.seq <| reg <| bx0 68 rfl ?_
  refine al0 70 rfl ?_
  refine asg0 rfl <| done ?_
  refine Wp.seq <| reg <| mv0 rfl <| ix 1 (c := 100) rfl rfl rfl rfl rfl rfl .none ?_
  refine cv 100 rfl (by decide) rfl .none ?_
  refine asg0 rfl <| done ?_
  refine Wp.seq <| reg <| faA0 rfl ?_
  refine ldA0 rfl ?_
  refine mv0 rfl <| clw0 rfl f_leads rfl ?_
  refine asg0 rfl <| done ?_
  refine Wp.seq <| Wp.block <| Wp.seq <| reg <| faA0 rfl ?_
  refine ldA0 rfl ?_
  refine cmp0 rfl <| asg0 rfl <| done ?_
  refine Wp.cond rfl (fun c1 => ?_) (fun c1 => ?_)
  have nc1 := Nz c1
  refine reg <| asg0 rfl <| done ?_
  refine Wp.seq <| Wp.block <| Wp.seq <| reg <| mv0 rfl <| cmp0 rfl <| asg0 rfl <| done ?_
  refine Wp.cond rfl (fun c2 => ?_) (fun c2 => ?_)
  have nc2 := Nz c2
  refine Wp.seq <| reg <| clw0 rfl f_vcommand rfl ?_
  refine clw0 rfl f_vact rfl ?_
  refine stw0 rfl ?_
  refine asg0 rfl <| done ?_
  refine Wp.ret ?_
  refine Ends.ret (.cons (.cell rfl rfl rfl (Nat.le_of_ble_eq_true rfl) (Fz.wk rfl)) <| .cons (.tmp rfl (Fz.wk rfl)) <|  .nil) ?_
  exact f_wa1_k1
  have nc2 := Nz c2
  refine Wp.seq <| reg <| mv0 rfl <| cmp0 rfl <| asg0 rfl <| done ?_
  refine Wp.condF rfl rfl <| Wp.seq <| reg <| mv0 rfl <| cmp0 rfl <| asg0 rfl <| done ?_
  refine Wp.condF rfl rfl <| Wp.skip <| Wp.seq <| reg <| clw0 rfl f_vcommand rfl ?_
  refine mv0 rfl <| clw0 rfl f_vmove rfl ?_
  refine stw0 rfl ?_
  refine asg0 rfl <| done ?_
  refine Wp.ret ?_
  refine Ends.ret (.cons (.cell rfl rfl rfl (Nat.le_of_ble_eq_true rfl) (Fz.wk rfl)) <| .cons (.tmp rfl (Fz.wk rfl)) <|  .nil) ?_
  exact f_wa1_k1
  have nc1 := Nz c1
  refine Wp.seq <| reg <| faA0 rfl ?_
  refine ldA0 rfl ?_
  refine mv0 rfl <| cmp0 rfl <| asg0 rfl <| done ?_
  refine Wp.cond rfl (fun c3 => ?_) (fun c3 => ?_)
  have nc3 := Nz c3
  refine reg <| asg0 rfl <| done ?_
  refine Wp.seq <| Wp.block <| Wp.seq <| reg <| mv0 rfl <| cmp0 rfl <| asg0 rfl <| done ?_
  refine Wp.cond rfl (fun c4 => ?_) (fun c4 => ?_)
  have nc4 := Nz c4
  refine Wp.seq <| reg <| clw0 rfl f_vcommand rfl ?_
  refine clw0 rfl f_vact rfl ?_
  refine stw0 rfl ?_
  refine asg0 rfl <| done ?_
  refine Wp.ret ?_
  refine Ends.ret (.cons (.cell rfl rfl rfl (Nat.le_of_ble_eq_true rfl) (Fz.wk rfl)) <| .cons (.tmp rfl (Fz.wk rfl)) <|  .nil) ?_
  exact f_wa1_k1
  have nc4 := Nz c4
  refine Wp.seq <| reg <| mv0 rfl <| cmp0 rfl <| asg0 rfl <| done ?_
  refine Wp.condF rfl rfl <| Wp.seq <| reg <| mv0 rfl <| cmp0 rfl <| asg0 rfl <| done ?_
  refine Wp.condF rfl rfl <| Wp.skip <| Wp.seq <| reg <| clw0 rfl f_vcommand rfl ?_
  refine mv0 rfl <| clw0 rfl f_vmove rfl ?_
  refine stw0 rfl ?_
  refine asg0 rfl <| done ?_
  refine Wp.ret ?_
  refine Ends.ret (.cons (.cell rfl rfl rfl (Nat.le_of_ble_eq_true rfl) (Fz.wk rfl)) <| .cons (.tmp rfl (Fz.wk rfl)) <|  .nil) ?_
  exact f_wa1_k1
  have nc3 := Nz c3
  refine Wp.seq <| reg <| mv0 rfl <| cmp0 rfl <| mv0 rfl ?_
  refine bcase 29 rfl (fun h29 => ?_) (fun h29 => ?_)
  have nh29 := Nz h29
  refine faA1 rfl h29 rfl ?_
  refine ldA1 rfl h29 rfl ?_
  refine cmp1 rfl h29 rfl <| pkt0 rfl h29 <| mv0 rfl ?_
  refine bcase 34 rfl (fun h34 => ?_) (fun h34 => ?_)
  have nh34 := Nz h34
  refine faA1 rfl h34 rfl ?_
  refine ldA1 rfl h34 rfl ?_
  refine cmp1 rfl h34 rfl <| pkt0 rfl h34 <| asg0 rfl <| done ?_
  refine Wp.cond rfl (fun c5 => ?_) (fun c5 => ?_)
  have nc5 := Nz c5
  refine Wp.seq <| regd mixed ?_
  refine mv0 rfl <| clw0 rfl f_vcommand rfl ?_
  refine faA0 rfl ?_
  refine ldA0 rfl ?_
  refine bdw0 rfl ?_
  refine bs0 rfl ?_
  refine stw0 rfl ?_
  refine asg0 rfl ?_
  refine done ⟨by kernel_rfl, by kernel_rfl, ?_⟩
  refine Wp.ret ?_
  refine Ends.ret (.cons (.cell rfl rfl rfl (Nat.le_of_ble_eq_true rfl) (Fz.wk rfl)) <| .cons (.tmp rfl (Fz.wk rfl)) <|  .nil) ?_
  exact f_wa1_k1
  have nc5 := Nz c5
  refine Wp.skip <| Wp.seq <| Wp.block <| Wp.seq <| reg <| mv0 rfl <| cmp0 rfl <| asg0 rfl <| done ?_
  refine Wp.cond rfl (fun c6 => ?_) (fun c6 => ?_)
  have nc6 := Nz c6
  refine Wp.seq <| reg <| clw0 rfl f_vcommand rfl ?_
  refine clw0 rfl f_vact rfl ?_
  refine stw0 rfl ?_
  refine asg0 rfl <| done ?_
  refine Wp.ret ?_
  refine Ends.ret (.cons (.cell rfl rfl rfl (Nat.le_of_ble_eq_true rfl) (Fz.wk rfl)) <| .cons (.tmp rfl (Fz.wk rfl)) <|  .nil) ?_
  exact f_wa1_k1
  have nc6 := Nz c6
  refine Wp.seq <| reg <| mv0 rfl <| cmp0 rfl <| asg0 rfl <| done ?_
  refine Wp.condF rfl rfl <| Wp.seq <| reg <| mv0 rfl <| cmp0 rfl <| asg0 rfl <| done ?_
  refine Wp.condF rfl rfl <| Wp.skip <| Wp.seq <| reg <| clw0 rfl f_vcommand rfl ?_
  refine mv0 rfl <| clw0 rfl f_vmove rfl ?_
  refine stw0 rfl ?_
  refine asg0 rfl <| done ?_
  refine Wp.ret ?_
  refine Ends.ret (.cons (.cell rfl rfl rfl (Nat.le_of_ble_eq_true rfl) (Fz.wk rfl)) <| .cons (.tmp rfl (Fz.wk rfl)) <|  .nil) ?_
  exact f_wa1_k1
  have nh34 := Nz h34
  refine sk0 rfl h34 <| sk0 rfl h34 <| sk0 rfl h34 <| pkf0 rfl h34 <| asg0 rfl <| done ?_
  refine Wp.condF rfl rfl <| Wp.skip <| Wp.seq <| Wp.block <| Wp.seq <| reg <| mv0 rfl <| cmp0 rfl <| asg0 rfl <| done ?_
  refine Wp.cond rfl (fun c7 => ?_) (fun c7 => ?_)
  have nc7 := Nz c7
  refine Wp.seq <| reg <| clw0 rfl f_vcommand rfl ?_
  refine clw0 rfl f_vact rfl ?_
  refine stw0 rfl ?_
  refine asg0 rfl <| done ?_
  refine Wp.ret ?_
  refine Ends.ret (.cons (.cell rfl rfl rfl (Nat.le_of_ble_eq_true rfl) (Fz.wk rfl)) <| .cons (.tmp rfl (Fz.wk rfl)) <|  .nil) ?_
  exact f_wa1_k1
  have nc7 := Nz c7
  refine Wp.seq <| reg <| mv0 rfl <| cmp0 rfl <| asg0 rfl <| done ?_
  refine Wp.condF rfl rfl <| Wp.seq <| reg <| mv0 rfl <| cmp0 rfl <| asg0 rfl <| done ?_
  refine Wp.condF rfl rfl <| Wp.skip <| Wp.seq <| reg <| clw0 rfl f_vcommand rfl ?_
  refine mv0 rfl <| clw0 rfl f_vmove rfl ?_
  refine stw0 rfl ?_
  refine asg0 rfl <| done ?_
  refine Wp.ret ?_
  refine Ends.ret (.cons (.cell rfl rfl rfl (Nat.le_of_ble_eq_true rfl) (Fz.wk rfl)) <| .cons (.tmp rfl (Fz.wk rfl)) <|  .nil) ?_
  exact f_wa1_k1
  have nh29 := Nz h29
  refine sk0 rfl h29 <| sk0 rfl h29 <| sk0 rfl h29 <| pkf0 rfl h29 <| mv0 rfl <| sk0 rfl rfl <| sk0 rfl rfl <| sk0 rfl rfl <| pkf0 rfl rfl <| asg0 rfl <| done ?_
  refine Wp.condF rfl rfl <| Wp.skip <| Wp.seq <| Wp.block <| Wp.seq <| reg <| mv0 rfl <| cmp0 rfl <| asg0 rfl <| done ?_
  refine Wp.cond rfl (fun c8 => ?_) (fun c8 => ?_)
  have nc8 := Nz c8
  refine Wp.seq <| reg <| clw0 rfl f_vcommand rfl ?_
  refine clw0 rfl f_vact rfl ?_
  refine stw0 rfl ?_
  refine asg0 rfl <| done ?_
  refine Wp.ret ?_
  refine Ends.ret (.cons (.cell rfl rfl rfl (Nat.le_of_ble_eq_true rfl) (Fz.wk rfl)) <| .cons (.tmp rfl (Fz.wk rfl)) <|  .nil) ?_
  exact f_wa1_k1
  have nc8 := Nz c8
  refine Wp.seq <| reg <| mv0 rfl <| cmp0 rfl <| asg0 rfl <| done ?_
  refine Wp.condF rfl rfl <| Wp.seq <| reg <| mv0 rfl <| cmp0 rfl <| asg0 rfl <| done ?_
  refine Wp.condF rfl rfl <| Wp.skip <| Wp.seq <| reg <| clw0 rfl f_vcommand rfl ?_
  refine mv0 rfl <| clw0 rfl f_vmove rfl ?_
  refine stw0 rfl ?_
  refine asg0 rfl <| done ?_
  refine Wp.ret ?_
  refine Ends.ret (.cons (.cell rfl rfl rfl (Nat.le_of_ble_eq_true rfl) (Fz.wk rfl)) <| .cons (.tmp rfl (Fz.wk rfl)) <|  .nil) ?_
  exact f_wa1_k1

theorem f_wa2_k1 {p : Prop} (h : p := by
    (first | refine resC0 rfl rfl ?_ | refine resC1 rfl rfl ?_); simp only [waS]; simp_all <;> omega) : p := h
set_option maxRecDepth 20000 in
theorem f_wa2 {k r : Int} {dg : Bool} : FnP PP 251 [.int .i64 2, .agg [.int .i64 k, .int .i32 r], .bool dg] (resD (waS 2 k r dg)) := by
  refine FnP.of_body Tryz.func251 rfl (by kernel_rfl) rfl ?_
  refine Wp.seq <| reg <| bx0 68 rfl ?_
  refine al0 70 rfl ?_
  refine asg0 rfl <| done ?_
  refine Wp.seq <| reg <| mv0 rfl <| ix 2 (c := 99) rfl rfl rfl rfl rfl rfl .none ?_
  refine cv 99 rfl (by decide) rfl .none ?_
  refine asg0 rfl <| done ?_
  refine Wp.seq <| reg <| faA0 rfl ?_
  refine ldA0 rfl ?_
  refine mv0 rfl <| clw0 rfl f_leads rfl ?_
  refine asg0 rfl <| done ?_
  refine Wp.seq <| Wp.block <| Wp.seq <| reg <| faA0 rfl ?_
  refine ldA0 rfl ?_
  refine cmp0 rfl <| asg0 rfl <| done ?_
  refine Wp.cond rfl (fun c1 => ?_) (fun c1 => ?_)
  have nc1 := Nz c1
  refine reg <| asg0 rfl <| done ?_
  refine Wp.seq <| Wp.block <| Wp.seq <| reg <| mv0 rfl <| cmp0 rfl <| asg0 rfl <| done ?_
  refine Wp.cond rfl (fun c2 => ?_) (fun c2 => ?_)
  have nc2 := Nz c2
  refine Wp.seq <| reg <| clw0 rfl f_vcommand rfl ?_
  refine clw0 rfl f_vact rfl ?_
  refine stw0 rfl ?_
  refine asg0 rfl <| done ?_
  refine Wp.ret ?_
  refine Ends.ret (.cons (.cell rfl rfl rfl (Nat.le_of_ble_eq_true rfl) (Fz.wk rfl)) <| .cons (.tmp rfl (Fz.wk rfl)) <|  .nil) ?_
  exact f_wa2_k1
  have nc2 := Nz c2
  refine Wp.seq <| reg <| mv0 rfl <| cmp0 rfl <| asg0 rfl <| done ?_
  refine Wp.condF rfl rfl <| Wp.seq <| reg <| mv0 rfl <| cmp0 rfl <| asg0 rfl <| done ?_
  refine Wp.condT rfl rfl <| Wp.seq <| reg <| bdw0 rfl ?_
  refine mv0 rfl <| clw0 rfl f_vmove rfl ?_
  refine stw0 rfl ?_
  refine asg0 rfl <| done ?_
  refine Wp.ret ?_
  refine Ends.ret (.cons (.cell rfl rfl rfl (Nat.le_of_ble_eq_true rfl) (Fz.wk rfl)) <| .cons (.tmp rfl (Fz.wk rfl)) <|  .nil) ?_
  exact f_wa2_k1
  have nc1 := Nz c1
  refine Wp.seq <| reg <| faA0 rfl ?_
  refine ldA0 rfl ?_
  refine mv0 rfl <| cmp0 rfl <| asg0 rfl <| done ?_
  refine Wp.cond rfl (fun c3 => ?_) (fun c3 => ?_)
  have nc3 := Nz c3
  refine reg <| asg0 rfl <| done ?_
  refine Wp.seq <| Wp.block <| Wp.seq <| reg <| mv0 rfl <| cmp0 rfl <| asg0 rfl <| done ?_
  refine Wp.cond rfl (fun c4 => ?_) (fun c4 => ?_)
  have nc4 := Nz c4
  refine Wp.seq <| reg <| clw0 rfl f_vcommand rfl ?_
  refine clw0 rfl f_vact rfl ?_
  refine stw0 rfl ?_
  refine asg0 rfl <| done ?_
  refine Wp.ret ?_
  refine Ends.ret (.cons (.cell rfl rfl rfl (Nat.le_of_ble_eq_true rfl) (Fz.wk rfl)) <| .cons (.tmp rfl (Fz.wk rfl)) <|  .nil) ?_
  exact f_wa2_k1
  have nc4 := Nz c4
  refine Wp.seq <| reg <| mv0 rfl <| cmp0 rfl <| asg0 rfl <| done ?_
  refine Wp.condF rfl rfl <| Wp.seq <| reg <| mv0 rfl <| cmp0 rfl <| asg0 rfl <| done ?_
  refine Wp.condT rfl rfl <| Wp.seq <| reg <| bdw0 rfl ?_
  refine mv0 rfl <| clw0 rfl f_vmove rfl ?_
  refine stw0 rfl ?_
  refine asg0 rfl <| done ?_
  refine Wp.ret ?_
  refine Ends.ret (.cons (.cell rfl rfl rfl (Nat.le_of_ble_eq_true rfl) (Fz.wk rfl)) <| .cons (.tmp rfl (Fz.wk rfl)) <|  .nil) ?_
  exact f_wa2_k1
  have nc3 := Nz c3
  refine Wp.seq <| reg <| mv0 rfl <| cmp0 rfl <| mv0 rfl ?_
  refine bcase 29 rfl (fun h29 => ?_) (fun h29 => ?_)
  have nh29 := Nz h29
  refine faA1 rfl h29 rfl ?_
  refine ldA1 rfl h29 rfl ?_
  refine cmp1 rfl h29 rfl <| pkt0 rfl h29 <| mv0 rfl ?_
  refine bcase 34 rfl (fun h34 => ?_) (fun h34 => ?_)
  have nh34 := Nz h34
  refine faA1 rfl h34 rfl ?_
  refine ldA1 rfl h34 rfl ?_
  refine cmp1 rfl h34 rfl <| pkt0 rfl h34 <| asg0 rfl <| done ?_
  refine Wp.cond rfl (fun c5 => ?_) (fun c5 => ?_)
  have nc5 := Nz c5
  refine Wp.seq <| regd mixed ?_
  refine mv0 rfl <| clw0 rfl f_vcommand rfl ?_
  refine faA0 rfl ?_
  refine ldA0 rfl ?_
  refine bdw0 rfl ?_
  refine bs0 rfl ?_
  refine stw0 rfl ?_
  refine asg0 rfl ?_
  refine done ⟨by kernel_rfl, by kernel_rfl, ?_⟩
  refine Wp.ret ?_
  refine Ends.ret (.cons (.cell rfl rfl rfl (Nat.le_of_ble_eq_true rfl) (Fz.wk rfl)) <| .cons (.tmp rfl (Fz.wk rfl)) <|  .nil) ?_
  exact f_wa2_k1
  have nc5 := Nz c5
  refine Wp.skip <| Wp.seq <| Wp.block <| Wp.seq <| reg <| mv0 rfl <| cmp0 rfl <| asg0 rfl <| done ?_
  refine Wp.cond rfl (fun c6 => ?_) (fun c6 => ?_)
  have nc6 := Nz c6
  refine Wp.seq <| reg <| clw0 rfl f_vcommand rfl ?_
  refine clw0 rfl f_vact rfl ?_
  refine stw0 rfl ?_
  refine asg0 rfl <| done ?_
  refine Wp.ret ?_
  refine Ends.ret (.cons (.cell rfl rfl rfl (Nat.le_of_ble_eq_true rfl) (Fz.wk rfl)) <| .cons (.tmp rfl (Fz.wk rfl)) <|  .nil) ?_
  exact f_wa2_k1
  have nc6 := Nz c6
  refine Wp.seq <| reg <| mv0 rfl <| cmp0 rfl <| asg0 rfl <| done ?_
  refine Wp.condF rfl rfl <| Wp.seq <| reg <| mv0 rfl <| cmp0 rfl <| asg0 rfl <| done ?_
  refine Wp.condT rfl rfl <| Wp.seq <| reg <| bdw0 rfl ?_
  refine mv0 rfl <| clw0 rfl f_vmove rfl ?_
  refine stw0 rfl ?_
  refine asg0 rfl <| done ?_
  refine Wp.ret ?_
  refine Ends.ret (.cons (.cell rfl rfl rfl (Nat.le_of_ble_eq_true rfl) (Fz.wk rfl)) <| .cons (.tmp rfl (Fz.wk rfl)) <|  .nil) ?_
  exact f_wa2_k1
  have nh34 := Nz h34
  refine sk0 rfl h34 <| sk0 rfl h34 <| sk0 rfl h34 <| pkf0 rfl h34 <| asg0 rfl <| done ?_
  refine Wp.condF rfl rfl <| Wp.skip <| Wp.seq <| Wp.block <| Wp.seq <| reg <| mv0 rfl <| cmp0 rfl <| asg0 rfl <| done ?_
  refine Wp.cond rfl (fun c7 => ?_) (fun c7 => ?_)
  have nc7 := Nz c7
  refine Wp.seq <| reg <| clw0 rfl f_vcommand rfl ?_
  refine clw0 rfl f_vact rfl ?_
  refine stw0 rfl ?_
  refine asg0 rfl <| done ?_
  refine Wp.ret ?_
  refine Ends.ret (.cons (.cell rfl rfl rfl (Nat.le_of_ble_eq_true rfl) (Fz.wk rfl)) <| .cons (.tmp rfl (Fz.wk rfl)) <|  .nil) ?_
  exact f_wa2_k1
  have nc7 := Nz c7
  refine Wp.seq <| reg <| mv0 rfl <| cmp0 rfl <| asg0 rfl <| done ?_
  refine Wp.condF rfl rfl <| Wp.seq <| reg <| mv0 rfl <| cmp0 rfl <| asg0 rfl <| done ?_
  refine Wp.condT rfl rfl <| Wp.seq <| reg <| bdw0 rfl ?_
  refine mv0 rfl <| clw0 rfl f_vmove rfl ?_
  refine stw0 rfl ?_
  refine asg0 rfl <| done ?_
  refine Wp.ret ?_
  refine Ends.ret (.cons (.cell rfl rfl rfl (Nat.le_of_ble_eq_true rfl) (Fz.wk rfl)) <| .cons (.tmp rfl (Fz.wk rfl)) <|  .nil) ?_
  exact f_wa2_k1
  have nh29 := Nz h29
  refine sk0 rfl h29 <| sk0 rfl h29 <| sk0 rfl h29 <| pkf0 rfl h29 <| mv0 rfl <| sk0 rfl rfl <| sk0 rfl rfl <| sk0 rfl rfl <| pkf0 rfl rfl <| asg0 rfl <| done ?_
  refine Wp.condF rfl rfl <| Wp.skip <| Wp.seq <| Wp.block <| Wp.seq <| reg <| mv0 rfl <| cmp0 rfl <| asg0 rfl <| done ?_
  refine Wp.cond rfl (fun c8 => ?_) (fun c8 => ?_)
  have nc8 := Nz c8
  refine Wp.seq <| reg <| clw0 rfl f_vcommand rfl ?_
  refine clw0 rfl f_vact rfl ?_
  refine stw0 rfl ?_
  refine asg0 rfl <| done ?_
  refine Wp.ret ?_
  refine Ends.ret (.cons (.cell rfl rfl rfl (Nat.le_of_ble_eq_true rfl) (Fz.wk rfl)) <| .cons (.tmp rfl (Fz.wk rfl)) <|  .nil) ?_
  exact f_wa2_k1
  have nc8 := Nz c8
  refine Wp.seq <| reg <| mv0 rfl <| cmp0 rfl <| asg0 rfl <| done ?_
  refine Wp.condF rfl rfl <| Wp.seq <| reg <| mv0 rfl <| cmp0 rfl <| asg0 rfl <| done ?_
  refine Wp.condT rfl rfl <| Wp.seq <| reg <| bdw0 rfl ?_
  refine mv0 rfl <| clw0 rfl f_vmove rfl ?_
  refine stw0 rfl ?_
  refine asg0 rfl <| done ?_
  refine Wp.ret ?_
  refine Ends.ret (.cons (.cell rfl rfl rfl (Nat.le_of_ble_eq_true rfl) (Fz.wk rfl)) <| .cons (.tmp rfl (Fz.wk rfl)) <|  .nil) ?_
  exact f_wa2_k1

theorem f_wa3_k1 {p : Prop} (h : p := by
    (first | refine resC0 rfl rfl ?_ | refine resC1 rfl rfl ?_); simp only [waS]; simp_all <;> omega) : p := h
set_option maxRecDepth 20000 in
theorem f_wa3 {k r : Int} {dg : Bool} : FnP PP 251 [.int .i64 3, .agg [.int .i64 k, .int .i32 r], .bool dg] (resD (waS 3 k r dg)) := by
  refine FnP.of_body Tryz.func251 rfl (by kernel_rfl) rfl ?_
  refine Wp.seq <| reg <| bx0 68 rfl ?_
  refine al0 70 rfl ?_
  refine asg0 rfl <| done ?_
  refine Wp.seq <| reg <| mv0 rfl <| ix 3 (c := 121) rfl rfl rfl rfl rfl rfl .none ?_
  refine cv 121 rfl (by decide) rfl .none ?_
  refine asg0 rfl <| done ?_
  refine Wp.seq <| reg <| faA0 rfl ?_
  refine ldA0 rfl ?_
  refine mv0 rfl <| clw0 rfl f_leads rfl ?_
  refine asg0 rfl <| done ?_
  refine Wp.seq <| Wp.block <| Wp.seq <| reg <| faA0 rfl ?_
  refine ldA0 rfl ?_
  refine cmp0 rfl <| asg0 rfl <| done ?_
  refine Wp.cond rfl (fun c1 => ?_) (fun c1 => ?_)
  have nc1 := Nz c1
  refine reg <| asg0 rfl <| done ?_
  refine Wp.seq <| Wp.block <| Wp.seq <| reg <| mv0 rfl <| cmp0 rfl <| asg0 rfl <| done ?_
  refine Wp.cond rfl (fun c2 => ?_) (fun c2 => ?_)
  have nc2 := Nz c2
  refine Wp.seq <| reg <| clw0 rfl f_vcommand rfl ?_
  refine clw0 rfl f_vact rfl ?_
  refine stw0 rfl ?_
  refine asg0 rfl <| done ?_
  refine Wp.ret ?_
  refine Ends.ret (.cons (.cell rfl rfl rfl (Nat.le_of_ble_eq_true rfl) (Fz.wk rfl)) <| .cons (.tmp rfl (Fz.wk rfl)) <|  .nil) ?_
  exact f_wa3_k1
  have nc2 := Nz c2
  refine Wp.seq <| reg <| mv0 rfl <| cmp0 rfl <| asg0 rfl <| done ?_
  refine Wp.condT rfl rfl <| Wp.seq <| reg <| clw0 rfl f_vcommand rfl ?_
  refine mv0 rfl <| clw0 rfl f_vmove rfl ?_
  refine stw0 rfl ?_
  refine asg0 rfl <| done ?_
  refine Wp.ret ?_
  refine Ends.ret (.cons (.cell rfl rfl rfl (Nat.le_of_ble_eq_true rfl) (Fz.wk rfl)) <| .cons (.tmp rfl (Fz.wk rfl)) <|  .nil) ?_
  exact f_wa3_k1
  have nc1 := Nz c1
  refine Wp.seq <| reg <| faA0 rfl ?_
  refine ldA0 rfl ?_
  refine mv0 rfl <| cmp0 rfl <| asg0 rfl <| done ?_
  refine Wp.cond rfl (fun c3 => ?_) (fun c3 => ?_)
  have nc3 := Nz c3
  refine reg <| asg0 rfl <| done ?_
  refine Wp.seq <| Wp.block <| Wp.seq <| reg <| mv0 rfl <| cmp0 rfl <| asg0 rfl <| done ?_
  refine Wp.cond rfl (fun c4 => ?_) (fun c4 => ?_)
  have nc4 := Nz c4
  refine Wp.seq <| reg <| clw0 rfl f_vcommand rfl ?_
  refine clw0 rfl f_vact rfl ?_
  refine stw0 rfl ?_
  refine asg0 rfl <| done ?_
  refine Wp.ret ?_
  refine Ends.ret (.cons (.cell rfl rfl rfl (Nat.le_of_ble_eq_true rfl) (Fz.wk rfl)) <| .cons (.tmp rfl (Fz.wk rfl)) <|  .nil) ?_
  exact f_wa3_k1
  have nc4 := Nz c4
  refine Wp.seq <| reg <| mv0 rfl <| cmp0 rfl <| asg0 rfl <| done ?_
  refine Wp.condT rfl rfl <| Wp.seq <| reg <| clw0 rfl f_vcommand rfl ?_
  refine mv0 rfl <| clw0 rfl f_vmove rfl ?_
  refine stw0 rfl ?_
  refine asg0 rfl <| done ?_
  refine Wp.ret ?_
  refine Ends.ret (.cons (.cell rfl rfl rfl (Nat.le_of_ble_eq_true rfl) (Fz.wk rfl)) <| .cons (.tmp rfl (Fz.wk rfl)) <|  .nil) ?_
  exact f_wa3_k1
  have nc3 := Nz c3
  refine Wp.seq <| reg <| mv0 rfl <| cmp0 rfl <| mv0 rfl ?_
  refine bcase 29 rfl (fun h29 => ?_) (fun h29 => ?_)
  have nh29 := Nz h29
  refine faA1 rfl h29 rfl ?_
  refine ldA1 rfl h29 rfl ?_
  refine cmp1 rfl h29 rfl <| pkt0 rfl h29 <| mv0 rfl ?_
  refine bcase 34 rfl (fun h34 => ?_) (fun h34 => ?_)
  have nh34 := Nz h34
  refine faA1 rfl h34 rfl ?_
  refine ldA1 rfl h34 rfl ?_
  refine cmp1 rfl h34 rfl <| pkt0 rfl h34 <| asg0 rfl <| done ?_
  refine Wp.cond rfl (fun c5 => ?_) (fun c5 => ?_)
  have nc5 := Nz c5
  refine Wp.seq <| regd mixed ?_
  refine mv0 rfl <| clw0 rfl f_vcommand rfl ?_
  refine faA0 rfl ?_
  refine ldA0 rfl ?_
  refine bdw0 rfl ?_
  refine bs0 rfl ?_
  refine stw0 rfl ?_
  refine asg0 rfl ?_
  refine done ⟨by kernel_rfl, by kernel_rfl, ?_⟩
  refine Wp.ret ?_
  refine Ends.ret (.cons (.cell rfl rfl rfl (Nat.le_of_ble_eq_true rfl) (Fz.wk rfl)) <| .cons (.tmp rfl (Fz.wk rfl)) <|  .nil) ?_
  exact f_wa3_k1
  have nc5 := Nz c5
  refine Wp.skip <| Wp.seq <| Wp.block <| Wp.seq <| reg <| mv0 rfl <| cmp0 rfl <| asg0 rfl <| done ?_
  refine Wp.cond rfl (fun c6 => ?_) (fun c6 => ?_)
  have nc6 := Nz c6
  refine Wp.seq <| reg <| clw0 rfl f_vcommand rfl ?_
  refine clw0 rfl f_vact rfl ?_
  refine stw0 rfl ?_
  refine asg0 rfl <| done ?_
  refine Wp.ret ?_
  refine Ends.ret (.cons (.cell rfl rfl rfl (Nat.le_of_ble_eq_true rfl) (Fz.wk rfl)) <| .cons (.tmp rfl (Fz.wk rfl)) <|  .nil) ?_
  exact f_wa3_k1
  have nc6 := Nz c6
  refine Wp.seq <| reg <| mv0 rfl <| cmp0 rfl <| asg0 rfl <| done ?_
  refine Wp.condT rfl rfl <| Wp.seq <| reg <| clw0 rfl f_vcommand rfl ?_
  refine mv0 rfl <| clw0 rfl f_vmove rfl ?_
  refine stw0 rfl ?_
  refine asg0 rfl <| done ?_
  refine Wp.ret ?_
  refine Ends.ret (.cons (.cell rfl rfl rfl (Nat.le_of_ble_eq_true rfl) (Fz.wk rfl)) <| .cons (.tmp rfl (Fz.wk rfl)) <|  .nil) ?_
  exact f_wa3_k1
  have nh34 := Nz h34
  refine sk0 rfl h34 <| sk0 rfl h34 <| sk0 rfl h34 <| pkf0 rfl h34 <| asg0 rfl <| done ?_
  refine Wp.condF rfl rfl <| Wp.skip <| Wp.seq <| Wp.block <| Wp.seq <| reg <| mv0 rfl <| cmp0 rfl <| asg0 rfl <| done ?_
  refine Wp.cond rfl (fun c7 => ?_) (fun c7 => ?_)
  have nc7 := Nz c7
  refine Wp.seq <| reg <| clw0 rfl f_vcommand rfl ?_
  refine clw0 rfl f_vact rfl ?_
  refine stw0 rfl ?_
  refine asg0 rfl <| done ?_
  refine Wp.ret ?_
  refine Ends.ret (.cons (.cell rfl rfl rfl (Nat.le_of_ble_eq_true rfl) (Fz.wk rfl)) <| .cons (.tmp rfl (Fz.wk rfl)) <|  .nil) ?_
  exact f_wa3_k1
  have nc7 := Nz c7
  refine Wp.seq <| reg <| mv0 rfl <| cmp0 rfl <| asg0 rfl <| done ?_
  refine Wp.condT rfl rfl <| Wp.seq <| reg <| clw0 rfl f_vcommand rfl ?_
  refine mv0 rfl <| clw0 rfl f_vmove rfl ?_
  refine stw0 rfl ?_
  refine asg0 rfl <| done ?_
  refine Wp.ret ?_
  refine Ends.ret (.cons (.cell rfl rfl rfl (Nat.le_of_ble_eq_true rfl) (Fz.wk rfl)) <| .cons (.tmp rfl (Fz.wk rfl)) <|  .nil) ?_
  exact f_wa3_k1
  have nh29 := Nz h29
  refine sk0 rfl h29 <| sk0 rfl h29 <| sk0 rfl h29 <| pkf0 rfl h29 <| mv0 rfl <| sk0 rfl rfl <| sk0 rfl rfl <| sk0 rfl rfl <| pkf0 rfl rfl <| asg0 rfl <| done ?_
  refine Wp.condF rfl rfl <| Wp.skip <| Wp.seq <| Wp.block <| Wp.seq <| reg <| mv0 rfl <| cmp0 rfl <| asg0 rfl <| done ?_
  refine Wp.cond rfl (fun c8 => ?_) (fun c8 => ?_)
  have nc8 := Nz c8
  refine Wp.seq <| reg <| clw0 rfl f_vcommand rfl ?_
  refine clw0 rfl f_vact rfl ?_
  refine stw0 rfl ?_
  refine asg0 rfl <| done ?_
  refine Wp.ret ?_
  refine Ends.ret (.cons (.cell rfl rfl rfl (Nat.le_of_ble_eq_true rfl) (Fz.wk rfl)) <| .cons (.tmp rfl (Fz.wk rfl)) <|  .nil) ?_
  exact f_wa3_k1
  have nc8 := Nz c8
  refine Wp.seq <| reg <| mv0 rfl <| cmp0 rfl <| asg0 rfl <| done ?_
  refine Wp.condT rfl rfl <| Wp.seq <| reg <| clw0 rfl f_vcommand rfl ?_
  refine mv0 rfl <| clw0 rfl f_vmove rfl ?_
  refine stw0 rfl ?_
  refine asg0 rfl <| done ?_
  refine Wp.ret ?_
  refine Ends.ret (.cons (.cell rfl rfl rfl (Nat.le_of_ble_eq_true rfl) (Fz.wk rfl)) <| .cons (.tmp rfl (Fz.wk rfl)) <|  .nil) ?_
  exact f_wa3_k1

end Go.Proofs.YtkcdmmafkpplhaaGreat
/- Walks of layer 18: vi.Map. -/
namespace Go.Proofs.YtkcdmmafkpplhaaGreat
open Go.Eng
theorem f_ins10 {dg : Bool} : FnP PP 243 [.agg [], .agg [.int .i64 10, .int .i32 0], .bool dg] (.tup [viD (1, 0), .rows false (List.map actR [(1, 1, 0, 0)])]) := f_insK (k := 10) (r := 0)
theorem f_ob10 {dg : Bool} : FnP PP 247 [.agg [], .agg [.int .i64 10, .int .i32 0], .bool dg] (.tup [viD (1, 0), .rows false (List.map actR [(16, 0, 0, 0)])]) := f_ob (k := 10) (r := 0)
theorem f_wa10_1 {dg : Bool} : FnP PP 251 [.int .i64 1, .agg [.int .i64 10, .int .i32 0], .bool dg] (.tup [viD (1, 0), .rows false (List.map actR [(16, 0, 0, 0)])]) := f_wa1 (k := 10) (r := 0)
theorem f_wa10_2 {dg : Bool} : FnP PP 251 [.int .i64 2, .agg [.int .i64 10, .int .i32 0], .bool dg] (.tup [viD (1, 0), .rows false (List.map actR [(16, 0, 0, 0)])]) := f_wa2 (k := 10) (r := 0)
theorem f_wa10_3 {dg : Bool} : FnP PP 251 [.int .i64 3, .agg [.int .i64 10, .int .i32 0], .bool dg] (.tup [viD (1, 0), .rows false (List.map actR [(16, 0, 0, 0)])]) := f_wa3 (k := 10) (r := 0)
instance : Enc actR 4 := ⟨fun _ => ⟨rfl, rfl⟩⟩

theorem f_map0_k1 {p : Prop} (h : p := by
    first | (rw [if_pos (by simp_all)]; exact resF1 rfl rfl) | (rw [if_neg (by simp_all)]; exact resF1 rfl rfl)) : p := h
set_option maxRecDepth 20000 in
theorem f_map0 {k r : Int} {dg : Bool} : FnP PP 63 [.agg [.int .i64 0, .int .i64 0], .agg [.int .i64 k, .int .i32 r], .bool dg] (resF (if k ≠ 2 then insK k r else metaS [(1, 1, 0, 0)] r dg)) := by
  refine FnP.of_body Tryz.func63 rfl (by kernel_rfl) rfl ?_
  refine Wp.seq <| reg <| bx0 67 rfl ?_
  refine bx0 68 rfl ?_
  refine al0 70 rfl ?_
  refine asg0 rfl <| done ?_
  refine Wp.seq <| Wp.seq <| reg <| ldA0 rfl ?_
  refine clw0 rfl f_viIs rfl ?_
  refine nt0 rfl <| done ?_
  refine Wp.condF rfl rfl <| Wp.skip <| Wp.seq <| Wp.seq <| reg <| faA0 rfl ?_
  refine ldA0 rfl ?_
  refine cmp0 rfl <| done ?_
  refine Wp.cond rfl (fun c1 => ?_) (fun c1 => ?_)
  have nc1 := Nz c1
  refine Wp.seq <| regd mixed ?_
  refine ldA0 rfl ?_
  refine clw0 rfl f_reads rfl ?_
  refine ldA0 rfl ?_
  refine mv0 rfl <| inv0 rfl f_insK rfl ?_
  refine xt0 rfl <| xt0 rfl <| stw0 rfl ?_
  refine asg0 rfl ?_
  refine done ⟨by kernel_rfl, by kernel_rfl, ?_⟩
  refine Wp.ret ?_
  refine Ends.ret (.cons (.cell rfl rfl rfl (Nat.le_of_ble_eq_true rfl) (Fz.wk rfl)) <| .cons (.tmp rfl (by first | exact Fz.wk rfl | exact Fz.sl rfl (by rw [List.length_map]) (Enc.pure _))) <|  .nil) ?_
  exact f_map0_k1
  have nc1 := Nz c1
  refine Wp.skip <| Wp.seq <| reg <| asg0 rfl <| done ?_
  refine Wp.seq <| Wp.seq <| reg <| bdw0 rfl ?_
  refine faA0 rfl ?_
  refine ldA0 rfl ?_
  refine bdw0 rfl ?_
  refine bs0 rfl ?_
  first | refine lnM0 rfl ?_ | refine lns0 rfl ?_ | refine ln0 rfl ?_
  refine mv0 rfl <| done ?_
  refine Wp.block <| Wp.rounds 3 ?_
  refine WpN.go ?_
  refine Wp.seq <| reg <| cmp0 rfl <| done ?_
  refine Wp.seq <| Wp.condT rfl rfl <| Wp.skip <| Wp.seq <| Wp.block <| Wp.seq <| reg <| ia 0 _ rfl rfl rfl rfl rfl rfl .none ?_
  refine ldA0 rfl ?_
  refine al0 74 rfl ?_
  refine stw0 rfl ?_
  refine done ?_
  refine Wp.seq <| regd mixed ?_
  refine ldA0 rfl ?_
  refine clw0 rfl f_reads rfl ?_
  refine ldA0 rfl ?_
  refine mv0 rfl <| inv0 rfl f_ins10 rfl ?_
  refine mv0 rfl <| xt0 rfl <| xt0 rfl <| al0 75 rfl ?_
  refine stw0 rfl ?_
  refine asg0 rfl ?_
  refine done ⟨by kernel_rfl, by kernel_rfl, ?_⟩
  refine regd mixed ?_
  refine ldA0 rfl ?_
  refine mv0 rfl <| mv0 rfl ?_
  have hob := obS_len 1 r dg
  refine apnM 1480 1481 rfl rfl Bd rfl rfl rfl rfl .none ?_
  refine stw0 rfl ?_
  refine asg0 rfl ?_
  refine done ⟨by kernel_rfl, by kernel_rfl, ?_⟩
  refine reg <| ar0 rfl (wrapI Bd) <| mv0 rfl <| done ?_
  refine WpN.go ?_
  refine Wp.seq <| reg <| cmp0 rfl <| done ?_
  refine Wp.seq <| Wp.condT rfl rfl <| Wp.skip <| Wp.seq <| Wp.block <| Wp.seq <| reg <| ia 1 _ rfl rfl rfl rfl rfl rfl .none ?_
  refine ldA0 rfl ?_
  refine al0 5074 rfl ?_
  refine stw0 rfl ?_
  refine done ?_
  refine Wp.seq <| regd mixed ?_
  refine ldA0 rfl ?_
  refine clw0 rfl f_reads rfl ?_
  refine ldA0 rfl ?_
  refine mv0 rfl <| inv0 rfl (f_ob (k := 1)) rfl ?_
  refine mv0 rfl <| xt0 rfl <| xt0 rfl <| al0 5075 rfl ?_
  refine stw0 rfl ?_
  refine asg0 rfl ?_
  refine done ⟨by kernel_rfl, by kernel_rfl, ?_⟩
  refine regd mixed ?_
  refine ldA0 rfl ?_
  refine mv0 rfl <| mv0 rfl ?_
  have hob := obS_len 1 r dg
  refine apoM 1483 rfl rfl Bd rfl Bd rfl rfl rfl .none ?_
  refine stw0 rfl ?_
  refine asg0 rfl ?_
  refine done ⟨by kernel_rfl, by kernel_rfl, ?_⟩
  refine reg <| ar0 rfl (wrapI Bd) <| mv0 rfl <| done ?_
  refine WpN.go ?_
  refine Wp.seq <| reg <| cmp0 rfl <| done ?_
  refine Wp.seq <| Wp.condF rfl rfl <| Wp.exit <| Wp.seq <| reg <| ldA0 rfl ?_
  refine mv0 rfl <| stw0 rfl ?_
  refine asg0 rfl <| done ?_
  refine Wp.ret ?_
  refine Ends.ret (.cons (.cell rfl rfl rfl (Nat.le_of_ble_eq_true rfl) (Fz.wk rfl)) <| .cons (.tmp rfl (by first | exact Fz.wk rfl | exact Fz.sl rfl (by rw [List.length_map]) (Enc.pure _))) <|  .nil) ?_
  exact f_map0_k1

theorem f_map1_k1 {p : Prop} (h : p := by
    first | (rw [if_pos (by simp_all)]; exact resF1 rfl rfl) | (rw [if_neg (by simp_all)]; exact resF1 rfl rfl)) : p := h
set_option maxRecDepth 20000 in
theorem f_map1 {k r : Int} {dg : Bool} : FnP PP 63 [.agg [.int .i64 1, .int .i64 0], .agg [.int .i64 k, .int .i32 r], .bool dg] (resF (if k ≠ 2 then obS k r dg else metaS [(16, 0, 0, 0)] r dg)) := by
  refine FnP.of_body Tryz.func63 rfl (by kernel_rfl) rfl ?_
  refine Wp.seq <| reg <| bx0 67 rfl ?_
  refine bx0 68 rfl ?_
  refine al0 70 rfl ?_
  refine asg0 rfl <| done ?_
  refine Wp.seq <| Wp.seq <| reg <| ldA0 rfl ?_
  refine clw0 rfl f_viIs rfl ?_
  refine nt0 rfl <| done ?_
  refine Wp.condF rfl rfl <| Wp.skip <| Wp.seq <| Wp.seq <| reg <| faA0 rfl ?_
  refine ldA0 rfl ?_
  refine cmp0 rfl <| done ?_
  refine Wp.cond rfl (fun c1 => ?_) (fun c1 => ?_)
  have nc1 := Nz c1
  refine Wp.seq <| regd mixed ?_
  refine ldA0 rfl ?_
  refine clw0 rfl f_reads rfl ?_
  refine ldA0 rfl ?_
  refine mv0 rfl <| inv0 rfl f_ob rfl ?_
  refine xt0 rfl <| xt0 rfl <| stw0 rfl ?_
  refine asg0 rfl ?_
  refine done ⟨by kernel_rfl, by kernel_rfl, ?_⟩
  refine Wp.ret ?_
  refine Ends.ret (.cons (.cell rfl rfl rfl (Nat.le_of_ble_eq_true rfl) (Fz.wk rfl)) <| .cons (.tmp rfl (by first | exact Fz.wk rfl | exact Fz.sl rfl (by rw [List.length_map]) (Enc.pure _))) <|  .nil) ?_
  exact f_map1_k1
  have nc1 := Nz c1
  refine Wp.skip <| Wp.seq <| reg <| asg0 rfl <| done ?_
  refine Wp.seq <| Wp.seq <| reg <| bdw0 rfl ?_
  refine faA0 rfl ?_
  refine ldA0 rfl ?_
  refine bdw0 rfl ?_
  refine bs0 rfl ?_
  first | refine lnM0 rfl ?_ | refine lns0 rfl ?_ | refine ln0 rfl ?_
  refine mv0 rfl <| done ?_
  refine Wp.block <| Wp.rounds 3 ?_
  refine WpN.go ?_
  refine Wp.seq <| reg <| cmp0 rfl <| done ?_
  refine Wp.seq <| Wp.condT rfl rfl <| Wp.skip <| Wp.seq <| Wp.block <| Wp.seq <| reg <| ia 0 _ rfl rfl rfl rfl rfl rfl .none ?_
  refine ldA0 rfl ?_
  refine al0 74 rfl ?_
  refine stw0 rfl ?_
  refine done ?_
  refine Wp.seq <| regd mixed ?_
  refine ldA0 rfl ?_
  refine clw0 rfl f_reads rfl ?_
  refine ldA0 rfl ?_
  refine mv0 rfl <| inv0 rfl f_ob10 rfl ?_
  refine mv0 rfl <| xt0 rfl <| xt0 rfl <| al0 75 rfl ?_
  refine stw0 rfl ?_
  refine asg0 rfl ?_
  refine done ⟨by kernel_rfl, by kernel_rfl, ?_⟩
  refine regd mixed ?_
  refine ldA0 rfl ?_
  refine mv0 rfl <| mv0 rfl ?_
  have hob := obS_len 1 r dg
  refine apnM 1480 1481 rfl rfl Bd rfl rfl rfl rfl .none ?_
  refine stw0 rfl ?_
  refine asg0 rfl ?_
  refine done ⟨by kernel_rfl, by kernel_rfl, ?_⟩
  refine reg <| ar0 rfl (wrapI Bd) <| mv0 rfl <| done ?_
  refine WpN.go ?_
  refine Wp.seq <| reg <| cmp0 rfl <| done ?_
  refine Wp.seq <| Wp.condT rfl rfl <| Wp.skip <| Wp.seq <| Wp.block <| Wp.seq <| reg <| ia 1 _ rfl rfl rfl rfl rfl rfl .none ?_
  refine ldA0 rfl ?_
  refine al0 5074 rfl ?_
  refine stw0 rfl ?_
  refine done ?_
  refine Wp.seq <| regd mixed ?_
  refine ldA0 rfl ?_
  refine clw0 rfl f_reads rfl ?_
  refine ldA0 rfl ?_
  refine mv0 rfl <| inv0 rfl (f_ob (k := 1)) rfl ?_
  refine mv0 rfl <| xt0 rfl <| xt0 rfl <| al0 5075 rfl ?_
  refine stw0 rfl ?_
  refine asg0 rfl ?_
  refine done ⟨by kernel_rfl, by kernel_rfl, ?_⟩
  refine regd mixed ?_
  refine ldA0 rfl ?_
  refine mv0 rfl <| mv0 rfl ?_
  have hob := obS_len 1 r dg
  refine apoM 1483 rfl rfl Bd rfl Bd rfl rfl rfl .none ?_
  refine stw0 rfl ?_
  refine asg0 rfl ?_
  refine done ⟨by kernel_rfl, by kernel_rfl, ?_⟩
  refine reg <| ar0 rfl (wrapI Bd) <| mv0 rfl <| done ?_
  refine WpN.go ?_
  refine Wp.seq <| reg <| cmp0 rfl <| done ?_
  refine Wp.seq <| Wp.condF rfl rfl <| Wp.exit <| Wp.seq <| reg <| ldA0 rfl ?_
  refine mv0 rfl <| stw0 rfl ?_
  refine asg0 rfl <| done ?_
  refine Wp.ret ?_
  refine Ends.ret (.cons (.cell rfl rfl rfl (Nat.le_of_ble_eq_true rfl) (Fz.wk rfl)) <| .cons (.tmp rfl (by first | exact Fz.wk rfl | exact Fz.sl rfl (by rw [List.length_map]) (Enc.pure _))) <|  .nil) ?_
  exact f_map1_k1

theorem f_mapw1_k1 {p : Prop} (h : p := by
    first | (rw [if_pos (by simp_all)]; exact resF1 rfl rfl) | (rw [if_neg (by simp_all)]; exact resF1 rfl rfl)) : p := h
set_option maxRecDepth 20000 in
theorem f_mapw1 {k r : Int} {dg : Bool} : FnP PP 63 [.agg [.int .i64 1, .int .i64 1], .agg [.int .i64 k, .int .i32 r], .bool dg] (resF (if k ≠ 2 then waS 1 k r dg else metaS [(16, 0, 0, 0)] r dg)) := by
  refine FnP.of_body Tryz.func63 rfl (by kernel_rfl) rfl ?_
  refine Wp.seq <| reg <| bx0 67 rfl ?_
  refine bx0 68 rfl ?_
  refine al0 70 rfl ?_
  refine asg0 rfl <| done ?_
  refine Wp.seq <| Wp.seq <| reg <| ldA0 rfl ?_
  refine clw0 rfl f_viIs rfl ?_
  refine nt0 rfl <| done ?_
  refine Wp.condF rfl rfl <| Wp.skip <| Wp.seq <| Wp.seq <| reg <| faA0 rfl ?_
  refine ldA0 rfl ?_
  refine cmp0 rfl <| done ?_
  refine Wp.cond rfl (fun c1 => ?_) (fun c1 => ?_)
  have nc1 := Nz c1
  refine Wp.seq <| regd mixed ?_
  refine ldA0 rfl ?_
  refine clw0 rfl f_reads rfl ?_
  refine ldA0 rfl ?_
  refine mv0 rfl <| inv0 rfl f_wa1 rfl ?_
  refine xt0 rfl <| xt0 rfl <| stw0 rfl ?_
  refine asg0 rfl ?_
  refine done ⟨by kernel_rfl, by kernel_rfl, ?_⟩
  refine Wp.ret ?_
  refine Ends.ret (.cons (.cell rfl rfl rfl (Nat.le_of_ble_eq_true rfl) (Fz.wk rfl)) <| .cons (.tmp rfl (by first | exact Fz.wk rfl | exact Fz.sl rfl (by rw [List.length_map]) (Enc.pure _))) <|  .nil) ?_
  exact f_mapw1_k1
  have nc1 := Nz c1
  refine Wp.skip <| Wp.seq <| reg <| asg0 rfl <| done ?_
  refine Wp.seq <| Wp.seq <| reg <| bdw0 rfl ?_
  refine faA0 rfl ?_
  refine ldA0 rfl ?_
  refine bdw0 rfl ?_
  refine bs0 rfl ?_
  first | refine lnM0 rfl ?_ | refine lns0 rfl ?_ | refine ln0 rfl ?_
  refine mv0 rfl <| done ?_
  refine Wp.block <| Wp.rounds 3 ?_
  refine WpN.go ?_
  refine Wp.seq <| reg <| cmp0 rfl <| done ?_
  refine Wp.seq <| Wp.condT rfl rfl <| Wp.skip <| Wp.seq <| Wp.block <| Wp.seq <| reg <| ia 0 _ rfl rfl rfl rfl rfl rfl .none ?_
  refine ldA0 rfl ?_
  refine al0 74 rfl ?_
  refine stw0 rfl ?_
  refine done ?_
  refine Wp.seq <| regd mixed ?_
  refine ldA0 rfl ?_
  refine clw0 rfl f_reads rfl ?_
  refine ldA0 rfl ?_
  refine mv0 rfl <| inv0 rfl f_wa10_1 rfl ?_
  refine mv0 rfl <| xt0 rfl <| xt0 rfl <| al0 75 rfl ?_
  refine stw0 rfl ?_
  refine asg0 rfl ?_
  refine done ⟨by kernel_rfl, by kernel_rfl, ?_⟩
  refine regd mixed ?_
  refine ldA0 rfl ?_
  refine mv0 rfl <| mv0 rfl ?_
  have hob := obS_len 1 r dg
  refine apnM 1480 1481 rfl rfl Bd rfl rfl rfl rfl .none ?_
  refine stw0 rfl ?_
  refine asg0 rfl ?_
  refine done ⟨by kernel_rfl, by kernel_rfl, ?_⟩
  refine reg <| ar0 rfl (wrapI Bd) <| mv0 rfl <| done ?_
  refine WpN.go ?_
  refine Wp.seq <| reg <| cmp0 rfl <| done ?_
  refine Wp.seq <| Wp.condT rfl rfl <| Wp.skip <| Wp.seq <| Wp.block <| Wp.seq <| reg <| ia 1 _ rfl rfl rfl rfl rfl rfl .none ?_
  refine ldA0 rfl ?_
  refine al0 5074 rfl ?_
  refine stw0 rfl ?_
  refine done ?_
  refine Wp.seq <| regd mixed ?_
  refine ldA0 rfl ?_
  refine clw0 rfl f_reads rfl ?_
  refine ldA0 rfl ?_
  refine mv0 rfl <| inv0 rfl (f_ob (k := 1)) rfl ?_
  refine mv0 rfl <| xt0 rfl <| xt0 rfl <| al0 5075 rfl ?_
  refine stw0 rfl ?_
  refine asg0 rfl ?_
  refine done ⟨by kernel_rfl, by kernel_rfl, ?_⟩
  refine regd mixed ?_
  refine ldA0 rfl ?_
  refine mv0 rfl <| mv0 rfl ?_
  have hob := obS_len 1 r dg
  refine apoM 1483 rfl rfl Bd rfl Bd rfl rfl rfl .none ?_
  refine stw0 rfl ?_
  refine asg0 rfl ?_
  refine done ⟨by kernel_rfl, by kernel_rfl, ?_⟩
  refine reg <| ar0 rfl (wrapI Bd) <| mv0 rfl <| done ?_
  refine WpN.go ?_
  refine Wp.seq <| reg <| cmp0 rfl <| done ?_
  refine Wp.seq <| Wp.condF rfl rfl <| Wp.exit <| Wp.seq <| reg <| ldA0 rfl ?_
  refine mv0 rfl <| stw0 rfl ?_
  refine asg0 rfl <| done ?_
  refine Wp.ret ?_
  refine Ends.ret (.cons (.cell rfl rfl rfl (Nat.le_of_ble_eq_true rfl) (Fz.wk rfl)) <| .cons (.tmp rfl (by first | exact Fz.wk rfl | exact Fz.sl rfl (by rw [List.length_map]) (Enc.pure _))) <|  .nil) ?_
  exact f_mapw1_k1

theorem f_mapw2_k1 {p : Prop} (h : p := by
    first | (rw [if_pos (by simp_all)]; exact resF1 rfl rfl) | (rw [if_neg (by simp_all)]; exact resF1 rfl rfl)) : p := h
set_option maxRecDepth 20000 in
theorem f_mapw2 {k r : Int} {dg : Bool} : FnP PP 63 [.agg [.int .i64 1, .int .i64 2], .agg [.int .i64 k, .int .i32 r], .bool dg] (resF (if k ≠ 2 then waS 2 k r dg else metaS [(16, 0, 0, 0)] r dg)) := by
  refine FnP.of_body Tryz.func63 rfl (by kernel_rfl) rfl ?_
  refine Wp.seq <| reg <| bx0 67 rfl ?_
  refine bx0 68 rfl ?_
  refine al0 70 rfl ?_
  refine asg0 rfl <| done ?_
  refine Wp.seq <| Wp.seq <| reg <| ldA0 rfl ?_
  refine clw0 rfl f_viIs rfl ?_
  refine nt0 rfl <| done ?_
  refine Wp.condF rfl rfl <| Wp.skip <| Wp.seq <| Wp.seq <| reg <| faA0 rfl ?_
  refine ldA0 rfl ?_
  refine cmp0 rfl <| done ?_
  refine Wp.cond rfl (fun c1 => ?_) (fun c1 => ?_)
  have nc1 := Nz c1
  refine Wp.seq <| regd mixed ?_
  refine ldA0 rfl ?_
  refine clw0 rfl f_reads rfl ?_
  refine ldA0 rfl ?_
  refine mv0 rfl <| inv0 rfl f_wa2 rfl ?_
  refine xt0 rfl <| xt0 rfl <| stw0 rfl ?_
  refine asg0 rfl ?_
  refine done ⟨by kernel_rfl, by kernel_rfl, ?_⟩
  refine Wp.ret ?_
  refine Ends.ret (.cons (.cell rfl rfl rfl (Nat.le_of_ble_eq_true rfl) (Fz.wk rfl)) <| .cons (.tmp rfl (by first | exact Fz.wk rfl | exact Fz.sl rfl (by rw [List.length_map]) (Enc.pure _))) <|  .nil) ?_
  exact f_mapw2_k1
  have nc1 := Nz c1
  refine Wp.skip <| Wp.seq <| reg <| asg0 rfl <| done ?_
  refine Wp.seq <| Wp.seq <| reg <| bdw0 rfl ?_
  refine faA0 rfl ?_
  refine ldA0 rfl ?_
  refine bdw0 rfl ?_
  refine bs0 rfl ?_
  first | refine lnM0 rfl ?_ | refine lns0 rfl ?_ | refine ln0 rfl ?_
  refine mv0 rfl <| done ?_
  refine Wp.block <| Wp.rounds 3 ?_
  refine WpN.go ?_
  refine Wp.seq <| reg <| cmp0 rfl <| done ?_
  refine Wp.seq <| Wp.condT rfl rfl <| Wp.skip <| Wp.seq <| Wp.block <| Wp.seq <| reg <| ia 0 _ rfl rfl rfl rfl rfl rfl .none ?_
  refine ldA0 rfl ?_
  refine al0 74 rfl ?_
  refine stw0 rfl ?_
  refine done ?_
  refine Wp.seq <| regd mixed ?_
  refine ldA0 rfl ?_
  refine clw0 rfl f_reads rfl ?_
  refine ldA0 rfl ?_
  refine mv0 rfl <| inv0 rfl f_wa10_2 rfl ?_
  refine mv0 rfl <| xt0 rfl <| xt0 rfl <| al0 75 rfl ?_
  refine stw0 rfl ?_
  refine asg0 rfl ?_
  refine done ⟨by kernel_rfl, by kernel_rfl, ?_⟩
  refine regd mixed ?_
  refine ldA0 rfl ?_
  refine mv0 rfl <| mv0 rfl ?_
  have hob := obS_len 1 r dg
  refine apnM 1480 1481 rfl rfl Bd rfl rfl rfl rfl .none ?_
  refine stw0 rfl ?_
  refine asg0 rfl ?_
  refine done ⟨by kernel_rfl, by kernel_rfl, ?_⟩
  refine reg <| ar0 rfl (wrapI Bd) <| mv0 rfl <| done ?_
  refine WpN.go ?_
  refine Wp.seq <| reg <| cmp0 rfl <| done ?_
  refine Wp.seq <| Wp.condT rfl rfl <| Wp.skip <| Wp.seq <| Wp.block <| Wp.seq <| reg <| ia 1 _ rfl rfl rfl rfl rfl rfl .none ?_
  refine ldA0 rfl ?_
  refine al0 5074 rfl ?_
  refine stw0 rfl ?_
  refine done ?_
  refine Wp.seq <| regd mixed ?_
  refine ldA0 rfl ?_
  refine clw0 rfl f_reads rfl ?_
  refine ldA0 rfl ?_
  refine mv0 rfl <| inv0 rfl (f_ob (k := 1)) rfl ?_
  refine mv0 rfl <| xt0 rfl <| xt0 rfl <| al0 5075 rfl ?_
  refine stw0 rfl ?_
  refine asg0 rfl ?_
  refine done ⟨by kernel_rfl, by kernel_rfl, ?_⟩
  refine regd mixed ?_
  refine ldA0 rfl ?_
  refine mv0 rfl <| mv0 rfl ?_
  have hob := obS_len 1 r dg
  refine apoM 1483 rfl rfl Bd rfl Bd rfl rfl rfl .none ?_
  refine stw0 rfl ?_
  refine asg0 rfl ?_
  refine done ⟨by kernel_rfl, by kernel_rfl, ?_⟩
  refine reg <| ar0 rfl (wrapI Bd) <| mv0 rfl <| done ?_
  refine WpN.go ?_
  refine Wp.seq <| reg <| cmp0 rfl <| done ?_
  refine Wp.seq <| Wp.condF rfl rfl <| Wp.exit <| Wp.seq <| reg <| ldA0 rfl ?_
  refine mv0 rfl <| stw0 rfl ?_
  refine asg0 rfl <| done ?_
  refine Wp.ret ?_
  refine Ends.ret (.cons (.cell rfl rfl rfl (Nat.le_of_ble_eq_true rfl) (Fz.wk rfl)) <| .cons (.tmp rfl (by first | exact Fz.wk rfl | exact Fz.sl rfl (by rw [List.length_map]) (Enc.pure _))) <|  .nil) ?_
  exact f_mapw2_k1

theorem f_mapw3_k1 {p : Prop} (h : p := by
    first | (rw [if_pos (by simp_all)]; exact resF1 rfl rfl) | (rw [if_neg (by simp_all)]; exact resF1 rfl rfl)) : p := h
set_option maxRecDepth 20000 in
theorem f_mapw3 {k r : Int} {dg : Bool} : FnP PP 63 [.agg [.int .i64 1, .int .i64 3], .agg [.int .i64 k, .int .i32 r], .bool dg] (resF (if k ≠ 2 then waS 3 k r dg else metaS [(16, 0, 0, 0)] r dg)) := by
  refine FnP.of_body Tryz.func63 rfl (by kernel_rfl) rfl ?_
  refine Wp.seq <| reg <| bx0 67 rfl ?_
  refine bx0 68 rfl ?_
  refine al0 70 rfl ?_
  refine asg0 rfl <| done ?_
  refine Wp.seq <| Wp.seq <| reg <| ldA0 rfl ?_
  refine clw0 rfl f_viIs rfl ?_
  refine nt0 rfl <| done ?_
  refine Wp.condF rfl rfl <| Wp.skip <| Wp.seq <| Wp.seq <| reg <| faA0 rfl ?_
  refine ldA0 rfl ?_
  refine cmp0 rfl <| done ?_
  refine Wp.cond rfl (fun c1 => ?_) (fun c1 => ?_)
  have nc1 := Nz c1
  refine Wp.seq <| regd mixed ?_
  refine ldA0 rfl ?_
  refine clw0 rfl f_reads rfl ?_
  refine ldA0 rfl ?_
  refine mv0 rfl <| inv0 rfl f_wa3 rfl ?_
  refine xt0 rfl <| xt0 rfl <| stw0 rfl ?_
  refine asg0 rfl ?_
  refine done ⟨by kernel_rfl, by kernel_rfl, ?_⟩
  refine Wp.ret ?_
  refine Ends.ret (.cons (.cell rfl rfl rfl (Nat.le_of_ble_eq_true rfl) (Fz.wk rfl)) <| .cons (.tmp rfl (by first | exact Fz.wk rfl | exact Fz.sl rfl (by rw [List.length_map]) (Enc.pure _))) <|  .nil) ?_
  exact f_mapw3_k1
  have nc1 := Nz c1
  refine Wp.skip <| Wp.seq <| reg <| asg0 rfl <| done ?_
  refine Wp.seq <| Wp.seq <| reg <| bdw0 rfl ?_
  refine faA0 rfl ?_
  refine ldA0 rfl ?_
  refine bdw0 rfl ?_
  refine bs0 rfl ?_
  first | refine lnM0 rfl ?_ | refine lns0 rfl ?_ | refine ln0 rfl ?_
  refine mv0 rfl <| done ?_
  refine Wp.block <| Wp.rounds 3 ?_
  refine WpN.go ?_
  refine Wp.seq <| reg <| cmp0 rfl <| done ?_
  refine Wp.seq <| Wp.condT rfl rfl <| Wp.skip <| Wp.seq <| Wp.block <| Wp.seq <| reg <| ia 0 _ rfl rfl rfl rfl rfl rfl .none ?_
  refine ldA0 rfl ?_
  refine al0 74 rfl ?_
  refine stw0 rfl ?_
  refine done ?_
  refine Wp.seq <| regd mixed ?_
  refine ldA0 rfl ?_
  refine clw0 rfl f_reads rfl ?_
  refine ldA0 rfl ?_
  refine mv0 rfl <| inv0 rfl f_wa10_3 rfl ?_
  refine mv0 rfl <| xt0 rfl <| xt0 rfl <| al0 75 rfl ?_
  refine stw0 rfl ?_
  refine asg0 rfl ?_
  refine done ⟨by kernel_rfl, by kernel_rfl, ?_⟩
  refine regd mixed ?_
  refine ldA0 rfl ?_
  refine mv0 rfl <| mv0 rfl ?_
  have hob := obS_len 1 r dg
  refine apnM 1480 1481 rfl rfl Bd rfl rfl rfl rfl .none ?_
  refine stw0 rfl ?_
  refine asg0 rfl ?_
  refine done ⟨by kernel_rfl, by kernel_rfl, ?_⟩
  refine reg <| ar0 rfl (wrapI Bd) <| mv0 rfl <| done ?_
  refine WpN.go ?_
  refine Wp.seq <| reg <| cmp0 rfl <| done ?_
  refine Wp.seq <| Wp.condT rfl rfl <| Wp.skip <| Wp.seq <| Wp.block <| Wp.seq <| reg <| ia 1 _ rfl rfl rfl rfl rfl rfl .none ?_
  refine ldA0 rfl ?_
  refine al0 5074 rfl ?_
  refine stw0 rfl ?_
  refine done ?_
  refine Wp.seq <| regd mixed ?_
  refine ldA0 rfl ?_
  refine clw0 rfl f_reads rfl ?_
  refine ldA0 rfl ?_
  refine mv0 rfl <| inv0 rfl (f_ob (k := 1)) rfl ?_
  refine mv0 rfl <| xt0 rfl <| xt0 rfl <| al0 5075 rfl ?_
  refine stw0 rfl ?_
  refine asg0 rfl ?_
  refine done ⟨by kernel_rfl, by kernel_rfl, ?_⟩
  refine regd mixed ?_
  refine ldA0 rfl ?_
  refine mv0 rfl <| mv0 rfl ?_
  have hob := obS_len 1 r dg
  refine apoM 1483 rfl rfl Bd rfl Bd rfl rfl rfl .none ?_
  refine stw0 rfl ?_
  refine asg0 rfl ?_
  refine done ⟨by kernel_rfl, by kernel_rfl, ?_⟩
  refine reg <| ar0 rfl (wrapI Bd) <| mv0 rfl <| done ?_
  refine WpN.go ?_
  refine Wp.seq <| reg <| cmp0 rfl <| done ?_
  refine Wp.seq <| Wp.condF rfl rfl <| Wp.exit <| Wp.seq <| reg <| ldA0 rfl ?_
  refine mv0 rfl <| stw0 rfl ?_
  refine asg0 rfl <| done ?_
  refine Wp.ret ?_
  refine Ends.ret (.cons (.cell rfl rfl rfl (Nat.le_of_ble_eq_true rfl) (Fz.wk rfl)) <| .cons (.tmp rfl (by first | exact Fz.wk rfl | exact Fz.sl rfl (by rw [List.length_map]) (Enc.pure _))) <|  .nil) ?_
  exact f_mapw3_k1

def mapV (m o k r : Int) (dg : Bool) : (Int × Int) × List Act4 :=
  if m = 0 then (if k ≠ 2 then insK k r else metaS [(1, 1, 0, 0)] r dg) else if o = 0 then (if k ≠ 2 then obS k r dg else metaS [(16, 0, 0, 0)] r dg) else (if k ≠ 2 then waS o k r dg else metaS [(16, 0, 0, 0)] r dg)
theorem f_viMap {m o k r : Int} {dg : Bool} (hv : viIs m o = true) : FnP PP 63 [.agg [.int .i64 m, .int .i64 o], .agg [.int .i64 k, .int .i32 r], .bool dg] (resF (mapV m o k r dg)) := by
  by_cases h0 : m = 0
  · subst h0
    have h1 : o = 0 := by simpa [viIs] using hv
    subst h1
    exact f_map0
  · by_cases h1 : m = 1
    · subst h1
      have h2 : 0 ≤ o ∧ o ≤ 3 := by simpa [viIs] using hv
      rcases (by omega : o = 0 ∨ o = 1 ∨ o = 2 ∨ o = 3) with rfl | rfl | rfl | rfl
      · exact f_map1
      · exact f_mapw1
      · exact f_mapw2
      · exact f_mapw3
    · simp [viIs, h0, h1] at hv

end Go.Proofs.YtkcdmmafkpplhaaGreat
/- What layer 20 reckons, told in Lean: lines that are put away. No program in sight. -/
namespace Go.Eng
open Go
structure Slot where
  i : Int
  g : Gap
def slotC (s : Slot) : List D := [.int .i64 s.i, rl s.g.a, rl s.g.b]
instance : Enc slotC 3 := ⟨fun _ => ⟨rfl, rfl⟩⟩
abbrev slotD (s : Slot) : D := .agg (slotC s)
abbrev slL (l : List Slot) : D := .rows false (l.map slotC)
structure Stash where
  at_ : Int
  l : List Slot
abbrev stashD (s : Stash) : D := .agg [.int .i64 s.at_, slL s.l]
def noGap : Gap := ⟨[], []⟩
def noSlot : Slot := ⟨0, noGap⟩
def stashOpen (p : Past) : Stash := ⟨p.l.length, []⟩
/-- The numbers rise from least on, none is more than n, the lines are right. -/
def riseS (n : Int) : List Slot → Int → Bool
  | [], _ => true
  | a :: r, k => (decide (k ≤ a.i ∧ a.i ≤ n) && gapIs a.g) && riseS n r (a.i + 1)
def stashIs (s : Stash) (p : Past) : Bool := (pastIs p && decide (0 ≤ s.at_ ∧ s.at_ ≤ p.l.length)) && riseS p.l.length s.l 0
def findSl : List Slot → Int → Gap × Bool
  | [], _ => (noGap, false)
  | a :: r, i => if a.i = i then (a.g, true) else findSl r i
/-- How many have a smaller number. -/
def belowS (k : Int) : List Slot → Nat
  | [] => 0
  | a :: r => if a.i < k then belowS k r + 1 else 0
def hasS (k : Int) (l : List Slot) : Bool := decide (belowS k l < l.length ∧ (l.getD (belowS k l) noSlot).i = k)
def intoS (x : Slot) (l : List Slot) : List Slot := if hasS x.i l = true then l.set (belowS x.i l) x else l.take (belowS x.i l) ++ x :: l.drop (belowS x.i l)
def goStash (s : Stash) (p : Past) (g : Gap) (to : Int) : Stash × Gap × Int :=
  if stashIs s p = false ∨ gapIs g = false then (⟨0, []⟩, noGap, 1)
  else if to < 0 ∨ (p.l.length : Int) < to ∨ to = s.at_ then (⟨0, []⟩, noGap, 7)
  else (⟨to, intoS ⟨s.at_, g⟩ s.l⟩, if (findSl s.l to).2 = false ∧ (pastGet p to).2 = 0 then ⟨(pastGet p to).1, (findSl s.l to).1.b⟩ else (findSl s.l to).1, 0)
abbrev goStashD (x : Stash × Gap × Int) : D := .tup [stashD x.1, gapD x.2.1, .int .i64 x.2.2]
theorem rise_drop {n k : Int} {l : List Slot} {x : Nat} (h : x < l.length) : riseS n (l.drop x) k = ((decide (k ≤ l[x].i ∧ l[x].i ≤ n) && gapIs l[x].g) && riseS n (l.drop (x + 1)) (l[x].i + 1)) := by
  rw [List.drop_eq_getElem_cons h]; rfl
theorem find_drop {i : Int} {l : List Slot} {x : Nat} (h : x < l.length) : findSl (l.drop x) i = if l[x].i = i then (l[x].g, true) else findSl (l.drop (x + 1)) i := by
  rw [List.drop_eq_getElem_cons h]; rfl
theorem rise_all {n : Int} : ∀ {l : List Slot} {k : Int}, riseS n l k = true → ∀ s ∈ l, k ≤ s.i ∧ s.i ≤ n ∧ gapIs s.g = true
  | [], _, _, _, h => by cases h
  | a :: r, k, h, s, hs => by
    simp only [riseS, Bool.and_eq_true, decide_eq_true_eq] at h
    rcases List.mem_cons.1 hs with rfl | hs
    · exact ⟨h.1.1.1, h.1.1.2, h.1.2⟩
    · have := rise_all h.2 s hs; exact ⟨by omega, this.2⟩
theorem rise_lt {n : Int} : ∀ {l : List Slot} {k : Int}, riseS n l k = true → ∀ (i j : Nat) (hi : i < l.length) (hj : j < l.length), i < j → l[i].i < l[j].i
  | [], _, _, i, _, hi, _, _ => by simp at hi
  | a :: r, k, h, i, j, hi, hj, hij => by
    simp only [riseS, Bool.and_eq_true, decide_eq_true_eq] at h
    cases j with
    | zero => omega
    | succ j =>
      cases i with
      | zero => have := rise_all h.2 (r[j]'(by simpa using hj)) (List.getElem_mem _); simp only [List.getElem_cons_zero, List.getElem_cons_succ]; omega
      | succ i => exact rise_lt h.2 i j (by simpa using hi) (by simpa using hj) (by omega)
theorem rise_len {n : Int} : ∀ {l : List Slot} {k : Int}, riseS n l k = true → k ≤ n + 1 → (l.length : Int) ≤ n + 1 - k
  | [], _, _, h => by simp; omega
  | a :: r, k, h, hk => by
    simp only [riseS, Bool.and_eq_true, decide_eq_true_eq] at h
    have := rise_len h.2 (by omega)
    simp only [List.length_cons]; push_cast; omega
theorem low_eq {k : Int} : ∀ {l : List Slot} {i : Nat}, i ≤ l.length → (∀ q (h : q < l.length), q < i → l[q].i < k) → (∀ q (h : q < l.length), i ≤ q → ¬ l[q].i < k) → belowS k l = i
  | [], i, h, _, _ => by simp at h; simp [belowS, h]
  | a :: r, 0, _, _, h2 => by have := h2 0 (by simp) (Nat.le_refl _); simp only [List.getElem_cons_zero] at this; simp [belowS, this]
  | a :: r, i + 1, h, h1, h2 => by
    have h3 := h1 0 (by simp) (by omega)
    simp only [List.getElem_cons_zero] at h3
    rw [belowS, if_pos h3, low_eq (by simpa using h) (fun q hq hqi => by have := h1 (q + 1) (by simpa using hq) (by omega); simpa using this) (fun q hq hqi => by have := h2 (q + 1) (by simpa using hq) (by omega); simpa using this)]
theorem belowS_le (k : Int) : ∀ l : List Slot, belowS k l ≤ l.length
  | [] => Nat.le_refl _
  | a :: r => by simp only [belowS]; split <;> simp; exact belowS_le k r
end Go.Eng

/- Walks of layer 20: what is put away. -/
namespace Go.Proofs.YtkcdmmafkpplhaaGreat
open Go.Eng
theorem fdiv2 {a : Int} (h : 0 ≤ a) : a.fdiv (2 ^ (min (Int.toNat 1) IntKind.u64.bits)) = ((a.toNat / 2 : Nat) : Int) := by
  have e : (2 : Int) ^ (min (Int.toNat 1) IntKind.u64.bits) = 2 := by decide
  rw [e, Int.fdiv_eq_ediv_of_nonneg _ (by omega)]
  omega
theorem bs_lo {l : List Slot} {key : Int} {m : Nat} (hr : ∀ (i j : Nat) (hi : i < l.length) (hj : j < l.length), i < j → l[i].i < l[j].i) (hm : m < l.length) (h : l[m].i - key < 0) : ∀ q (hq : q < l.length), q < m + 1 → l[q].i < key := fun q hq hqm => by
  by_cases e : q = m
  · subst e; omega
  · have := hr q m hq hm (by omega); omega
theorem bs_hi {l : List Slot} {key : Int} {m : Nat} (hr : ∀ (i j : Nat) (hi : i < l.length) (hj : j < l.length), i < j → l[i].i < l[j].i) (hm : m < l.length) (h : 0 ≤ l[m].i - key) : ∀ q (hq : q < l.length), m ≤ q → ¬ l[q].i < key := fun q hq hqm => by
  by_cases e : q = m
  · subst e; omega
  · have := hr m q hm hq (by omega); omega
theorem bs_has {l : List Slot} {key : Int} {x : Nat} (h : x < l.length) (e : belowS key l = x) : hasS key l = decide (l[x].i - key = 0) := by
  unfold hasS; rw [e]
  simp only [h, true_and, List.getD, List.getElem?_eq_getElem, Option.getD_some]
  exact decide_eq_decide.2 (by omega)
theorem bs_no {l : List Slot} {key : Int} {x : Nat} (h : ¬ x < l.length) (e : belowS key l = x) : hasS key l = false := by
  unfold hasS; rw [e]; exact decide_eq_false (fun h' => h h'.1)
theorem ins_end {l : List Slot} {x : Slot} {i : Nat} (h : i = l.length) : l ++ [x] = l.take i ++ x :: l.drop i := by subst h; simp
theorem ins_len {l : List Slot} {x : Slot} {i : Nat} (h : i ≤ l.length) : (l.take i ++ x :: l.drop i).length = l.length + 1 := by simp; omega
theorem has_lt {l : List Slot} {k : Int} (h : hasS k l = true) : belowS k l < l.length := by unfold hasS at h; exact (of_decide_eq_true h).1
theorem into_yes {l : List Slot} {x : Slot} (h : hasS x.i l = true) : l.set (belowS x.i l) x = intoS x l := by unfold intoS; rw [if_pos h]
theorem into_no {l : List Slot} {x : Slot} (h : hasS x.i l = false) : l.take (belowS x.i l) ++ x :: l.drop (belowS x.i l) = intoS x l := by unfold intoS; rw [if_neg (by simp [h])]
theorem rise_small {n : Int} {l : List Slot} (h : riseS n l 0 = true) (hn : 0 ≤ n ∧ n ≤ 1000) : l.length ≤ 1001 := by have := rise_len h (by omega); omega
theorem stashIs_parts {at_ : Int} {l : List Slot} {p : Past} (h : stashIs ⟨at_, l⟩ p = true) : pastIs p = true ∧ 0 ≤ at_ ∧ at_ ≤ p.l.length ∧ riseS p.l.length l 0 = true := by
  simp only [stashIs, Bool.and_eq_true, decide_eq_true_eq] at h; exact ⟨h.1.1, h.1.2.1, h.1.2.2, h.2⟩
theorem rowsOk_map (l : List Slot) : RowsOk 3 (l.map slotC) := fun r hr => by
  obtain ⟨s, _, rfl⟩ := List.mem_map.1 hr; exact ⟨rfl, rfl⟩
theorem ins_b1 {l : List Slot} {x : Slot} {i : Nat} (h : i < l.length) : ((l.map slotC).take i ++ List.replicate (l.length + 1 - i) (List.replicate 3 D.any)).take (0 + i) ++ [x].map slotC ++ ((l.map slotC).take i ++ List.replicate (l.length + 1 - i) (List.replicate 3 D.any)).drop (0 + i + ([x].map slotC).length) =
    (l.map slotC).take i ++ [slotC x] ++ List.replicate (l.length - i) (List.replicate 3 D.any) := by
  have e : ((l.map slotC).take i).length = i := by simp; omega
  simp only [Nat.zero_add]
  rw [List.take_append_of_le_length (by omega), List.take_of_length_le (by omega), List.drop_append, e, List.drop_eq_nil_of_le (by omega), List.nil_append, List.drop_replicate]
  simp only [List.map_cons, List.map_nil, List.length_cons, List.length_nil]
  rw [show l.length + 1 - i - (i + (0 + 1) - i) = l.length - i by omega]
theorem ins_b2 {l : List Slot} {x : Slot} {i : Nat} (h : i < l.length) : ((l.map slotC).take i ++ [slotC x] ++ List.replicate (l.length - i) (List.replicate 3 D.any)).take (0 + (i + 1)) ++ (l.drop i).map slotC ++ ((l.map slotC).take i ++ [slotC x] ++ List.replicate (l.length - i) (List.replicate 3 D.any)).drop (0 + (i + 1) + ((l.drop i).map slotC).length) =
    (l.take i ++ x :: l.drop i).map slotC := by
  have e : ((l.map slotC).take i ++ [slotC x]).length = i + 1 := by simp; omega
  simp only [Nat.zero_add]
  have h1 : ((l.map slotC).take i ++ [slotC x] ++ List.replicate (l.length - i) (List.replicate 3 D.any)).take (i + 1) = (l.map slotC).take i ++ [slotC x] := by rw [List.take_append_of_le_length (by omega), List.take_of_length_le (by omega)]
  have h3 : ((l.map slotC).take i ++ [slotC x] ++ List.replicate (l.length - i) (List.replicate 3 D.any)).drop (i + 1 + ((l.drop i).map slotC).length) = [] := List.drop_eq_nil_of_le (by rw [List.length_append, e, List.length_replicate, List.length_map, List.length_drop]; omega)
  rw [h1, h3]
  simp
theorem ins_c1 {l : List Slot} {i : Nat} (h : i < l.length) : (l.map slotC ++ List.replicate 1 (List.replicate 3 D.any)).take (0 + (i + 1)) ++ ((l.map slotC ++ List.replicate 1 (List.replicate 3 D.any)).drop (0 + i)).take (l.length - i) ++ (l.map slotC ++ List.replicate 1 (List.replicate 3 D.any)).drop (0 + (i + 1) + (l.length - i)) =
    (l.take (i + 1) ++ l.drop i).map slotC := by
  simp only [Nat.zero_add]
  have hm : (l.map slotC).length = l.length := List.length_map _
  have h1 : (l.map slotC ++ List.replicate 1 (List.replicate 3 D.any)).take (i + 1) = (l.map slotC).take (i + 1) := List.take_append_of_le_length (by omega)
  have h2 : ((l.map slotC ++ List.replicate 1 (List.replicate 3 D.any)).drop i).take (l.length - i) = (l.map slotC).drop i := by
    rw [List.drop_append_of_le_length (by omega), List.take_append_of_le_length (by rw [List.length_drop]; omega), List.take_of_length_le (by rw [List.length_drop]; omega)]
  have h3 : (l.map slotC ++ List.replicate 1 (List.replicate 3 D.any)).drop (i + 1 + (l.length - i)) = [] := List.drop_eq_nil_of_le (by rw [List.length_append, hm, List.length_replicate]; omega)
  rw [h1, h2, h3]
  simp
theorem ins_c0 {l : List Slot} {i : Nat} (h : i < l.length) : ∀ r ∈ ((l.map slotC ++ List.replicate 1 (List.replicate 3 D.any)).drop (0 + i)).take (l.length - i), r.all D.cell = true := by
  simp only [Nat.zero_add]
  have hm : (l.map slotC).length = l.length := List.length_map _
  rw [List.drop_append_of_le_length (by omega), List.take_append_of_le_length (by rw [List.length_drop]; omega)]
  intro r hr
  obtain ⟨s, _, rfl⟩ := List.mem_map.1 (List.mem_of_mem_drop (List.mem_of_mem_take hr)); rfl
theorem ins_c2 {l : List Slot} {x : Slot} {i : Nat} (h : i < l.length) : ((l.take (i + 1) ++ l.drop i).map slotC).take (0 + i) ++ [x].map slotC ++ ((l.take (i + 1) ++ l.drop i).map slotC).drop (0 + i + ([x].map slotC).length) = (l.take i ++ x :: l.drop i).map slotC := by
  have e : (l.take (i + 1)).length = i + 1 := by simp; omega
  simp only [Nat.zero_add]
  rw [← List.map_take, ← List.map_drop, ← List.map_append, ← List.map_append, List.take_append_of_le_length (by omega), List.take_take, Nat.min_eq_left (by omega)]
  simp only [List.map_cons, List.map_nil, List.length_cons, List.length_nil]
  rw [List.drop_append, e, List.drop_eq_nil_of_le (by omega), show i + (0 + 1) - (i + 1) = 0 by omega]
  simp

set_option maxRecDepth 20000 in
theorem f_cloneS {l : List Slot} (h1 : l.length ≤ 1000000) : FnO PP 173 [.rows false (l.map slotC)] 3 (l.map slotC) := by
  refine FnO.body 1071 (Enc.pure _) Tryz.func173 rfl (by kernel_rfl) rfl ?_
  refine Wp.seq <| reg <| asg0 rfl <| done ?_
  refine Wp.seq <| Wp.seq ?_
  refine Wp.nilTest rfl rfl rfl (fun b1 hnb1 => ?_)
  refine Wp.cond rfl (fun c2 => ?_) (fun c2 => ?_)
  have nc2 := Nz c2
  refine Wp.seq <| reg <| asg0 rfl <| done ?_
  have hl0 : l = [] := by rcases l with _ | ⟨x, l⟩; rfl; exact absurd (hnb1 (by simp)) (by simp [nc2])
  subst hl0
  refine Wp.nilBuf 1071 2 3 [] rfl rfl rfl ?_
  refine Wp.ret ?_
  refine EndsG.bufM (.inr rfl) rfl rfl Bd rfl
  have nc2 := Nz c2
  refine Wp.skip <| Wp.seq <| reg <| bsoM 69 slotC [] rfl rfl rfl rfl rfl rfl .none ?_
  refine mv0 rfl <| apoM 1071 rfl rfl Bd rfl Bd rfl rfl rfl .none ?_
  refine asg0 rfl <| done ?_
  refine Wp.ret ?_
  refine EndsG.bufM (.inr rfl) rfl rfl Bd rfl

set_option maxRecDepth 20000 in
theorem f_stashOpen {room dup : Int} {k : List (List Int)} : FnP PP 26 [.agg [.int .i64 room, .int .i64 dup, rlL k]] (stashD (stashOpen ⟨room, dup, k⟩)) := by
  refine FnP.of_body Tryz.func26 rfl (by kernel_rfl) rfl ?_
  refine Wp.seq <| reg <| bx0 65 rfl ?_
  refine al0 66 rfl ?_
  refine done ?_
  refine Wp.seq <| reg <| faA0 rfl ?_
  refine ldA0 rfl ?_
  first | refine lnM0 rfl ?_ | refine lns0 rfl ?_ | refine ln0 rfl ?_
  refine bdw0 rfl ?_
  refine stw0 rfl ?_
  refine done ?_
  refine Wp.ret ?_
  refine Ends.ret (.cons (.cell rfl rfl rfl (Nat.le_of_ble_eq_true rfl) (Fz.wk rfl)) <|  .nil) ?_
  rfl

theorem f_stashIs_k1 {p : Prop} (h : p := by
    first | (refine congrArg D.bool ?_; simp only [stashIs]; simp_all; done) | (refine congrArg D.bool ?_; simp only [stashIs]; rw [hx2, rise_drop (by omega)]; simp_all; done) | (refine congrArg D.bool ?_; simp only [stashIs]; rw [hx2, drop_end (by omega)]; simp_all [riseS] <;> omega) | (refine congrArg D.bool ?_; simp only [stashIs]; simp_all <;> omega) | (refine congrArg D.bool ?_; simp only [stashIs]; rw [hx2, rise_drop (by omega)]; simp_all <;> omega)) : p := h
set_option maxRecDepth 20000 in
theorem f_stashIs {at_ : Int} {l : List Slot}{room dup : Int} {k : List (List Int)} (hs : ∀ s ∈ l, s.g.a.length ≤ 1000000 ∧ s.g.b.length ≤ 1000000) : FnP PP 46 [.agg [.int .i64 at_, slL l], .agg [.int .i64 room, .int .i64 dup, rlL k]] (.bool (stashIs ⟨at_, l⟩ ⟨room, dup, k⟩)) := by
  refine FnP.of_body Tryz.func46 rfl (by kernel_rfl) rfl ?_
  refine Wp.bound 0 rfl (fun hb0 => ?_)
  simp only [D.bd, D.bdL, List.length_map, and_true] at hb0
  refine Wp.seq <| reg <| bx0 66 rfl ?_
  refine bx0 67 rfl ?_
  refine asg0 rfl <| done ?_
  refine Wp.seq <| Wp.seq <| reg <| ldA0 rfl ?_
  refine clw0 rfl f_pastIs rfl ?_
  refine nt0 rfl <| mv0 rfl ?_
  refine bcase 11 rfl (fun h11 => ?_) (fun h11 => ?_)
  have nh11 := Nz h11
  refine sk0 rfl h11 <| sk0 rfl h11 <| sk0 rfl h11 <| pkt0 rfl h11 <| mv0 rfl <| sk0 rfl rfl <| sk0 rfl rfl <| sk0 rfl rfl <| sk0 rfl rfl <| sk0 rfl rfl <| sk0 rfl rfl <| pkt0 rfl rfl <| done ?_
  (try have hk16 := pastIs_len (room := room) (dup := dup) (k := k) (by assumption))
  refine Wp.condT rfl rfl <| Wp.seq <| reg <| asg0 rfl <| done ?_
  refine Wp.ret ?_
  refine Ends.ret (.cons (.tmp rfl (Fz.pure rfl)) <|  .nil) ?_
  exact f_stashIs_k1
  have nh11 := Nz h11
  refine faA1 rfl h11 rfl ?_
  refine ldA1 rfl h11 rfl ?_
  refine cmp1 rfl h11 rfl <| pkf0 rfl h11 <| mv0 rfl ?_
  refine bcase 16 rfl (fun h16 => ?_) (fun h16 => ?_)
  have nh16 := Nz h16
  refine sk0 rfl h16 <| sk0 rfl h16 <| sk0 rfl h16 <| sk0 rfl h16 <| sk0 rfl h16 <| sk0 rfl h16 <| pkt0 rfl h16 <| done ?_
  (try have hk16 := pastIs_len (room := room) (dup := dup) (k := k) (by assumption))
  refine Wp.condT rfl rfl <| Wp.seq <| reg <| asg0 rfl <| done ?_
  refine Wp.ret ?_
  refine Ends.ret (.cons (.tmp rfl (Fz.pure rfl)) <|  .nil) ?_
  exact f_stashIs_k1
  have nh16 := Nz h16
  refine faA1 rfl h16 rfl ?_
  refine ldA1 rfl h16 rfl ?_
  refine faA1 rfl h16 rfl ?_
  refine ldA1 rfl h16 rfl ?_
  first | refine lnM1 rfl h16 rfl ?_ | refine lns1 rfl h16 rfl ?_ | refine ln1 rfl h16 rfl ?_
  refine cmp1 rfl h16 rfl <| pkf0 rfl h16 <| done ?_
  (try have hk16 := pastIs_len (room := room) (dup := dup) (k := k) (by assumption))
  refine Wp.cond rfl (fun c1 => ?_) (fun c1 => ?_)
  have nc1 := Nz c1
  refine Wp.seq <| reg <| asg0 rfl <| done ?_
  refine Wp.ret ?_
  refine Ends.ret (.cons (.tmp rfl (Fz.pure rfl)) <|  .nil) ?_
  exact f_stashIs_k1
  have nc1 := Nz c1
  refine Wp.skip <| Wp.seq <| reg <| asg0 rfl <| done ?_
  refine Wp.seq <| Wp.seq <| reg <| faA0 rfl ?_
  refine ldA0 rfl ?_
  first | refine lnM0 rfl ?_ | refine lns0 rfl ?_ | refine ln0 rfl ?_
  refine mv0 rfl <| done ?_
  refine Wp.block ?_
  refine Wp.loopK (α := Nat × Int) [2, 3, 25, 26] [66, 67] (fun x tl => (5, .int .i64 x.2) :: (27, .int .i64 (x.1 : Nat)) :: tl) (fun x tl => tl) (fun x => x.1 ≤ l.length ∧ 0 ≤ x.2 ∧ riseS k.length l 0 = riseS k.length (l.drop x.1) x.2) (fun x => l.length - x.1) ((0, 0)) rfl rfl (⟨by omega, by omega, rfl⟩) (Rp) (Rp) ?_
  intro x hx
  obtain ⟨hx1, hx0, hx2⟩ := hx
  refine Wp.seq <| reg <| cmp0 rfl <| done ?_
  refine Wp.seq ?_
  refine Wp.cond rfl (fun c2 => ?_) (fun c2 => ?_)
  have nc2 := Nz c2
  refine Wp.skip <| Wp.seq <| Wp.block <| Wp.seq <| reg <| iaE0 (x.1) Bd rfl Eq' ?_
  refine ldA0 rfl ?_
  refine al0 71 rfl ?_
  refine stw0 rfl ?_
  refine done ?_
  refine Wp.seq <| Wp.seq <| reg <| faA0 rfl ?_
  refine ldA0 rfl ?_
  refine mv0 rfl <| cmp0 rfl <| mv0 rfl ?_
  refine bcase 35 rfl (fun h35 => ?_) (fun h35 => ?_)
  have nh35 := Nz h35
  refine sk0 rfl h35 <| sk0 rfl h35 <| sk0 rfl h35 <| sk0 rfl h35 <| sk0 rfl h35 <| sk0 rfl h35 <| pkt0 rfl h35 <| mv0 rfl <| sk0 rfl rfl <| sk0 rfl rfl <| sk0 rfl rfl <| sk0 rfl rfl <| pkt0 rfl rfl <| done ?_
  refine Wp.condT rfl rfl <| Wp.seq <| reg <| asg0 rfl <| done ?_
  refine Wp.ret ?_
  refine Ends.ret (.cons (.tmp rfl (Fz.pure rfl)) <|  .nil) ?_
  exact f_stashIs_k1
  have nh35 := Nz h35
  refine faA1 rfl h35 rfl ?_
  refine ldA1 rfl h35 rfl ?_
  refine faA1 rfl h35 rfl ?_
  refine ldA1 rfl h35 rfl ?_
  first | refine lnM1 rfl h35 rfl ?_ | refine lns1 rfl h35 rfl ?_ | refine ln1 rfl h35 rfl ?_
  refine cmp1 rfl h35 rfl <| pkf0 rfl h35 <| mv0 rfl ?_
  refine bcase 43 rfl (fun h43 => ?_) (fun h43 => ?_)
  have nh43 := Nz h43
  refine sk0 rfl h43 <| sk0 rfl h43 <| sk0 rfl h43 <| sk0 rfl h43 <| pkt0 rfl h43 <| done ?_
  refine Wp.condT rfl rfl <| Wp.seq <| reg <| asg0 rfl <| done ?_
  refine Wp.ret ?_
  refine Ends.ret (.cons (.tmp rfl (Fz.pure rfl)) <|  .nil) ?_
  exact f_stashIs_k1
  have nh43 := Nz h43
  refine faA1 rfl h43 rfl ?_
  refine ldA1 rfl h43 rfl ?_
  have hsm := hs l[x.1] (List.getElem_mem (by omega))
  refine clw1 rfl h43 rfl (f_gapIs Dis Dis) rfl ?_
  refine nt1 rfl h43 rfl <| pkf0 rfl h43 <| done ?_
  refine Wp.cond rfl (fun c3 => ?_) (fun c3 => ?_)
  have nc3 := Nz c3
  refine Wp.seq <| reg <| asg0 rfl <| done ?_
  refine Wp.ret ?_
  refine Ends.ret (.cons (.tmp rfl (Fz.pure rfl)) <|  .nil) ?_
  exact f_stashIs_k1
  have nc3 := Nz c3
  refine Wp.skip <| reg <| faA0 rfl ?_
  refine ldA0 rfl ?_
  refine ar0 rfl (wrapI Bd) <| asg0 rfl <| done ?_
  refine reg <| ar0 rfl (wrapI Bd) <| mv0 rfl <| done ?_
  refine ⟨(x.1 + 1, l[x.1].i + 1), ⟨by omega, by show 0 ≤ _ + 1; omega, by rw [hx2, rise_drop (by omega)]; simp_all⟩, by omega, Rp, Rp, rfl⟩
  have nc2 := Nz c2
  refine Wp.exit <| Wp.seq <| reg <| asg0 rfl <| done ?_
  refine Wp.ret ?_
  refine Ends.ret (.cons (.tmp rfl (Fz.pure rfl)) <|  .nil) ?_
  exact f_stashIs_k1

theorem f_stashFind_k1 {p : Prop} (h : p := by
    first | (rw [hx2, find_drop (by omega), if_pos (by assumption)]; rfl) | (rw [hx2, drop_end (by omega)]; rfl)) : p := h
set_option maxRecDepth 20000 in
theorem f_stashFind {at_ : Int} {l : List Slot}{i : Int} : FnP PP 139 [.agg [.int .i64 at_, slL l], .int .i64 i] (.tup [gapD (findSl l i).1, .bool (findSl l i).2]) := by
  refine FnP.of_body Tryz.func139 rfl (by kernel_rfl) rfl ?_
  refine Wp.bound 0 rfl (fun hb0 => ?_)
  simp only [D.bd, D.bdL, List.length_map, and_true] at hb0
  refine Wp.seq <| reg <| bx0 66 rfl ?_
  refine al0 68 rfl ?_
  refine asg0 rfl <| done ?_
  refine Wp.seq <| Wp.seq <| reg <| faA0 rfl ?_
  refine ldA0 rfl ?_
  first | refine lnM0 rfl ?_ | refine lns0 rfl ?_ | refine ln0 rfl ?_
  refine mv0 rfl <| done ?_
  refine Wp.block ?_
  refine Wp.loopK (α := Nat) [2, 1, 4, 9, 10] [66, 68] (fun x tl => (11, .int .i64 x) :: tl) (fun x tl => tl) (fun x => x ≤ l.length ∧ findSl l i = findSl (l.drop x) i) (fun x => l.length - x) (0) rfl rfl (⟨by omega, rfl⟩) (Rp) (Rp) ?_
  intro x hx
  obtain ⟨hx1, hx2⟩ := hx
  refine Wp.seq <| reg <| cmp0 rfl <| done ?_
  refine Wp.seq ?_
  refine Wp.cond rfl (fun c1 => ?_) (fun c1 => ?_)
  have nc1 := Nz c1
  refine Wp.skip <| Wp.seq <| Wp.block <| Wp.seq <| reg <| iaE0 (x) Bd rfl Eq' ?_
  refine ldA0 rfl ?_
  refine al0 71 rfl ?_
  refine stw0 rfl ?_
  refine done ?_
  refine Wp.seq <| reg <| faA0 rfl ?_
  refine ldA0 rfl ?_
  refine mv0 rfl <| cmp0 rfl <| done ?_
  refine Wp.cond rfl (fun c2 => ?_) (fun c2 => ?_)
  have nc2 := Nz c2
  refine Wp.seq <| reg <| faA0 rfl ?_
  refine ldA0 rfl ?_
  refine stw0 rfl ?_
  refine asg0 rfl <| done ?_
  refine Wp.ret ?_
  refine Ends.ret (.cons (.cell rfl rfl rfl (Nat.le_of_ble_eq_true rfl) (Fz.wk rfl)) <| .cons (.tmp rfl (Fz.pure rfl)) <|  .nil) ?_
  exact f_stashFind_k1
  have nc2 := Nz c2
  refine Wp.skip <| reg <| ar0 rfl (wrapI Bd) <| mv0 rfl <| done ?_
  refine ⟨x + 1, ⟨by omega, by rw [hx2, find_drop (by omega), if_neg (by assumption)]⟩, by omega, Rp, Rp, rfl⟩
  have nc1 := Nz c1
  refine Wp.exit <| Wp.seq <| reg <| bdw0 rfl ?_
  refine stw0 rfl ?_
  refine asg0 rfl <| done ?_
  refine Wp.ret ?_
  refine Ends.ret (.cons (.cell rfl rfl rfl (Nat.le_of_ble_eq_true rfl) (Fz.wk rfl)) <| .cons (.tmp rfl (Fz.pure rfl)) <|  .nil) ?_
  exact f_stashFind_k1

set_option maxRecDepth 20000 in
theorem f_own {s : Slot} : FnP PP 140 [slotD s] (.int .i64 s.i) := by
  refine FnP.of_body Tryz.func140 rfl (by kernel_rfl) rfl ?_
  refine Wp.seq <| reg <| bx0 65 rfl ?_
  refine asg0 rfl <| done ?_
  refine Wp.seq <| reg <| faA0 rfl ?_
  refine ldA0 rfl ?_
  refine asg0 rfl <| done ?_
  refine Wp.ret ?_
  refine Ends.ret (.cons (.tmp rfl (Fz.pure rfl)) <|  .nil) ?_
  rfl

set_option maxRecDepth 20000 in
theorem f_intoC {s : Slot} {key : Int} {q : FuncId} {cs : List D} (hp : FnP PP q (slotD s :: cs) (.int .i64 s.i)) (hcs : D.pureL cs = true) (h1 : 0 ≤ s.i ∧ s.i ≤ 1000000) (h2 : 0 ≤ key ∧ key ≤ 1000000) : FnP PP 172 [slotD s, .int .i64 key, .pp [.fn q cs]] (.int .i64 (s.i - key)) := by
  refine FnP.of_body Tryz.func172 rfl (by kernel_rfl) rfl ?_
  refine Wp.seq <| reg <| bx0 67 rfl ?_
  refine asg0 rfl <| done ?_
  refine Wp.seq <| reg <| ldA0 rfl ?_
  refine ldA0 rfl ?_
  refine cl rfl rfl hp (by simp [D.pureL, D.pureB, hcs, slotC, D.flat]) rfl .none ?_
  refine mv0 rfl <| ar0 rfl (wrapI Bd) <| asg0 rfl <| done ?_
  refine Wp.ret ?_
  refine Ends.ret (.cons (.tmp rfl (Fz.pure rfl)) <|  .nil) ?_
  rfl

theorem f_bsearch_k1 {p : Prop} (h : p := by
    have hlow := low_eq (l := l) (k := key) (i := x.1) (by omega) hx3 (fun q hq h => hx4 q hq (by omega))
    rw [hlow]
    first | exact congrArg (fun b => D.tup [D.int .i64 (x.1 : Nat), D.bool b]) (bs_has (x := x.1) (by omega) hlow) | exact congrArg (fun b => D.tup [D.int .i64 (x.1 : Nat), D.bool b]) (bs_no (x := x.1) (by omega) hlow)) : p := h
set_option maxRecDepth 20000 in
theorem f_bsearch {l : List Slot} {key : Int} {q : FuncId} {cs : List D} (hp : ∀ s ∈ l, FnP PP q (slotD s :: .int .i64 key :: cs) (.int .i64 (s.i - key))) (hcs : D.pureL cs = true) (hr : ∀ (i j : Nat) (hi : i < l.length) (hj : j < l.length), i < j → l[i].i < l[j].i) (hlen : l.length ≤ 1000000) : FnP PP 171 [slL l, .int .i64 key, .fn q cs] (.tup [.int .i64 (belowS key l : Nat), .bool (hasS key l)]) := by
  refine FnP.of_body Tryz.func171 rfl (by kernel_rfl) rfl ?_
  refine Wp.seq <| reg <| asg0 rfl <| asg0 rfl <| done ?_
  refine Wp.seq <| reg <| mv0 rfl ?_
  first | refine lnM0 rfl ?_ | refine lns0 rfl ?_ | refine ln0 rfl ?_
  refine asg0 rfl <| done ?_
  refine Wp.seq <| reg <| mv0 rfl <| asg0 rfl <| asg0 rfl <| done ?_
  refine Wp.seq <| Wp.block ?_
  refine Wp.loopK (α := Nat × Nat) [0, 1, 2, 8] [] (fun x tl => (9, .int .i64 (x.1 : Nat)) :: (10, .int .i64 (x.2 : Nat)) :: tl) (fun x tl => tl) (fun x => x.1 ≤ x.2 ∧ x.2 ≤ l.length ∧ (∀ q (h : q < l.length), q < x.1 → l[q].i < key) ∧ (∀ q (h : q < l.length), x.2 ≤ q → ¬ l[q].i < key)) (fun x => x.2 - x.1) ((0, l.length)) rfl rfl (⟨by omega, by omega, fun q _ h => absurd h (by simp), fun q h1 h2 => absurd h1 (by simp only at h2; omega)⟩) (Rp) (Rp) ?_
  intro x hx
  obtain ⟨hx1, hx2, hx3, hx4⟩ := hx
  refine Wp.seq <| Wp.seq <| reg <| mv0 rfl <| mv0 rfl <| cmp0 rfl <| done ?_
  refine Wp.cond rfl (fun c1 => ?_) (fun c1 => ?_)
  have nc1 := Nz c1
  refine Wp.skip <| Wp.block <| Wp.seq <| reg <| mv0 rfl <| mv0 rfl <| ar0 rfl (wrapI Bd) <| cv ((x.1 + x.2 : Nat) : Int) rfl (by rw [wrapU (by omega)]; omega) rfl .none ?_
  refine sr (((x.1 + x.2) / 2 : Nat) : Int) rfl rfl (by decide) (fdiv2 (by omega)) rfl .none ?_
  refine cv (((x.1 + x.2) / 2 : Nat) : Int) rfl (wrapI (by omega)) rfl .none ?_
  refine asg0 rfl <| done ?_
  refine Wp.seq <| reg <| mv0 rfl <| mv0 rfl <| mv0 rfl <| iaE0 ((x.1 + x.2) / 2) Bd rfl Eq' ?_
  refine ldA0 rfl ?_
  refine mv0 rfl <| cl rfl rfl (hp l[(x.1 + x.2) / 2] (List.getElem_mem (by omega))) (by simp [D.pureL, D.pureB, hcs, slotC]) rfl .none ?_
  refine cmp0 rfl <| done ?_
  refine Wp.cond rfl (fun c2 => ?_) (fun c2 => ?_)
  have nc2 := Nz c2
  refine reg <| mv0 rfl <| ar0 rfl (wrapI Bd) <| asg0 rfl <| done ?_
  first | exact ⟨((x.1 + x.2) / 2 + 1, x.2), ⟨by omega, by omega, bs_lo hr (by omega) (by assumption), hx4⟩, by omega, Rp, Rp, rfl⟩ | exact ⟨(x.1, (x.1 + x.2) / 2), ⟨by omega, by omega, hx3, bs_hi hr (by omega) (by assumption)⟩, by omega, Rp, Rp, rfl⟩
  have nc2 := Nz c2
  refine reg <| mv0 rfl <| asg0 rfl <| done ?_
  first | exact ⟨((x.1 + x.2) / 2 + 1, x.2), ⟨by omega, by omega, bs_lo hr (by omega) (by assumption), hx4⟩, by omega, Rp, Rp, rfl⟩ | exact ⟨(x.1, (x.1 + x.2) / 2), ⟨by omega, by omega, hx3, bs_hi hr (by omega) (by assumption)⟩, by omega, Rp, Rp, rfl⟩
  have nc1 := Nz c1
  refine Wp.exit <| Wp.seq <| reg <| mv0 rfl <| mv0 rfl <| mv0 rfl <| cmp0 rfl <| mv0 rfl ?_
  refine bcase 39 rfl (fun h39 => ?_) (fun h39 => ?_)
  have nh39 := Nz h39
  refine mv1 rfl h39 rfl <| mv1 rfl h39 rfl <| mv1 rfl h39 rfl <| iaE1 rfl h39 (x.1) Bd rfl Eq' ?_
  refine ldA1 rfl h39 rfl ?_
  refine mv1 rfl h39 rfl <| cl rfl rfl (hp l[x.1] (List.getElem_mem (by omega))) (by simp [D.pureL, D.pureB, hcs, slotC]) rfl (.want rfl rfl h39) ?_
  refine cmp1 rfl h39 rfl <| pkt0 rfl h39 <| asg0 rfl <| asg0 rfl <| done ?_
  refine Wp.ret ?_
  refine Ends.ret (.cons (.tmp rfl (Fz.pure rfl)) <| .cons (.tmp rfl (Fz.pure rfl)) <|  .nil) ?_
  exact f_bsearch_k1
  have nh39 := Nz h39
  refine sk0 rfl h39 <| sk0 rfl h39 <| sk0 rfl h39 <| sk0 rfl h39 <| sk0 rfl h39 <| sk0 rfl h39 <| sk0 rfl h39 <| sk0 rfl h39 <| pkf0 rfl h39 <| asg0 rfl <| asg0 rfl <| done ?_
  refine Wp.ret ?_
  refine Ends.ret (.cons (.tmp rfl (Fz.pure rfl)) <| .cons (.tmp rfl (Fz.pure rfl)) <|  .nil) ?_
  exact f_bsearch_k1

theorem f_insert_k1 {p : Prop} (h : p := by
    first | rfl | exact congrArg slL (ins_end (by omega)).symm) : p := h
set_option maxRecDepth 20000 in
theorem f_insert {l : List Slot} {x : Slot} {i : Nat} (hi : i ≤ l.length) (hl : l.length ≤ 1000000) : FnG PP 174 [.sl 0 0 l.length, .int .i64 (i : Nat), .sl 1 0 1] [(0, .buf 3 (l.map slotC)), (1, .buf 3 ([x].map slotC))] (slL (l.take i ++ x :: l.drop i)) [] [] := by
  refine FnG.of_body 0 Tryz.func174 rfl (by kernel_rfl) rfl rfl rfl ?_
  refine Wp.seq <| reg <| asg0 rfl <| done ?_
  refine Wp.seq <| reg <| mv0 rfl <| mv0 rfl <| slo (i) (l.length) rfl rfl rfl rfl Og Og ⟨Bd, Bd⟩ rfl rfl rfl .none ?_
  refine done ?_
  refine Wp.seq <| reg <| mv0 rfl ?_
  first | refine lnM0 rfl ?_ | refine lns0 rfl ?_ | refine ln0 rfl ?_
  refine asg0 rfl <| done ?_
  refine Wp.seq <| Wp.seq <| reg <| mv0 rfl <| cmp0 rfl <| done ?_
  refine Wp.condF rfl rfl <| Wp.skip <| Wp.seq <| reg <| mv0 rfl ?_
  first | refine lnM0 rfl ?_ | refine lns0 rfl ?_ | refine ln0 rfl ?_
  refine asg0 rfl <| done ?_
  refine Wp.seq <| Wp.seq <| reg <| mv0 rfl <| mv0 rfl <| cmp0 rfl <| done ?_
  refine Wp.cond rfl (fun c1 => ?_) (fun c1 => ?_)
  have nc1 := Nz c1
  refine Wp.seq <| Wp.freezeM 1 2 [0, 7, 8] rfl rfl rfl rfl ?_
  refine reg <| mv0 rfl <| mv0 rfl <| apoM 1251 rfl rfl Bd rfl Bd rfl rfl rfl .none ?_
  refine asg0 rfl <| done ?_
  refine Wp.ret ?_
  refine ⟨(.inr rfl), ⟨_, .cons (.tmp rfl (by first | exact FzG.sl rfl (by simp only [List.length_map, List.length_append, List.length_take, List.length_cons, List.length_drop, List.length_nil] <;> omega) (Enc.pure _) rfl)) <|  .nil, ?_⟩, fun _ _ h => by cases h⟩
  exact f_insert_k1
  have nc1 := Nz c1
  refine Wp.skip <| Wp.seq <| Wp.seq ?_
  refine Wp.capKnown 0 rfl (fun cp hcp => ?_)
  refine reg <| mv0 rfl <| mv0 rfl <| ar0 rfl (wrapI Bd) <| mv0 rfl <| cpo rfl rfl rfl .none ?_
  refine cmp0 rfl <| done ?_
  refine Wp.cond rfl (fun c2 => ?_) (fun c2 => ?_)
  have nc2 := Nz c2
  refine Wp.seq <| reg <| mv0 rfl <| mv0 rfl <| slc i cp rfl rfl rfl rfl (by rw [List.length_map]; omega) rfl .none ?_
  refine mv0 rfl <| mv0 rfl <| ar0 rfl (wrapI Bd) <| mv0 rfl <| ar0 rfl (wrapI Bd) <| apm 1040 (l.length + 1 - i) rfl rfl (by rw [List.length_map]; omega) rfl (by omega) (by omega) (by omega) (by omega) rfl rfl rfl rfl .none ?_
  refine asg0 rfl <| done ?_
  refine Wp.seq <| Wp.capForget 0 rfl ?_
  refine Wp.freezeM 0 0 [1, 2, 7, 8, 9] rfl rfl rfl rfl ?_
  refine Wp.freezeM 1 2 [0, 1, 7, 8, 9] rfl rfl rfl rfl ?_
  refine reg <| mv0 rfl <| mv0 rfl <| slo (i) (i + (l.length + 1 - i)) rfl rfl rfl rfl Og Og ⟨Bd, Bd⟩ rfl rfl rfl .none ?_
  refine mv0 rfl <| cpy rfl rfl rfl (rowsOk_map [x]) (by simp) (by simp; omega) (by simp; omega) (ins_b1 (l := l) (x := x) (i := i) (by omega)) rfl .none ?_
  refine done ?_
  refine Wp.seq <| regd mixed ?_
  refine mv0 rfl <| mv0 rfl <| mv0 rfl <| ar0 rfl (wrapI Bd) <| slo (i + 1) (i + (l.length + 1 - i)) rfl rfl rfl rfl Og Og ⟨Bd, Bd⟩ rfl rfl rfl .none ?_
  refine mv0 rfl <| mv0 rfl <| sl2M (i) (l.length) (l.drop i) rfl rfl rfl Og Og ⟨Bd, Bd⟩ (by simp) rfl .none ?_
  refine cpy rfl rfl rfl (rowsOk_map (l.drop i)) (by simp; omega) (by simp; omega) (by simp; omega) (ins_b2 (l := l) (x := x) (i := i) (by omega)) rfl .none ?_
  refine done ⟨by kernel_rfl, by kernel_rfl, ?_⟩
  refine Wp.seq <| reg <| mv0 rfl <| asg0 rfl <| done ?_
  refine Wp.ret ?_
  refine ⟨(.inr rfl), ⟨_, .cons (.tmp rfl (by first | exact FzG.sl rfl (by simp only [List.length_map, List.length_append, List.length_take, List.length_cons, List.length_drop, List.length_nil] <;> omega) (Enc.pure _) rfl)) <|  .nil, ?_⟩, fun _ _ h => by cases h⟩
  exact f_insert_k1
  have nc2 := Nz c2
  refine Wp.skip <| Wp.seq <| Wp.capMore 0 1 rfl (by rw [List.length_map] at hcp ⊢; omega) (by rw [List.length_map]; omega) ?_
  refine reg <| mv0 rfl <| mv0 rfl <| mv0 rfl <| ar0 rfl (wrapI Bd) <| slu (l.length + 1) rfl rfl rfl (by omega) (by simp) rfl .none ?_
  refine asg0 rfl <| done ?_
  refine Wp.seq <| Wp.seq <| reg <| mv0 rfl <| mv0 rfl <| mv0 rfl <| mv0 rfl <| ar0 rfl (wrapI Bd) <| slo (i + 1) (l.length + 1) rfl rfl rfl rfl Og Og ⟨Bd, Bd⟩ rfl rfl rfl .none ?_
  refine ovl (tS := 40) (tR := 4) Tryz.func193 (by kernel_rfl) (by kernel_rfl) (by kernel_rfl) (by kernel_rfl) rfl rfl (by decide) rfl rfl (by simp) (by simp; omega) rfl rfl .none ?_
  refine nt0 rfl <| done ?_
  refine Wp.condT rfl rfl <| Wp.seq <| Wp.freezeM 1 2 [0, 1, 7, 8] rfl rfl rfl rfl ?_
  refine regd mixed ?_
  refine mv0 rfl <| mv0 rfl <| mv0 rfl <| ar0 rfl (wrapI Bd) <| slo (i + 1) (l.length + 1) rfl rfl rfl rfl Og Og ⟨Bd, Bd⟩ rfl rfl rfl .none ?_
  refine mv0 rfl <| mv0 rfl <| slo (i) (l.length + 1) rfl rfl rfl rfl Og Og ⟨Bd, Bd⟩ rfl rfl rfl .none ?_
  refine cps2 (l.length - i) _ rfl rfl rfl (ins_c0 (l := l) (i := i) (by omega)) (by omega) (by omega) (by simp; omega) (by simp; omega) (ins_c1 (l := l) (i := i) (by omega)) rfl .none ?_
  refine done ⟨by kernel_rfl, by kernel_rfl, ?_⟩
  refine Wp.seq <| reg <| mv0 rfl <| mv0 rfl <| slo (i) (l.length + 1) rfl rfl rfl rfl Og Og ⟨Bd, Bd⟩ rfl rfl rfl .none ?_
  refine mv0 rfl <| cpy rfl rfl rfl (rowsOk_map [x]) (by simp) (by simp; omega) (by simp; omega) (ins_c2 (l := l) (x := x) (i := i) (by omega)) rfl .none ?_
  refine done ?_
  refine Wp.seq <| reg <| mv0 rfl <| asg0 rfl <| done ?_
  refine Wp.ret ?_
  refine ⟨(.inr rfl), ⟨_, .cons (.tmp rfl (by first | exact FzG.sl rfl (by simp only [List.length_map, List.length_append, List.length_take, List.length_cons, List.length_drop, List.length_nil] <;> omega) (Enc.pure _) rfl)) <|  .nil, ?_⟩, fun _ _ h => by cases h⟩
  exact f_insert_k1

theorem f_into_k1 {p : Prop} (h : p := by
    first | exact congrArg slL (into_yes (by assumption)).symm | exact congrArg slL (into_no (by assumption)).symm) : p := h
set_option maxRecDepth 20000 in
theorem f_into {l : List Slot} {x : Slot} {n : Int} (hr : riseS n l 0 = true) (hn : 0 ≤ n ∧ n ≤ 1000) (hx : 0 ≤ x.i ∧ x.i ≤ 1000000) : FnP PP 141 [slL l, slotD x, .fn 140 []] (slL (intoS x l)) := by
  have hlen := rise_small hr hn
  have hlow := belowS_le x.i l
  refine FnP.of_body Tryz.func141 rfl (by kernel_rfl) rfl ?_
  refine Wp.seq <| reg <| bx0 68 rfl ?_
  refine bx0 69 rfl ?_
  refine asg0 rfl <| done ?_
  refine Wp.freezeC 69 [5] [0, 1, 4, 6] rfl rfl rfl rfl ?_
  refine Wp.seq <| reg <| mv0 rfl <| ldA0 rfl ?_
  refine ldA0 rfl ?_
  refine cl rfl rfl f_own rfl rfl .none ?_
  refine mkf0 rfl ?_
  refine clw0 rfl (f_bsearch (cs := [.pp [.fn 140 []]]) (fun s hs => f_intoC f_own rfl (by have := rise_all hr s hs; omega) hx) rfl (rise_lt hr) (by omega)) rfl ?_
  refine mv0 rfl <| xt0 rfl <| xt0 rfl <| asg0 rfl <| asg0 rfl <| done ?_
  refine Wp.seq <| reg <| mv0 rfl <| clo 0 rfl rfl (f_cloneS Dis) rfl rfl .none ?_
  refine asg0 rfl <| done ?_
  refine Wp.seq <| Wp.seq <| reg <| mv0 rfl <| done ?_
  refine Wp.cond rfl (fun c1 => ?_) (fun c1 => ?_)
  have nc1 := Nz c1
  refine Wp.seq <| reg ?_
  have hm := has_lt (l := l) (k := x.i) (by assumption)
  refine mv0 rfl <| mv0 rfl <| ldA0 rfl ?_
  refine iaO0 (belowS x.i l) Bd rfl rfl rfl Eq' rfl .none ?_
  refine stb (x) Bd rfl rfl rfl rfl rfl rfl .none ?_
  refine done ?_
  refine Wp.seq <| reg <| mv0 rfl <| asg0 rfl <| done ?_
  refine Wp.ret ?_
  refine Ends.ret (.cons (.tmp rfl (by first | exact Fz.wk rfl | exact Fz.sl rfl (by rw [List.length_map]; simp) (Enc.pure _))) <|  .nil) ?_
  exact f_into_k1
  have nc1 := Nz c1
  refine Wp.skip <| Wp.seq <| reg <| mv0 rfl <| mv0 rfl <| ldA0 rfl ?_
  refine bsoM 1 slotC [x] rfl rfl rfl rfl rfl rfl .none ?_
  refine clBB 0 1 rfl rfl rfl rfl (f_insert hlow (by omega)) rfl rfl .none ?_
  refine asg0 rfl <| done ?_
  refine Wp.ret ?_
  refine Ends.ret (.cons (.tmp rfl (by first | exact Fz.wk rfl | exact Fz.sl rfl (by rw [List.length_map]; simp) (Enc.pure _))) <|  .nil) ?_
  exact f_into_k1

theorem f_stashGo_k1 {p : Prop} (h : p := by
    show _ = _; unfold goStash; (repeat' split) <;> first | rfl | (exfalso; omega) | (exfalso; simp_all; done) | (exfalso; simp_all <;> omega)) : p := h
set_option maxRecDepth 20000 in
theorem f_stashGo {at_ to : Int} {l : List Slot} {room dup : Int} {k : List (List Int)} {a b : List Int} (hs : ∀ s ∈ l, s.g.a.length ≤ 1000000 ∧ s.g.b.length ≤ 1000000) (ha : a.length ≤ 1000000) (hb : b.length ≤ 1000000) : FnP PP 93 [.agg [.int .i64 at_, slL l], .agg [.int .i64 room, .int .i64 dup, rlL k], gapD ⟨a, b⟩, .int .i64 to] (goStashD (goStash ⟨at_, l⟩ ⟨room, dup, k⟩ ⟨a, b⟩ to)) := by
  refine FnP.of_body Tryz.func93 rfl (by kernel_rfl) rfl ?_
  refine Wp.bound 1 rfl (fun hb1 => ?_)
  simp only [D.bd, D.bdL, List.length_map, and_true] at hb1
  refine Wp.seq <| reg <| bx0 68 rfl ?_
  refine bx0 69 rfl ?_
  refine bx0 70 rfl ?_
  refine al0 72 rfl ?_
  refine al0 73 rfl ?_
  refine asg0 rfl <| done ?_
  refine Wp.seq <| Wp.block <| Wp.seq <| reg <| ldA0 rfl ?_
  refine ldA0 rfl ?_
  refine clw0 rfl (f_stashIs Dis) rfl ?_
  refine nt0 rfl <| mv0 rfl ?_
  refine bcase 21 rfl (fun h21 => ?_) (fun h21 => ?_)
  have nh21 := Nz h21
  refine sk0 rfl h21 <| sk0 rfl h21 <| sk0 rfl h21 <| pkt0 rfl h21 <| asg0 rfl <| done ?_
  refine Wp.condT rfl rfl <| Wp.seq <| reg <| bdw0 rfl ?_
  refine bdw0 rfl ?_
  refine stw0 rfl ?_
  refine stw0 rfl ?_
  refine asg0 rfl <| done ?_
  refine Wp.ret ?_
  refine Ends.ret (.cons (.cell rfl rfl rfl (Nat.le_of_ble_eq_true rfl) (Fz.wk rfl)) <| .cons (.cell rfl rfl rfl (Nat.le_of_ble_eq_true rfl) (Fz.wk rfl)) <| .cons (.tmp rfl (Fz.pure rfl)) <|  .nil) ?_
  exact f_stashGo_k1
  have nh21 := Nz h21
  refine ldA1 rfl h21 rfl ?_
  refine clw1 rfl h21 rfl (f_gapIs Dis Dis) rfl ?_
  refine nt1 rfl h21 rfl <| pkf0 rfl h21 <| asg0 rfl <| done ?_
  refine Wp.cond rfl (fun c1 => ?_) (fun c1 => ?_)
  have nc1 := Nz c1
  refine Wp.seq <| reg <| bdw0 rfl ?_
  refine bdw0 rfl ?_
  refine stw0 rfl ?_
  refine stw0 rfl ?_
  refine asg0 rfl <| done ?_
  refine Wp.ret ?_
  refine Ends.ret (.cons (.cell rfl rfl rfl (Nat.le_of_ble_eq_true rfl) (Fz.wk rfl)) <| .cons (.cell rfl rfl rfl (Nat.le_of_ble_eq_true rfl) (Fz.wk rfl)) <| .cons (.tmp rfl (Fz.pure rfl)) <|  .nil) ?_
  exact f_stashGo_k1
  have nc1 := Nz c1
  refine Wp.seq <| reg ?_
  have hst := stashIs_parts (at_ := at_) (l := l) (p := ⟨room, dup, k⟩) (by first | assumption | (simp_all; done))
  refine mv0 rfl <| cmp0 rfl <| mv0 rfl ?_
  refine bcase 31 rfl (fun h31 => ?_) (fun h31 => ?_)
  have nh31 := Nz h31
  refine sk0 rfl h31 <| sk0 rfl h31 <| sk0 rfl h31 <| sk0 rfl h31 <| sk0 rfl h31 <| pkt0 rfl h31 <| mv0 rfl <| sk0 rfl rfl <| sk0 rfl rfl <| sk0 rfl rfl <| sk0 rfl rfl <| pkt0 rfl rfl <| asg0 rfl <| done ?_
  refine Wp.condT rfl rfl <| Wp.seq <| reg <| bdw0 rfl ?_
  refine bdw0 rfl ?_
  refine stw0 rfl ?_
  refine stw0 rfl ?_
  refine asg0 rfl <| done ?_
  refine Wp.ret ?_
  refine Ends.ret (.cons (.cell rfl rfl rfl (Nat.le_of_ble_eq_true rfl) (Fz.wk rfl)) <| .cons (.cell rfl rfl rfl (Nat.le_of_ble_eq_true rfl) (Fz.wk rfl)) <| .cons (.tmp rfl (Fz.pure rfl)) <|  .nil) ?_
  exact f_stashGo_k1
  have nh31 := Nz h31
  refine mv1 rfl h31 rfl <| faA1 rfl h31 rfl ?_
  refine ldA1 rfl h31 rfl ?_
  first | refine lnM1 rfl h31 rfl ?_ | refine lns1 rfl h31 rfl ?_ | refine ln1 rfl h31 rfl ?_
  refine cmp1 rfl h31 rfl <| pkf0 rfl h31 <| mv0 rfl ?_
  refine bcase 38 rfl (fun h38 => ?_) (fun h38 => ?_)
  have nh38 := Nz h38
  refine sk0 rfl h38 <| sk0 rfl h38 <| sk0 rfl h38 <| sk0 rfl h38 <| pkt0 rfl h38 <| asg0 rfl <| done ?_
  refine Wp.condT rfl rfl <| Wp.seq <| reg <| bdw0 rfl ?_
  refine bdw0 rfl ?_
  refine stw0 rfl ?_
  refine stw0 rfl ?_
  refine asg0 rfl <| done ?_
  refine Wp.ret ?_
  refine Ends.ret (.cons (.cell rfl rfl rfl (Nat.le_of_ble_eq_true rfl) (Fz.wk rfl)) <| .cons (.cell rfl rfl rfl (Nat.le_of_ble_eq_true rfl) (Fz.wk rfl)) <| .cons (.tmp rfl (Fz.pure rfl)) <|  .nil) ?_
  exact f_stashGo_k1
  have nh38 := Nz h38
  refine mv1 rfl h38 rfl <| faA1 rfl h38 rfl ?_
  refine ldA1 rfl h38 rfl ?_
  refine cmp1 rfl h38 rfl <| pkf0 rfl h38 <| asg0 rfl <| done ?_
  refine Wp.cond rfl (fun c2 => ?_) (fun c2 => ?_)
  have nc2 := Nz c2
  refine Wp.seq <| reg <| bdw0 rfl ?_
  refine bdw0 rfl ?_
  refine stw0 rfl ?_
  refine stw0 rfl ?_
  refine asg0 rfl <| done ?_
  refine Wp.ret ?_
  refine Ends.ret (.cons (.cell rfl rfl rfl (Nat.le_of_ble_eq_true rfl) (Fz.wk rfl)) <| .cons (.cell rfl rfl rfl (Nat.le_of_ble_eq_true rfl) (Fz.wk rfl)) <| .cons (.tmp rfl (Fz.pure rfl)) <|  .nil) ?_
  exact f_stashGo_k1
  have nc2 := Nz c2
  refine Wp.skip <| Wp.seq <| reg <| ldA0 rfl ?_
  refine mv0 rfl <| clw0 rfl f_stashFind rfl ?_
  refine mv0 rfl <| xt0 rfl <| xt0 rfl <| al0 75 rfl ?_
  refine stw0 rfl ?_
  refine asg0 rfl <| done ?_
  refine Wp.seq <| Wp.seq <| reg <| ldA0 rfl ?_
  refine mv0 rfl <| clw0 rfl f_pastGet rfl ?_
  refine mv0 rfl <| xt0 rfl <| xt0 rfl <| asg0 rfl <| asg0 rfl <| done ?_
  refine Wp.seq <| reg <| mv0 rfl <| nt0 rfl <| mv0 rfl ?_
  refine bcase 60 rfl (fun h60 => ?_) (fun h60 => ?_)
  have nh60 := Nz h60
  refine mv1 rfl h60 rfl <| cmp1 rfl h60 rfl <| pkt0 rfl h60 <| done ?_
  refine Wp.cond rfl (fun c3 => ?_) (fun c3 => ?_)
  have nc3 := Nz c3
  refine reg <| mv0 rfl <| faA0 rfl ?_
  refine stw0 rfl ?_
  refine done ?_
  refine Wp.seq <| reg <| asg0 rfl <| done ?_
  refine Wp.seq <| regd mixed ?_
  refine mv0 rfl <| faA0 rfl ?_
  refine ldA0 rfl ?_
  refine faA0 rfl ?_
  refine ldA0 rfl ?_
  refine ldA0 rfl ?_
  refine bdw0 rfl ?_
  refine mv0 rfl ?_
  have hk16 := pastIs_len hst.1
  refine clw0 rfl (f_into (x := ⟨at_, ⟨a, b⟩⟩) (n := (k.length : Int)) hst.2.2.2 (by omega) (by show 0 ≤ at_ ∧ at_ ≤ 1000000; have h1 := hst.2.1; have h2 := hst.2.2.1; simp only at h2; omega)) rfl ?_
  refine bdw0 rfl ?_
  refine ldA0 rfl ?_
  refine stw0 rfl ?_
  refine stw0 rfl ?_
  refine asg0 rfl ?_
  refine done ⟨by kernel_rfl, by kernel_rfl, ?_⟩
  refine Wp.ret ?_
  refine Ends.ret (.cons (.cell rfl rfl rfl (Nat.le_of_ble_eq_true rfl) (Fz.wk rfl)) <| .cons (.cell rfl rfl rfl (Nat.le_of_ble_eq_true rfl) (Fz.wk rfl)) <| .cons (.tmp rfl (Fz.pure rfl)) <|  .nil) ?_
  exact f_stashGo_k1
  have nc3 := Nz c3
  refine Wp.skip <| Wp.seq <| reg <| asg0 rfl <| done ?_
  refine Wp.seq <| regd mixed ?_
  refine mv0 rfl <| faA0 rfl ?_
  refine ldA0 rfl ?_
  refine faA0 rfl ?_
  refine ldA0 rfl ?_
  refine ldA0 rfl ?_
  refine bdw0 rfl ?_
  refine mv0 rfl ?_
  have hk16 := pastIs_len hst.1
  refine clw0 rfl (f_into (x := ⟨at_, ⟨a, b⟩⟩) (n := (k.length : Int)) hst.2.2.2 (by omega) (by show 0 ≤ at_ ∧ at_ ≤ 1000000; have h1 := hst.2.1; have h2 := hst.2.2.1; simp only at h2; omega)) rfl ?_
  refine bdw0 rfl ?_
  refine ldA0 rfl ?_
  refine stw0 rfl ?_
  refine stw0 rfl ?_
  refine asg0 rfl ?_
  refine done ⟨by kernel_rfl, by kernel_rfl, ?_⟩
  refine Wp.ret ?_
  refine Ends.ret (.cons (.cell rfl rfl rfl (Nat.le_of_ble_eq_true rfl) (Fz.wk rfl)) <| .cons (.cell rfl rfl rfl (Nat.le_of_ble_eq_true rfl) (Fz.wk rfl)) <| .cons (.tmp rfl (Fz.pure rfl)) <|  .nil) ?_
  exact f_stashGo_k1
  have nh60 := Nz h60
  refine sk0 rfl h60 <| sk0 rfl h60 <| pkf0 rfl h60 <| done ?_
  refine Wp.condF rfl rfl <| Wp.skip <| Wp.seq <| reg <| asg0 rfl <| done ?_
  refine Wp.seq <| regd mixed ?_
  refine mv0 rfl <| faA0 rfl ?_
  refine ldA0 rfl ?_
  refine faA0 rfl ?_
  refine ldA0 rfl ?_
  refine ldA0 rfl ?_
  refine bdw0 rfl ?_
  refine mv0 rfl ?_
  have hk16 := pastIs_len hst.1
  refine clw0 rfl (f_into (x := ⟨at_, ⟨a, b⟩⟩) (n := (k.length : Int)) hst.2.2.2 (by omega) (by show 0 ≤ at_ ∧ at_ ≤ 1000000; have h1 := hst.2.1; have h2 := hst.2.2.1; simp only at h2; omega)) rfl ?_
  refine bdw0 rfl ?_
  refine ldA0 rfl ?_
  refine stw0 rfl ?_
  refine stw0 rfl ?_
  refine asg0 rfl ?_
  refine done ⟨by kernel_rfl, by kernel_rfl, ?_⟩
  refine Wp.ret ?_
  refine Ends.ret (.cons (.cell rfl rfl rfl (Nat.le_of_ble_eq_true rfl) (Fz.wk rfl)) <| .cons (.cell rfl rfl rfl (Nat.le_of_ble_eq_true rfl) (Fz.wk rfl)) <| .cons (.tmp rfl (Fz.pure rfl)) <|  .nil) ?_
  exact f_stashGo_k1

end Go.Proofs.YtkcdmmafkpplhaaGreat
/- The editor, told in Lean (layer 24). No program in sight. -/
namespace Go.Eng
open Go
structure Search where
  on : Bool
  fore : Bool
  pat : List Int
  from_ : Int
  hit : Bool
  i : Int
  at_ : Int
structure Ed where
  e : Edit
  c : Count
  v : Int × Int
  map : Int
  quote : Bool
  p : Past
  s : Stash
  f : Search
  fresh : Int
structure Desk where
  ed : Ed
  line : List Int
  is_ : Bool
abbrev searchD (f : Search) : D := .agg [.bool f.on, .bool f.fore, rl f.pat, .int .i64 f.from_, .bool f.hit, .int .i64 f.i, .int .i64 f.at_]
def edC (d : Ed) : List D :=
  [rl d.e.g.a, rl d.e.g.b, rlL d.e.k, gpL d.e.u, .int .i64 d.e.last, .int .i64 d.e.turn, .int .i64 d.e.size, .bool d.c.has, .bool d.c.neg, .int .i64 d.c.n, .int .i64 d.v.1, .int .i64 d.v.2, .int .i64 d.map, .bool d.quote,
   .int .i64 d.p.room, .int .i64 d.p.dup, rlL d.p.l, .int .i64 d.s.at_, slL d.s.l, .bool d.f.on, .bool d.f.fore, rl d.f.pat, .int .i64 d.f.from_, .bool d.f.hit, .int .i64 d.f.i, .int .i64 d.f.at_, .int .i64 d.fresh]
def deskC (x : Desk) : List D :=
  [rl x.ed.e.g.a, rl x.ed.e.g.b, rlL x.ed.e.k, gpL x.ed.e.u, .int .i64 x.ed.e.last, .int .i64 x.ed.e.turn, .int .i64 x.ed.e.size, .bool x.ed.c.has, .bool x.ed.c.neg, .int .i64 x.ed.c.n, .int .i64 x.ed.v.1, .int .i64 x.ed.v.2, .int .i64 x.ed.map, .bool x.ed.quote,
   .int .i64 x.ed.p.room, .int .i64 x.ed.p.dup, rlL x.ed.p.l, .int .i64 x.ed.s.at_, slL x.ed.s.l, .bool x.ed.f.on, .bool x.ed.f.fore, rl x.ed.f.pat, .int .i64 x.ed.f.from_, .bool x.ed.f.hit, .int .i64 x.ed.f.i, .int .i64 x.ed.f.at_, .int .i64 x.ed.fresh, rl x.line, .bool x.is_]
abbrev edD (d : Ed) : D := .agg (edC d)
def noSearch : Search := ⟨false, false, [], 0, false, 0, 0⟩
def noCount : Count := ⟨false, false, 0⟩
def noPast : Past := ⟨0, 0, []⟩
def noEd : Ed := ⟨noEdit, noCount, (0, 0), 0, false, noPast, ⟨0, []⟩, noSearch, 0⟩
def newEd (mapping room dup : Int) : Ed × Int :=
  if mapping ≠ 0 ∧ mapping ≠ 1 then (noEd, 4) else if (pastNew room dup).2 ≠ 0 then (noEd, (pastNew room dup).2)
  else (⟨noEdit, noCount, (0, 0), mapping, false, (pastNew room dup).1, stashOpen (pastNew room dup).1, noSearch, 0⟩, 0)
def seeksS (f : Search) (p : Past) : Bool :=
  if signs f.pat = false then false
  else if 200 < f.pat.length ∨ f.from_ < 0 ∨ (p.l.length : Int) < f.from_ then false
  else if f.hit = false then decide (f.i = 0 ∧ f.at_ = 0)
  else decide ((pastGet p f.i).2 = 0 ∧ 0 ≤ f.at_ ∧ placeOf (pastGet p f.i).1 f.pat = f.at_)
def viIsS (m o : Int) : Bool := if m = 0 then o == 0 else if m = 1 then decide (0 ≤ o ∧ o ≤ 3) else false
def edIs (d : Ed) : Bool :=
  if editIs d.e = false ∨ countIs d.c = false ∨ viIsS d.v.1 d.v.2 = false ∨ pastIs d.p = false ∨ stashIs d.s d.p = false then false
  else if (d.map ≠ 1 ∧ (d.map ≠ 0 ∨ d.v.1 ≠ 0 ∨ d.v.2 ≠ 0)) ∨ d.fresh < 0 ∨ 1000 ≤ d.fresh then false
  else if d.f.on = true then (!d.quote) && seeksS d.f d.p
  else decide (d.f.fore = false ∧ d.f.hit = false ∧ d.f.pat.length = 0 ∧ d.f.from_ = 0 ∧ d.f.i = 0 ∧ d.f.at_ = 0)
/-- What is small enough that nothing is out of reach. -/
structure EdOk (d : Ed) : Prop where
  u : ∀ g ∈ d.e.u, g.sm
  a : d.e.g.a.length ≤ 1000
  b : d.e.g.b.length ≤ 1000
  s : ∀ s ∈ d.s.l, s.g.a.length ≤ 1000 ∧ s.g.b.length ≤ 1000
def offS (d : Ed) : Ed := ⟨⟨d.e.g, d.e.k, d.e.u, 0, 0, 0⟩, d.c, d.v, d.map, d.quote, d.p, d.s, d.f, d.fresh⟩
def setE (d : Ed) (e : Edit) : Ed := ⟨e, d.c, d.v, d.map, d.quote, d.p, d.s, d.f, d.fresh⟩
def setC (d : Ed) (c : Count) : Ed := ⟨d.e, c, d.v, d.map, d.quote, d.p, d.s, d.f, d.fresh⟩
def setV (d : Ed) (v : Int × Int) : Ed := ⟨d.e, d.c, v, d.map, d.quote, d.p, d.s, d.f, d.fresh⟩
def setQ (d : Ed) (q : Bool) : Ed := ⟨d.e, d.c, d.v, d.map, q, d.p, d.s, d.f, d.fresh⟩
def setF (d : Ed) (f : Search) : Ed := ⟨d.e, d.c, d.v, d.map, d.quote, d.p, d.s, f, d.fresh⟩
def setG (d : Ed) (g : Gap) : Ed := ⟨⟨g, d.e.k, d.e.u, d.e.last, d.e.turn, d.e.size⟩, d.c, d.v, d.map, d.quote, d.p, d.s, d.f, d.fresh⟩
def setFr (d : Ed) (n : Int) : Ed := ⟨d.e, d.c, d.v, d.map, d.quote, d.p, d.s, d.f, n⟩
def doEd (d : Ed) (a : ActE) : Ed := if (doS d.e a (valueS d.c)).2 ≠ 0 then offS d else setE d (doS d.e a (valueS d.c)).1
def wentS (d : Ed) (x : Stash × Gap × Int) : Ed := ⟨⟨x.2.1, d.e.k, [], 0, 0, 0⟩, d.c, d.v, d.map, d.quote, d.p, x.1, d.f, d.fresh⟩
def goesS (d : Ed) (i : Int) : Ed := if (goStash d.s d.p d.e.g i).2.2 = 0 then wentS d (goStash d.s d.p d.e.g i) else offS d
end Go.Eng

/- A right line that is edited stays right (layers 10, 12, 13, 23), told in Lean. No program in sight. -/
namespace Go.Eng
open Go
theorem gapIs_iff {g : Gap} : gapIs g = true ↔ g.a.length + g.b.length ≤ 200 ∧ signs g.a = true ∧ signs g.b = true := by
  simp only [gapIs, Bool.and_eq_true, decide_eq_true_eq]
theorem signs_app {a b : List Int} : signs (a ++ b) = true ↔ signs a = true ∧ signs b = true := by simp only [signs, List.all_append, Bool.and_eq_true]
theorem signs_take {l : List Int} (n : Nat) (h : signs l = true) : signs (l.take n) = true := by
  simp only [signs, List.all_eq_true] at h ⊢; exact fun r hr => h r (List.mem_of_mem_take hr)
theorem signs_dropN {l : List Int} (n : Nat) (h : signs l = true) : signs (l.drop n) = true := by
  simp only [signs, List.all_eq_true] at h ⊢; exact fun r hr => h r (List.mem_of_mem_drop hr)
theorem split_is {l : List Int} (n : Nat) (h : signs l = true) (hl : l.length ≤ 200) : gapIs (splitS l n) = true :=
  gapIs_iff.2 ⟨by simp only [splitS, List.length_take, List.length_drop]; omega, signs_take n h, signs_dropN n h⟩
theorem of_is (l : List Int) (i : Int) : gapIs (ofS l i).1 = true := by
  unfold ofS
  split
  · rfl
  · rename_i h
    split
    · rfl
    · exact split_is _ (by cases hs : signs l; exact absurd (.inl hs) h; rfl) (by omega)
theorem ins_is (g : Gap) (l : List Int) : gapIs (insS g l).1 = true := by
  unfold insS
  split
  · rfl
  · rename_i h
    split
    · rfl
    · rename_i h2
      obtain ⟨h3, h4, h5⟩ := gapIs_iff.1 (show gapIs g = true by cases hs : gapIs g; exact absurd (.inl hs) h; rfl)
      have h6 : signs l = true := by cases hs : signs l; exact absurd (.inr hs) h; rfl
      exact gapIs_iff.2 ⟨by simp only [List.length_append]; omega, signs_app.2 ⟨h4, h6⟩, h5⟩
theorem ins_ok {g : Gap} {l : List Int} (h : (insS g l).2 = 0) : (insS g l).1 = ⟨g.a ++ l, g.b⟩ := by
  unfold insS at h ⊢
  split at h
  · simp at h
  · rename_i h1
    split at h
    · simp at h
    · rename_i h2
      rw [if_neg h1, if_neg h2]
theorem go_is {g : Gap} (i : Int) (h : gapIs g = true) : gapIs (goS g i) = true := by
  obtain ⟨h1, h2, h3⟩ := gapIs_iff.1 h
  unfold goS
  rw [if_neg (by simp [h])]
  exact split_is _ (signs_app.2 ⟨h2, h3⟩) (by rw [List.length_append]; omega)
theorem cut_is {g : Gap} (n : Int) (h : gapIs g = true) : gapIs (cutS g n).1 = true := by
  obtain ⟨h1, h2, h3⟩ := gapIs_iff.1 h
  unfold cutS
  split
  · exact h
  · split
    · exact gapIs_iff.2 ⟨by simp only [List.length_drop]; omega, h2, signs_dropN _ h3⟩
    · exact gapIs_iff.2 ⟨by simp only [List.length_take]; omega, signs_take _ h2, h3⟩
theorem swap_is (g : Gap) : gapIs (swapS g).1 = true := by
  unfold swapS
  split
  · rfl
  · split
    · rfl
    · exact of_is _ _
theorem undoIs_iff {u : List Gap} : undoIs u = true ↔ (∀ g ∈ u, gapIs g = true) ∧ u.length ≤ 16 := by
  simp only [undoIs, Bool.and_eq_true, List.all_eq_true, decide_eq_true_eq]
theorem push_is {u : List Gap} (g : Gap) (h : undoIs u = true) : undoIs (pushS u g) = true := by
  obtain ⟨h1, h2⟩ := undoIs_iff.1 h
  unfold pushS
  split
  · exact h
  · rename_i hg
    split
    · exact h
    · refine undoIs_iff.2 ⟨fun x hx => ?_, by simp only [List.length_append, List.length_drop, List.length_cons, List.length_nil]; omega⟩
      rcases List.mem_append.1 hx with hx | hx
      · exact h1 x (List.mem_of_mem_drop hx)
      · obtain rfl := List.mem_singleton.1 hx
        cases hs : gapIs x with
        | false => exact absurd (.inr hs) hg
        | true => rfl
theorem pop_is {u : List Gap} (h : (popS u).2 = 0) : undoIs (popS u).1.1 = true ∧ gapIs (popS u).1.2 = true := by
  unfold popS at h ⊢
  split at h
  · simp at h
  · rename_i h1
    split at h
    · simp at h
    · rename_i h2
      rw [if_neg h1, if_neg h2]
      obtain ⟨h3, h4⟩ := undoIs_iff.1 (show undoIs u = true by cases hs : undoIs u; exact absurd hs h1; rfl)
      refine ⟨undoIs_iff.2 ⟨fun x hx => h3 x (List.mem_of_mem_take hx), by simp only [List.length_take]; omega⟩, ?_⟩
      have hl : u.length - 1 < u.length := by omega
      show gapIs (u.getD (u.length - 1) ⟨[], []⟩) = true
      simp only [List.getD, List.getElem?_eq_getElem hl, Option.getD_some]
      exact h3 _ (List.getElem_mem hl)
theorem oneS_iff {l : List Int} : oneS l = true ↔ signs l = true ∧ 0 < l.length ∧ l.length ≤ 200 := by simp only [oneS, Bool.and_eq_true, decide_eq_true_eq]
theorem killIs_iff {k : List (List Int)} : killIs k = true ↔ (∀ l ∈ k, oneS l = true) ∧ k.length ≤ 8 := by simp only [killIs, Bool.and_eq_true, List.all_eq_true, decide_eq_true_eq]
theorem getD_mem {α : Type} {l : List α} {i : Nat} {z : α} (h : i < l.length) : l.getD i z ∈ l := by
  simp only [List.getD, List.getElem?_eq_getElem h, Option.getD_some]; exact List.getElem_mem h
theorem add_is {k : List (List Int)} (l : List Int) (how : Int) (h : killIs k = true) : killIs (addS k l how) = true := by
  obtain ⟨h1, h2⟩ := killIs_iff.1 h
  unfold addS
  split
  · exact h
  · rename_i hl
    have ho : oneS l = true := by cases hs : oneS l; exact absurd (.inr hs) hl; rfl
    split
    · refine killIs_iff.2 ⟨fun x hx => ?_, by simp only [List.length_append, List.length_drop, List.length_cons, List.length_nil]; omega⟩
      rcases List.mem_append.1 hx with hx | hx
      · exact h1 x (List.mem_of_mem_drop hx)
      · obtain rfl := List.mem_singleton.1 hx; exact ho
    · rename_i hn
      refine killIs_iff.2 ⟨fun x hx => ?_, by simp only [List.length_append, List.length_take, List.length_cons, List.length_nil]; omega⟩
      rcases List.mem_append.1 hx with hx | hx
      · exact h1 x (List.mem_of_mem_take hx)
      · obtain rfl := List.mem_singleton.1 hx
        have hm := oneS_iff.1 (h1 _ (show lastL k ∈ k from getD_mem (by omega)))
        have hq := oneS_iff.1 ho
        unfold joinS
        split
        · exact oneS_iff.2 ⟨signs_app.2 ⟨hq.1, hm.1⟩, by rw [List.length_append]; omega, by rw [List.length_append]; omega⟩
        · exact oneS_iff.2 ⟨signs_app.2 ⟨hm.1, hq.1⟩, by rw [List.length_append]; omega, by rw [List.length_append]; omega⟩
theorem get_is {k : List (List Int)} {t : Int} (h : killIs k = true) (ht : 0 ≤ t) (hk : k.length ≠ 0) : oneS (getS k t).1 = true := by
  unfold getS
  rw [if_neg (by rintro (h1 | h1); rw [h] at h1; cases h1; omega), if_neg hk]
  exact (killIs_iff.1 h).1 _ (getD_mem (by have := Nat.mod_lt t.toNat (Nat.pos_of_ne_zero hk); omega))
structure EIs (e : Edit) : Prop where
  g : gapIs e.g = true
  k : killIs e.k = true
  u : undoIs e.u = true
  last : 0 ≤ e.last ∧ e.last ≤ 3
  yes : e.last = 3 → 0 ≤ e.turn ∧ e.turn < e.k.length ∧ 1 ≤ e.size ∧ e.size ≤ e.g.a.length
  no : e.last ≠ 3 → e.turn = 0 ∧ e.size = 0
theorem editIs_iff {e : Edit} : editIs e = true ↔ EIs e := by
  constructor
  · intro h
    simp only [editIs, Bool.and_eq_true, decide_eq_true_eq] at h
    obtain ⟨⟨⟨h1, h2⟩, h3, h4⟩, h5⟩ := h
    refine ⟨h1, h2, h3, h4, fun h6 => ?_, fun h6 => ?_⟩
    · rw [if_pos h6] at h5; simpa using h5
    · rw [if_neg h6] at h5; simpa using h5
  · intro h
    simp only [editIs, Bool.and_eq_true, decide_eq_true_eq]
    refine ⟨⟨⟨h.g, h.k⟩, h.u, h.last⟩, ?_⟩
    by_cases h6 : e.last = 3
    · rw [if_pos h6]; exact decide_eq_true (h.yes h6)
    · rw [if_neg h6]; exact decide_eq_true (h.no h6)
theorem EIs.plain {g : Gap} {k : List (List Int)} {u : List Gap} (hg : gapIs g = true) (hk : killIs k = true) (hu : undoIs u = true) (la : Int) (h1 : 0 ≤ la ∧ la ≤ 2) : EIs ⟨g, k, u, la, 0, 0⟩ :=
  ⟨hg, hk, hu, by show 0 ≤ la ∧ la ≤ 3; omega, fun h => by have h : la = 3 := h; omega, fun _ => ⟨rfl, rfl⟩⟩
theorem text_is {w x : Edit} {g : Gap} {t : Int} (hk : killIs w.k = true) (hx : x.k = w.k) (hu : undoIs x.u = true) (ht : 0 ≤ t ∧ t < w.k.length) (h : (textE w x g t).2 = 0) : EIs (textE w x g t).1 := by
  have hg := oneS_iff.1 (get_is hk ht.1 (by omega))
  unfold textE putS at h ⊢
  refine ⟨ins_is _ _, by show killIs x.k = true; rw [hx]; exact hk, hu, by show (0 : Int) ≤ 3 ∧ (3 : Int) ≤ 3; omega, fun _ => ?_, fun h => absurd rfl h⟩
  show 0 ≤ t ∧ t < (x.k.length : Int) ∧ 1 ≤ (((getS w.k t).1.length : Nat) : Int) ∧ (((getS w.k t).1.length : Nat) : Int) ≤ ((insS g (getS w.k t).1).1.a.length : Int)
  rw [hx, ins_ok h]
  simp only [List.length_append]
  omega
theorem acts_is {e : Edit} {a : ActE} {n : Int} (h : EIs e) (hr : (actsS e a n).2 = 0) : EIs (actsS e a n).1 := by
  unfold actsS at hr ⊢
  by_cases h2 : a.kind = 2
  · rw [if_pos h2] at hr ⊢
    unfold insertS at hr ⊢
    split at hr
    · simp at hr
    · rename_i hn
      rw [if_neg hn]
      unfold putS lastI
      split
      · exact .plain (ins_is _ _) h.k (push_is _ h.u) 1 (by omega)
      · exact .plain (ins_is _ _) h.k h.u 1 (by omega)
  rw [if_neg h2] at hr ⊢
  by_cases h3 : a.kind = 3
  · rw [if_pos h3] at hr ⊢
    unfold yankS at hr ⊢
    split at hr
    · simp at hr
    · rename_i hn
      rw [if_neg hn]
      exact text_is h.k rfl (push_is _ h.u) (by omega) hr
  rw [if_neg h3] at hr ⊢
  by_cases h4 : a.kind = 4
  · rw [if_pos h4] at hr ⊢
    unfold popE at hr ⊢
    split at hr
    · simp at hr
    · rename_i hn
      rw [if_neg hn]
      have hy := h.yes (by omega)
      exact text_is h.k rfl h.u (by have := Nat.mod_lt (e.turn + 1).toNat (show 0 < e.k.length by omega); omega) hr
  rw [if_neg h4] at hr ⊢
  by_cases h5 : a.kind = 5
  · rw [if_pos h5] at hr ⊢
    unfold backS at hr ⊢
    split at hr
    · simp at hr
    · rename_i hn
      rw [if_neg hn]
      have hp := pop_is (u := e.u) (by omega)
      exact .plain hp.2 h.k hp.1 0 (by omega)
  rw [if_neg h5] at hr ⊢
  by_cases h6 : a.kind = 6
  · rw [if_pos h6] at hr ⊢
    exact .plain (swap_is _) h.k (push_is _ h.u) 0 (by omega)
  rw [if_neg h6] at hr ⊢
  unfold moveS moveT at hr ⊢
  split at hr
  · rename_i ho
    rw [if_pos ho]
    split at hr
    · simp at hr
    · rename_i ht
      rw [if_neg ht]
      exact .plain (go_is _ h.g) h.k h.u 0 (by omega)
  · rename_i ho
    rw [if_neg ho]
    split at hr
    · simp at hr
    · rename_i ht
      rw [if_neg ht]
      unfold passS
      split
      · exact .plain (of_is _ _) (add_is _ _ h.k) h.u 0 (by omega)
      · split
        · exact .plain (of_is _ _) h.k (push_is _ h.u) 0 (by omega)
        · split
          · exact .plain (of_is _ _) (add_is _ _ h.k) (push_is _ h.u) 2 (by omega)
          · exact .plain (of_is _ _) h.k (push_is _ h.u) 0 (by omega)
theorem do_is {e : Edit} {a : ActE} {n : Int} (h : (doS e a n).2 = 0) : EIs (doS e a n).1 := by
  unfold doS at h ⊢
  split at h
  · simp at h
  · rename_i h1
    split at h
    · rename_i h2; exact absurd h h2
    · rename_i h2
      rw [if_neg h1, if_neg h2]
      exact acts_is (editIs_iff.1 (by cases hs : editIs e; exact absurd (.inl hs) h1; rfl)) (by simpa using h2)
theorem EIs.off {e : Edit} (h : EIs e) : EIs ⟨e.g, e.k, e.u, 0, 0, 0⟩ := .plain h.g h.k h.u 0 (by omega)
theorem EIs.smu {e : Edit} (h : EIs e) : ∀ g ∈ e.u, g.sm := fun g hg => by
  have := gapIs_iff.1 ((undoIs_iff.1 h.u).1 g hg); unfold Gap.sm; omega
end Go.Eng

/- What is sought, and the editor's desk, told in Lean (layers 21, 24). No program in sight. -/
namespace Go.Eng
open Go
/-- Going through lines: the first round at which the test is not negative. -/
def hitS (t : Nat → Bool) (K : Nat) : Option Nat := (List.range K).find? t
def seekT (p : Past) (pat : List Int) (fr by_ : Int) (q : Nat) : Bool := decide (0 ≤ placeOf (p.l.getD (fr + by_ * q).toNat []) pat)
def seekS (p : Past) (pat : List Int) (fr by_ : Int) (K : Nat) : Int × Int × Int :=
  if pastIs p = false then (0, 0, 1) else if pat.length = 0 then (0, 0, 6) else
  match hitS (seekT p pat fr by_) K with
  | some q => (fr + by_ * q, placeOf (p.l.getD (fr + by_ * q).toNat []) pat, 0)
  | none => (0, 0, 7)
def prefT (p : Past) (pat : List Int) (fr : Int) (q : Nat) : Bool := standsS (p.l.getD (fr + -1 * q).toNat []) pat
def prefixS (p : Past) (pat : List Int) (from_ : Int) : Int × Int :=
  if pastIs p = false then (0, 1) else
  match hitS (prefT p pat (min from_ ((p.l.length : Int) - 1))) (min from_ ((p.l.length : Int) - 1) + 1).toNat with
  | some q => (min from_ ((p.l.length : Int) - 1) + -1 * (q : Nat), 0)
  | none => (0, 7)
def findBack (p : Past) (pat : List Int) (from_ : Int) : Int × Int × Int := seekS p pat (min from_ ((p.l.length : Int) - 1)) (-1) (min from_ ((p.l.length : Int) - 1) + 1).toNat
def findFore (p : Past) (pat : List Int) (from_ : Int) : Int × Int × Int := seekS p pat (max from_ 0) 1 ((p.l.length : Int) - max from_ 0).toNat
def findS (fore : Bool) (p : Past) (pat : List Int) (from_ : Int) : Int × Int × Int := if fore = true then findFore p pat from_ else findBack p pat from_
def lookS (d : Ed) (pat : List Int) (from_ : Int) : Ed × Bool :=
  if (findS d.f.fore d.p pat from_).2.2 ≠ 0 then (d, false) else (setF d ⟨d.f.on, d.f.fore, d.f.pat, d.f.from_, true, (findS d.f.fore d.p pat from_).1, (findS d.f.fore d.p pat from_).2.1⟩, true)
def textS (g : Gap) : List Int := g.a ++ g.b
def acceptEd (d : Ed) : Ed := ⟨⟨⟨[], []⟩, d.e.k, [], 0, 0, 0⟩, d.c, d.v, d.map, d.quote, pastAdd d.p (textS d.e.g), stashOpen (pastAdd d.p (textS d.e.g)), d.f, d.fresh⟩
def prefixEd (d : Ed) : Ed :=
  if (prefixS d.p d.e.g.a (d.s.at_ - 1)).2 ≠ 0 then offS d
  else setG (goesS d (prefixS d.p d.e.g.a (d.s.at_ - 1)).1) (goS (goesS d (prefixS d.p d.e.g.a (d.s.at_ - 1)).1).e.g d.e.g.a.length)
/-- What is looked for from the line that is shown. -/
def searchS (d : Ed) (fore : Bool) : Ed := setF (offS d) ⟨true, fore, [], d.s.at_, false, 0, 0⟩
def actEd (x : Desk) (a : ActE) : Desk :=
  if a.kind = 14 then ⟨setC x.ed (digitS x.ed.c (a.r - 48)), x.line, x.is_⟩
  else if a.kind = 15 then ⟨setC x.ed (minusS x.ed.c), x.line, x.is_⟩
  else if a.kind = 13 then ⟨setQ x.ed true, x.line, x.is_⟩
  else if a.kind = 7 then ⟨setC (acceptEd x.ed) noCount, textS x.ed.e.g, true⟩
  else if a.kind = 8 then ⟨setC (goesS x.ed (x.ed.s.at_ - valueS x.ed.c)) noCount, x.line, x.is_⟩
  else if a.kind = 9 then ⟨setC (goesS x.ed (x.ed.s.at_ + valueS x.ed.c)) noCount, x.line, x.is_⟩
  else if a.kind = 10 then ⟨setC (prefixEd x.ed) noCount, x.line, x.is_⟩
  else if a.kind = 0 ∨ a.kind = 16 then ⟨setC (offS x.ed) noCount, x.line, x.is_⟩
  else if a.kind = 11 ∨ a.kind = 12 then ⟨setC (searchS x.ed (a.kind == 12)) noCount, x.line, x.is_⟩
  else if a.kind = 17 then ⟨setC (setFr (offS x.ed) ((x.ed.fresh + 1) % 1000)) noCount, x.line, x.is_⟩
  else ⟨setC (doEd x.ed a) noCount, x.line, x.is_⟩
def quotedEd (d : Ed) (k r : Int) : Ed :=
  setC (if k = 1 then doEd (setQ d false) ⟨2, 0, 0, r⟩ else if k = 10 then doEd (setQ d false) ⟨2, 0, 0, 27⟩ else setQ d false) noCount
def foreF (f : Search) (b : Bool) : Search := ⟨f.on, b, f.pat, f.from_, f.hit, f.i, f.at_⟩
def patF (f : Search) (l : List Int) : Search := ⟨f.on, f.fore, l, f.from_, f.hit, f.i, f.at_⟩
def lessF (f : Search) : Search := ⟨f.on, f.fore, f.pat.take (f.pat.length - 1), f.from_, false, 0, 0⟩
def turnFrom (f : Search) (b : Bool) : Int := if f.hit = false then f.from_ else if b = true then f.i + 1 else f.i - 1
/-- A sign of a search; false: it ends that. -/
def seekEd (d : Ed) (r : Int) : Ed × Bool :=
  if r = 7 then (setC (setF d noSearch) noCount, true)
  else if r = 18 ∨ r = 19 then (setC (lookS (setF d (foreF d.f (r == 19))) d.f.pat (turnFrom d.f (r == 19))).1 noCount, true)
  else if r = 8 ∨ r = 127 then (setC (lookS (setF d (lessF d.f)) (lessF d.f).pat d.f.from_).1 noCount, true)
  else if r < 32 ∨ signB r = false then (d, false)
  else if d.f.pat.length < 200 then
    (setC (if (lookS d (d.f.pat ++ [r]) (if d.f.hit = true then d.f.i else d.f.from_)).2 = true then setF (lookS d (d.f.pat ++ [r]) (if d.f.hit = true then d.f.i else d.f.from_)).1 (patF (lookS d (d.f.pat ++ [r]) (if d.f.hit = true then d.f.i else d.f.from_)).1.f (d.f.pat ++ [r])) else (lookS d (d.f.pat ++ [r]) (if d.f.hit = true then d.f.i else d.f.from_)).1) noCount, true)
  else (setC d noCount, true)
def endTo (d : Ed) : Ed := if d.f.i ≠ d.s.at_ then goesS (offS (setF d noSearch)) d.f.i else offS (setF d noSearch)
def endEd (d : Ed) : Ed := if d.f.hit = false then setF d noSearch else setG (endTo d) (goS (endTo d).e.g d.f.at_)
theorem past_line {p : Past} {i : Int} (h : (pastGet p i).2 = 0) : (pastGet p i).1.length ≤ 200 := by
  unfold pastGet at h ⊢
  split at h
  · simp at h
  · rename_i h1
    split at h
    · simp at h
    · rename_i h2
      rw [if_neg h1, if_neg h2]
      have hp : pastIs p = true := by cases hs : pastIs p; exact absurd hs h1; rfl
      simp only [pastIs, Bool.and_eq_true, List.all_eq_true] at hp
      exact (oneS_iff.1 (hp.2 _ (getD_mem (by omega)))).2.2
theorem find_small {l : List Slot} (h : ∀ s ∈ l, s.g.a.length ≤ 1000 ∧ s.g.b.length ≤ 1000) (i : Int) : (findSl l i).1.a.length ≤ 1000 ∧ (findSl l i).1.b.length ≤ 1000 := by
  induction l with
  | nil => simp [findSl, noGap]
  | cons a r ih =>
    unfold findSl
    split
    · exact h a (.head _)
    · exact ih fun s hs => h s (.tail _ hs)
theorem into_mem {x s : Slot} {l : List Slot} (h : s ∈ intoS x l) : s = x ∨ s ∈ l := by
  unfold intoS at h
  split at h
  · rcases List.mem_or_eq_of_mem_set h with h | h
    · exact .inr h
    · exact .inl h
  · rcases List.mem_append.1 h with h | h
    · exact .inr (List.mem_of_mem_take h)
    · rcases List.mem_cons.1 h with h | h
      · exact .inl h
      · exact .inr (List.mem_of_mem_drop h)
theorem ok_off {d : Ed} (h : EdOk d) : EdOk (offS d) := ⟨h.u, h.a, h.b, h.s⟩
theorem ok_goes {d : Ed} (h : EdOk d) (i : Int) : EdOk (goesS d i) := by
  unfold goesS
  split
  · rename_i h0
    unfold goStash at h0 ⊢
    split at h0
    · simp at h0
    · rename_i h1
      split at h0
      · simp at h0
      · rename_i h2
        rw [if_neg h1, if_neg h2]
        have hf := find_small h.s i
        refine ⟨fun g hg => (by cases hg), ?_, ?_, fun s hs => ?_⟩
        · show (if (findSl d.s.l i).2 = false ∧ (pastGet d.p i).2 = 0 then (⟨(pastGet d.p i).1, (findSl d.s.l i).1.b⟩ : Gap) else (findSl d.s.l i).1).a.length ≤ 1000
          split
          · rename_i hp; have := past_line hp.2; simp only; omega
          · exact hf.1
        · show (if (findSl d.s.l i).2 = false ∧ (pastGet d.p i).2 = 0 then (⟨(pastGet d.p i).1, (findSl d.s.l i).1.b⟩ : Gap) else (findSl d.s.l i).1).b.length ≤ 1000
          split
          · exact hf.2
          · exact hf.2
        · rcases into_mem hs with rfl | hs
          · exact ⟨h.a, h.b⟩
          · exact h.s s hs
  · exact ok_off h
theorem ok_do {d : Ed} (h : EdOk d) (a : ActE) : EdOk (doEd d a) := by
  unfold doEd
  split
  · exact ok_off h
  · rename_i h0
    have hi := do_is (e := d.e) (a := a) (n := valueS d.c) (by omega)
    have hg := gapIs_iff.1 hi.g
    exact ⟨hi.smu, by show (doS d.e a (valueS d.c)).1.g.a.length ≤ 1000; omega, by show (doS d.e a (valueS d.c)).1.g.b.length ≤ 1000; omega, h.s⟩
theorem go_small {g : Gap} (h : g.a.length ≤ 1000 ∧ g.b.length ≤ 1000) (i : Int) : (goS g i).a.length ≤ 1000 ∧ (goS g i).b.length ≤ 1000 := by
  unfold goS
  split
  · exact h
  · rename_i hg
    have := (gapIs_iff.1 (show gapIs g = true by cases hs : gapIs g; exact absurd hs hg; rfl)).1
    simp only [splitS, List.length_take, List.length_drop, List.length_append]; omega
theorem ok_setG {d : Ed} (h : EdOk d) {g : Gap} (hg : g.a.length ≤ 1000 ∧ g.b.length ≤ 1000) : EdOk (setG d g) := ⟨h.u, hg.1, hg.2, h.s⟩
theorem ok_prefix {d : Ed} (h : EdOk d) : EdOk (prefixEd d) := by
  unfold prefixEd
  split
  · exact ok_off h
  · have := ok_goes h (prefixS d.p d.e.g.a (d.s.at_ - 1)).1
    exact ok_setG this (go_small ⟨this.a, this.b⟩ _)
theorem ok_endTo {d : Ed} (h : EdOk d) : EdOk (endTo d) := by
  unfold endTo
  have h1 : EdOk (offS (setF d noSearch)) := ⟨h.u, h.a, h.b, h.s⟩
  split
  · exact ok_goes h1 _
  · exact h1
theorem ok_end {d : Ed} (h : EdOk d) : EdOk (endEd d) := by
  unfold endEd
  split
  · exact ⟨h.u, h.a, h.b, h.s⟩
  · have := ok_endTo h
    exact ok_setG this (go_small ⟨this.a, this.b⟩ _)
theorem ok_accept (d : Ed) : EdOk (acceptEd d) := ⟨fun g hg => (by cases hg), by simp [acceptEd], by simp [acceptEd], fun s hs => (by cases hs)⟩
theorem ok_act {x : Desk} (h : EdOk x.ed) (a : ActE) : EdOk (actEd x a).ed := by
  have kc : ∀ {d : Ed} {c : Count}, EdOk d → EdOk (setC d c) := fun h => ⟨h.u, h.a, h.b, h.s⟩
  unfold actEd
  repeat' split
  · exact kc h
  · exact kc h
  · exact ⟨h.u, h.a, h.b, h.s⟩
  · exact kc (ok_accept _)
  · exact kc (ok_goes h _)
  · exact kc (ok_goes h _)
  · exact kc (ok_prefix h)
  · exact kc (ok_off h)
  · exact ⟨h.u, h.a, h.b, h.s⟩
  · exact ⟨h.u, h.a, h.b, h.s⟩
  · exact kc (ok_do h a)
theorem value_le (c : Count) : -9999 ≤ valueS c ∧ valueS c ≤ 9999 := by
  unfold valueS
  split
  · omega
  · rename_i h
    have h1 : c.has = true := by cases hs : c.has; exact absurd (.inl hs) h; rfl
    have h2 : countIs c = true := by cases hs : countIs c; exact absurd (.inr hs) h; rfl
    unfold countIs at h2
    rw [if_neg (by rw [h1]; simp)] at h2
    have := of_decide_eq_true h2
    split <;> omega
end Go.Eng

/- Walks of layer 21: the lines one by one (a range over a function). -/
namespace Go.Proofs.YtkcdmmafkpplhaaGreat
open Go.RowKit Go.Shelf
attribute [local go_sem] Oper.semAt_some
/-- The first k rounds. -/
def upto {K : Nat} (k : Nat) : List (Fin K) := (List.finRange K).take k
theorem upto_succ {K k : Nat} (h : k < K) : (upto (k + 1) : List (Fin K)) = upto k ++ [⟨k, h⟩] := by
  unfold upto
  rw [List.take_add_one, List.getElem?_eq_getElem (by simpa using h)]
  simp
theorem upto_len {K k : Nat} (h : k ≤ K) : (upto k : List (Fin K)).length = k := by simp [upto]; omega
theorem upto_all {K : Nat} (x : Fin K) : x ∈ (upto K : List (Fin K)) := by simp [upto, List.take_of_length_le]
theorem wrap_id {x : Int} (h : -9223372036854775808 ≤ x ∧ x ≤ 9223372036854775807) : wrap64 x = x := by
  unfold wrap64; omega


set_option maxRecDepth 100000 in
set_option maxHeartbeats 2000000 in
theorem lines1_in (F : Fence) (n : Nat) (hF : F.fn 176) (hro : F.round = none) (hn : 1 ≤ n) (l bp bf bb n₀ b off len cap K : Nat) (a : Option Addr) (fr by_ : Int) (rows : Nat → Value)
    (hby : by_ = 1 ∨ by_ = -1) (hlen : len ≤ 9223372036854775807) (hK : ∀ k < K, 0 ≤ fr + by_ * k ∧ fr + by_ * k < len) (hK2 : ¬ (0 ≤ fr + by_ * K ∧ fr + by_ * K < len)) (ha : 0 < K → a = some ⟨b, off, none⟩ ∧ b < n₀)
    (J Jx : List (Fin K) → World → Prop)
    (hY : ∀ pre x W, J pre W → pre.length < K → YieldAt F (n - 1) Tryz.prog l #[.int .i64 (fr + by_ * (x.val : Int)), rows (fr + by_ * (x.val : Int)).toNat] W fun e W' =>
      (e = .returned (.bool true) ∧ J (pre ++ [x]) W' ∧ Below n₀ W W') ∨ (e = .returned (.bool false) ∧ Jx (pre ++ [x]) W'))
    (W : World) (hbp : bp < n₀) (hbf : bf < n₀) (hbb : bb < n₀) (hBf : W.cell? ⟨bf, 0, none⟩ = some (.int .i64 fr)) (hBp : W.cell? ⟨bp, 2, none⟩ = some (.slice a len cap)) (hBb : W.cell? ⟨bb, 0, none⟩ = some (.int .i64 by_))
    (hc : ∀ j, 0 < K → j < len → W.cell? ⟨b, off + j, none⟩ = some (rows j)) (h0 : J [] W) :
    CallsIn F n Tryz.prog 176 #[.func (.yield l) #[] #[], .pointer (some ⟨bf, 0, none⟩), .pointer (some ⟨bp, 0, none⟩), .pointer (some ⟨bb, 0, none⟩)] W fun e W' => (∃ v, e = .returned v) ∧
      ((∃ ys, (∀ x : Fin K, x ∈ ys) ∧ J ys W') ∨ (∃ pre, (∃ k, k ≤ K ∧ pre = (upto k : List (Fin K))) ∧ Jx pre W')) := by
  refine callsIn_of_wp Tryz.func176 rfl hF ?_ hro
  simp only [Tryz.ntmps176, List.size_toArray, List.length_cons, List.length_nil, Nat.reduceAdd, Nat.reduceSub, Array.replicate_succ, Array.replicate_zero, List.push_toArray, List.append_toArray, List.nil_append, List.cons_append]
  gi_wp2
  gi_loopw [5] (fun i wr => ∃ k : Nat, k ≤ K ∧ i = .int .i64 (fr + by_ * k) ∧ J (upto k) wr ∧ Below n₀ W wr)
    (fun i _ => K - ((intOf i - fr) * by_).toNat)
  case atStart => exact ⟨0, Nat.zero_le _, by simp, h0, Below.refl _ _⟩
  case round =>
    obtain ⟨k, hk, rfl, hJs, hnx⟩ := hrel
    have hBp' := (hnx.cell (p := ⟨bp, 2, none⟩) hbp).trans hBp
    have hBb' := (hnx.cell (p := ⟨bb, 0, none⟩) hbb).trans hBb
    by_cases hlt : k < K
    · obtain ⟨hi1, hi2⟩ := hK k hlt
      obtain ⟨fn, tmps, assign, body, hy, hR⟩ := hY _ ⟨k, hlt⟩ wr hJs (by rw [upto_len hk]; exact hlt)
      dsimp only at hy
      obtain ⟨rfl, hb⟩ := ha (by omega)
      have hcx := (hnx.cell (p := ⟨b, off + (fr + by_ * k).toNat, none⟩) hb).trans (hc (fr + by_ * k).toNat (by omega) (by omega))
      obtain ⟨i, hi⟩ : ∃ i, fr + by_ * (k : Int) = i := ⟨_, rfl⟩
      rw [hi] at hi1 hi2 hy hcx ⊢
      gi_wp2
      refine hR.mono ?_
      rintro e W3 (⟨rfl, hJ3, hk3⟩ | ⟨rfl, hJx3⟩)
      · have hBb3 := (hk3.cell (p := ⟨bb, 0, none⟩) hbb).trans hBb'
        gi_wp2
        go_roundw
        case rel =>
          refine ⟨k + 1, by omega, ?_, by rw [upto_succ hlt]; exact hJ3, hnx.trans hk3⟩
          rw [← hi]; push_cast; rw [Int.mul_add, Int.mul_one, Int.add_assoc]
        case measure =>
          simp only [intOf]
          rw [← hi]
          rcases hby with rfl | rfl <;> omega
      · gi_wp2
        refine bodyPost_ret (results_none rfl _ _ _) rfl ?_
        exact ⟨⟨_, rfl⟩, .inr ⟨_, ⟨k + 1, by omega, (upto_succ hlt).symm⟩, hJx3⟩⟩
    · obtain rfl : k = K := by omega
      obtain ⟨i, hi⟩ : ∃ i, fr + by_ * (k : Int) = i := ⟨_, rfl⟩
      rw [hi] at hK2 ⊢
      by_cases h0i : 0 ≤ i
      · have hil : ¬ i < len := fun h => hK2 ⟨h0i, h⟩
        gi_wp2
        go_end0
        exact ⟨⟨_, rfl⟩, .inl ⟨_, upto_all, hJs⟩⟩
      · gi_wp2
        go_end0
        exact ⟨⟨_, rfl⟩, .inl ⟨_, upto_all, hJs⟩⟩


set_option maxRecDepth 100000 in
set_option maxHeartbeats 2000000 in
theorem lines_in (F : Fence) (n : Nat) (hF : F.fn 146) (hro : F.round = none) (v0 v1 v2 : Value) (fr by_ : Int) (w : World) :
    CallsIn F n Tryz.prog 146 #[.agg #[v0, v1, v2], .int .i64 fr, .int .i64 by_] w fun e w' =>
      e = .returned (.func (.func 176) #[] #[.pointer (some ⟨w.heap.size + 1, 0, none⟩), .pointer (some ⟨w.heap.size, 0, none⟩), .pointer (some ⟨w.heap.size + 2, 0, none⟩)]) ∧
      w' = ((w.alloc (.cells #[v0, v1, v2] 39)).alloc (.cells #[.int .i64 fr] 3)).alloc (.cells #[.int .i64 by_] 3) := by
  refine callsIn_of_wp Tryz.func146 rfl hF ?_ hro
  simp only [Tryz.ntmps146, List.size_toArray, List.length_cons, List.length_nil, Nat.reduceAdd, Nat.reduceSub, Array.replicate_succ, Array.replicate_zero, List.push_toArray, List.append_toArray, List.nil_append, List.cons_append]
  gi_wp2
  go_ret
  exact ⟨rfl, rfl⟩

/-- The function value stops after each line, or goes through all. -/
theorem lines_stops (F : Fence) (n : Nat) (hF : F.fn 176) (hro : F.round = none) (hn : 1 ≤ n) (bp bf bb n₀ b off len cap K : Nat) (a : Option Addr) (fr by_ : Int) (rows : Nat → Value)
    (hby : by_ = 1 ∨ by_ = -1) (hlen : len ≤ 9223372036854775807) (hK : ∀ k < K, 0 ≤ fr + by_ * k ∧ fr + by_ * k < len) (hK2 : ¬ (0 ≤ fr + by_ * K ∧ fr + by_ * K < len)) (ha : 0 < K → a = some ⟨b, off, none⟩ ∧ b < n₀)
    (w : World) (hn₀ : n₀ ≤ w.heap.size) (hbp : bp < n₀) (hbf : bf < n₀) (hbb : bb < n₀) (hBf : w.cell? ⟨bf, 0, none⟩ = some (.int .i64 fr)) (hBp : w.cell? ⟨bp, 2, none⟩ = some (.slice a len cap)) (hBb : w.cell? ⟨bb, 0, none⟩ = some (.int .i64 by_))
    (hc : ∀ j, 0 < K → j < len → w.cell? ⟨b, off + j, none⟩ = some (rows j)) :
    SeqStopsK F n Tryz.prog 176 #[.pointer (some ⟨bf, 0, none⟩), .pointer (some ⟨bp, 0, none⟩), .pointer (some ⟨bb, 0, none⟩)] (fun x : Fin K => #[Value.int .i64 (fr + by_ * (x.val : Int)), rows (fr + by_ * (x.val : Int)).toNat])
      (Below n₀) (fun ys => ∀ x : Fin K, x ∈ ys) (fun pre => ∃ k, k ≤ K ∧ pre = upto k) K w := fun l J Jx W hW _ _ hY h0 =>
  lines1_in F n hF hro hn l bp bf bb n₀ b off len cap K a fr by_ rows hby hlen hK hK2 ha J Jx hY W hbp hbf hbb
    ((hW.cell (p := ⟨bf, 0, none⟩) (Nat.lt_of_lt_of_le hbf hn₀)).trans hBf) ((hW.cell (p := ⟨bp, 2, none⟩) (Nat.lt_of_lt_of_le hbp hn₀)).trans hBp) ((hW.cell (p := ⟨bb, 0, none⟩) (Nat.lt_of_lt_of_le hbb hn₀)).trans hBb)
    (fun j hK0 hj => (hW.cell (p := ⟨b, off + j, none⟩) (Nat.lt_of_lt_of_le (ha hK0).2 hn₀)).trans (hc j hK0 hj)) h0

end Go.Proofs.YtkcdmmafkpplhaaGreat