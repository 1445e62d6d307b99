/- Walks of layers 17 and 18: vi.Map. -/
import Derived.Test.YtoleablcjdbeiaaV3
namespace Go.Proofs.Ytoleablcjdbeiaa
open Go.Eng
theorem rowsOk_act (l : List Act4) : RowsOk 4 (l.map actR) := by
  intro r hr
  obtain ⟨a, _, rfl⟩ := List.mem_map.1 hr
  exact ⟨rfl, rfl⟩
theorem pure_act (l : List Act4) : (l.map actR).all D.pureL = true := by
  rw [List.all_eq_true]
  intro r hr
  obtain ⟨a, _, rfl⟩ := List.mem_map.1 hr
  rfl
theorem pure_app (a b : List Act4) : (a.map actR ++ b.map actR).all D.pureL = true := by rw [List.all_append, pure_act, pure_act]; rfl
def signLen : Bool := signL.all fun p => decide (p.2.2.length ≤ 1)
theorem lookL_mem {κ β : Type} [DecidableEq κ] {x : κ} {y : β} : ∀ {L : List (κ × β)}, lookL L x = some y → (x, y) ∈ L
  | [], h => by simp [lookL] at h
  | (k, z) :: L, h => by
    simp only [lookL, List.lookup] at h
    split at h
    · rename_i hx; simp at hx; subst hx; cases h; exact .head _
    · exact .tail _ (lookL_mem h)
theorem signS_len (r : Int) : (signS r).2.length ≤ 1 := by
  unfold signS
  cases hl : lookL signL r with
  | none => simp
  | some y =>
    have h : signLen = true := by decide
    have := (List.all_eq_true.1 h) _ (lookL_mem hl)
    simpa using this
theorem obS_len (k r : Int) (dg : Bool) : (obS k r dg).2.length ≤ 1 := by
  unfold obS
  repeat' split
  all_goals first | exact signS_len r | simp
def metaS (l : List Act4) (r : Int) (dg : Bool) : (Int × Int) × List Act4 := ((obS 1 r dg).1, l ++ (obS 1 r dg).2)
def resF (x : (Int × Int) × List Act4) : D := .tup [viD x.1, .rows false (x.2.map actR)]
theorem resF1 {x : (Int × Int) × List Act4} {d1 : D} {l : List (List D)} (h1 : viD x.1 = d1) (h2 : x.2.map actR = l) : resF x = retD [d1, .rows false l] := by subst h1 h2; rfl
theorem f_ins10 {dg : Bool} : FnP PP 27 [.agg [], .agg [.int .i64 10, .int .i32 0], .bool dg] (.tup [viD (1, 0), .rows true (List.map actR [(1, 1, 0, 0)])]) := f_ins (k := 10) (r := 0)
theorem f_ob10 {dg : Bool} : FnP PP 38 [.agg [], .agg [.int .i64 10, .int .i32 0], .bool dg] (.tup [viD (1, 0), .rows true (List.map actR [(16, 0, 0, 0)])]) := f_ob (k := 10) (r := 0)
theorem f_wa10_1 {dg : Bool} : FnP PP 42 [.int .i64 1, .agg [.int .i64 10, .int .i32 0], .bool dg] (.tup [viD (1, 0), .rows true (List.map actR [(16, 0, 0, 0)])]) := f_wa1 (k := 10) (r := 0)
theorem f_wa10_2 {dg : Bool} : FnP PP 42 [.int .i64 2, .agg [.int .i64 10, .int .i32 0], .bool dg] (.tup [viD (1, 0), .rows true (List.map actR [(16, 0, 0, 0)])]) := f_wa2 (k := 10) (r := 0)
theorem f_wa10_3 {dg : Bool} : FnP PP 42 [.int .i64 3, .agg [.int .i64 10, .int .i32 0], .bool dg] (.tup [viD (1, 0), .rows true (List.map actR [(16, 0, 0, 0)])]) := f_wa3 (k := 10) (r := 0)
theorem actEq (a b : Act4) : ((a.1 == b.1) && ((a.2.1 == b.2.1) && ((a.2.2.1 == b.2.2.1) && ((a.2.2.2 == b.2.2.2) && true)))) = decide (a = b) := by
  obtain ⟨a1, a2, a3, a4⟩ := a
  obtain ⟨b1, b2, b3, b4⟩ := b
  by_cases h1 : a1 = b1 <;> by_cases h2 : a2 = b2 <;> by_cases h3 : a3 = b3 <;> by_cases h4 : a4 = b4 <;> simp [h1, h2, h3, h4]
theorem rowAt {l : List Act4} {i : Nat} {a : Act4} (h : l[i]? = some a) : (l.map actR)[i]? = some (actR a) := by simp [h]
theorem getRow {l : List Act4} {i : Nat} (h : i < l.length) : ∃ a, l[i]? = some a := ⟨l[i], by simp [h]⟩
theorem take_step {l m : List Act4} {i : Nat} {a : Act4} (h : l.take i = m.take i) (hl : l[i]? = some a) (hm : m[i]? = some a) : l.take (i + 1) = m.take (i + 1) := by
  rw [List.take_add_one, List.take_add_one, h, hl, hm]
theorem same_len {l m : List Act4} (h : (((l.map actR).length : Int) != ((m.map actR).length : Int)) = true) : D.bool (decide (l = m)) = retD [D.bool false] := by
  refine congrArg D.bool (decide_eq_false ?_)
  rintro rfl
  simp at h
theorem same_el {l m : List Act4} {i : Nat} {a b : Act4} (hl : l[i]? = some a) (hm : m[i]? = some b) (h : (!((a.1 == b.1) && ((a.2.1 == b.2.1) && ((a.2.2.1 == b.2.2.1) && ((a.2.2.2 == b.2.2.2) && true))))) = true) : D.bool (decide (l = m)) = retD [D.bool false] := by
  refine congrArg D.bool (decide_eq_false ?_)
  rintro rfl
  rw [hl] at hm
  cases hm
  rw [actEq] at h
  simp at h
theorem same_end {l m : List Act4} {i : Nat} (h1 : i ≤ l.length) (h2 : l.length = m.length) (h3 : l.take i = m.take i) (h : decide ((i : Int) < ((l.map actR).length : Int)) = false) : D.bool (decide (l = m)) = retD [D.bool true] := by
  refine congrArg D.bool (decide_eq_true ?_)
  have : i = l.length := by simp at h; omega
  subst this
  rw [List.take_length, h2, List.take_length] at h3
  exact h3

set_option maxRecDepth 20000 in
theorem f_same {f1 f2 : Bool} {l m : List Act4} (hl : l.length < 9223372036854775807) : FnP PP 7 [.rows f1 (l.map actR), .rows f2 (m.map actR)] (.bool (decide (l = m))) := by
  refine FnP.of_body Try.func7 rfl (by kernel_rfl) rfl ?_
  refine Wp.seq ?_
  refine reg ?_
  refine asg rfl rfl .none ?_
  refine done ?_
  refine Wp.seq ?_
  refine Wp.seq ?_
  refine reg ?_
  refine mv rfl rfl .none ?_
  first | refine ln rfl rfl .none ?_ | refine lns rfl rfl .none ?_
  refine mv rfl rfl .none ?_
  first | refine ln rfl rfl .none ?_ | refine lns rfl rfl .none ?_
  refine cmp rfl rfl rfl rfl .none ?_
  refine done ?_
  refine Wp.cond rfl (fun c1 => ?_) (fun c1 => ?_)
  · skip
    refine Wp.seq ?_
    refine reg ?_
    refine asg rfl rfl .none ?_
    refine done ?_
    refine Wp.ret ?_
    refine Ends.ret (.cons (.tmp rfl (Fz.pure rfl)) <|  .nil) ?_
    first | exact same_len c1 | exact same_el ha hb c3 | exact same_end hx1 hx2 hx3 c2
  · skip
    refine Wp.skip ?_
    refine Wp.seq ?_
    refine Wp.seq ?_
    refine reg ?_
    refine asg rfl rfl .none ?_
    refine done ?_
    refine Wp.block ?_
    refine Wp.loopK (α := Nat) [0, 1] [] (fun x tl => (5, .int .i64 x) :: tl) (fun x tl => tl) (fun x => x ≤ l.length ∧ l.length = m.length ∧ l.take x = m.take x) (fun x => l.length - x) (0) rfl rfl (by simp at c1; exact ⟨by omega, by omega, by simp⟩) (by repeat (first | exact trivial | refine ⟨rfl, ?_⟩)) (by repeat (first | exact trivial | refine ⟨rfl, ?_⟩)) ?_
    intro x hx
    obtain ⟨hx1, hx2, hx3⟩ := hx
    refine Wp.seq ?_
    refine Wp.seq ?_
    refine reg ?_
    refine mv rfl rfl .none ?_
    refine mv rfl rfl .none ?_
    first | refine ln rfl rfl .none ?_ | refine lns rfl rfl .none ?_
    refine cmp rfl rfl rfl rfl .none ?_
    refine done ?_
    refine Wp.cond rfl (fun c2 => ?_) (fun c2 => ?_)
    · skip
      refine Wp.skip ?_
      refine Wp.seq ?_
      refine Wp.block ?_
      refine Wp.seq ?_
      refine regd mixed ?_
      obtain ⟨a, ha⟩ := getRow (l := l) (i := x) (by simp at c2; omega); obtain ⟨b, hb⟩ := getRow (l := m) (i := x) (by simp at c2; omega)
      refine mv rfl rfl .none ?_
      refine mv rfl rfl .none ?_
      refine ia x (actR a) rfl rfl rfl (rowAt ha) rfl rfl .none ?_
      first | refine ld rfl rfl rfl rfl rfl .none ?_ | refine ldp rfl rfl rfl .none ?_
      refine mv rfl rfl .none ?_
      refine mv rfl rfl .none ?_
      refine ia x (actR b) rfl rfl rfl (rowAt hb) rfl rfl .none ?_
      first | refine ld rfl rfl rfl rfl rfl .none ?_ | refine ldp rfl rfl rfl .none ?_
      refine cms rfl rfl rfl rfl rfl .none ?_
      refine done ⟨by kernel_rfl, by kernel_rfl, ?_⟩
      refine Wp.cond rfl (fun c3 => ?_) (fun c3 => ?_)
      · skip
        refine Wp.seq ?_
        refine reg ?_
        refine asg rfl rfl .none ?_
        refine done ?_
        refine Wp.ret ?_
        refine Ends.ret (.cons (.tmp rfl (Fz.pure rfl)) <|  .nil) ?_
        first | exact same_len c1 | exact same_el ha hb c3 | exact same_end hx1 hx2 hx3 c2
      · skip
        refine Wp.skip ?_
        refine reg ?_
        refine mv rfl rfl .none ?_
        refine ar _ rfl rfl rfl (wrapI (by simp at c2; omega)) rfl .none ?_
        refine asg rfl rfl .none ?_
        refine done ?_
        refine ⟨x + 1, ⟨by simp at c2; omega, hx2, take_step hx3 ha (by rw [hb]; congr 1; rw [actEq] at c3; simp at c3; exact c3.symm)⟩, by simp at c2; omega, (by repeat (first | exact trivial | refine ⟨rfl, ?_⟩)), (by repeat (first | exact trivial | refine ⟨rfl, ?_⟩)), rfl⟩
    · skip
      refine Wp.exit ?_
      refine Wp.seq ?_
      refine reg ?_
      refine asg rfl rfl .none ?_
      refine done ?_
      refine Wp.ret ?_
      refine Ends.ret (.cons (.tmp rfl (Fz.pure rfl)) <|  .nil) ?_
      first | exact same_len c1 | exact same_el ha hb c3 | exact same_end hx1 hx2 hx3 c2

set_option maxRecDepth 20000 in
theorem f_map0 {k r : Int} {dg : Bool} : FnP PP 5 [.agg [.int .i64 0, .int .i64 0], .agg [.int .i64 k, .int .i32 r], .bool dg] (resF (if k ≠ 2 then insS k r else metaS [(1, 1, 0, 0)] r dg)) := by
  refine FnP.of_body Try.func5 rfl (by kernel_rfl) rfl ?_
  refine Wp.seq ?_
  refine reg ?_
  refine bx 3 rfl rfl rfl rfl .none ?_
  refine bx 4 rfl rfl rfl rfl .none ?_
  refine al 6 rfl rfl .none ?_
  refine asg rfl rfl .none ?_
  refine done ?_
  refine Wp.seq ?_
  refine Wp.seq ?_
  refine reg ?_
  first | refine ld rfl rfl rfl rfl rfl .none ?_ | refine ldp rfl rfl rfl .none ?_
  refine cl rfl rfl f_viIs rfl rfl .none ?_
  refine nt rfl rfl .none ?_
  refine done ?_
  refine Wp.condF rfl rfl ?_
  refine Wp.skip ?_
  refine Wp.seq ?_
  refine Wp.seq ?_
  refine reg ?_
  first | refine fa rfl rfl rfl .none ?_ | refine fap rfl rfl rfl rfl .none ?_
  first | refine ld rfl rfl rfl rfl rfl .none ?_ | refine ldp rfl rfl rfl .none ?_
  refine cmp rfl rfl rfl rfl .none ?_
  refine done ?_
  refine Wp.cond rfl (fun c1 => ?_) (fun c1 => ?_)
  · skip
    refine Wp.seq ?_
    refine regd mixed ?_
    first | refine ld rfl rfl rfl rfl rfl .none ?_ | refine ldp rfl rfl rfl .none ?_
    refine cl rfl rfl f_reads rfl rfl .none ?_
    first | refine ld rfl rfl rfl rfl rfl .none ?_ | refine ldp rfl rfl rfl .none ?_
    refine mv rfl rfl .none ?_
    refine inv rfl rfl f_ins rfl rfl .none ?_
    refine xt rfl rfl rfl .none ?_
    refine xt rfl rfl rfl .none ?_
    refine sto rfl rfl rfl rfl rfl rfl .none ?_
    refine asg rfl rfl .none ?_
    refine done ⟨by kernel_rfl, by kernel_rfl, ?_⟩
    refine Wp.ret ?_
    refine Ends.ret (.cons (.cell rfl rfl rfl (Nat.le_of_ble_eq_true rfl) (Fz.pure rfl)) <| .cons (.tmp rfl (by first | exact Fz.weakR | exact Fz.sl rfl rfl (pure_app _ _))) <|  .nil) ?_
    first | (rw [if_pos (by simp_all)]; exact resF1 rfl rfl) | (rw [if_neg (by simp_all)]; exact resF1 rfl rfl)
  · skip
    refine Wp.skip ?_
    refine Wp.seq ?_
    refine reg ?_
    refine asg rfl rfl .none ?_
    refine done ?_
    refine Wp.seq ?_
    refine Wp.seq ?_
    refine reg ?_
    refine bd rfl rfl rfl .none ?_
    first | refine fa rfl rfl rfl .none ?_ | refine fap rfl rfl rfl rfl .none ?_
    first | refine ld rfl rfl rfl rfl rfl .none ?_ | refine ldp rfl rfl rfl .none ?_
    refine bd rfl rfl rfl .none ?_
    refine bs rfl rfl rfl rfl .none ?_
    first | refine ln rfl rfl .none ?_ | refine lns rfl rfl .none ?_
    refine mv rfl rfl .none ?_
    refine done ?_
    refine Wp.block ?_
    refine Wp.rounds 3 ?_
    refine WpN.go ?_
    refine Wp.seq ?_
    refine reg ?_
    refine cmp rfl rfl rfl rfl .none ?_
    refine done ?_
    refine Wp.seq ?_
    refine Wp.condT rfl rfl ?_
    refine Wp.skip ?_
    refine Wp.seq ?_
    refine Wp.block ?_
    refine Wp.seq ?_
    refine reg ?_
    refine ia 0 _ rfl rfl rfl rfl rfl rfl .none ?_
    first | refine ld rfl rfl rfl rfl rfl .none ?_ | refine ldp rfl rfl rfl .none ?_
    refine al 10 rfl rfl .none ?_
    refine sto rfl rfl rfl rfl rfl rfl .none ?_
    refine done ?_
    refine Wp.seq ?_
    refine regd mixed ?_
    first | refine ld rfl rfl rfl rfl rfl .none ?_ | refine ldp rfl rfl rfl .none ?_
    refine cl rfl rfl f_reads rfl rfl .none ?_
    first | refine ld rfl rfl rfl rfl rfl .none ?_ | refine ldp rfl rfl rfl .none ?_
    refine mv rfl rfl .none ?_
    refine inv rfl rfl f_ins10 rfl rfl .none ?_
    refine mv rfl rfl .none ?_
    refine xt rfl rfl rfl .none ?_
    refine xt rfl rfl rfl .none ?_
    refine al 11 rfl rfl .none ?_
    refine sto rfl rfl rfl rfl rfl rfl .none ?_
    refine asg rfl rfl .none ?_
    refine done ⟨by kernel_rfl, by kernel_rfl, ?_⟩
    refine regd mixed ?_
    first | refine ld rfl rfl rfl rfl rfl .none ?_ | refine ldp rfl rfl rfl .none ?_
    refine mv rfl rfl .none ?_
    refine mv rfl rfl .none ?_
    first | refine apo 1481 rfl rfl rfl rfl (rowsOk_act _) (by decide) rfl rfl rfl rfl .none ?_ | refine apn 1480 1481 rfl rfl (rowsOk_act _) (by decide) rfl rfl rfl rfl .none ?_
    refine sto rfl rfl rfl rfl rfl rfl .none ?_
    refine asg rfl rfl .none ?_
    refine done ⟨by kernel_rfl, by kernel_rfl, ?_⟩
    refine reg ?_
    refine ar _ rfl rfl rfl (wrapI (by omega)) rfl .none ?_
    refine mv rfl rfl .none ?_
    refine done ?_
    refine WpN.go ?_
    refine Wp.seq ?_
    refine reg ?_
    refine cmp rfl rfl rfl rfl .none ?_
    refine done ?_
    refine Wp.seq ?_
    refine Wp.condT rfl rfl ?_
    refine Wp.skip ?_
    refine Wp.seq ?_
    refine Wp.block ?_
    refine Wp.seq ?_
    refine reg ?_
    refine ia 1 _ rfl rfl rfl rfl rfl rfl .none ?_
    first | refine ld rfl rfl rfl rfl rfl .none ?_ | refine ldp rfl rfl rfl .none ?_
    refine al 5010 rfl rfl .none ?_
    refine sto rfl rfl rfl rfl rfl rfl .none ?_
    refine done ?_
    refine Wp.seq ?_
    refine regd mixed ?_
    first | refine ld rfl rfl rfl rfl rfl .none ?_ | refine ldp rfl rfl rfl .none ?_
    refine cl rfl rfl f_reads rfl rfl .none ?_
    first | refine ld rfl rfl rfl rfl rfl .none ?_ | refine ldp rfl rfl rfl .none ?_
    refine mv rfl rfl .none ?_
    refine inv rfl rfl (f_ob (k := 1)) rfl rfl .none ?_
    refine mv rfl rfl .none ?_
    refine xt rfl rfl rfl .none ?_
    refine xt rfl rfl rfl .none ?_
    refine al 5011 rfl rfl .none ?_
    refine sto rfl rfl rfl rfl rfl rfl .none ?_
    refine asg rfl rfl .none ?_
    refine done ⟨by kernel_rfl, by kernel_rfl, ?_⟩
    refine regd mixed ?_
    first | refine ld rfl rfl rfl rfl rfl .none ?_ | refine ldp rfl rfl rfl .none ?_
    refine mv rfl rfl .none ?_
    refine mv rfl rfl .none ?_
    first | refine apo 1483 rfl rfl rfl rfl (rowsOk_act _) (by have := obS_len 1 r dg; simp; omega) rfl rfl rfl rfl .none ?_ | refine apn 1482 1483 rfl rfl (rowsOk_act _) (by have := obS_len 1 r dg; simp; omega) rfl rfl rfl rfl .none ?_
    refine sto rfl rfl rfl rfl rfl rfl .none ?_
    refine asg rfl rfl .none ?_
    refine done ⟨by kernel_rfl, by kernel_rfl, ?_⟩
    refine reg ?_
    refine ar _ rfl rfl rfl (wrapI (by omega)) rfl .none ?_
    refine mv rfl rfl .none ?_
    refine done ?_
    refine WpN.go ?_
    refine Wp.seq ?_
    refine reg ?_
    refine cmp rfl rfl rfl rfl .none ?_
    refine done ?_
    refine Wp.seq ?_
    refine Wp.condF rfl rfl ?_
    refine Wp.exit ?_
    refine Wp.seq ?_
    refine reg ?_
    first | refine ld rfl rfl rfl rfl rfl .none ?_ | refine ldp rfl rfl rfl .none ?_
    refine mv rfl rfl .none ?_
    refine sto rfl rfl rfl rfl rfl rfl .none ?_
    refine asg rfl rfl .none ?_
    refine done ?_
    refine Wp.ret ?_
    refine Ends.ret (.cons (.cell rfl rfl rfl (Nat.le_of_ble_eq_true rfl) (Fz.pure rfl)) <| .cons (.tmp rfl (by first | exact Fz.weakR | exact Fz.sl rfl rfl (pure_app _ _))) <|  .nil) ?_
    first | (rw [if_pos (by simp_all)]; exact resF1 rfl rfl) | (rw [if_neg (by simp_all)]; exact resF1 rfl rfl)

set_option maxRecDepth 20000 in
theorem f_map1 {k r : Int} {dg : Bool} : FnP PP 5 [.agg [.int .i64 1, .int .i64 0], .agg [.int .i64 k, .int .i32 r], .bool dg] (resF (if k ≠ 2 then obS k r dg else metaS [(16, 0, 0, 0)] r dg)) := by
  refine FnP.of_body Try.func5 rfl (by kernel_rfl) rfl ?_
  refine Wp.seq ?_
  refine reg ?_
  refine bx 3 rfl rfl rfl rfl .none ?_
  refine bx 4 rfl rfl rfl rfl .none ?_
  refine al 6 rfl rfl .none ?_
  refine asg rfl rfl .none ?_
  refine done ?_
  refine Wp.seq ?_
  refine Wp.seq ?_
  refine reg ?_
  first | refine ld rfl rfl rfl rfl rfl .none ?_ | refine ldp rfl rfl rfl .none ?_
  refine cl rfl rfl f_viIs rfl rfl .none ?_
  refine nt rfl rfl .none ?_
  refine done ?_
  refine Wp.condF rfl rfl ?_
  refine Wp.skip ?_
  refine Wp.seq ?_
  refine Wp.seq ?_
  refine reg ?_
  first | refine fa rfl rfl rfl .none ?_ | refine fap rfl rfl rfl rfl .none ?_
  first | refine ld rfl rfl rfl rfl rfl .none ?_ | refine ldp rfl rfl rfl .none ?_
  refine cmp rfl rfl rfl rfl .none ?_
  refine done ?_
  refine Wp.cond rfl (fun c1 => ?_) (fun c1 => ?_)
  · skip
    refine Wp.seq ?_
    refine regd mixed ?_
    first | refine ld rfl rfl rfl rfl rfl .none ?_ | refine ldp rfl rfl rfl .none ?_
    refine cl rfl rfl f_reads rfl rfl .none ?_
    first | refine ld rfl rfl rfl rfl rfl .none ?_ | refine ldp rfl rfl rfl .none ?_
    refine mv rfl rfl .none ?_
    refine inv rfl rfl f_ob rfl rfl .none ?_
    refine xt rfl rfl rfl .none ?_
    refine xt rfl rfl rfl .none ?_
    refine sto rfl rfl rfl rfl rfl rfl .none ?_
    refine asg rfl rfl .none ?_
    refine done ⟨by kernel_rfl, by kernel_rfl, ?_⟩
    refine Wp.ret ?_
    refine Ends.ret (.cons (.cell rfl rfl rfl (Nat.le_of_ble_eq_true rfl) (Fz.pure rfl)) <| .cons (.tmp rfl (by first | exact Fz.weakR | exact Fz.sl rfl rfl (pure_app _ _))) <|  .nil) ?_
    first | (rw [if_pos (by simp_all)]; exact resF1 rfl rfl) | (rw [if_neg (by simp_all)]; exact resF1 rfl rfl)
  · skip
    refine Wp.skip ?_
    refine Wp.seq ?_
    refine reg ?_
    refine asg rfl rfl .none ?_
    refine done ?_
    refine Wp.seq ?_
    refine Wp.seq ?_
    refine reg ?_
    refine bd rfl rfl rfl .none ?_
    first | refine fa rfl rfl rfl .none ?_ | refine fap rfl rfl rfl rfl .none ?_
    first | refine ld rfl rfl rfl rfl rfl .none ?_ | refine ldp rfl rfl rfl .none ?_
    refine bd rfl rfl rfl .none ?_
    refine bs rfl rfl rfl rfl .none ?_
    first | refine ln rfl rfl .none ?_ | refine lns rfl rfl .none ?_
    refine mv rfl rfl .none ?_
    refine done ?_
    refine Wp.block ?_
    refine Wp.rounds 3 ?_
    refine WpN.go ?_
    refine Wp.seq ?_
    refine reg ?_
    refine cmp rfl rfl rfl rfl .none ?_
    refine done ?_
    refine Wp.seq ?_
    refine Wp.condT rfl rfl ?_
    refine Wp.skip ?_
    refine Wp.seq ?_
    refine Wp.block ?_
    refine Wp.seq ?_
    refine reg ?_
    refine ia 0 _ rfl rfl rfl rfl rfl rfl .none ?_
    first | refine ld rfl rfl rfl rfl rfl .none ?_ | refine ldp rfl rfl rfl .none ?_
    refine al 10 rfl rfl .none ?_
    refine sto rfl rfl rfl rfl rfl rfl .none ?_
    refine done ?_
    refine Wp.seq ?_
    refine regd mixed ?_
    first | refine ld rfl rfl rfl rfl rfl .none ?_ | refine ldp rfl rfl rfl .none ?_
    refine cl rfl rfl f_reads rfl rfl .none ?_
    first | refine ld rfl rfl rfl rfl rfl .none ?_ | refine ldp rfl rfl rfl .none ?_
    refine mv rfl rfl .none ?_
    refine inv rfl rfl f_ob10 rfl rfl .none ?_
    refine mv rfl rfl .none ?_
    refine xt rfl rfl rfl .none ?_
    refine xt rfl rfl rfl .none ?_
    refine al 11 rfl rfl .none ?_
    refine sto rfl rfl rfl rfl rfl rfl .none ?_
    refine asg rfl rfl .none ?_
    refine done ⟨by kernel_rfl, by kernel_rfl, ?_⟩
    refine regd mixed ?_
    first | refine ld rfl rfl rfl rfl rfl .none ?_ | refine ldp rfl rfl rfl .none ?_
    refine mv rfl rfl .none ?_
    refine mv rfl rfl .none ?_
    first | refine apo 1481 rfl rfl rfl rfl (rowsOk_act _) (by decide) rfl rfl rfl rfl .none ?_ | refine apn 1480 1481 rfl rfl (rowsOk_act _) (by decide) rfl rfl rfl rfl .none ?_
    refine sto rfl rfl rfl rfl rfl rfl .none ?_
    refine asg rfl rfl .none ?_
    refine done ⟨by kernel_rfl, by kernel_rfl, ?_⟩
    refine reg ?_
    refine ar _ rfl rfl rfl (wrapI (by omega)) rfl .none ?_
    refine mv rfl rfl .none ?_
    refine done ?_
    refine WpN.go ?_
    refine Wp.seq ?_
    refine reg ?_
    refine cmp rfl rfl rfl rfl .none ?_
    refine done ?_
    refine Wp.seq ?_
    refine Wp.condT rfl rfl ?_
    refine Wp.skip ?_
    refine Wp.seq ?_
    refine Wp.block ?_
    refine Wp.seq ?_
    refine reg ?_
    refine ia 1 _ rfl rfl rfl rfl rfl rfl .none ?_
    first | refine ld rfl rfl rfl rfl rfl .none ?_ | refine ldp rfl rfl rfl .none ?_
    refine al 5010 rfl rfl .none ?_
    refine sto rfl rfl rfl rfl rfl rfl .none ?_
    refine done ?_
    refine Wp.seq ?_
    refine regd mixed ?_
    first | refine ld rfl rfl rfl rfl rfl .none ?_ | refine ldp rfl rfl rfl .none ?_
    refine cl rfl rfl f_reads rfl rfl .none ?_
    first | refine ld rfl rfl rfl rfl rfl .none ?_ | refine ldp rfl rfl rfl .none ?_
    refine mv rfl rfl .none ?_
    refine inv rfl rfl (f_ob (k := 1)) rfl rfl .none ?_
    refine mv rfl rfl .none ?_
    refine xt rfl rfl rfl .none ?_
    refine xt rfl rfl rfl .none ?_
    refine al 5011 rfl rfl .none ?_
    refine sto rfl rfl rfl rfl rfl rfl .none ?_
    refine asg rfl rfl .none ?_
    refine done ⟨by kernel_rfl, by kernel_rfl, ?_⟩
    refine regd mixed ?_
    first | refine ld rfl rfl rfl rfl rfl .none ?_ | refine ldp rfl rfl rfl .none ?_
    refine mv rfl rfl .none ?_
    refine mv rfl rfl .none ?_
    first | refine apo 1483 rfl rfl rfl rfl (rowsOk_act _) (by have := obS_len 1 r dg; simp; omega) rfl rfl rfl rfl .none ?_ | refine apn 1482 1483 rfl rfl (rowsOk_act _) (by have := obS_len 1 r dg; simp; omega) rfl rfl rfl rfl .none ?_
    refine sto rfl rfl rfl rfl rfl rfl .none ?_
    refine asg rfl rfl .none ?_
    refine done ⟨by kernel_rfl, by kernel_rfl, ?_⟩
    refine reg ?_
    refine ar _ rfl rfl rfl (wrapI (by omega)) rfl .none ?_
    refine mv rfl rfl .none ?_
    refine done ?_
    refine WpN.go ?_
    refine Wp.seq ?_
    refine reg ?_
    refine cmp rfl rfl rfl rfl .none ?_
    refine done ?_
    refine Wp.seq ?_
    refine Wp.condF rfl rfl ?_
    refine Wp.exit ?_
    refine Wp.seq ?_
    refine reg ?_
    first | refine ld rfl rfl rfl rfl rfl .none ?_ | refine ldp rfl rfl rfl .none ?_
    refine mv rfl rfl .none ?_
    refine sto rfl rfl rfl rfl rfl rfl .none ?_
    refine asg rfl rfl .none ?_
    refine done ?_
    refine Wp.ret ?_
    refine Ends.ret (.cons (.cell rfl rfl rfl (Nat.le_of_ble_eq_true rfl) (Fz.pure rfl)) <| .cons (.tmp rfl (by first | exact Fz.weakR | exact Fz.sl rfl rfl (pure_app _ _))) <|  .nil) ?_
    first | (rw [if_pos (by simp_all)]; exact resF1 rfl rfl) | (rw [if_neg (by simp_all)]; exact resF1 rfl rfl)

set_option maxRecDepth 20000 in
theorem f_mapw1 {k r : Int} {dg : Bool} : FnP PP 5 [.agg [.int .i64 1, .int .i64 1], .agg [.int .i64 k, .int .i32 r], .bool dg] (resF (if k ≠ 2 then waS 1 k r dg else metaS [(16, 0, 0, 0)] r dg)) := by
  refine FnP.of_body Try.func5 rfl (by kernel_rfl) rfl ?_
  refine Wp.seq ?_
  refine reg ?_
  refine bx 3 rfl rfl rfl rfl .none ?_
  refine bx 4 rfl rfl rfl rfl .none ?_
  refine al 6 rfl rfl .none ?_
  refine asg rfl rfl .none ?_
  refine done ?_
  refine Wp.seq ?_
  refine Wp.seq ?_
  refine reg ?_
  first | refine ld rfl rfl rfl rfl rfl .none ?_ | refine ldp rfl rfl rfl .none ?_
  refine cl rfl rfl f_viIs rfl rfl .none ?_
  refine nt rfl rfl .none ?_
  refine done ?_
  refine Wp.condF rfl rfl ?_
  refine Wp.skip ?_
  refine Wp.seq ?_
  refine Wp.seq ?_
  refine reg ?_
  first | refine fa rfl rfl rfl .none ?_ | refine fap rfl rfl rfl rfl .none ?_
  first | refine ld rfl rfl rfl rfl rfl .none ?_ | refine ldp rfl rfl rfl .none ?_
  refine cmp rfl rfl rfl rfl .none ?_
  refine done ?_
  refine Wp.cond rfl (fun c1 => ?_) (fun c1 => ?_)
  · skip
    refine Wp.seq ?_
    refine regd mixed ?_
    first | refine ld rfl rfl rfl rfl rfl .none ?_ | refine ldp rfl rfl rfl .none ?_
    refine cl rfl rfl f_reads rfl rfl .none ?_
    first | refine ld rfl rfl rfl rfl rfl .none ?_ | refine ldp rfl rfl rfl .none ?_
    refine mv rfl rfl .none ?_
    refine inv rfl rfl f_wa1 rfl rfl .none ?_
    refine xt rfl rfl rfl .none ?_
    refine xt rfl rfl rfl .none ?_
    refine sto rfl rfl rfl rfl rfl rfl .none ?_
    refine asg rfl rfl .none ?_
    refine done ⟨by kernel_rfl, by kernel_rfl, ?_⟩
    refine Wp.ret ?_
    refine Ends.ret (.cons (.cell rfl rfl rfl (Nat.le_of_ble_eq_true rfl) (Fz.pure rfl)) <| .cons (.tmp rfl (by first | exact Fz.weakR | exact Fz.sl rfl rfl (pure_app _ _))) <|  .nil) ?_
    first | (rw [if_pos (by simp_all)]; exact resF1 rfl rfl) | (rw [if_neg (by simp_all)]; exact resF1 rfl rfl)
  · skip
    refine Wp.skip ?_
    refine Wp.seq ?_
    refine reg ?_
    refine asg rfl rfl .none ?_
    refine done ?_
    refine Wp.seq ?_
    refine Wp.seq ?_
    refine reg ?_
    refine bd rfl rfl rfl .none ?_
    first | refine fa rfl rfl rfl .none ?_ | refine fap rfl rfl rfl rfl .none ?_
    first | refine ld rfl rfl rfl rfl rfl .none ?_ | refine ldp rfl rfl rfl .none ?_
    refine bd rfl rfl rfl .none ?_
    refine bs rfl rfl rfl rfl .none ?_
    first | refine ln rfl rfl .none ?_ | refine lns rfl rfl .none ?_
    refine mv rfl rfl .none ?_
    refine done ?_
    refine Wp.block ?_
    refine Wp.rounds 3 ?_
    refine WpN.go ?_
    refine Wp.seq ?_
    refine reg ?_
    refine cmp rfl rfl rfl rfl .none ?_
    refine done ?_
    refine Wp.seq ?_
    refine Wp.condT rfl rfl ?_
    refine Wp.skip ?_
    refine Wp.seq ?_
    refine Wp.block ?_
    refine Wp.seq ?_
    refine reg ?_
    refine ia 0 _ rfl rfl rfl rfl rfl rfl .none ?_
    first | refine ld rfl rfl rfl rfl rfl .none ?_ | refine ldp rfl rfl rfl .none ?_
    refine al 10 rfl rfl .none ?_
    refine sto rfl rfl rfl rfl rfl rfl .none ?_
    refine done ?_
    refine Wp.seq ?_
    refine regd mixed ?_
    first | refine ld rfl rfl rfl rfl rfl .none ?_ | refine ldp rfl rfl rfl .none ?_
    refine cl rfl rfl f_reads rfl rfl .none ?_
    first | refine ld rfl rfl rfl rfl rfl .none ?_ | refine ldp rfl rfl rfl .none ?_
    refine mv rfl rfl .none ?_
    refine inv rfl rfl f_wa10_1 rfl rfl .none ?_
    refine mv rfl rfl .none ?_
    refine xt rfl rfl rfl .none ?_
    refine xt rfl rfl rfl .none ?_
    refine al 11 rfl rfl .none ?_
    refine sto rfl rfl rfl rfl rfl rfl .none ?_
    refine asg rfl rfl .none ?_
    refine done ⟨by kernel_rfl, by kernel_rfl, ?_⟩
    refine regd mixed ?_
    first | refine ld rfl rfl rfl rfl rfl .none ?_ | refine ldp rfl rfl rfl .none ?_
    refine mv rfl rfl .none ?_
    refine mv rfl rfl .none ?_
    first | refine apo 1481 rfl rfl rfl rfl (rowsOk_act _) (by decide) rfl rfl rfl rfl .none ?_ | refine apn 1480 1481 rfl rfl (rowsOk_act _) (by decide) rfl rfl rfl rfl .none ?_
    refine sto rfl rfl rfl rfl rfl rfl .none ?_
    refine asg rfl rfl .none ?_
    refine done ⟨by kernel_rfl, by kernel_rfl, ?_⟩
    refine reg ?_
    refine ar _ rfl rfl rfl (wrapI (by omega)) rfl .none ?_
    refine mv rfl rfl .none ?_
    refine done ?_
    refine WpN.go ?_
    refine Wp.seq ?_
    refine reg ?_
    refine cmp rfl rfl rfl rfl .none ?_
    refine done ?_
    refine Wp.seq ?_
    refine Wp.condT rfl rfl ?_
    refine Wp.skip ?_
    refine Wp.seq ?_
    refine Wp.block ?_
    refine Wp.seq ?_
    refine reg ?_
    refine ia 1 _ rfl rfl rfl rfl rfl rfl .none ?_
    first | refine ld rfl rfl rfl rfl rfl .none ?_ | refine ldp rfl rfl rfl .none ?_
    refine al 5010 rfl rfl .none ?_
    refine sto rfl rfl rfl rfl rfl rfl .none ?_
    refine done ?_
    refine Wp.seq ?_
    refine regd mixed ?_
    first | refine ld rfl rfl rfl rfl rfl .none ?_ | refine ldp rfl rfl rfl .none ?_
    refine cl rfl rfl f_reads rfl rfl .none ?_
    first | refine ld rfl rfl rfl rfl rfl .none ?_ | refine ldp rfl rfl rfl .none ?_
    refine mv rfl rfl .none ?_
    refine inv rfl rfl (f_ob (k := 1)) rfl rfl .none ?_
    refine mv rfl rfl .none ?_
    refine xt rfl rfl rfl .none ?_
    refine xt rfl rfl rfl .none ?_
    refine al 5011 rfl rfl .none ?_
    refine sto rfl rfl rfl rfl rfl rfl .none ?_
    refine asg rfl rfl .none ?_
    refine done ⟨by kernel_rfl, by kernel_rfl, ?_⟩
    refine regd mixed ?_
    first | refine ld rfl rfl rfl rfl rfl .none ?_ | refine ldp rfl rfl rfl .none ?_
    refine mv rfl rfl .none ?_
    refine mv rfl rfl .none ?_
    first | refine apo 1483 rfl rfl rfl rfl (rowsOk_act _) (by have := obS_len 1 r dg; simp; omega) rfl rfl rfl rfl .none ?_ | refine apn 1482 1483 rfl rfl (rowsOk_act _) (by have := obS_len 1 r dg; simp; omega) rfl rfl rfl rfl .none ?_
    refine sto rfl rfl rfl rfl rfl rfl .none ?_
    refine asg rfl rfl .none ?_
    refine done ⟨by kernel_rfl, by kernel_rfl, ?_⟩
    refine reg ?_
    refine ar _ rfl rfl rfl (wrapI (by omega)) rfl .none ?_
    refine mv rfl rfl .none ?_
    refine done ?_
    refine WpN.go ?_
    refine Wp.seq ?_
    refine reg ?_
    refine cmp rfl rfl rfl rfl .none ?_
    refine done ?_
    refine Wp.seq ?_
    refine Wp.condF rfl rfl ?_
    refine Wp.exit ?_
    refine Wp.seq ?_
    refine reg ?_
    first | refine ld rfl rfl rfl rfl rfl .none ?_ | refine ldp rfl rfl rfl .none ?_
    refine mv rfl rfl .none ?_
    refine sto rfl rfl rfl rfl rfl rfl .none ?_
    refine asg rfl rfl .none ?_
    refine done ?_
    refine Wp.ret ?_
    refine Ends.ret (.cons (.cell rfl rfl rfl (Nat.le_of_ble_eq_true rfl) (Fz.pure rfl)) <| .cons (.tmp rfl (by first | exact Fz.weakR | exact Fz.sl rfl rfl (pure_app _ _))) <|  .nil) ?_
    first | (rw [if_pos (by simp_all)]; exact resF1 rfl rfl) | (rw [if_neg (by simp_all)]; exact resF1 rfl rfl)

set_option maxRecDepth 20000 in
theorem f_mapw2 {k r : Int} {dg : Bool} : FnP PP 5 [.agg [.int .i64 1, .int .i64 2], .agg [.int .i64 k, .int .i32 r], .bool dg] (resF (if k ≠ 2 then waS 2 k r dg else metaS [(16, 0, 0, 0)] r dg)) := by
  refine FnP.of_body Try.func5 rfl (by kernel_rfl) rfl ?_
  refine Wp.seq ?_
  refine reg ?_
  refine bx 3 rfl rfl rfl rfl .none ?_
  refine bx 4 rfl rfl rfl rfl .none ?_
  refine al 6 rfl rfl .none ?_
  refine asg rfl rfl .none ?_
  refine done ?_
  refine Wp.seq ?_
  refine Wp.seq ?_
  refine reg ?_
  first | refine ld rfl rfl rfl rfl rfl .none ?_ | refine ldp rfl rfl rfl .none ?_
  refine cl rfl rfl f_viIs rfl rfl .none ?_
  refine nt rfl rfl .none ?_
  refine done ?_
  refine Wp.condF rfl rfl ?_
  refine Wp.skip ?_
  refine Wp.seq ?_
  refine Wp.seq ?_
  refine reg ?_
  first | refine fa rfl rfl rfl .none ?_ | refine fap rfl rfl rfl rfl .none ?_
  first | refine ld rfl rfl rfl rfl rfl .none ?_ | refine ldp rfl rfl rfl .none ?_
  refine cmp rfl rfl rfl rfl .none ?_
  refine done ?_
  refine Wp.cond rfl (fun c1 => ?_) (fun c1 => ?_)
  · skip
    refine Wp.seq ?_
    refine regd mixed ?_
    first | refine ld rfl rfl rfl rfl rfl .none ?_ | refine ldp rfl rfl rfl .none ?_
    refine cl rfl rfl f_reads rfl rfl .none ?_
    first | refine ld rfl rfl rfl rfl rfl .none ?_ | refine ldp rfl rfl rfl .none ?_
    refine mv rfl rfl .none ?_
    refine inv rfl rfl f_wa2 rfl rfl .none ?_
    refine xt rfl rfl rfl .none ?_
    refine xt rfl rfl rfl .none ?_
    refine sto rfl rfl rfl rfl rfl rfl .none ?_
    refine asg rfl rfl .none ?_
    refine done ⟨by kernel_rfl, by kernel_rfl, ?_⟩
    refine Wp.ret ?_
    refine Ends.ret (.cons (.cell rfl rfl rfl (Nat.le_of_ble_eq_true rfl) (Fz.pure rfl)) <| .cons (.tmp rfl (by first | exact Fz.weakR | exact Fz.sl rfl rfl (pure_app _ _))) <|  .nil) ?_
    first | (rw [if_pos (by simp_all)]; exact resF1 rfl rfl) | (rw [if_neg (by simp_all)]; exact resF1 rfl rfl)
  · skip
    refine Wp.skip ?_
    refine Wp.seq ?_
    refine reg ?_
    refine asg rfl rfl .none ?_
    refine done ?_
    refine Wp.seq ?_
    refine Wp.seq ?_
    refine reg ?_
    refine bd rfl rfl rfl .none ?_
    first | refine fa rfl rfl rfl .none ?_ | refine fap rfl rfl rfl rfl .none ?_
    first | refine ld rfl rfl rfl rfl rfl .none ?_ | refine ldp rfl rfl rfl .none ?_
    refine bd rfl rfl rfl .none ?_
    refine bs rfl rfl rfl rfl .none ?_
    first | refine ln rfl rfl .none ?_ | refine lns rfl rfl .none ?_
    refine mv rfl rfl .none ?_
    refine done ?_
    refine Wp.block ?_
    refine Wp.rounds 3 ?_
    refine WpN.go ?_
    refine Wp.seq ?_
    refine reg ?_
    refine cmp rfl rfl rfl rfl .none ?_
    refine done ?_
    refine Wp.seq ?_
    refine Wp.condT rfl rfl ?_
    refine Wp.skip ?_
    refine Wp.seq ?_
    refine Wp.block ?_
    refine Wp.seq ?_
    refine reg ?_
    refine ia 0 _ rfl rfl rfl rfl rfl rfl .none ?_
    first | refine ld rfl rfl rfl rfl rfl .none ?_ | refine ldp rfl rfl rfl .none ?_
    refine al 10 rfl rfl .none ?_
    refine sto rfl rfl rfl rfl rfl rfl .none ?_
    refine done ?_
    refine Wp.seq ?_
    refine regd mixed ?_
    first | refine ld rfl rfl rfl rfl rfl .none ?_ | refine ldp rfl rfl rfl .none ?_
    refine cl rfl rfl f_reads rfl rfl .none ?_
    first | refine ld rfl rfl rfl rfl rfl .none ?_ | refine ldp rfl rfl rfl .none ?_
    refine mv rfl rfl .none ?_
    refine inv rfl rfl f_wa10_2 rfl rfl .none ?_
    refine mv rfl rfl .none ?_
    refine xt rfl rfl rfl .none ?_
    refine xt rfl rfl rfl .none ?_
    refine al 11 rfl rfl .none ?_
    refine sto rfl rfl rfl rfl rfl rfl .none ?_
    refine asg rfl rfl .none ?_
    refine done ⟨by kernel_rfl, by kernel_rfl, ?_⟩
    refine regd mixed ?_
    first | refine ld rfl rfl rfl rfl rfl .none ?_ | refine ldp rfl rfl rfl .none ?_
    refine mv rfl rfl .none ?_
    refine mv rfl rfl .none ?_
    first | refine apo 1481 rfl rfl rfl rfl (rowsOk_act _) (by decide) rfl rfl rfl rfl .none ?_ | refine apn 1480 1481 rfl rfl (rowsOk_act _) (by decide) rfl rfl rfl rfl .none ?_
    refine sto rfl rfl rfl rfl rfl rfl .none ?_
    refine asg rfl rfl .none ?_
    refine done ⟨by kernel_rfl, by kernel_rfl, ?_⟩
    refine reg ?_
    refine ar _ rfl rfl rfl (wrapI (by omega)) rfl .none ?_
    refine mv rfl rfl .none ?_
    refine done ?_
    refine WpN.go ?_
    refine Wp.seq ?_
    refine reg ?_
    refine cmp rfl rfl rfl rfl .none ?_
    refine done ?_
    refine Wp.seq ?_
    refine Wp.condT rfl rfl ?_
    refine Wp.skip ?_
    refine Wp.seq ?_
    refine Wp.block ?_
    refine Wp.seq ?_
    refine reg ?_
    refine ia 1 _ rfl rfl rfl rfl rfl rfl .none ?_
    first | refine ld rfl rfl rfl rfl rfl .none ?_ | refine ldp rfl rfl rfl .none ?_
    refine al 5010 rfl rfl .none ?_
    refine sto rfl rfl rfl rfl rfl rfl .none ?_
    refine done ?_
    refine Wp.seq ?_
    refine regd mixed ?_
    first | refine ld rfl rfl rfl rfl rfl .none ?_ | refine ldp rfl rfl rfl .none ?_
    refine cl rfl rfl f_reads rfl rfl .none ?_
    first | refine ld rfl rfl rfl rfl rfl .none ?_ | refine ldp rfl rfl rfl .none ?_
    refine mv rfl rfl .none ?_
    refine inv rfl rfl (f_ob (k := 1)) rfl rfl .none ?_
    refine mv rfl rfl .none ?_
    refine xt rfl rfl rfl .none ?_
    refine xt rfl rfl rfl .none ?_
    refine al 5011 rfl rfl .none ?_
    refine sto rfl rfl rfl rfl rfl rfl .none ?_
    refine asg rfl rfl .none ?_
    refine done ⟨by kernel_rfl, by kernel_rfl, ?_⟩
    refine regd mixed ?_
    first | refine ld rfl rfl rfl rfl rfl .none ?_ | refine ldp rfl rfl rfl .none ?_
    refine mv rfl rfl .none ?_
    refine mv rfl rfl .none ?_
    first | refine apo 1483 rfl rfl rfl rfl (rowsOk_act _) (by have := obS_len 1 r dg; simp; omega) rfl rfl rfl rfl .none ?_ | refine apn 1482 1483 rfl rfl (rowsOk_act _) (by have := obS_len 1 r dg; simp; omega) rfl rfl rfl rfl .none ?_
    refine sto rfl rfl rfl rfl rfl rfl .none ?_
    refine asg rfl rfl .none ?_
    refine done ⟨by kernel_rfl, by kernel_rfl, ?_⟩
    refine reg ?_
    refine ar _ rfl rfl rfl (wrapI (by omega)) rfl .none ?_
    refine mv rfl rfl .none ?_
    refine done ?_
    refine WpN.go ?_
    refine Wp.seq ?_
    refine reg ?_
    refine cmp rfl rfl rfl rfl .none ?_
    refine done ?_
    refine Wp.seq ?_
    refine Wp.condF rfl rfl ?_
    refine Wp.exit ?_
    refine Wp.seq ?_
    refine reg ?_
    first | refine ld rfl rfl rfl rfl rfl .none ?_ | refine ldp rfl rfl rfl .none ?_
    refine mv rfl rfl .none ?_
    refine sto rfl rfl rfl rfl rfl rfl .none ?_
    refine asg rfl rfl .none ?_
    refine done ?_
    refine Wp.ret ?_
    refine Ends.ret (.cons (.cell rfl rfl rfl (Nat.le_of_ble_eq_true rfl) (Fz.pure rfl)) <| .cons (.tmp rfl (by first | exact Fz.weakR | exact Fz.sl rfl rfl (pure_app _ _))) <|  .nil) ?_
    first | (rw [if_pos (by simp_all)]; exact resF1 rfl rfl) | (rw [if_neg (by simp_all)]; exact resF1 rfl rfl)

set_option maxRecDepth 20000 in
theorem f_mapw3 {k r : Int} {dg : Bool} : FnP PP 5 [.agg [.int .i64 1, .int .i64 3], .agg [.int .i64 k, .int .i32 r], .bool dg] (resF (if k ≠ 2 then waS 3 k r dg else metaS [(16, 0, 0, 0)] r dg)) := by
  refine FnP.of_body Try.func5 rfl (by kernel_rfl) rfl ?_
  refine Wp.seq ?_
  refine reg ?_
  refine bx 3 rfl rfl rfl rfl .none ?_
  refine bx 4 rfl rfl rfl rfl .none ?_
  refine al 6 rfl rfl .none ?_
  refine asg rfl rfl .none ?_
  refine done ?_
  refine Wp.seq ?_
  refine Wp.seq ?_
  refine reg ?_
  first | refine ld rfl rfl rfl rfl rfl .none ?_ | refine ldp rfl rfl rfl .none ?_
  refine cl rfl rfl f_viIs rfl rfl .none ?_
  refine nt rfl rfl .none ?_
  refine done ?_
  refine Wp.condF rfl rfl ?_
  refine Wp.skip ?_
  refine Wp.seq ?_
  refine Wp.seq ?_
  refine reg ?_
  first | refine fa rfl rfl rfl .none ?_ | refine fap rfl rfl rfl rfl .none ?_
  first | refine ld rfl rfl rfl rfl rfl .none ?_ | refine ldp rfl rfl rfl .none ?_
  refine cmp rfl rfl rfl rfl .none ?_
  refine done ?_
  refine Wp.cond rfl (fun c1 => ?_) (fun c1 => ?_)
  · skip
    refine Wp.seq ?_
    refine regd mixed ?_
    first | refine ld rfl rfl rfl rfl rfl .none ?_ | refine ldp rfl rfl rfl .none ?_
    refine cl rfl rfl f_reads rfl rfl .none ?_
    first | refine ld rfl rfl rfl rfl rfl .none ?_ | refine ldp rfl rfl rfl .none ?_
    refine mv rfl rfl .none ?_
    refine inv rfl rfl f_wa3 rfl rfl .none ?_
    refine xt rfl rfl rfl .none ?_
    refine xt rfl rfl rfl .none ?_
    refine sto rfl rfl rfl rfl rfl rfl .none ?_
    refine asg rfl rfl .none ?_
    refine done ⟨by kernel_rfl, by kernel_rfl, ?_⟩
    refine Wp.ret ?_
    refine Ends.ret (.cons (.cell rfl rfl rfl (Nat.le_of_ble_eq_true rfl) (Fz.pure rfl)) <| .cons (.tmp rfl (by first | exact Fz.weakR | exact Fz.sl rfl rfl (pure_app _ _))) <|  .nil) ?_
    first | (rw [if_pos (by simp_all)]; exact resF1 rfl rfl) | (rw [if_neg (by simp_all)]; exact resF1 rfl rfl)
  · skip
    refine Wp.skip ?_
    refine Wp.seq ?_
    refine reg ?_
    refine asg rfl rfl .none ?_
    refine done ?_
    refine Wp.seq ?_
    refine Wp.seq ?_
    refine reg ?_
    refine bd rfl rfl rfl .none ?_
    first | refine fa rfl rfl rfl .none ?_ | refine fap rfl rfl rfl rfl .none ?_
    first | refine ld rfl rfl rfl rfl rfl .none ?_ | refine ldp rfl rfl rfl .none ?_
    refine bd rfl rfl rfl .none ?_
    refine bs rfl rfl rfl rfl .none ?_
    first | refine ln rfl rfl .none ?_ | refine lns rfl rfl .none ?_
    refine mv rfl rfl .none ?_
    refine done ?_
    refine Wp.block ?_
    refine Wp.rounds 3 ?_
    refine WpN.go ?_
    refine Wp.seq ?_
    refine reg ?_
    refine cmp rfl rfl rfl rfl .none ?_
    refine done ?_
    refine Wp.seq ?_
    refine Wp.condT rfl rfl ?_
    refine Wp.skip ?_
    refine Wp.seq ?_
    refine Wp.block ?_
    refine Wp.seq ?_
    refine reg ?_
    refine ia 0 _ rfl rfl rfl rfl rfl rfl .none ?_
    first | refine ld rfl rfl rfl rfl rfl .none ?_ | refine ldp rfl rfl rfl .none ?_
    refine al 10 rfl rfl .none ?_
    refine sto rfl rfl rfl rfl rfl rfl .none ?_
    refine done ?_
    refine Wp.seq ?_
    refine regd mixed ?_
    first | refine ld rfl rfl rfl rfl rfl .none ?_ | refine ldp rfl rfl rfl .none ?_
    refine cl rfl rfl f_reads rfl rfl .none ?_
    first | refine ld rfl rfl rfl rfl rfl .none ?_ | refine ldp rfl rfl rfl .none ?_
    refine mv rfl rfl .none ?_
    refine inv rfl rfl f_wa10_3 rfl rfl .none ?_
    refine mv rfl rfl .none ?_
    refine xt rfl rfl rfl .none ?_
    refine xt rfl rfl rfl .none ?_
    refine al 11 rfl rfl .none ?_
    refine sto rfl rfl rfl rfl rfl rfl .none ?_
    refine asg rfl rfl .none ?_
    refine done ⟨by kernel_rfl, by kernel_rfl, ?_⟩
    refine regd mixed ?_
    first | refine ld rfl rfl rfl rfl rfl .none ?_ | refine ldp rfl rfl rfl .none ?_
    refine mv rfl rfl .none ?_
    refine mv rfl rfl .none ?_
    first | refine apo 1481 rfl rfl rfl rfl (rowsOk_act _) (by decide) rfl rfl rfl rfl .none ?_ | refine apn 1480 1481 rfl rfl (rowsOk_act _) (by decide) rfl rfl rfl rfl .none ?_
    refine sto rfl rfl rfl rfl rfl rfl .none ?_
    refine asg rfl rfl .none ?_
    refine done ⟨by kernel_rfl, by kernel_rfl, ?_⟩
    refine reg ?_
    refine ar _ rfl rfl rfl (wrapI (by omega)) rfl .none ?_
    refine mv rfl rfl .none ?_
    refine done ?_
    refine WpN.go ?_
    refine Wp.seq ?_
    refine reg ?_
    refine cmp rfl rfl rfl rfl .none ?_
    refine done ?_
    refine Wp.seq ?_
    refine Wp.condT rfl rfl ?_
    refine Wp.skip ?_
    refine Wp.seq ?_
    refine Wp.block ?_
    refine Wp.seq ?_
    refine reg ?_
    refine ia 1 _ rfl rfl rfl rfl rfl rfl .none ?_
    first | refine ld rfl rfl rfl rfl rfl .none ?_ | refine ldp rfl rfl rfl .none ?_
    refine al 5010 rfl rfl .none ?_
    refine sto rfl rfl rfl rfl rfl rfl .none ?_
    refine done ?_
    refine Wp.seq ?_
    refine regd mixed ?_
    first | refine ld rfl rfl rfl rfl rfl .none ?_ | refine ldp rfl rfl rfl .none ?_
    refine cl rfl rfl f_reads rfl rfl .none ?_
    first | refine ld rfl rfl rfl rfl rfl .none ?_ | refine ldp rfl rfl rfl .none ?_
    refine mv rfl rfl .none ?_
    refine inv rfl rfl (f_ob (k := 1)) rfl rfl .none ?_
    refine mv rfl rfl .none ?_
    refine xt rfl rfl rfl .none ?_
    refine xt rfl rfl rfl .none ?_
    refine al 5011 rfl rfl .none ?_
    refine sto rfl rfl rfl rfl rfl rfl .none ?_
    refine asg rfl rfl .none ?_
    refine done ⟨by kernel_rfl, by kernel_rfl, ?_⟩
    refine regd mixed ?_
    first | refine ld rfl rfl rfl rfl rfl .none ?_ | refine ldp rfl rfl rfl .none ?_
    refine mv rfl rfl .none ?_
    refine mv rfl rfl .none ?_
    first | refine apo 1483 rfl rfl rfl rfl (rowsOk_act _) (by have := obS_len 1 r dg; simp; omega) rfl rfl rfl rfl .none ?_ | refine apn 1482 1483 rfl rfl (rowsOk_act _) (by have := obS_len 1 r dg; simp; omega) rfl rfl rfl rfl .none ?_
    refine sto rfl rfl rfl rfl rfl rfl .none ?_
    refine asg rfl rfl .none ?_
    refine done ⟨by kernel_rfl, by kernel_rfl, ?_⟩
    refine reg ?_
    refine ar _ rfl rfl rfl (wrapI (by omega)) rfl .none ?_
    refine mv rfl rfl .none ?_
    refine done ?_
    refine WpN.go ?_
    refine Wp.seq ?_
    refine reg ?_
    refine cmp rfl rfl rfl rfl .none ?_
    refine done ?_
    refine Wp.seq ?_
    refine Wp.condF rfl rfl ?_
    refine Wp.exit ?_
    refine Wp.seq ?_
    refine reg ?_
    first | refine ld rfl rfl rfl rfl rfl .none ?_ | refine ldp rfl rfl rfl .none ?_
    refine mv rfl rfl .none ?_
    refine sto rfl rfl rfl rfl rfl rfl .none ?_
    refine asg rfl rfl .none ?_
    refine done ?_
    refine Wp.ret ?_
    refine Ends.ret (.cons (.cell rfl rfl rfl (Nat.le_of_ble_eq_true rfl) (Fz.pure rfl)) <| .cons (.tmp rfl (by first | exact Fz.weakR | exact Fz.sl rfl rfl (pure_app _ _))) <|  .nil) ?_
    first | (rw [if_pos (by simp_all)]; exact resF1 rfl rfl) | (rw [if_neg (by simp_all)]; exact resF1 rfl rfl)

end Go.Proofs.Ytoleablcjdbeiaa