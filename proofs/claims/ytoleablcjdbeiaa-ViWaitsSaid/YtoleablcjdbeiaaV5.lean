/- Walks of the law of layer 18. -/
import Derived.Test.YtoleablcjdbeiaaV4
namespace Go.Proofs.Ytoleablcjdbeiaa
open Go.Eng
theorem mapOf {a b c : D} {x y : (Int × Int) × List Act4} (h : FnP PP 5 [a, b, c] (resF x)) (e : x = y) : FnP PP 5 [a, b, c] (resF y) := by subst e; exact h
theorem cm1 : FnP PP 5 [viD (0, 0), keyD (1, 100), .bool false] (resF ((0, 0), [(2, 0, 0, 100)])) := mapOf (f_map0 (k := 1) (r := 100) (dg := false)) (by decide)
theorem cm2 : FnP PP 5 [viD (0, 0), keyD (10, 0), .bool false] (resF ((1, 0), [(1, 1, 0, 0)])) := mapOf (f_map0 (k := 10) (r := 0) (dg := false)) (by decide)
theorem cm3 : FnP PP 5 [viD (1, 0), keyD (1, 100), .bool false] (resF ((1, 1), [])) := mapOf (f_map1 (k := 1) (r := 100) (dg := false)) (by decide)
theorem cm4 : FnP PP 5 [viD (1, 1), keyD (1, 119), .bool false] (resF ((1, 0), [(1, 7, 2, 0)])) := mapOf (f_mapw1 (k := 1) (r := 119) (dg := false)) (by decide)
theorem cm5 : FnP PP 5 [viD (1, 1), keyD (1, 48), .bool true] (resF ((1, 1), [(14, 0, 0, 48)])) := mapOf (f_mapw1 (k := 1) (r := 48) (dg := true)) (by decide)
theorem cm6 : FnP PP 5 [viD (0, 0), keyD (2, 48), .bool false] (resF ((1, 0), [(1, 1, 0, 0), (1, 3, 0, 0)])) := mapOf (f_map0 (k := 2) (r := 48) (dg := false)) (by decide)
def boundOk : Bool := boundL.all fun p => decide (p.1.1 = 1 → p.2.1 ≠ 2 ∧ p.1.2 ≠ 9 ∧ (p.1.2 < 32 ∨ p.1.2 = 127))
def specials : List Int := [8, 127, 10, 13, 12, 21, 22, 23]
theorem special_bound : (specials.all fun r => (lookL boundL (1, r)).isSome) = true := by decide
theorem insS_one (r : Int) : insS 1 r = if r ∈ specials then ((0, 0), [emMap 1 r]) else if (emMap 1 r).1 ≠ 2 then ((0, 0), []) else ((0, 0), [emMap 1 r]) := by simp [insS, specials]
theorem insS_v (r : Int) : insS 1 r = ((0, 0), (insS 1 r).2) := by
  rw [insS_one]
  repeat' split
  all_goals rfl
theorem insS_len (r : Int) : (insS 1 r).2.length ≤ 1 := by
  rw [insS_one]
  repeat' split
  all_goals simp
theorem insLaw (r : Int) : decide ((insS 1 r).2 = [(2, 0, 0, r)]) = ((r == 9) || ((decide (32 ≤ r) && (r != 127)) && signB r)) := by
  rw [insS_one]
  have hem : emMap 1 r = if (lookL boundL (1, r)).isSome then (lookL boundL (1, r)).getD (0, 0, 0, 0) else if signB r = true ∧ (32 ≤ r ∨ r = 9) then (2, 0, 0, r) else (0, 0, 0, 0) := by
    simp [emMap]
  cases hl : lookL boundL (1, r) with
  | some a =>
    have hb : boundOk = true := by decide
    have h1 := of_decide_eq_true ((List.all_eq_true.1 hb) _ (lookL_mem hl)) rfl
    have he : emMap 1 r = a := by rw [hem, hl]; rfl
    rw [he]
    obtain ⟨h2, h3, h4⟩ := h1
    simp only at h2 h3 h4
    have hR : ((r == 9) || ((decide (32 ≤ r) && (r != 127)) && signB r)) = false := by
      have h5 : (r == 9) = false := by simpa using h3
      rw [h5]
      rcases h4 with h4 | h4
      · rw [decide_eq_false (by omega : ¬ 32 ≤ r)]; rfl
      · have : (r != 127) = false := by simp [h4]
        rw [this]; simp
    rw [hR]
    have hne : [a] ≠ [((2 : Int), (0 : Int), (0 : Int), r)] := by
      intro h
      simp only [List.cons.injEq, and_true] at h
      rw [h] at h2
      exact h2 rfl
    split
    · exact decide_eq_false hne
    · exact decide_eq_false (by simp)
  | none =>
    have hns : r ∉ specials := fun hm => by
      have := (List.all_eq_true.1 special_bound) r hm
      rw [hl] at this; cases this
    rw [if_neg hns]
    have h127 : r ≠ 127 := by rintro rfl; exact hns (by decide)
    have he : emMap 1 r = if signB r = true ∧ (32 ≤ r ∨ r = 9) then (2, 0, 0, r) else (0, 0, 0, 0) := by rw [hem, hl]; rfl
    rw [he]
    have h9 : r = 9 → signB r = true := by rintro rfl; decide
    by_cases hs : signB r = true ∧ (32 ≤ r ∨ r = 9)
    · rw [if_pos hs]
      have hR : ((r == 9) || ((decide (32 ≤ r) && (r != 127)) && signB r)) = true := by
        rcases hs.2 with h | h
        · simp [h, h127, hs.1]
        · simp [h]
      rw [hR]
      simp
    · rw [if_neg hs]
      have hR : ((r == 9) || ((decide (32 ≤ r) && (r != 127)) && signB r)) = false := by
        have h5 : r ≠ 9 := fun h => hs ⟨h9 h, .inr h⟩
        cases hsb : signB r with
        | false => simp [h5]
        | true =>
          have : ¬ 32 ≤ r := fun h => hs ⟨hsb, .inl h⟩
          simp [h5, this]
      rw [hR]
      simp
def runR (r : Int) : List D := [.int .i32 r]
theorem rowI {l : List Int} {i : Nat} {a : Int} (h : l[i]? = some a) : (l.map runR)[i]? = some [.int .i32 a] := by simp [h, runR]
theorem getI {l : List Int} {i : Nat} (h : i < l.length) : ∃ a, l[i]? = some a := ⟨l[i], by simp [h]⟩
theorem f_mapT {r : Int} {dg : Bool} : FnP PP 5 [viD (0, 0), keyD (1, r), .bool dg] (resF ((0, 0), (insS 1 r).2)) := mapOf (f_map0 (k := 1) (r := r) (dg := dg)) (by rw [if_pos (by decide)]; exact insS_v r)

set_option maxRecDepth 20000 in
theorem f_commanded  : FnP PP 8 [] (.bool true) := by
  refine FnP.of_body Try.func8 rfl (by kernel_rfl) rfl ?_
  refine Wp.seq ?_
  refine reg ?_
  refine asg rfl rfl .none ?_
  refine done ?_
  refine Wp.seq ?_
  refine reg ?_
  refine bd rfl rfl rfl .none ?_
  refine bd rfl rfl rfl .none ?_
  refine cl rfl rfl cm1 rfl rfl .none ?_
  refine mv rfl rfl .none ?_
  refine xt rfl rfl rfl .none ?_
  refine xt rfl rfl rfl .none ?_
  refine al 1 rfl rfl .none ?_
  refine sto rfl rfl rfl rfl rfl rfl .none ?_
  refine asg rfl rfl .none ?_
  refine done ?_
  refine Wp.seq ?_
  refine reg ?_
  first | refine ld rfl rfl rfl rfl rfl .none ?_ | refine ldp rfl rfl rfl .none ?_
  refine bd rfl rfl rfl .none ?_
  refine cl rfl rfl cm2 rfl rfl .none ?_
  refine mv rfl rfl .none ?_
  refine xt rfl rfl rfl .none ?_
  refine xt rfl rfl rfl .none ?_
  refine al 3 rfl rfl .none ?_
  refine sto rfl rfl rfl rfl rfl rfl .none ?_
  refine asg rfl rfl .none ?_
  refine done ?_
  refine Wp.seq ?_
  refine reg ?_
  first | refine ld rfl rfl rfl rfl rfl .none ?_ | refine ldp rfl rfl rfl .none ?_
  refine bd rfl rfl rfl .none ?_
  refine cl rfl rfl cm3 rfl rfl .none ?_
  refine mv rfl rfl .none ?_
  refine xt rfl rfl rfl .none ?_
  refine xt rfl rfl rfl .none ?_
  refine al 5 rfl rfl .none ?_
  refine sto rfl rfl rfl rfl rfl rfl .none ?_
  refine asg rfl rfl .none ?_
  refine done ?_
  refine Wp.seq ?_
  refine reg ?_
  first | refine ld rfl rfl rfl rfl rfl .none ?_ | refine ldp rfl rfl rfl .none ?_
  refine bd rfl rfl rfl .none ?_
  refine cl rfl rfl cm4 rfl rfl .none ?_
  refine mv rfl rfl .none ?_
  refine xt rfl rfl rfl .none ?_
  refine xt rfl rfl rfl .none ?_
  refine al 7 rfl rfl .none ?_
  refine sto rfl rfl rfl rfl rfl rfl .none ?_
  refine asg rfl rfl .none ?_
  refine done ?_
  refine Wp.seq ?_
  refine reg ?_
  first | refine ld rfl rfl rfl rfl rfl .none ?_ | refine ldp rfl rfl rfl .none ?_
  refine bd rfl rfl rfl .none ?_
  refine cl rfl rfl cm5 rfl rfl .none ?_
  refine mv rfl rfl .none ?_
  refine xt rfl rfl rfl .none ?_
  refine xt rfl rfl rfl .none ?_
  refine al 9 rfl rfl .none ?_
  refine sto rfl rfl rfl rfl rfl rfl .none ?_
  refine asg rfl rfl .none ?_
  refine done ?_
  refine Wp.seq ?_
  refine reg ?_
  refine bd rfl rfl rfl .none ?_
  refine bd rfl rfl rfl .none ?_
  refine cl rfl rfl cm6 rfl rfl .none ?_
  refine mv rfl rfl .none ?_
  refine xt rfl rfl rfl .none ?_
  refine xt rfl rfl rfl .none ?_
  refine al 11 rfl rfl .none ?_
  refine sto rfl rfl rfl rfl rfl rfl .none ?_
  refine asg rfl rfl .none ?_
  refine done ?_
  refine Wp.seq ?_
  refine reg ?_
  first | refine ld rfl rfl rfl rfl rfl .none ?_ | refine ldp rfl rfl rfl .none ?_
  refine bd rfl rfl rfl .none ?_
  refine cms rfl rfl rfl rfl rfl .none ?_
  refine mv rfl rfl .none ?_
  refine mv rfl rfl (.want rfl rfl rfl) ?_
  refine bd rfl rfl rfl (.want rfl rfl rfl) ?_
  refine bs rfl rfl rfl rfl (.want rfl rfl rfl) ?_
  refine cl rfl rfl (f_same (l := [(2, 0, 0, 100)]) (m := [(2, 0, 0, 100)]) (by decide)) rfl rfl (.want rfl rfl rfl) ?_
  refine pkt rfl rfl rfl rfl .none ?_
  refine mv rfl rfl .none ?_
  first | refine ld rfl rfl rfl rfl rfl (.want rfl rfl rfl) ?_ | refine ldp rfl rfl rfl (.want rfl rfl rfl) ?_
  refine bd rfl rfl rfl (.want rfl rfl rfl) ?_
  refine cms rfl rfl rfl rfl rfl (.want rfl rfl rfl) ?_
  refine pkt rfl rfl rfl rfl .none ?_
  refine mv rfl rfl .none ?_
  refine mv rfl rfl (.want rfl rfl rfl) ?_
  refine bd rfl rfl rfl (.want rfl rfl rfl) ?_
  refine bs rfl rfl rfl rfl (.want rfl rfl rfl) ?_
  refine cl rfl rfl (f_same (l := [(1, 1, 0, 0)]) (m := [(1, 1, 0, 0)]) (by decide)) rfl rfl (.want rfl rfl rfl) ?_
  refine pkt rfl rfl rfl rfl .none ?_
  refine mv rfl rfl .none ?_
  first | refine ld rfl rfl rfl rfl rfl (.want rfl rfl rfl) ?_ | refine ldp rfl rfl rfl (.want rfl rfl rfl) ?_
  refine bd rfl rfl rfl (.want rfl rfl rfl) ?_
  refine cms rfl rfl rfl rfl rfl (.want rfl rfl rfl) ?_
  refine pkt rfl rfl rfl rfl .none ?_
  refine mv rfl rfl .none ?_
  refine mv rfl rfl (.want rfl rfl rfl) ?_
  first | refine ln rfl rfl (.want rfl rfl rfl) ?_ | refine lns rfl rfl (.want rfl rfl rfl) ?_
  refine cmp rfl rfl rfl rfl (.want rfl rfl rfl) ?_
  refine pkt rfl rfl rfl rfl .none ?_
  refine mv rfl rfl .none ?_
  first | refine ld rfl rfl rfl rfl rfl (.want rfl rfl rfl) ?_ | refine ldp rfl rfl rfl (.want rfl rfl rfl) ?_
  first | refine ld rfl rfl rfl rfl rfl (.want rfl rfl rfl) ?_ | refine ldp rfl rfl rfl (.want rfl rfl rfl) ?_
  refine cms rfl rfl rfl rfl rfl (.want rfl rfl rfl) ?_
  refine pkt rfl rfl rfl rfl .none ?_
  refine mv rfl rfl .none ?_
  refine mv rfl rfl (.want rfl rfl rfl) ?_
  refine bd rfl rfl rfl (.want rfl rfl rfl) ?_
  refine bs rfl rfl rfl rfl (.want rfl rfl rfl) ?_
  refine cl rfl rfl (f_same (l := [(1, 7, 2, 0)]) (m := [(1, 7, 2, 0)]) (by decide)) rfl rfl (.want rfl rfl rfl) ?_
  refine pkt rfl rfl rfl rfl .none ?_
  refine mv rfl rfl .none ?_
  first | refine ld rfl rfl rfl rfl rfl (.want rfl rfl rfl) ?_ | refine ldp rfl rfl rfl (.want rfl rfl rfl) ?_
  first | refine ld rfl rfl rfl rfl rfl (.want rfl rfl rfl) ?_ | refine ldp rfl rfl rfl (.want rfl rfl rfl) ?_
  refine cms rfl rfl rfl rfl rfl (.want rfl rfl rfl) ?_
  refine pkt rfl rfl rfl rfl .none ?_
  refine mv rfl rfl .none ?_
  refine mv rfl rfl (.want rfl rfl rfl) ?_
  refine bd rfl rfl rfl (.want rfl rfl rfl) ?_
  refine bs rfl rfl rfl rfl (.want rfl rfl rfl) ?_
  refine cl rfl rfl (f_same (l := [(14, 0, 0, 48)]) (m := [(14, 0, 0, 48)]) (by decide)) rfl rfl (.want rfl rfl rfl) ?_
  refine pkt rfl rfl rfl rfl .none ?_
  refine mv rfl rfl .none ?_
  first | refine ld rfl rfl rfl rfl rfl (.want rfl rfl rfl) ?_ | refine ldp rfl rfl rfl (.want rfl rfl rfl) ?_
  first | refine ld rfl rfl rfl rfl rfl (.want rfl rfl rfl) ?_ | refine ldp rfl rfl rfl (.want rfl rfl rfl) ?_
  refine cms rfl rfl rfl rfl rfl (.want rfl rfl rfl) ?_
  refine pkt rfl rfl rfl rfl .none ?_
  refine mv rfl rfl .none ?_
  refine mv rfl rfl (.want rfl rfl rfl) ?_
  first | refine ln rfl rfl (.want rfl rfl rfl) ?_ | refine lns rfl rfl (.want rfl rfl rfl) ?_
  refine cmp rfl rfl rfl rfl (.want rfl rfl rfl) ?_
  refine pkt rfl rfl rfl rfl .none ?_
  refine mv rfl rfl .none ?_
  refine mv rfl rfl (.want rfl rfl rfl) ?_
  refine ia 1 _ rfl rfl rfl rfl rfl rfl (.want rfl rfl rfl) ?_
  first | refine ld rfl rfl rfl rfl rfl (.want rfl rfl rfl) ?_ | refine ldp rfl rfl rfl (.want rfl rfl rfl) ?_
  refine bd rfl rfl rfl (.want rfl rfl rfl) ?_
  refine cms rfl rfl rfl rfl rfl (.want rfl rfl rfl) ?_
  refine pkt rfl rfl rfl rfl .none ?_
  refine mv rfl rfl .none ?_
  first | refine ld rfl rfl rfl rfl rfl (.want rfl rfl rfl) ?_ | refine ldp rfl rfl rfl (.want rfl rfl rfl) ?_
  refine cl rfl rfl f_viIs rfl rfl (.want rfl rfl rfl) ?_
  refine pkt rfl rfl rfl rfl .none ?_
  refine mv rfl rfl .none ?_
  refine bd rfl rfl rfl (.want rfl rfl rfl) ?_
  refine cl rfl rfl f_viIs rfl rfl (.want rfl rfl rfl) ?_
  refine nt rfl rfl (.want rfl rfl rfl) ?_
  refine pkt rfl rfl rfl rfl .none ?_
  refine asg rfl rfl .none ?_
  refine done ?_
  refine Wp.ret ?_
  refine Ends.ret (.cons (.tmp rfl (Fz.pure rfl)) <|  .nil) ?_
  rfl

set_option maxRecDepth 20000 in
theorem f_ViTypes {fl : Bool} {l : List Int} {dg : Bool} : FnP PP 3 [.rows fl (l.map runR), .bool dg] (.bool true) := by
  refine FnP.of_body Try.func3 rfl (by kernel_rfl) rfl ?_
  refine Wp.seq ?_
  refine reg ?_
  refine asg rfl rfl .none ?_
  refine done ?_
  refine Wp.seq ?_
  refine reg ?_
  refine bd rfl rfl rfl .none ?_
  refine al 5 rfl rfl .none ?_
  refine sto rfl rfl rfl rfl rfl rfl .none ?_
  refine done ?_
  refine Wp.seq ?_
  refine Wp.seq ?_
  refine reg ?_
  refine asg rfl rfl .none ?_
  refine done ?_
  refine Wp.block ?_
  refine Wp.loopK (α := Nat) [0, 1, 5] [5] (fun x tl => (6, .int .i64 x) :: tl) (fun x tl => tl) (fun x => x ≤ 300) (fun x => 300 - x) (0) rfl rfl (by omega) (by repeat (first | exact trivial | refine ⟨rfl, ?_⟩)) (by repeat (first | exact trivial | refine ⟨rfl, ?_⟩)) ?_
  intro x hx
  skip
  refine Wp.seq ?_
  refine Wp.seq ?_
  refine reg ?_
  refine mv rfl rfl .none ?_
  refine mv rfl rfl .none ?_
  first | refine ln rfl rfl .none ?_ | refine lns rfl rfl .none ?_
  refine cmp rfl rfl rfl rfl .none ?_
  refine mv rfl rfl .none ?_
  refine bcase 15 rfl (fun h15 => ?_) (fun h15 => ?_)
  · skip
    refine mv rfl rfl (.want rfl rfl h15) ?_
    refine cmp rfl rfl rfl rfl (.want rfl rfl h15) ?_
    refine pkt rfl h15 rfl rfl .none ?_
    refine done ?_
    refine Wp.cond rfl (fun c1 => ?_) (fun c1 => ?_)
    · skip
      refine Wp.skip ?_
      refine Wp.seq ?_
      refine Wp.block ?_
      refine Wp.seq ?_
      refine regd mixed ?_
      obtain ⟨q, hq⟩ := getI (l := l) (i := x) (by simp at h15; omega)
      first | refine ld rfl rfl rfl rfl rfl .none ?_ | refine ldp rfl rfl rfl .none ?_
      refine mv rfl rfl .none ?_
      refine mv rfl rfl .none ?_
      refine ia x [.int .i32 q] rfl rfl rfl (rowI hq) rfl rfl .none ?_
      first | refine ld rfl rfl rfl rfl rfl .none ?_ | refine ldp rfl rfl rfl .none ?_
      refine bd rfl rfl rfl .none ?_
      refine mv rfl rfl .none ?_
      refine cl rfl rfl f_mapT rfl rfl .none ?_
      refine mv rfl rfl .none ?_
      refine xt rfl rfl rfl .none ?_
      refine xt rfl rfl rfl .none ?_
      refine al 7 rfl rfl .none ?_
      refine sto rfl rfl rfl rfl rfl rfl .none ?_
      refine asg rfl rfl .none ?_
      refine done ⟨by kernel_rfl, by kernel_rfl, ?_⟩
      refine Wp.seq ?_
      refine Wp.seq ?_
      refine reg ?_
      first | refine ld rfl rfl rfl rfl rfl .none ?_ | refine ldp rfl rfl rfl .none ?_
      first | refine ld rfl rfl rfl rfl rfl .none ?_ | refine ldp rfl rfl rfl .none ?_
      refine cms rfl rfl rfl rfl rfl .none ?_
      refine done ?_
      refine Wp.condF rfl rfl ?_
      refine Wp.skip ?_
      refine Wp.seq ?_
      refine reg ?_
      refine mv rfl rfl .none ?_
      refine mv rfl rfl .none ?_
      refine ia x [.int .i32 q] rfl rfl rfl (rowI hq) rfl rfl .none ?_
      first | refine ld rfl rfl rfl rfl rfl .none ?_ | refine ldp rfl rfl rfl .none ?_
      refine cmp rfl rfl rfl rfl .none ?_
      refine mv rfl rfl .none ?_
      refine bcase 40 rfl (fun h40 => ?_) (fun h40 => ?_)
      · skip
        refine sk rfl rfl h40 rfl ?_
        refine sk rfl rfl h40 rfl ?_
        refine sk rfl rfl h40 rfl ?_
        refine sk rfl rfl h40 rfl ?_
        refine sk rfl rfl h40 rfl ?_
        refine sk rfl rfl h40 rfl ?_
        refine sku rfl rfl rfl ?_
        refine sku rfl rfl rfl ?_
        refine sku rfl rfl rfl ?_
        refine sku rfl rfl rfl ?_
        refine sku rfl rfl rfl ?_
        refine sk rfl rfl h40 rfl ?_
        refine sk rfl rfl h40 rfl ?_
        refine sku rfl rfl rfl ?_
        refine sku rfl rfl rfl ?_
        refine sku rfl rfl rfl ?_
        refine sku rfl rfl rfl ?_
        refine sku rfl rfl rfl ?_
        refine sk rfl rfl h40 rfl ?_
        refine pkt rfl h40 rfl rfl .none ?_
        refine asg rfl rfl .none ?_
        refine done ?_
        refine Wp.seq ?_
        refine reg ?_
        refine mv rfl rfl .none ?_
        refine mv rfl rfl .none ?_
        refine mv rfl rfl .none ?_
        refine mv rfl rfl .none ?_
        refine ia x [.int .i32 q] rfl rfl rfl (rowI hq) rfl rfl .none ?_
        first | refine ld rfl rfl rfl rfl rfl .none ?_ | refine ldp rfl rfl rfl .none ?_
        refine bd rfl rfl rfl .none ?_
        refine bs rfl rfl rfl rfl .none ?_
        refine cl rfl rfl (f_same (l := (insS 1 q).2) (m := [(2, 0, 0, q)]) (by have := insS_len q; omega)) rfl rfl .none ?_
        refine cmb rfl rfl rfl rfl .none ?_
        refine done ?_
        refine Wp.cond rfl (fun c2 => ?_) (fun c2 => ?_)
        · skip
          refine Wp.seq ?_
          refine reg ?_
          refine asg rfl rfl .none ?_
          refine done ?_
          refine Wp.ret ?_
          refine Ends.ret (.cons (.tmp rfl (Fz.pure rfl)) <|  .nil) ?_
          first | rfl | (exfalso; simp only [insLaw] at *; simp_all <;> omega) | (exfalso; simp only [insLaw] at *; cases hsq : signB q <;> simp_all <;> omega)
        · skip
          refine Wp.skip ?_
          refine reg ?_
          refine mv rfl rfl .none ?_
          refine ar _ rfl rfl rfl (wrapI (by first | omega | (simp at *; omega))) rfl .none ?_
          refine asg rfl rfl .none ?_
          refine done ?_
          refine ⟨x + 1, by first | omega | (simp at *; omega), by first | omega | (simp at *; omega), (by repeat (first | exact trivial | refine ⟨rfl, ?_⟩)), (by repeat (first | exact trivial | refine ⟨rfl, ?_⟩)), rfl⟩
      · skip
        refine mv rfl rfl (.want rfl rfl h40) ?_
        refine mv rfl rfl (.want rfl rfl h40) ?_
        refine ia x [.int .i32 q] rfl rfl rfl (rowI hq) rfl rfl (.want rfl rfl h40) ?_
        first | refine ld rfl rfl rfl rfl rfl (.want rfl rfl h40) ?_ | refine ldp rfl rfl rfl (.want rfl rfl h40) ?_
        refine cmp rfl rfl rfl rfl (.want rfl rfl h40) ?_
        refine mv rfl rfl (.want rfl rfl h40) ?_
        refine bcase 46 rfl (fun h46 => ?_) (fun h46 => ?_)
        · skip
          refine mv rfl rfl (.want rfl rfl h46) ?_
          refine mv rfl rfl (.want rfl rfl h46) ?_
          refine ia x [.int .i32 q] rfl rfl rfl (rowI hq) rfl rfl (.want rfl rfl h46) ?_
          first | refine ld rfl rfl rfl rfl rfl (.want rfl rfl h46) ?_ | refine ldp rfl rfl rfl (.want rfl rfl h46) ?_
          refine cmp rfl rfl rfl rfl (.want rfl rfl h46) ?_
          refine pkt rfl h46 rfl rfl (.want rfl rfl h40) ?_
          refine mv rfl rfl (.want rfl rfl h40) ?_
          refine bcase 53 rfl (fun h53 => ?_) (fun h53 => ?_)
          · skip
            refine mv rfl rfl (.want rfl rfl h53) ?_
            refine mv rfl rfl (.want rfl rfl h53) ?_
            refine ia x [.int .i32 q] rfl rfl rfl (rowI hq) rfl rfl (.want rfl rfl h53) ?_
            first | refine ld rfl rfl rfl rfl rfl (.want rfl rfl h53) ?_ | refine ldp rfl rfl rfl (.want rfl rfl h53) ?_
            refine cl rfl rfl f_glyphIs rfl rfl (.want rfl rfl h53) ?_
            refine pkt rfl h53 rfl rfl (.want rfl rfl h40) ?_
            refine pkf rfl h40 rfl rfl .none ?_
            refine asg rfl rfl .none ?_
            refine done ?_
            refine Wp.seq ?_
            refine reg ?_
            refine mv rfl rfl .none ?_
            refine mv rfl rfl .none ?_
            refine mv rfl rfl .none ?_
            refine mv rfl rfl .none ?_
            refine ia x [.int .i32 q] rfl rfl rfl (rowI hq) rfl rfl .none ?_
            first | refine ld rfl rfl rfl rfl rfl .none ?_ | refine ldp rfl rfl rfl .none ?_
            refine bd rfl rfl rfl .none ?_
            refine bs rfl rfl rfl rfl .none ?_
            refine cl rfl rfl (f_same (l := (insS 1 q).2) (m := [(2, 0, 0, q)]) (by have := insS_len q; omega)) rfl rfl .none ?_
            refine cmb rfl rfl rfl rfl .none ?_
            refine done ?_
            refine Wp.cond rfl (fun c3 => ?_) (fun c3 => ?_)
            · skip
              refine Wp.seq ?_
              refine reg ?_
              refine asg rfl rfl .none ?_
              refine done ?_
              refine Wp.ret ?_
              refine Ends.ret (.cons (.tmp rfl (Fz.pure rfl)) <|  .nil) ?_
              first | rfl | (exfalso; simp only [insLaw] at *; simp_all <;> omega) | (exfalso; simp only [insLaw] at *; cases hsq : signB q <;> simp_all <;> omega)
            · skip
              refine Wp.skip ?_
              refine reg ?_
              refine mv rfl rfl .none ?_
              refine ar _ rfl rfl rfl (wrapI (by first | omega | (simp at *; omega))) rfl .none ?_
              refine asg rfl rfl .none ?_
              refine done ?_
              refine ⟨x + 1, by first | omega | (simp at *; omega), by first | omega | (simp at *; omega), (by repeat (first | exact trivial | refine ⟨rfl, ?_⟩)), (by repeat (first | exact trivial | refine ⟨rfl, ?_⟩)), rfl⟩
          · skip
            refine sk rfl rfl h53 rfl ?_
            refine sk rfl rfl h53 rfl ?_
            refine sk rfl rfl h53 rfl ?_
            refine sk rfl rfl h53 rfl ?_
            refine sk rfl rfl h53 rfl ?_
            refine pkf rfl h53 rfl rfl (.want rfl rfl h40) ?_
            refine pkf rfl h40 rfl rfl .none ?_
            refine asg rfl rfl .none ?_
            refine done ?_
            refine Wp.seq ?_
            refine reg ?_
            refine mv rfl rfl .none ?_
            refine mv rfl rfl .none ?_
            refine mv rfl rfl .none ?_
            refine mv rfl rfl .none ?_
            refine ia x [.int .i32 q] rfl rfl rfl (rowI hq) rfl rfl .none ?_
            first | refine ld rfl rfl rfl rfl rfl .none ?_ | refine ldp rfl rfl rfl .none ?_
            refine bd rfl rfl rfl .none ?_
            refine bs rfl rfl rfl rfl .none ?_
            refine cl rfl rfl (f_same (l := (insS 1 q).2) (m := [(2, 0, 0, q)]) (by have := insS_len q; omega)) rfl rfl .none ?_
            refine cmb rfl rfl rfl rfl .none ?_
            refine done ?_
            refine Wp.cond rfl (fun c4 => ?_) (fun c4 => ?_)
            · skip
              refine Wp.seq ?_
              refine reg ?_
              refine asg rfl rfl .none ?_
              refine done ?_
              refine Wp.ret ?_
              refine Ends.ret (.cons (.tmp rfl (Fz.pure rfl)) <|  .nil) ?_
              first | rfl | (exfalso; simp only [insLaw] at *; simp_all <;> omega) | (exfalso; simp only [insLaw] at *; cases hsq : signB q <;> simp_all <;> omega)
            · skip
              refine Wp.skip ?_
              refine reg ?_
              refine mv rfl rfl .none ?_
              refine ar _ rfl rfl rfl (wrapI (by first | omega | (simp at *; omega))) rfl .none ?_
              refine asg rfl rfl .none ?_
              refine done ?_
              refine ⟨x + 1, by first | omega | (simp at *; omega), by first | omega | (simp at *; omega), (by repeat (first | exact trivial | refine ⟨rfl, ?_⟩)), (by repeat (first | exact trivial | refine ⟨rfl, ?_⟩)), rfl⟩
        · skip
          refine sk rfl rfl h46 rfl ?_
          refine sk rfl rfl h46 rfl ?_
          refine sk rfl rfl h46 rfl ?_
          refine sk rfl rfl h46 rfl ?_
          refine sk rfl rfl h46 rfl ?_
          refine pkf rfl h46 rfl rfl (.want rfl rfl h40) ?_
          refine mv rfl rfl (.want rfl rfl h40) ?_
          refine sk rfl rfl rfl rfl ?_
          refine sk rfl rfl rfl rfl ?_
          refine sk rfl rfl rfl rfl ?_
          refine sk rfl rfl rfl rfl ?_
          refine sk rfl rfl rfl rfl ?_
          refine pkf rfl rfl rfl rfl (.want rfl rfl h40) ?_
          refine pkf rfl h40 rfl rfl .none ?_
          refine asg rfl rfl .none ?_
          refine done ?_
          refine Wp.seq ?_
          refine reg ?_
          refine mv rfl rfl .none ?_
          refine mv rfl rfl .none ?_
          refine mv rfl rfl .none ?_
          refine mv rfl rfl .none ?_
          refine ia x [.int .i32 q] rfl rfl rfl (rowI hq) rfl rfl .none ?_
          first | refine ld rfl rfl rfl rfl rfl .none ?_ | refine ldp rfl rfl rfl .none ?_
          refine bd rfl rfl rfl .none ?_
          refine bs rfl rfl rfl rfl .none ?_
          refine cl rfl rfl (f_same (l := (insS 1 q).2) (m := [(2, 0, 0, q)]) (by have := insS_len q; omega)) rfl rfl .none ?_
          refine cmb rfl rfl rfl rfl .none ?_
          refine done ?_
          refine Wp.cond rfl (fun c5 => ?_) (fun c5 => ?_)
          · skip
            refine Wp.seq ?_
            refine reg ?_
            refine asg rfl rfl .none ?_
            refine done ?_
            refine Wp.ret ?_
            refine Ends.ret (.cons (.tmp rfl (Fz.pure rfl)) <|  .nil) ?_
            first | rfl | (exfalso; simp only [insLaw] at *; simp_all <;> omega) | (exfalso; simp only [insLaw] at *; cases hsq : signB q <;> simp_all <;> omega)
          · skip
            refine Wp.skip ?_
            refine reg ?_
            refine mv rfl rfl .none ?_
            refine ar _ rfl rfl rfl (wrapI (by first | omega | (simp at *; omega))) rfl .none ?_
            refine asg rfl rfl .none ?_
            refine done ?_
            refine ⟨x + 1, by first | omega | (simp at *; omega), by first | omega | (simp at *; omega), (by repeat (first | exact trivial | refine ⟨rfl, ?_⟩)), (by repeat (first | exact trivial | refine ⟨rfl, ?_⟩)), rfl⟩
    · skip
      refine Wp.exit ?_
      refine Wp.seq ?_
      refine reg ?_
      refine cl rfl rfl f_commanded rfl rfl .none ?_
      refine asg rfl rfl .none ?_
      refine done ?_
      refine Wp.ret ?_
      refine Ends.ret (.cons (.tmp rfl (Fz.pure rfl)) <|  .nil) ?_
      first | rfl | (exfalso; simp only [insLaw] at *; simp_all <;> omega) | (exfalso; simp only [insLaw] at *; cases hsq : signB q <;> simp_all <;> omega)
  · skip
    refine sk rfl rfl h15 rfl ?_
    refine sk rfl rfl h15 rfl ?_
    refine pkf rfl h15 rfl rfl .none ?_
    refine done ?_
    refine Wp.condF rfl rfl ?_
    refine Wp.exit ?_
    refine Wp.seq ?_
    refine reg ?_
    refine cl rfl rfl f_commanded rfl rfl .none ?_
    refine asg rfl rfl .none ?_
    refine done ?_
    refine Wp.ret ?_
    refine Ends.ret (.cons (.tmp rfl (Fz.pure rfl)) <|  .nil) ?_
    first | rfl | (exfalso; simp only [insLaw] at *; simp_all <;> omega) | (exfalso; simp only [insLaw] at *; cases hsq : signB q <;> simp_all <;> omega)

end Go.Proofs.Ytoleablcjdbeiaa