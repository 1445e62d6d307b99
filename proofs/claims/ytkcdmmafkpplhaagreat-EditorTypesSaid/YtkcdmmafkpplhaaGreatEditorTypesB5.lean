/- Own texts of this claim, laid together: E11, E12, E13, E15, E16, E17, SpK, E18, E19, E20, E21, E22, E23. -/
import Derived.Test.YtkcdmmafkpplhaaGreatEditorTypesB4
set_option linter.unusedVariables false
set_option linter.unusedSimpArgs false
/- Walks of layer 21: seek, Back, Fore, Prefix. -/
namespace Go.Proofs.YtkcdmmafkpplhaaGreat
open Go.RowKit Go.Shelf Go.Eng
attribute [local go_sem] Oper.semAt_some
theorem hit_none {t : Nat → Bool} {K : Nat} (h : ∀ x : Fin K, t x.val = false) : hitS t K = none := by
  unfold hitS; rw [List.find?_eq_none]; intro q hq; rw [h ⟨q, List.mem_range.1 hq⟩]; simp
theorem hit_some {t : Nat → Bool} {K : Nat} {ini : List (Fin K)} {x : Fin K} {q : Nat} (hq : q ≤ K) (h : ini ++ [x] = upto q) (h1 : ∀ y ∈ ini, t y.val = false) (h2 : t x.val = true) : hitS t K = some x.val := by
  cases q with
  | zero => simp [upto] at h
  | succ q =>
    rw [upto_succ hq] at h
    obtain ⟨rfl, e⟩ := List.append_inj' h rfl
    obtain rfl : x = ⟨q, hq⟩ := by simpa using e
    unfold hitS
    rw [List.find?_range_eq_some]
    refine ⟨h2, List.mem_range.2 hq, fun j hj => ?_⟩
    rw [h1 ⟨j, by omega⟩ (by unfold upto; rw [List.mem_take_iff_getElem]; exact ⟨j, by rw [List.length_finRange, Nat.min_eq_left (by omega)]; exact hj, by simp⟩)]; rfl
abbrev t3 (x : Int × Int × Int) : D := .tup [.int .i64 x.1, .int .i64 x.2.1, .int .i64 x.2.2]
theorem den_mono_list {H H' : GH} (hle : H.le H') {l : List D} {cs : Array Value} (h : ∀ (k : Nat) (d : D) (v : Value), l[k]? = some d → cs[k]? = some v → DenP H d v) : ∀ (k : Nat) (d : D) (v : Value), l[k]? = some d → cs[k]? = some v → DenP H' d v :=
  fun k d v h1 h2 => (h k d v h1 h2).mono hle
theorem rows_big' {H : GH} {d : D} {v : Value} (h : DenP H d v) : ∀ f l, d = .rows f l → l.length ≤ 9223372036854775807 := by
  cases h <;> intro f l e <;> cases e
  · simp
  · assumption
theorem rows_big {H : GH} {f : Bool} {l : List (List D)} {v : Value} (h : DenP H (.rows f l) v) : l.length ≤ 9223372036854775807 := rows_big' h _ _ rfl
theorem cellsAt {W : World} {b : Nat} {arr : Array Value} {t : TypeId} (h : W.heap[b]? = some (.cells arr t (0, 0))) (i : Nat) : W.cell? ⟨b, i, none⟩ = arr[i]? := by simp [World.cell?, h]
theorem frozAt {W : World} {b : Nat} {arr : Array Value} {t : TypeId} (h : W.heap[b]? = some (.cells arr t (0, 0))) (i : Nat) : W.frozen? ⟨b, i, none⟩ = false := by simp [World.frozen?, h]
theorem heapOn {W : World} {b : Nat} {o : Obj} (h : W.heap[b]? = some o) (o' : Obj) : (W.alloc o').heap[b]? = some o := (Below.heap_alloc W o' b (Array.getElem?_eq_some_iff.1 h).1).trans h
theorem heapNew (W : World) (o : Obj) {b : Nat} (hb : b = W.heap.size) : (W.alloc o).heap[b]? = some o := by subst hb; exact World.alloc_heap_new W o
theorem den1 {H : GH} {d : D} {v : Value} (h : DenP H d v) : ∀ (q : Nat) (d' : D) (v' : Value), [d][q]? = some d' → #[v][q]? = some v' → DenP H d' v'
  | 0, _, _, h1, h2 => by cases h1; cases h2; exact h
  | q + 1, _, _, h1, _ => by simp at h1
theorem den2 {H : GH} {d e : D} {v u : Value} (h : DenP H d v) (h' : DenP H e u) : ∀ (q : Nat) (d' : D) (v' : Value), [d, e][q]? = some d' → #[v, u][q]? = some v' → DenP H d' v'
  | 0, _, _, h1, h2 => by cases h1; cases h2; exact h
  | 1, _, _, h1, h2 => by cases h1; cases h2; exact h'
  | q + 2, _, _, h1, _ => by simp at h1
/-- What is known of a slice of lines. -/
theorem rlL_inv {H : GH} {k : List (List Int)} {v : Value} (h : DenP H (rlL k) v) : ∃ a cap b off arr ty fz, v = .slice a k.length cap ∧ k.length ≤ 9223372036854775807 ∧
    (k ≠ [] → a = some ⟨b, off, none⟩ ∧ H b = some (.cells arr ty fz) ∧ off + k.length ≤ arr.size) ∧ ∀ j, j < k.length → ∃ u, arr[off + j]? = some u ∧ DenP H (rl (k.getD j [])) u := by
  obtain ⟨a, cap, rfl, -, -, h4⟩ := (Den.pure (ρ := fun _ => ⟨0, 0, 0, false⟩) h).rows_inv
  have hbig := rows_big h
  rw [List.length_map] at hbig ⊢
  by_cases hk : k = []
  · subst hk; exact ⟨a, cap, 0, 0, #[], 0, (0, 0), rfl, hbig, fun h => absurd rfl h, fun j hj => absurd hj (by simp)⟩
  · obtain ⟨b, off, sz, arr, ty, fz, rfl, hb, hsz, hin, he⟩ := h4 (by simpa using hk)
    obtain ⟨x, r, rfl⟩ : ∃ x r, k = x :: r := by cases k with | nil => exact absurd rfl hk | cons x r => exact ⟨x, r, rfl⟩
    obtain rfl : sz = 1 := (hsz (rowC x) (by simp)).symm
    rw [List.length_map, Nat.mul_one] at hin
    refine ⟨_, cap, b, off, arr, ty, fz, rfl, hbig, fun _ => ⟨rfl, hb, hin⟩, fun j hj => ?_⟩
    have hlt : off + j < arr.size := by omega
    refine ⟨arr[off + j], by simp [hlt], ?_⟩
    exact he j 0 (rowC ((x :: r).getD j [])) (rl ((x :: r).getD j [])) arr[off + j] (by rw [List.getElem?_map, List.getElem?_eq_getElem hj]; exact congrArg (fun z => some (rowC z)) (by simp [List.getD, List.getElem?_eq_getElem hj])) rfl (by simp [hlt])
structure Fr (w : World) (c0 c1 c2 v1 : Value) (w' : World) : Prop where
  below : Below w.heap.size w w'
  sz : w.heap.size + 5 ≤ w'.heap.size
  p0 : w'.cell? ⟨w.heap.size, 0, none⟩ = some c0
  p1 : w'.cell? ⟨w.heap.size, 1, none⟩ = some c1
  p2 : w'.cell? ⟨w.heap.size, 2, none⟩ = some c2
  pt : w'.cell? ⟨w.heap.size + 1, 0, none⟩ = some v1
  r1 : w'.cell? ⟨w.heap.size + 1 + 1, 0, none⟩ = some (.int .i64 0)
  r2 : w'.cell? ⟨w.heap.size + 1 + 1 + 1, 0, none⟩ = some (.int .i64 0)
  r3 : w'.cell? ⟨w.heap.size + 1 + 1 + 1 + 1, 0, none⟩ = some (.int .i64 0)
  f1 : w'.frozen? ⟨w.heap.size + 1 + 1, 0, none⟩ = false
  f2 : w'.frozen? ⟨w.heap.size + 1 + 1 + 1, 0, none⟩ = false
  f3 : w'.frozen? ⟨w.heap.size + 1 + 1 + 1 + 1, 0, none⟩ = false
theorem Fr.next {w w' w'' : World} {c0 c1 c2 v1 : Value} (h : Fr w c0 c1 c2 v1 w') (hb : Below w'.heap.size w' w'') : Fr w c0 c1 c2 v1 w'' := by
  have hs := h.sz
  refine ⟨h.below.trans (hb.mono (by omega)), Nat.le_trans hs hb.size, (hb.cell ?_).trans h.p0, (hb.cell ?_).trans h.p1, (hb.cell ?_).trans h.p2, (hb.cell ?_).trans h.pt, (hb.cell ?_).trans h.r1, (hb.cell ?_).trans h.r2, (hb.cell ?_).trans h.r3,
    (hb.frozen ?_).trans h.f1, (hb.frozen ?_).trans h.f2, (hb.frozen ?_).trans h.f3⟩ <;> (show _ < _; simp only; omega)
theorem Fr.kept {w A B : World} {row : Option Nat} {c0 c1 c2 v1 : Value} (h : Fr w c0 c1 c2 v1 A) (hg : A.grownBy B row) (hr : ∀ r, row = some r → w.heap.size ≤ r ∧ ∃ o : Obj, A.heap[r]? = some o ∧ o.isCells = false) : Fr w c0 c1 c2 v1 B := by
  have hr' := fun r e => (hr r e).2
  exact ⟨h.below.grown hg h.below.size (fun k e => (hr k e).1), Nat.le_trans h.sz hg.size, cell_kept h.p0 hg hr', cell_kept h.p1 hg hr', cell_kept h.p2 hg hr', cell_kept h.pt hg hr', cell_kept h.r1 hg hr', cell_kept h.r2 hg hr', cell_kept h.r3 hg hr',
    (frozen_kept h.r1 hg hr').trans h.f1, (frozen_kept h.r2 hg hr').trans h.f2, (frozen_kept h.r3 hg hr').trans h.f3⟩
theorem Behind.below {w w' : World} {H H' : GH} (h : Behind w H H' w') : Below w.heap.size w w' := ⟨h.os, h.tape, h.output, h.size, h.frame⟩
theorem Below.behind {w w' : World} {H : GH} (h : Below w.heap.size w w') (hp : ∀ b o, H b = some o → w.heap[b]? = some o) : Behind w H H w' :=
  ⟨GH.le_refl _, fun b o hb => (h.block b (Array.getElem?_eq_some_iff.1 (hp b o hb)).1).trans (hp b o hb), fun _ _ h => .inl h, h.size, h.block, h.os, h.tape, h.output⟩
theorem Fr.init (w : World) (c0 c1 c2 v1 : Value) : Fr w c0 c1 c2 v1 (((((w.alloc (.cells #[c0, c1, c2] 39)).alloc (.cells #[v1] 23)).alloc (.cells #[.int .i64 0] 3)).alloc (.cells #[.int .i64 0] 3)).alloc (.cells #[.int .i64 0] 47)) := by
  have hB : Below w.heap.size w (((((w.alloc (.cells #[c0, c1, c2] 39)).alloc (.cells #[v1] 23)).alloc (.cells #[.int .i64 0] 3)).alloc (.cells #[.int .i64 0] 3)).alloc (.cells #[.int .i64 0] 47)) :=
    (((((Below.refl _ w).alloc (Nat.le_refl _) _).alloc (by simp) _).alloc (by simp; omega) _).alloc (by simp; omega) _).alloc (by simp; omega) _
  have h0 := heapOn (heapOn (heapOn (heapOn (heapNew w (.cells #[c0, c1, c2] 39) rfl) (.cells #[v1] 23)) (.cells #[.int .i64 0] 3)) (.cells #[.int .i64 0] 3)) (.cells #[.int .i64 0] 47)
  have h1 := heapOn (heapOn (heapOn (heapNew (w.alloc (.cells #[c0, c1, c2] 39)) (.cells #[v1] 23) (b := w.heap.size + 1) (by simp)) (.cells #[.int .i64 0] 3)) (.cells #[.int .i64 0] 3)) (.cells #[.int .i64 0] 47)
  have h2 := heapOn (heapOn (heapNew ((w.alloc (.cells #[c0, c1, c2] 39)).alloc (.cells #[v1] 23)) (.cells #[.int .i64 0] 3) (b := w.heap.size + 1 + 1) (by simp)) (.cells #[.int .i64 0] 3)) (.cells #[.int .i64 0] 47)
  have h3 := heapOn (heapNew (((w.alloc (.cells #[c0, c1, c2] 39)).alloc (.cells #[v1] 23)).alloc (.cells #[.int .i64 0] 3)) (.cells #[.int .i64 0] 3) (b := w.heap.size + 1 + 1 + 1) (by simp)) (.cells #[.int .i64 0] 47)
  have h4 := heapNew ((((w.alloc (.cells #[c0, c1, c2] 39)).alloc (.cells #[v1] 23)).alloc (.cells #[.int .i64 0] 3)).alloc (.cells #[.int .i64 0] 3)) (.cells #[.int .i64 0] 47) (b := w.heap.size + 1 + 1 + 1 + 1) (by simp)
  exact ⟨hB, by simp, cellsAt h0 0, cellsAt h0 1, cellsAt h0 2, cellsAt h1 0, cellsAt h2 0, cellsAt h3 0, cellsAt h4 0, frozAt h2 0, frozAt h3 0, frozAt h4 0⟩
/-- The three result cells are set. -/
structure Set3 (w W W' : World) (x y z : Int) : Prop where
  below : Below w.heap.size w W'
  keeps : KeepsOthers W W'
  r1 : W'.cell? ⟨w.heap.size + 1 + 1, 0, none⟩ = some (.int .i64 x)
  r2 : W'.cell? ⟨w.heap.size + 1 + 1 + 1, 0, none⟩ = some (.int .i64 y)
  r3 : W'.cell? ⟨w.heap.size + 1 + 1 + 1 + 1, 0, none⟩ = some (.int .i64 z)
theorem Fr.set3 {w W : World} {c0 c1 c2 v1 : Value} (h : Fr w c0 c1 c2 v1 W) (x y z : Int) : Set3 w W (((W.setCell ⟨w.heap.size + 1 + 1, 0, none⟩ (.int .i64 x)).setCell ⟨w.heap.size + 1 + 1 + 1, 0, none⟩ (.int .i64 y)).setCell ⟨w.heap.size + 1 + 1 + 1 + 1, 0, none⟩ (.int .i64 z)) x y z := by
  have e1 := World.cell?_setCell_same' W ⟨w.heap.size + 1 + 1, 0, none⟩ (.int .i64 x) (by rw [h.r1]; rfl)
  have n1 : ∀ {A : World} {i j : Nat} {v : Value}, i ≠ j → (A.setCell ⟨i, 0, none⟩ v).cell? ⟨j, 0, none⟩ = A.cell? ⟨j, 0, none⟩ := fun hij => World.cell?_setCell_other _ _ _ _ (fun e => hij (by cases e; rfl))
  have e2 := World.cell?_setCell_same' (W.setCell ⟨w.heap.size + 1 + 1, 0, none⟩ (.int .i64 x)) ⟨w.heap.size + 1 + 1 + 1, 0, none⟩ (.int .i64 y) (by rw [n1 (by omega), h.r2]; rfl)
  refine ⟨((h.below.setCell (p := ⟨w.heap.size + 1 + 1, 0, none⟩) (by show _ ≤ _; simp only; omega) _).setCell (p := ⟨w.heap.size + 1 + 1 + 1, 0, none⟩) (by show _ ≤ _; simp only; omega) _).setCell (p := ⟨w.heap.size + 1 + 1 + 1 + 1, 0, none⟩) (by show _ ≤ _; simp only; omega) _,
    ((KeepsOthers.setCell _ _ _).trans (KeepsOthers.setCell _ _ _)).trans (KeepsOthers.setCell _ _ _), ?_, ?_, ?_⟩
  · rw [n1 (by omega), n1 (by omega), e1]
  · rw [n1 (by omega), e2]
  · exact World.cell?_setCell_same' _ _ _ (by rw [n1 (by omega), n1 (by omega), h.r3]; rfl)
theorem t3_den {H : GH} (x y z : Int) : DenP H (t3 (x, y, z)) (.tuple #[.int .i64 x, .int .i64 y, .int .i64 z]) := by
  refine .tup _ _ rfl fun q d v h1 h2 => ?_
  match q, h1, h2 with
  | 0, h1, h2 => cases h1; cases h2; exact .int _ _
  | 1, h1, h2 => cases h1; cases h2; exact .int _ _
  | 2, h1, h2 => cases h1; cases h2; exact .int _ _
theorem Behind.keeps {w w' : World} {H H' : GH} (h : Behind w H H' w') : KeepsOthers w w' := ⟨h.size, fun k o hk _ => (h.frame k (Array.getElem?_eq_some_iff.1 hk).1).trans hk⟩
theorem Below.new {w : World} (o : Obj) : Below w.heap.size w (w.alloc o) := (Below.refl _ w).alloc (Nat.le_refl _) o


set_option maxRecDepth 100000 in
set_option maxHeartbeats 4000000 in
theorem f_seek {room dup : Int} {k : List (List Int)} {pat : List Int} {fr by_ : Int} {K : Nat} (hby : by_ = 1 ∨ by_ = -1) (hK : ∀ q < K, 0 ≤ fr + by_ * q ∧ fr + by_ * q < k.length) (hK2 : ¬ (0 ≤ fr + by_ * K ∧ fr + by_ * K < k.length)) :
    FnP PP 138 [.agg [.int .i64 room, .int .i64 dup, rlL k], rl pat, .int .i64 fr, .int .i64 by_] (t3 (seekS ⟨room, dup, k⟩ pat fr by_ K)) := by
  refine ⟨⟨_, Tryz.func138, by kernel_rfl, by kernel_rfl⟩, fun w H vs hpers hsz hden => ?_⟩
  obtain ⟨v0, v1, v2, v3, rfl⟩ : ∃ v0 v1 v2 v3, vs = #[v0, v1, v2, v3] := by
    obtain ⟨l⟩ := vs
    match l, hsz with
    | [a, b, c, d], _ => exact ⟨a, b, c, d, rfl⟩
  have d0 := hden 0 _ v0 rfl rfl
  have d1 := hden 1 _ v1 rfl rfl
  cases hden 2 _ v2 rfl rfl
  cases hden 3 _ v3 rfl rfl
  have d0' := d0
  cases d0' with | agg _ cs hs hc => ?_
  obtain ⟨c0, c1, c2, rfl⟩ : ∃ c0 c1 c2, cs = #[c0, c1, c2] := by
    obtain ⟨l⟩ := cs
    match l, hs with
    | [a, b, c], _ => exact ⟨a, b, c, rfl⟩
  cases hc 0 _ c0 rfl rfl
  cases hc 1 _ c1 rfl rfl
  obtain ⟨a, cap, b, off, arr, ty, fz, rfl, hbig, hk1, hk2⟩ := rlL_inv (hc 2 _ c2 rfl rfl)
  have d1' := d1
  obtain ⟨pa, pc, hp1, -, -, -⟩ := (Den.pure (ρ := fun _ => ⟨0, 0, 0, false⟩) d1).rows_inv
  rw [List.length_map] at hp1
  subst hp1
  clear hden hsz hs hc d1'
  refine (callsIn_wide (n := 3)).1 ?_
  refine callsIn_of_wp_marks Tryz.func138 rfl trivial ?_ rfl
  simp only [Tryz.ntmps138, List.size_toArray, List.length_cons, List.length_nil, Nat.reduceAdd, Nat.reduceSub, Array.replicate_succ, Array.replicate_zero, List.push_toArray, List.append_toArray, List.nil_append, List.cons_append]
  have hP : ∀ w', Below w.heap.size w w' → ∀ b o, H b = some o → w'.heap[b]? = some o := fun w' hB b o hb => (hB.block b (Array.getElem?_eq_some_iff.1 (hpers b o hb)).1).trans (hpers b o hb)
  have F0 := Fr.init w (.int .i64 room) (.int .i64 dup) (.slice a k.length cap) (.slice pa pat.length pc)
  gi_wp2_with (refine ⟨trivial, ?_⟩; gi_at_call 45; refine (callsIn_wide.2 ((f_pastIs (room := room) (dup := dup) (k := k)).run _ H _ (hP _ F0.below) rfl (den1 d0))).mono ?_; rintro e w1 ⟨v, H1, rfl, hv, hb1⟩; cases hv; have F1 := F0.next (Behind.below hb1); have p0 := F1.p0; have p1 := F1.p1; have p2 := F1.p2; have pt := F1.pt; have r1 := F1.r1; have r2 := F1.r2; have r3 := F1.r3; have f1 := F1.f1; have f2 := F1.f2; have f3 := F1.f3)
  · rename_i hp
    have S3 := F1.set3 0 0 1
    refine ⟨.tuple #[.int .i64 0, .int .i64 0, .int .i64 1], ?_, _, H, rfl, ?_, Below.behind S3.below hpers⟩
    · simp [results, Tryz.f138, go_sem, S3.r1, S3.r2, S3.r3]
    · unfold seekS; rw [if_pos (by simpa using hp)]; exact t3_den _ _ _
  · rename_i hp hq
    have S3 := F1.set3 0 0 6
    refine ⟨.tuple #[.int .i64 0, .int .i64 0, .int .i64 6], ?_, _, H, rfl, ?_, Below.behind S3.below hpers⟩
    · simp [results, Tryz.f138, go_sem, S3.r1, S3.r2, S3.r3]
    · unfold seekS; rw [if_neg (by simpa using hp), if_pos (by simpa using hq)]; exact t3_den _ _ _
  · have hq : ((pat.length : Int) == 0) = false := by assumption
    have hp : (!pastIs ⟨room, dup, k⟩) = false := by assumption
    have hq' : ¬ pat.length = 0 := by simpa using hq
    have hp' : ¬ pastIs ⟨room, dup, k⟩ = false := by simpa using hp
    refine ⟨trivial, ?_⟩
    refine (lines_in Fence.wide 2 trivial rfl _ _ _ _ _ _).mono ?_
    rintro e w2 ⟨rfl, hw2⟩
    have hsz2 : w2.heap.size = w1.heap.size + 3 := by rw [hw2]; simp
    have hB2 : Below w1.heap.size w1 w2 := by rw [hw2]; exact ((Below.new _).alloc (by simp) _).alloc (by simp; omega) _
    have F2 := F1.next hB2
    have hb0 := heapOn (heapOn (heapNew w1 (.cells #[.int .i64 room, .int .i64 dup, .slice a k.length cap] 39) rfl) (.cells #[.int .i64 fr] 3)) (.cells #[.int .i64 by_] 3)
    have hb1 := heapOn (heapNew (w1.alloc (.cells #[.int .i64 room, .int .i64 dup, .slice a k.length cap] 39)) (.cells #[.int .i64 fr] 3) (b := w1.heap.size + 1) (by simp)) (.cells #[.int .i64 by_] 3)
    have hb2 := heapNew ((w1.alloc (.cells #[.int .i64 room, .int .i64 dup, .slice a k.length cap] 39)).alloc (.cells #[.int .i64 fr] 3)) (.cells #[.int .i64 by_] 3) (b := w1.heap.size + 2) (by simp)
    rw [← hw2] at hb0 hb1 hb2
    clear hw2 r1 r2 r3 f1 f2 f3 p0 p1 p2 pt
    have hlt : ∀ (x : Fin K), (fr + by_ * (x.val : Int)).toNat < k.length := fun x => by have := hK x.val x.isLt; omega
    have hne : 0 < K → k ≠ [] := fun h e => by have := hlt ⟨0, h⟩; rw [e] at this; simp at this
    have hrow : ∀ x : Fin K, DenP H (rl (k.getD (fr + by_ * (x.val : Int)).toNat [])) ((arr[off + (fr + by_ * (x.val : Int)).toNat]?).getD undef) := fun x => by
      obtain ⟨u, hu, hd⟩ := hk2 _ (hlt x); rw [hu]; exact hd
    gi_wp2
    refine wpIn_rangeFunc_ownG rfl (by omega) (gf := 176) (lb := #[.pointer (some ⟨w1.heap.size + 1, 0, none⟩), .pointer (some ⟨w1.heap.size, 0, none⟩), .pointer (some ⟨w1.heap.size + 2, 0, none⟩)]) rfl trivial (enters_of Tryz.func176 (by kernel_rfl) rfl)
      (lines_stops Fence.wide _ trivial rfl (by omega) w1.heap.size (w1.heap.size + 1) (w1.heap.size + 2) w2.heap.size b off k.length cap K a fr by_ (fun j => (arr[off + j]?).getD undef) hby hbig hK hK2 (fun h => ⟨(hk1 (hne h)).1, by have := (Array.getElem?_eq_some_iff.1 (hpers _ _ (hk1 (hne h)).2.1)).1; have := F2.sz; omega⟩)
        w2 (Nat.le_refl _) (by omega) (by omega) (by omega) (cellsAt hb1 0) (cellsAt hb0 2) (cellsAt hb2 0) (fun j h hj => by have hc := hP w2 F2.below _ _ (hk1 (hne h)).2.1; obtain ⟨u, hu, -⟩ := hk2 j hj; simp [World.cell?, hc, hu]))
      belowK_t (belowK_b (Nat.le_refl _)) (Below.refl _ _) (fun _ => rfl)
      (fun pre W => Fr w (.int .i64 room) (.int .i64 dup) (.slice a k.length cap) (.slice pa pat.length pc) W ∧ w2.heap.size ≤ W.heap.size ∧ ∀ y ∈ pre, seekT ⟨room, dup, k⟩ pat fr by_ y.val = false)
      (fun c pre W => c = .ret ∧ ∃ ini y, pre = ini ++ [y] ∧ (∀ z ∈ ini, seekT ⟨room, dup, k⟩ pat fr by_ z.val = false) ∧ seekT ⟨room, dup, k⟩ pat fr by_ y.val = true ∧ Below w.heap.size w W ∧
        W.cell? ⟨w.heap.size + 1 + 1, 0, none⟩ = some (.int .i64 (fr + by_ * (y.val : Int))) ∧ W.cell? ⟨w.heap.size + 1 + 1 + 1, 0, none⟩ = some (.int .i64 (placeOf (k.getD (fr + by_ * (y.val : Int)).toNat []) pat)) ∧ W.cell? ⟨w.heap.size + 1 + 1 + 1 + 1, 0, none⟩ = some (.int .i64 0))
      (fun s A B row hs hg hr => ⟨hs.1.kept hg (fun r e => ⟨by have := F2.sz; have := (hr r e).1; omega, (hr r e).2⟩), Nat.le_trans hs.2.1 hg.size, hs.2.2⟩)
      (fun c s A B row hs hg hr => by
        obtain ⟨hc, ini, y, e1, e2, e3, e4, e5, e6, e7⟩ := hs
        have hr' := fun r e => (hr r e).2
        exact ⟨hc, ini, y, e1, e2, e3, e4.grown hg e4.size (fun r e => by have := F2.sz; have := (hr r e).1; omega), cell_kept e5 hg hr', cell_kept e6 hg hr', cell_kept e7 hg hr'⟩)
      ⟨F2, Nat.le_refl _, by simp⟩
      (fun x => { tmps := #[.agg #[.int .i64 room, .int .i64 dup, .slice a k.length cap], .slice pa pat.length pc, .int .i64 fr, .int .i64 by_, .pointer (some ⟨w.heap.size, 0, none⟩), .pointer (some ⟨w.heap.size + 1, 0, none⟩), undef, undef, .pointer (some ⟨w.heap.size + 1 + 1, 0, none⟩), .pointer (some ⟨w.heap.size + 1 + 1 + 1, 0, none⟩), .pointer (some ⟨w.heap.size + 1 + 1 + 1 + 1, 0, none⟩),
        .int .i64 (fr + by_ * (x.val : Int)), (fun j => (arr[off + j]?).getD undef) (fr + by_ * (x.val : Int)).toNat, undef, .bool false, .agg #[.int .i64 room, .int .i64 dup, .slice a k.length cap], .bool true, .bool false, .bool false, .slice pa pat.length pc, .int .i64 (pat.length : Int), .bool false, .agg #[.int .i64 room, .int .i64 dup, .slice a k.length cap], .int .i64 fr, .int .i64 by_,
        .func (.func 176) #[] #[.pointer (some ⟨w1.heap.size + 1, 0, none⟩), .pointer (some ⟨w1.heap.size, 0, none⟩), .pointer (some ⟨w1.heap.size + 2, 0, none⟩)], .int .i64 (fr + by_ * (x.val : Int)), (fun j => (arr[off + j]?).getD undef) (fr + by_ * (x.val : Int)).toNat, undef, undef, undef, undef, undef, undef, undef], defers := [] }) ?assign ?body ?done ?stop
    case assign =>
      intro l x W K hK
      gi_wp2
      exact hK
    case body =>
      rintro l pre x W ⟨hF, hsz, hpre⟩ _
      have pt := hF.pt
      have hr := hrow x
      obtain ⟨u, hu⟩ : ∃ u, (arr[off + (fr + by_ * (x.val : Int)).toNat]?).getD undef = u := ⟨_, rfl⟩
      rw [hu] at hr
      obtain ⟨i, hi⟩ : ∃ i, fr + by_ * (x.val : Int) = i := ⟨_, rfl⟩
      have ht : seekT ⟨room, dup, k⟩ pat fr by_ x.val = decide (0 ≤ placeOf (k.getD i.toNat []) pat) := by rw [← hi]; rfl
      rw [hi] at hu hr
      simp only [hi, hu]
      gi_wp2_with (refine ⟨trivial, ?_⟩; gi_at_call 87; refine (CallsIn.inRound l (callsIn_wide.2 ((f_place (l := k.getD i.toNat []) (pat := pat)).run _ H _ (hP _ hF.below) rfl (den2 hr d1)))).mono ?_; rintro e w3 ⟨v, H3, rfl, hv, hb3⟩; cases hv; have F3 := hF.next (Behind.below hb3); have r1 := F3.r1; have r2 := F3.r2; have r3 := F3.r3; have f1 := F3.f1; have f2 := F3.f2; have f3 := F3.f3)
      · have hx : 0 ≤ placeOf (k.getD i.toNat []) pat := by assumption
        have S3 := F3.set3 i (placeOf (k.getD i.toNat []) pat) 0
        exact ⟨((Behind.keeps hb3).trans S3.keeps).from _, rfl, pre, x, rfl, hpre, by rw [ht, decide_eq_true hx], S3.below, by rw [hi]; exact S3.r1, by rw [hi]; exact S3.r2, S3.r3⟩
      · have hx : ¬ 0 ≤ placeOf (k.getD i.toNat []) pat := by simp only [List.getD_eq_getElem?_getD]; omega
        exact ⟨(Behind.keeps hb3).from _, (Behind.below hb3).mono hsz, F3, Nat.le_trans hsz hb3.size, fun y hy => (List.mem_append.1 hy).elim (hpre y) (fun e => by simp at e; subst e; rw [ht, decide_eq_false hx])⟩
    case done =>
      rintro D ys W hD hall ⟨hF, hsz, hno⟩ hKD
      have r1 := hF.r1
      have r2 := hF.r2
      have r3 := hF.r3
      have f1 := hF.f1
      have f2 := hF.f2
      have f3 := hF.f3
      gi_wp2
      have S3 := hF.set3 0 0 7
      have hK' := S3.keeps.same D _ hKD rfl
      have hg := fun W' => grownBy_putObj' W' D (.deferred none)
      have c1 := cell_kept S3.r1 (hg _) (fun r e => by cases e; exact ⟨_, hK', rfl⟩)
      have c2 := cell_kept S3.r2 (hg _) (fun r e => by cases e; exact ⟨_, hK', rfl⟩)
      have c3 := cell_kept S3.r3 (hg _) (fun r e => by cases e; exact ⟨_, hK', rfl⟩)
      refine ⟨by simp, .inl ⟨_, _, rfl, run_takeDeferred hK', ?_⟩⟩
      refine ⟨.tuple #[.int .i64 0, .int .i64 0, .int .i64 7], ?_, _, H, rfl, ?_, Below.behind (S3.below.trans (belowK_b (w := w) (Nat.le_refl _) _ D _ _ (by have := F2.sz; omega) hK' rfl rfl)) hpers⟩
      · simp [results, Tryz.f138, go_sem, c1, c2, c3]
      · unfold seekS; rw [if_neg hp', if_neg hq', hit_none (fun x => hno x (hall x))]; exact t3_den _ _ _
    case stop =>
      rintro D c pre W hD ⟨q, hq, rfl⟩ ⟨rfl, ini, y, e1, e2, e3, e4, e5, e6, e7⟩ hKD
      gi_wp2
      have hg := grownBy_putObj' W D (.deferred none)
      have hr' : ∀ r, some D = some r → ∃ o : Obj, W.heap[r]? = some o ∧ o.isCells = false := fun r e => by cases e; exact ⟨_, hKD, rfl⟩
      have c1 := cell_kept e5 hg hr'
      have c2 := cell_kept e6 hg hr'
      have c3 := cell_kept e7 hg hr'
      refine ⟨by simp, .inl ⟨_, _, rfl, run_takeDeferred hKD, ?_⟩⟩
      refine ⟨.tuple #[.int .i64 (fr + by_ * (y.val : Int)), .int .i64 (placeOf (k.getD (fr + by_ * (y.val : Int)).toNat []) pat), .int .i64 0], ?_, _, H, rfl, ?_, Below.behind (e4.trans (belowK_b (w := w) (Nat.le_refl _) _ D _ _ (by have := F2.sz; omega) hKD rfl rfl)) hpers⟩
      · simp [results, Tryz.f138, go_sem, c1, c2, c3]
      · unfold seekS; rw [if_neg hp', if_neg hq', hit_some hq e1.symm e2 e3]; exact t3_den _ _ _

end Go.Proofs.YtkcdmmafkpplhaaGreat
/- Walks of layer 21: Prefix. -/
namespace Go.Proofs.YtkcdmmafkpplhaaGreat
open Go.RowKit Go.Shelf Go.Eng
attribute [local go_sem] Oper.semAt_some
structure Gr (w : World) (c0 c1 c2 v1 : Value) (w' : World) : Prop where
  below : Below w.heap.size w w'
  sz : w.heap.size + 4 ≤ w'.heap.size
  p0 : w'.cell? ⟨w.heap.size, 0, none⟩ = some c0
  p1 : w'.cell? ⟨w.heap.size, 1, none⟩ = some c1
  p2 : w'.cell? ⟨w.heap.size, 2, none⟩ = some c2
  pt : w'.cell? ⟨w.heap.size + 1, 0, none⟩ = some v1
  r1 : w'.cell? ⟨w.heap.size + 1 + 1, 0, none⟩ = some (.int .i64 0)
  r2 : w'.cell? ⟨w.heap.size + 1 + 1 + 1, 0, none⟩ = some (.int .i64 0)
  f1 : w'.frozen? ⟨w.heap.size + 1 + 1, 0, none⟩ = false
  f2 : w'.frozen? ⟨w.heap.size + 1 + 1 + 1, 0, none⟩ = false
theorem Gr.next {w w' w'' : World} {c0 c1 c2 v1 : Value} (h : Gr w c0 c1 c2 v1 w') (hb : Below w'.heap.size w' w'') : Gr w c0 c1 c2 v1 w'' := by
  have hs := h.sz
  refine ⟨h.below.trans (hb.mono (by omega)), Nat.le_trans hs hb.size, (hb.cell ?_).trans h.p0, (hb.cell ?_).trans h.p1, (hb.cell ?_).trans h.p2, (hb.cell ?_).trans h.pt, (hb.cell ?_).trans h.r1, (hb.cell ?_).trans h.r2,
    (hb.frozen ?_).trans h.f1, (hb.frozen ?_).trans h.f2⟩ <;> (show _ < _; simp only; omega)
theorem Gr.kept {w A B : World} {row : Option Nat} {c0 c1 c2 v1 : Value} (h : Gr w c0 c1 c2 v1 A) (hg : A.grownBy B row) (hr : ∀ r, row = some r → w.heap.size ≤ r ∧ ∃ o : Obj, A.heap[r]? = some o ∧ o.isCells = false) : Gr w c0 c1 c2 v1 B := by
  have hr' := fun r e => (hr r e).2
  exact ⟨h.below.grown hg h.below.size (fun k e => (hr k e).1), Nat.le_trans h.sz hg.size, cell_kept h.p0 hg hr', cell_kept h.p1 hg hr', cell_kept h.p2 hg hr', cell_kept h.pt hg hr', cell_kept h.r1 hg hr', cell_kept h.r2 hg hr',
    (frozen_kept h.r1 hg hr').trans h.f1, (frozen_kept h.r2 hg hr').trans h.f2⟩
theorem Gr.init (w : World) (c0 c1 c2 v1 : Value) : Gr w c0 c1 c2 v1 ((((w.alloc (.cells #[c0, c1, c2] 39)).alloc (.cells #[v1] 23)).alloc (.cells #[.int .i64 0] 3)).alloc (.cells #[.int .i64 0] 47)) := by
  have hB : Below w.heap.size w ((((w.alloc (.cells #[c0, c1, c2] 39)).alloc (.cells #[v1] 23)).alloc (.cells #[.int .i64 0] 3)).alloc (.cells #[.int .i64 0] 47)) :=
    ((((Below.refl _ w).alloc (Nat.le_refl _) _).alloc (by simp) _).alloc (by simp; omega) _).alloc (by simp; omega) _
  have h0 := heapOn (heapOn (heapOn (heapNew w (.cells #[c0, c1, c2] 39) rfl) (.cells #[v1] 23)) (.cells #[.int .i64 0] 3)) (.cells #[.int .i64 0] 47)
  have h1 := heapOn (heapOn (heapNew (w.alloc (.cells #[c0, c1, c2] 39)) (.cells #[v1] 23) (b := w.heap.size + 1) (by simp)) (.cells #[.int .i64 0] 3)) (.cells #[.int .i64 0] 47)
  have h2 := heapOn (heapNew ((w.alloc (.cells #[c0, c1, c2] 39)).alloc (.cells #[v1] 23)) (.cells #[.int .i64 0] 3) (b := w.heap.size + 1 + 1) (by simp)) (.cells #[.int .i64 0] 47)
  have h3 := heapNew (((w.alloc (.cells #[c0, c1, c2] 39)).alloc (.cells #[v1] 23)).alloc (.cells #[.int .i64 0] 3)) (.cells #[.int .i64 0] 47) (b := w.heap.size + 1 + 1 + 1) (by simp)
  exact ⟨hB, by simp, cellsAt h0 0, cellsAt h0 1, cellsAt h0 2, cellsAt h1 0, cellsAt h2 0, cellsAt h3 0, frozAt h2 0, frozAt h3 0⟩
structure Set2 (w W W' : World) (x y : Int) : Prop where
  below : Below w.heap.size w W'
  keeps : KeepsOthers W W'
  r1 : W'.cell? ⟨w.heap.size + 1 + 1, 0, none⟩ = some (.int .i64 x)
  r2 : W'.cell? ⟨w.heap.size + 1 + 1 + 1, 0, none⟩ = some (.int .i64 y)
theorem Gr.set2 {w W : World} {c0 c1 c2 v1 : Value} (h : Gr w c0 c1 c2 v1 W) (x y : Int) : Set2 w W ((W.setCell ⟨w.heap.size + 1 + 1, 0, none⟩ (.int .i64 x)).setCell ⟨w.heap.size + 1 + 1 + 1, 0, none⟩ (.int .i64 y)) x y := by
  have e1 := World.cell?_setCell_same' W ⟨w.heap.size + 1 + 1, 0, none⟩ (.int .i64 x) (by rw [h.r1]; rfl)
  have n1 : ∀ {A : World} {i j : Nat} {v : Value}, i ≠ j → (A.setCell ⟨i, 0, none⟩ v).cell? ⟨j, 0, none⟩ = A.cell? ⟨j, 0, none⟩ := fun hij => World.cell?_setCell_other _ _ _ _ (fun e => hij (by cases e; rfl))
  refine ⟨(h.below.setCell (p := ⟨w.heap.size + 1 + 1, 0, none⟩) (by show _ ≤ _; simp only; omega) _).setCell (p := ⟨w.heap.size + 1 + 1 + 1, 0, none⟩) (by show _ ≤ _; simp only; omega) _,
    (KeepsOthers.setCell _ _ _).trans (KeepsOthers.setCell _ _ _), ?_, ?_⟩
  · rw [n1 (by omega), e1]
  · exact World.cell?_setCell_same' _ _ _ (by rw [n1 (by omega), h.r2]; rfl)
def prefT' (k : List (List Int)) (pat : List Int) (fr by_ : Int) (q : Nat) : Bool := standsS (k.getD (fr + by_ * (q : Int)).toNat []) pat
theorem t2_den {H : GH} (x y : Int) : DenP H (.tup [.int .i64 x, .int .i64 y]) (.tuple #[.int .i64 x, .int .i64 y]) := by
  refine .tup _ _ rfl fun q d v h1 h2 => ?_
  match q, h1, h2 with
  | 0, h1, h2 => cases h1; cases h2; exact .int _ _
  | 1, h1, h2 => cases h1; cases h2; exact .int _ _


set_option maxRecDepth 100000 in
set_option maxHeartbeats 4000000 in
theorem f_prefix {room dup : Int} {k : List (List Int)} {pat : List Int} {from_ : Int} :
    FnP PP 95 [.agg [.int .i64 room, .int .i64 dup, rlL k], rl pat, .int .i64 from_] (.tup [.int .i64 (prefixS ⟨room, dup, k⟩ pat from_).1, .int .i64 (prefixS ⟨room, dup, k⟩ pat from_).2]) := by
  obtain ⟨fr, hfr⟩ : ∃ fr : Int, min from_ ((k.length : Int) - 1) = fr := ⟨_, rfl⟩
  obtain ⟨K, hKe⟩ : ∃ K : Nat, (fr + 1).toNat = K := ⟨_, rfl⟩
  obtain ⟨by_, hbe⟩ : ∃ b : Int, b = -1 := ⟨_, rfl⟩
  have hby : by_ = 1 ∨ by_ = -1 := .inr hbe
  have hK : ∀ q < K, 0 ≤ fr + by_ * q ∧ fr + by_ * q < k.length := fun q hq => by subst hbe; omega
  have hK2 : ¬ (0 ≤ fr + by_ * K ∧ fr + by_ * K < k.length) := by subst hbe; omega
  have hS : prefixS ⟨room, dup, k⟩ pat from_ = if pastIs ⟨room, dup, k⟩ = false then ((0, 1) : Int × Int) else match hitS (fun q => standsS (k.getD (fr + by_ * q).toNat []) pat) K with | some q => (fr + by_ * (q : Nat), 0) | none => (0, 7) := by
    subst hbe; subst hKe; subst hfr; rfl
  obtain ⟨z, hz⟩ : ∃ z, prefixS ⟨room, dup, k⟩ pat from_ = z := ⟨_, rfl⟩
  rw [hz]
  refine ⟨⟨_, Tryz.func95, by kernel_rfl, by kernel_rfl⟩, fun w H vs hpers hsz hden => ?_⟩
  obtain ⟨v0, v1, v2, rfl⟩ : ∃ v0 v1 v2, vs = #[v0, v1, v2] := by
    obtain ⟨l⟩ := vs
    match l, hsz with
    | [a, b, c], _ => exact ⟨a, b, c, rfl⟩
  have d0 := hden 0 _ v0 rfl rfl
  have d1 := hden 1 _ v1 rfl rfl
  cases hden 2 _ v2 rfl rfl
  have d0' := d0
  cases d0' with | agg _ cs hs hc => ?_
  obtain ⟨c0, c1, c2, rfl⟩ : ∃ c0 c1 c2, cs = #[c0, c1, c2] := by
    obtain ⟨l⟩ := cs
    match l, hs with
    | [a, b, c], _ => exact ⟨a, b, c, rfl⟩
  cases hc 0 _ c0 rfl rfl
  cases hc 1 _ c1 rfl rfl
  obtain ⟨a, cap, b, off, arr, ty, fz, rfl, hbig, hk1, hk2⟩ := rlL_inv (hc 2 _ c2 rfl rfl)
  have d1' := d1
  obtain ⟨pa, pc, hp1, -, -, -⟩ := (Den.pure (ρ := fun _ => ⟨0, 0, 0, false⟩) d1).rows_inv
  rw [List.length_map] at hp1
  subst hp1
  clear hden hsz hs hc d1'
  refine (callsIn_wide (n := 3)).1 ?_
  refine callsIn_of_wp_marks Tryz.func95 rfl trivial ?_ rfl
  simp only [Tryz.ntmps95, List.size_toArray, List.length_cons, List.length_nil, Nat.reduceAdd, Nat.reduceSub, Array.replicate_succ, Array.replicate_zero, List.push_toArray, List.append_toArray, List.nil_append, List.cons_append]
  have hP : ∀ w', Below w.heap.size w w' → ∀ b o, H b = some o → w'.heap[b]? = some o := fun w' hB b o hb => (hB.block b (Array.getElem?_eq_some_iff.1 (hpers b o hb)).1).trans (hpers b o hb)
  have F0 := Gr.init w (.int .i64 room) (.int .i64 dup) (.slice a k.length cap) (.slice pa pat.length pc)
  gi_wp2_with (refine ⟨trivial, ?_⟩; gi_at_call 45; refine (callsIn_wide.2 ((f_pastIs (room := room) (dup := dup) (k := k)).run _ H _ (hP _ F0.below) rfl (den1 d0))).mono ?_; rintro e w1 ⟨v, H1, rfl, hv, hb1⟩; cases hv; have F1 := F0.next (Behind.below hb1); have p0 := F1.p0; have p1 := F1.p1; have p2 := F1.p2; have pt := F1.pt; have r1 := F1.r1; have r2 := F1.r2; have f1 := F1.f1; have f2 := F1.f2)
  · rename_i hp
    have S3 := F1.set2 0 1
    refine ⟨.tuple #[.int .i64 0, .int .i64 1], ?_, _, H, rfl, ?_, Below.behind S3.below hpers⟩
    · simp [results, Tryz.f95, go_sem, S3.r1, S3.r2]
    · rw [← hz, hS, if_pos (by simpa using hp)]; exact t2_den _ _
  · have hp : (!pastIs ⟨room, dup, k⟩) = false := by assumption
    have hp' : ¬ pastIs ⟨room, dup, k⟩ = false := by simpa using hp
    have hB : (k.length : Int) - 1 = fr := by omega
    rw [hB]
    rw [← hbe]
    clear hbe
    refine ⟨trivial, ?_⟩
    refine (lines_in Fence.wide 2 trivial rfl _ _ _ _ _ _).mono ?_
    rintro e w2 ⟨rfl, hw2⟩
    have hsz2 : w2.heap.size = w1.heap.size + 3 := by rw [hw2]; simp
    have hB2 : Below w1.heap.size w1 w2 := by rw [hw2]; exact ((Below.new _).alloc (by simp) _).alloc (by simp; omega) _
    have F2 := F1.next hB2
    have hb0 := heapOn (heapOn (heapNew w1 (.cells #[.int .i64 room, .int .i64 dup, .slice a k.length cap] 39) rfl) (.cells #[.int .i64 fr] 3)) (.cells #[.int .i64 by_] 3)
    have hb1 := heapOn (heapNew (w1.alloc (.cells #[.int .i64 room, .int .i64 dup, .slice a k.length cap] 39)) (.cells #[.int .i64 fr] 3) (b := w1.heap.size + 1) (by simp)) (.cells #[.int .i64 by_] 3)
    have hb2 := heapNew ((w1.alloc (.cells #[.int .i64 room, .int .i64 dup, .slice a k.length cap] 39)).alloc (.cells #[.int .i64 fr] 3)) (.cells #[.int .i64 by_] 3) (b := w1.heap.size + 2) (by simp)
    rw [← hw2] at hb0 hb1 hb2
    clear hw2 r1 r2 f1 f2 p0 p1 p2 pt
    have hlt : ∀ (x : Fin K), (fr + by_ * (x.val : Int)).toNat < k.length := fun x => by have := hK x.val x.isLt; omega
    have hne : 0 < K → k ≠ [] := fun h e => by have := hlt ⟨0, h⟩; rw [e] at this; simp at this
    have hrow : ∀ x : Fin K, DenP H (rl (k.getD (fr + by_ * (x.val : Int)).toNat [])) ((arr[off + (fr + by_ * (x.val : Int)).toNat]?).getD undef) := fun x => by
      obtain ⟨u, hu, hd⟩ := hk2 _ (hlt x); rw [hu]; exact hd
    gi_wp2
    refine wpIn_rangeFunc_ownG rfl (by omega) (gf := 176) (lb := #[.pointer (some ⟨w1.heap.size + 1, 0, none⟩), .pointer (some ⟨w1.heap.size, 0, none⟩), .pointer (some ⟨w1.heap.size + 2, 0, none⟩)]) rfl trivial (enters_of Tryz.func176 (by kernel_rfl) rfl)
      (lines_stops Fence.wide _ trivial rfl (by omega) w1.heap.size (w1.heap.size + 1) (w1.heap.size + 2) w2.heap.size b off k.length cap K a fr by_ (fun j => (arr[off + j]?).getD undef) hby hbig hK hK2 (fun h => ⟨(hk1 (hne h)).1, by have := (Array.getElem?_eq_some_iff.1 (hpers _ _ (hk1 (hne h)).2.1)).1; have := F2.sz; omega⟩)
        w2 (Nat.le_refl _) (by omega) (by omega) (by omega) (cellsAt hb1 0) (cellsAt hb0 2) (cellsAt hb2 0) (fun j h hj => by have hc := hP w2 F2.below _ _ (hk1 (hne h)).2.1; obtain ⟨u, hu, -⟩ := hk2 j hj; simp [World.cell?, hc, hu]))
      belowK_t (belowK_b (Nat.le_refl _)) (Below.refl _ _) (fun _ => rfl)
      (fun pre W => Gr w (.int .i64 room) (.int .i64 dup) (.slice a k.length cap) (.slice pa pat.length pc) W ∧ w2.heap.size ≤ W.heap.size ∧ ∀ y ∈ pre, prefT' k pat fr by_ y.val = false)
      (fun c pre W => c = .ret ∧ ∃ ini y, pre = ini ++ [y] ∧ (∀ z ∈ ini, prefT' k pat fr by_ z.val = false) ∧ prefT' k pat fr by_ y.val = true ∧ Below w.heap.size w W ∧
        W.cell? ⟨w.heap.size + 1 + 1, 0, none⟩ = some (.int .i64 (fr + by_ * (y.val : Int))) ∧ W.cell? ⟨w.heap.size + 1 + 1 + 1, 0, none⟩ = some (.int .i64 0))
      (fun s A B row hs hg hr => ⟨hs.1.kept hg (fun r e => ⟨by have := F2.sz; have := (hr r e).1; omega, (hr r e).2⟩), Nat.le_trans hs.2.1 hg.size, hs.2.2⟩)
      (fun c s A B row hs hg hr => by
        obtain ⟨hc, ini, y, e1, e2, e3, e4, e5, e6⟩ := hs
        have hr' := fun r e => (hr r e).2
        exact ⟨hc, ini, y, e1, e2, e3, e4.grown hg e4.size (fun r e => by have := F2.sz; have := (hr r e).1; omega), cell_kept e5 hg hr', cell_kept e6 hg hr'⟩)
      ⟨F2, Nat.le_refl _, by simp⟩
      (fun x => { tmps := #[.agg #[.int .i64 room, .int .i64 dup, .slice a k.length cap], .slice pa pat.length pc, .int .i64 from_, .pointer (some ⟨w.heap.size, 0, none⟩), .pointer (some ⟨w.heap.size + 1, 0, none⟩), undef, .pointer (some ⟨w.heap.size + 1 + 1, 0, none⟩), .pointer (some ⟨w.heap.size + 1 + 1 + 1, 0, none⟩), .int .i64 (fr + by_ * (x.val : Int)), (fun j => (arr[off + j]?).getD undef) (fr + by_ * (x.val : Int)).toNat,
        .agg #[.int .i64 room, .int .i64 dup, .slice a k.length cap], .bool true, .bool false, .agg #[.int .i64 room, .int .i64 dup, .slice a k.length cap], .int .i64 from_, .pointer (some ⟨w.heap.size, 2, none⟩), .slice a k.length cap, .int .i64 (k.length : Int), .int .i64 fr, .int .i64 fr,
        .func (.func 176) #[] #[.pointer (some ⟨w1.heap.size + 1, 0, none⟩), .pointer (some ⟨w1.heap.size, 0, none⟩), .pointer (some ⟨w1.heap.size + 2, 0, none⟩)], .int .i64 (fr + by_ * (x.val : Int)), (fun j => (arr[off + j]?).getD undef) (fr + by_ * (x.val : Int)).toNat, undef, undef, undef, undef], defers := [] }) ?assign ?body ?done ?stop
    case assign =>
      intro l x W K hK
      gi_wp2
      exact hK
    case body =>
      rintro l pre x W ⟨hF, hsz, hpre⟩ _
      have pt := hF.pt
      have hr := hrow x
      obtain ⟨u, hu⟩ : ∃ u, (arr[off + (fr + by_ * (x.val : Int)).toNat]?).getD undef = u := ⟨_, rfl⟩
      rw [hu] at hr
      obtain ⟨i, hi⟩ : ∃ i, fr + by_ * (x.val : Int) = i := ⟨_, rfl⟩
      have ht : prefT' k pat fr by_ x.val = standsS (k.getD i.toNat []) pat := by rw [← hi]; rfl
      rw [hi] at hu hr
      simp only [hi, hu]
      gi_wp2_with (refine ⟨trivial, ?_⟩; gi_at_call 130; refine (CallsIn.inRound l (callsIn_wide.2 ((f_stands (l := k.getD i.toNat []) (pat := pat)).run _ H _ (hP _ hF.below) rfl (den2 hr d1)))).mono ?_; rintro e w3 ⟨v, H3, rfl, hv, hb3⟩; cases hv; have F3 := hF.next (Behind.below hb3); have r1 := F3.r1; have r2 := F3.r2; have f1 := F3.f1; have f2 := F3.f2)
      · have hx : standsS (k.getD i.toNat []) pat = true := by simp only [List.getD_eq_getElem?_getD]; assumption
        have S3 := F3.set2 i 0
        exact ⟨((Behind.keeps hb3).trans S3.keeps).from _, rfl, pre, x, rfl, hpre, by rw [ht, hx], S3.below, by rw [hi]; exact S3.r1, S3.r2⟩
      · have hx : standsS (k.getD i.toNat []) pat = false := by simp only [List.getD_eq_getElem?_getD]; assumption
        exact ⟨(Behind.keeps hb3).from _, (Behind.below hb3).mono hsz, F3, Nat.le_trans hsz hb3.size, fun y hy => (List.mem_append.1 hy).elim (hpre y) (fun e => by simp at e; subst e; rw [ht, hx])⟩
    case done =>
      rintro D ys W hD hall ⟨hF, hsz, hno⟩ hKD
      have r1 := hF.r1
      have r2 := hF.r2
      have f1 := hF.f1
      have f2 := hF.f2
      gi_wp2
      have S3 := hF.set2 0 7
      have hK' := S3.keeps.same D _ hKD rfl
      have hg := fun W' => grownBy_putObj' W' D (.deferred none)
      have c1 := cell_kept S3.r1 (hg _) (fun r e => by cases e; exact ⟨_, hK', rfl⟩)
      have c2 := cell_kept S3.r2 (hg _) (fun r e => by cases e; exact ⟨_, hK', rfl⟩)
      refine ⟨by simp, .inl ⟨_, _, rfl, run_takeDeferred hK', ?_⟩⟩
      refine ⟨.tuple #[.int .i64 0, .int .i64 7], ?_, _, H, rfl, ?_, Below.behind (S3.below.trans (belowK_b (w := w) (Nat.le_refl _) _ D _ _ (by have := F2.sz; omega) hK' rfl rfl)) hpers⟩
      · simp [results, Tryz.f95, go_sem, c1, c2]
      · rw [← hz, hS, if_neg hp', hit_none (t := fun q => standsS (k.getD (fr + by_ * (q : Int)).toNat []) pat) (fun x => hno x (hall x))]; exact t2_den _ _
    case stop =>
      rintro D c pre W hD ⟨q, hq, rfl⟩ ⟨rfl, ini, y, e1, e2, e3, e4, e5, e6⟩ hKD
      gi_wp2
      have hg := grownBy_putObj' W D (.deferred none)
      have hr' : ∀ r, some D = some r → ∃ o : Obj, W.heap[r]? = some o ∧ o.isCells = false := fun r e => by cases e; exact ⟨_, hKD, rfl⟩
      have c1 := cell_kept e5 hg hr'
      have c2 := cell_kept e6 hg hr'
      refine ⟨by simp, .inl ⟨_, _, rfl, run_takeDeferred hKD, ?_⟩⟩
      refine ⟨.tuple #[.int .i64 (fr + by_ * (y.val : Int)), .int .i64 0], ?_, _, H, rfl, ?_, Below.behind (e4.trans (belowK_b (w := w) (Nat.le_refl _) _ D _ _ (by have := F2.sz; omega) hKD rfl rfl)) hpers⟩
      · simp [results, Tryz.f95, go_sem, c1, c2]
      · rw [← hz, hS, if_neg hp', hit_some (t := fun q => standsS (k.getD (fr + by_ * (q : Int)).toNat []) pat) hq e1.symm e2 e3]; exact t2_den _ _
  · have hp : (!pastIs ⟨room, dup, k⟩) = false := by assumption
    have hp' : ¬ pastIs ⟨room, dup, k⟩ = false := by simpa using hp
    obtain rfl : fr = from_ := by omega
    rw [← hbe]
    clear hbe
    refine ⟨trivial, ?_⟩
    refine (lines_in Fence.wide 2 trivial rfl _ _ _ _ _ _).mono ?_
    rintro e w2 ⟨rfl, hw2⟩
    have hsz2 : w2.heap.size = w1.heap.size + 3 := by rw [hw2]; simp
    have hB2 : Below w1.heap.size w1 w2 := by rw [hw2]; exact ((Below.new _).alloc (by simp) _).alloc (by simp; omega) _
    have F2 := F1.next hB2
    have hb0 := heapOn (heapOn (heapNew w1 (.cells #[.int .i64 room, .int .i64 dup, .slice a k.length cap] 39) rfl) (.cells #[.int .i64 fr] 3)) (.cells #[.int .i64 by_] 3)
    have hb1 := heapOn (heapNew (w1.alloc (.cells #[.int .i64 room, .int .i64 dup, .slice a k.length cap] 39)) (.cells #[.int .i64 fr] 3) (b := w1.heap.size + 1) (by simp)) (.cells #[.int .i64 by_] 3)
    have hb2 := heapNew ((w1.alloc (.cells #[.int .i64 room, .int .i64 dup, .slice a k.length cap] 39)).alloc (.cells #[.int .i64 fr] 3)) (.cells #[.int .i64 by_] 3) (b := w1.heap.size + 2) (by simp)
    rw [← hw2] at hb0 hb1 hb2
    clear hw2 r1 r2 f1 f2 p0 p1 p2 pt
    have hlt : ∀ (x : Fin K), (fr + by_ * (x.val : Int)).toNat < k.length := fun x => by have := hK x.val x.isLt; omega
    have hne : 0 < K → k ≠ [] := fun h e => by have := hlt ⟨0, h⟩; rw [e] at this; simp at this
    have hrow : ∀ x : Fin K, DenP H (rl (k.getD (fr + by_ * (x.val : Int)).toNat [])) ((arr[off + (fr + by_ * (x.val : Int)).toNat]?).getD undef) := fun x => by
      obtain ⟨u, hu, hd⟩ := hk2 _ (hlt x); rw [hu]; exact hd
    gi_wp2
    refine wpIn_rangeFunc_ownG rfl (by omega) (gf := 176) (lb := #[.pointer (some ⟨w1.heap.size + 1, 0, none⟩), .pointer (some ⟨w1.heap.size, 0, none⟩), .pointer (some ⟨w1.heap.size + 2, 0, none⟩)]) rfl trivial (enters_of Tryz.func176 (by kernel_rfl) rfl)
      (lines_stops Fence.wide _ trivial rfl (by omega) w1.heap.size (w1.heap.size + 1) (w1.heap.size + 2) w2.heap.size b off k.length cap K a fr by_ (fun j => (arr[off + j]?).getD undef) hby hbig hK hK2 (fun h => ⟨(hk1 (hne h)).1, by have := (Array.getElem?_eq_some_iff.1 (hpers _ _ (hk1 (hne h)).2.1)).1; have := F2.sz; omega⟩)
        w2 (Nat.le_refl _) (by omega) (by omega) (by omega) (cellsAt hb1 0) (cellsAt hb0 2) (cellsAt hb2 0) (fun j h hj => by have hc := hP w2 F2.below _ _ (hk1 (hne h)).2.1; obtain ⟨u, hu, -⟩ := hk2 j hj; simp [World.cell?, hc, hu]))
      belowK_t (belowK_b (Nat.le_refl _)) (Below.refl _ _) (fun _ => rfl)
      (fun pre W => Gr w (.int .i64 room) (.int .i64 dup) (.slice a k.length cap) (.slice pa pat.length pc) W ∧ w2.heap.size ≤ W.heap.size ∧ ∀ y ∈ pre, prefT' k pat fr by_ y.val = false)
      (fun c pre W => c = .ret ∧ ∃ ini y, pre = ini ++ [y] ∧ (∀ z ∈ ini, prefT' k pat fr by_ z.val = false) ∧ prefT' k pat fr by_ y.val = true ∧ Below w.heap.size w W ∧
        W.cell? ⟨w.heap.size + 1 + 1, 0, none⟩ = some (.int .i64 (fr + by_ * (y.val : Int))) ∧ W.cell? ⟨w.heap.size + 1 + 1 + 1, 0, none⟩ = some (.int .i64 0))
      (fun s A B row hs hg hr => ⟨hs.1.kept hg (fun r e => ⟨by have := F2.sz; have := (hr r e).1; omega, (hr r e).2⟩), Nat.le_trans hs.2.1 hg.size, hs.2.2⟩)
      (fun c s A B row hs hg hr => by
        obtain ⟨hc, ini, y, e1, e2, e3, e4, e5, e6⟩ := hs
        have hr' := fun r e => (hr r e).2
        exact ⟨hc, ini, y, e1, e2, e3, e4.grown hg e4.size (fun r e => by have := F2.sz; have := (hr r e).1; omega), cell_kept e5 hg hr', cell_kept e6 hg hr'⟩)
      ⟨F2, Nat.le_refl _, by simp⟩
      (fun x => { tmps := #[.agg #[.int .i64 room, .int .i64 dup, .slice a k.length cap], .slice pa pat.length pc, .int .i64 fr, .pointer (some ⟨w.heap.size, 0, none⟩), .pointer (some ⟨w.heap.size + 1, 0, none⟩), undef, .pointer (some ⟨w.heap.size + 1 + 1, 0, none⟩), .pointer (some ⟨w.heap.size + 1 + 1 + 1, 0, none⟩), .int .i64 (fr + by_ * (x.val : Int)), (fun j => (arr[off + j]?).getD undef) (fr + by_ * (x.val : Int)).toNat,
        .agg #[.int .i64 room, .int .i64 dup, .slice a k.length cap], .bool true, .bool false, .agg #[.int .i64 room, .int .i64 dup, .slice a k.length cap], .int .i64 fr, .pointer (some ⟨w.heap.size, 2, none⟩), .slice a k.length cap, .int .i64 (k.length : Int), .int .i64 ((k.length : Int) - 1), .int .i64 fr,
        .func (.func 176) #[] #[.pointer (some ⟨w1.heap.size + 1, 0, none⟩), .pointer (some ⟨w1.heap.size, 0, none⟩), .pointer (some ⟨w1.heap.size + 2, 0, none⟩)], .int .i64 (fr + by_ * (x.val : Int)), (fun j => (arr[off + j]?).getD undef) (fr + by_ * (x.val : Int)).toNat, undef, undef, undef, undef], defers := [] }) ?assign ?body ?done ?stop
    case assign =>
      intro l x W K hK
      gi_wp2
      exact hK
    case body =>
      rintro l pre x W ⟨hF, hsz, hpre⟩ _
      have pt := hF.pt
      have hr := hrow x
      obtain ⟨u, hu⟩ : ∃ u, (arr[off + (fr + by_ * (x.val : Int)).toNat]?).getD undef = u := ⟨_, rfl⟩
      rw [hu] at hr
      obtain ⟨i, hi⟩ : ∃ i, fr + by_ * (x.val : Int) = i := ⟨_, rfl⟩
      have ht : prefT' k pat fr by_ x.val = standsS (k.getD i.toNat []) pat := by rw [← hi]; rfl
      rw [hi] at hu hr
      simp only [hi, hu]
      gi_wp2_with (refine ⟨trivial, ?_⟩; gi_at_call 130; refine (CallsIn.inRound l (callsIn_wide.2 ((f_stands (l := k.getD i.toNat []) (pat := pat)).run _ H _ (hP _ hF.below) rfl (den2 hr d1)))).mono ?_; rintro e w3 ⟨v, H3, rfl, hv, hb3⟩; cases hv; have F3 := hF.next (Behind.below hb3); have r1 := F3.r1; have r2 := F3.r2; have f1 := F3.f1; have f2 := F3.f2)
      · have hx : standsS (k.getD i.toNat []) pat = true := by simp only [List.getD_eq_getElem?_getD]; assumption
        have S3 := F3.set2 i 0
        exact ⟨((Behind.keeps hb3).trans S3.keeps).from _, rfl, pre, x, rfl, hpre, by rw [ht, hx], S3.below, by rw [hi]; exact S3.r1, S3.r2⟩
      · have hx : standsS (k.getD i.toNat []) pat = false := by simp only [List.getD_eq_getElem?_getD]; assumption
        exact ⟨(Behind.keeps hb3).from _, (Behind.below hb3).mono hsz, F3, Nat.le_trans hsz hb3.size, fun y hy => (List.mem_append.1 hy).elim (hpre y) (fun e => by simp at e; subst e; rw [ht, hx])⟩
    case done =>
      rintro D ys W hD hall ⟨hF, hsz, hno⟩ hKD
      have r1 := hF.r1
      have r2 := hF.r2
      have f1 := hF.f1
      have f2 := hF.f2
      gi_wp2
      have S3 := hF.set2 0 7
      have hK' := S3.keeps.same D _ hKD rfl
      have hg := fun W' => grownBy_putObj' W' D (.deferred none)
      have c1 := cell_kept S3.r1 (hg _) (fun r e => by cases e; exact ⟨_, hK', rfl⟩)
      have c2 := cell_kept S3.r2 (hg _) (fun r e => by cases e; exact ⟨_, hK', rfl⟩)
      refine ⟨by simp, .inl ⟨_, _, rfl, run_takeDeferred hK', ?_⟩⟩
      refine ⟨.tuple #[.int .i64 0, .int .i64 7], ?_, _, H, rfl, ?_, Below.behind (S3.below.trans (belowK_b (w := w) (Nat.le_refl _) _ D _ _ (by have := F2.sz; omega) hK' rfl rfl)) hpers⟩
      · simp [results, Tryz.f95, go_sem, c1, c2]
      · rw [← hz, hS, if_neg hp', hit_none (t := fun q => standsS (k.getD (fr + by_ * (q : Int)).toNat []) pat) (fun x => hno x (hall x))]; exact t2_den _ _
    case stop =>
      rintro D c pre W hD ⟨q, hq, rfl⟩ ⟨rfl, ini, y, e1, e2, e3, e4, e5, e6⟩ hKD
      gi_wp2
      have hg := grownBy_putObj' W D (.deferred none)
      have hr' : ∀ r, some D = some r → ∃ o : Obj, W.heap[r]? = some o ∧ o.isCells = false := fun r e => by cases e; exact ⟨_, hKD, rfl⟩
      have c1 := cell_kept e5 hg hr'
      have c2 := cell_kept e6 hg hr'
      refine ⟨by simp, .inl ⟨_, _, rfl, run_takeDeferred hKD, ?_⟩⟩
      refine ⟨.tuple #[.int .i64 (fr + by_ * (y.val : Int)), .int .i64 0], ?_, _, H, rfl, ?_, Below.behind (e4.trans (belowK_b (w := w) (Nat.le_refl _) _ D _ _ (by have := F2.sz; omega) hKD rfl rfl)) hpers⟩
      · simp [results, Tryz.f95, go_sem, c1, c2]
      · rw [← hz, hS, if_neg hp', hit_some (t := fun q => standsS (k.getD (fr + by_ * (q : Int)).toNat []) pat) hq e1.symm e2 e3]; exact t2_den _ _

end Go.Proofs.YtkcdmmafkpplhaaGreat
/- Walks of layer 21: Back and Fore. -/
namespace Go.Proofs.YtkcdmmafkpplhaaGreat
open Go.Eng

set_option maxRecDepth 20000 in
theorem f_back {room dup : Int} {k : List (List Int)} {pat : List Int} {from_ : Int} : FnP PP 91 [.agg [.int .i64 room, .int .i64 dup, rlL k], rl pat, .int .i64 from_] (t3 (findBack ⟨room, dup, k⟩ pat from_)) := by
  refine FnP.of_body Tryz.func91 rfl (by kernel_rfl) rfl ?_
  refine Wp.bound 0 rfl (fun hb0 => ?_)
  simp only [D.bd, D.bdL, List.length_map, and_true] at hb0
  refine Wp.seq <| reg <| bx0 67 rfl ?_
  refine asg0 rfl <| asg0 rfl <| asg0 rfl <| done ?_
  refine Wp.seq <| reg <| ldA0 rfl ?_
  refine mv0 rfl <| mv0 rfl <| faA0 rfl ?_
  refine ldA0 rfl ?_
  first | refine lnM0 rfl ?_ | refine lns0 rfl ?_ | refine ln0 rfl ?_
  refine ar0 rfl (wrapI Bd) <| mn0 rfl ?_
  refine clw0 rfl (f_seek (K := (min from_ ((k.length : Int) - 1) + 1).toNat) (.inr rfl) (by intro q hq; omega) (by omega)) rfl ?_
  refine xt0 rfl <| xt0 rfl <| xt0 rfl <| asg0 rfl <| asg0 rfl <| asg0 rfl <| done ?_
  refine Wp.ret ?_
  refine Ends.ret (.cons (.tmp rfl (Fz.pure rfl)) <| .cons (.tmp rfl (Fz.pure rfl)) <| .cons (.tmp rfl (Fz.pure rfl)) <|  .nil) ?_
  rfl

set_option maxRecDepth 20000 in
theorem f_fore {room dup : Int} {k : List (List Int)} {pat : List Int} {from_ : Int} : FnP PP 92 [.agg [.int .i64 room, .int .i64 dup, rlL k], rl pat, .int .i64 from_] (t3 (findFore ⟨room, dup, k⟩ pat from_)) := by
  refine FnP.of_body Tryz.func92 rfl (by kernel_rfl) rfl ?_
  refine Wp.bound 0 rfl (fun hb0 => ?_)
  simp only [D.bd, D.bdL, List.length_map, and_true] at hb0
  refine Wp.seq <| reg <| bx0 67 rfl ?_
  refine asg0 rfl <| asg0 rfl <| asg0 rfl <| done ?_
  refine Wp.seq <| reg <| ldA0 rfl ?_
  refine mv0 rfl <| mv0 rfl <| mx0 rfl ?_
  refine clw0 rfl (f_seek (K := ((k.length : Int) - max from_ 0).toNat) (.inl rfl) (by intro q hq; omega) (by omega)) rfl ?_
  refine xt0 rfl <| xt0 rfl <| xt0 rfl <| asg0 rfl <| asg0 rfl <| asg0 rfl <| done ?_
  refine Wp.ret ?_
  refine Ends.ret (.cons (.tmp rfl (Fz.pure rfl)) <| .cons (.tmp rfl (Fz.pure rfl)) <| .cons (.tmp rfl (Fz.pure rfl)) <|  .nil) ?_
  rfl

end Go.Proofs.YtkcdmmafkpplhaaGreat
/- Walks of layer 24: New, seeks, Is. -/
namespace Go.Proofs.YtkcdmmafkpplhaaGreat
open Go.Eng
theorem vi_eq (m o : Int) : viIs m o = viIsS m o := rfl
theorem edIs_all {d : Ed} (h1 : editIs d.e = true) (h2 : countIs d.c = true) (h3 : viIsS d.v.1 d.v.2 = true) (h4 : pastIs d.p = true) (h5 : stashIs d.s d.p = true) : ¬ (editIs d.e = false ∨ countIs d.c = false ∨ viIsS d.v.1 d.v.2 = false ∨ pastIs d.p = false ∨ stashIs d.s d.p = false) := by
  rw [h1, h2, h3, h4, h5]; simp
theorem small_stash {l : List Slot} (h : ∀ s ∈ l, s.g.a.length ≤ 1000 ∧ s.g.b.length ≤ 1000) : ∀ s ∈ l, s.g.a.length ≤ 1000000 ∧ s.g.b.length ≤ 1000000 := fun s hs => by have := h s hs; omega

theorem f_edNew_k1 {p : Prop} (h : p := by
    show _ = _; unfold newEd; (repeat' split) <;> first | rfl | (exfalso; omega) | (exfalso; simp_all; done) | (exfalso; simp_all <;> omega)) : p := h
set_option maxRecDepth 20000 in
theorem f_edNew {m room dup : Int} : FnP PP 7 [.int .i64 m, .int .i64 room, .int .i64 dup] (.tup [edD (newEd m room dup).1, .int .i64 (newEd m room dup).2]) := by
  refine FnP.of_body Tryz.func7 rfl (by kernel_rfl) rfl ?_
  refine Wp.seq <| reg <| al0 70 rfl ?_
  refine asg0 rfl <| done ?_
  refine Wp.seq <| reg <| mv0 rfl <| mv0 rfl <| clw0 rfl f_pastNew rfl ?_
  refine mv0 rfl <| xt0 rfl <| xt0 rfl <| al0 72 rfl ?_
  refine stw0 rfl ?_
  refine asg0 rfl <| done ?_
  refine Wp.seq <| Wp.block <| Wp.seq <| reg <| mv0 rfl <| cmp0 rfl <| mv0 rfl ?_
  refine bcase 19 rfl (fun h19 => ?_) (fun h19 => ?_)
  have nh19 := Nz h19
  refine mv1 rfl h19 rfl <| cmp1 rfl h19 rfl <| pkt0 rfl h19 <| asg0 rfl <| done ?_
  refine Wp.cond rfl (fun c1 => ?_) (fun c1 => ?_)
  have nc1 := Nz c1
  refine Wp.seq <| reg <| bdw0 rfl ?_
  refine stw0 rfl ?_
  refine asg0 rfl <| done ?_
  refine Wp.ret ?_
  refine Ends.ret (.cons (.cell rfl rfl rfl (Nat.le_of_ble_eq_true rfl) (Fz.wk rfl)) <| .cons (.tmp rfl (Fz.pure rfl)) <|  .nil) ?_
  exact f_edNew_k1
  have nc1 := Nz c1
  refine Wp.seq <| reg <| mv0 rfl <| cmp0 rfl <| asg0 rfl <| done ?_
  refine Wp.cond rfl (fun c2 => ?_) (fun c2 => ?_)
  have nc2 := Nz c2
  refine Wp.seq <| reg <| bdw0 rfl ?_
  refine mv0 rfl <| stw0 rfl ?_
  refine asg0 rfl <| done ?_
  refine Wp.ret ?_
  refine Ends.ret (.cons (.cell rfl rfl rfl (Nat.le_of_ble_eq_true rfl) (Fz.wk rfl)) <| .cons (.tmp rfl (Fz.pure rfl)) <|  .nil) ?_
  exact f_edNew_k1
  have nc2 := Nz c2
  refine Wp.skip <| Wp.seq <| regd mixed ?_
  refine mv0 rfl <| ldA0 rfl ?_
  refine ldA0 rfl ?_
  refine clw0 rfl f_stashOpen rfl ?_
  refine bdw0 rfl ?_
  refine stw0 rfl ?_
  refine asg0 rfl ?_
  refine done ⟨by kernel_rfl, by kernel_rfl, ?_⟩
  refine Wp.ret ?_
  refine Ends.ret (.cons (.cell rfl rfl rfl (Nat.le_of_ble_eq_true rfl) (Fz.wk rfl)) <| .cons (.tmp rfl (Fz.pure rfl)) <|  .nil) ?_
  exact f_edNew_k1
  have nh19 := Nz h19
  refine sk0 rfl h19 <| sk0 rfl h19 <| pkf0 rfl h19 <| asg0 rfl <| done ?_
  refine Wp.condF rfl rfl <| Wp.seq <| reg <| mv0 rfl <| cmp0 rfl <| asg0 rfl <| done ?_
  refine Wp.cond rfl (fun c3 => ?_) (fun c3 => ?_)
  have nc3 := Nz c3
  refine Wp.seq <| reg <| bdw0 rfl ?_
  refine mv0 rfl <| stw0 rfl ?_
  refine asg0 rfl <| done ?_
  refine Wp.ret ?_
  refine Ends.ret (.cons (.cell rfl rfl rfl (Nat.le_of_ble_eq_true rfl) (Fz.wk rfl)) <| .cons (.tmp rfl (Fz.pure rfl)) <|  .nil) ?_
  exact f_edNew_k1
  have nc3 := Nz c3
  refine Wp.skip <| Wp.seq <| regd mixed ?_
  refine mv0 rfl <| ldA0 rfl ?_
  refine ldA0 rfl ?_
  refine clw0 rfl f_stashOpen rfl ?_
  refine bdw0 rfl ?_
  refine stw0 rfl ?_
  refine asg0 rfl ?_
  refine done ⟨by kernel_rfl, by kernel_rfl, ?_⟩
  refine Wp.ret ?_
  refine Ends.ret (.cons (.cell rfl rfl rfl (Nat.le_of_ble_eq_true rfl) (Fz.wk rfl)) <| .cons (.tmp rfl (Fz.pure rfl)) <|  .nil) ?_
  exact f_edNew_k1

theorem f_seeks_k1 {p : Prop} (h : p := by
    refine congrArg D.bool ?_
    unfold seeksS
    first | (rw [if_pos (show signs f.pat = false from by rw [hx2, signs_drop (by omega), nc2]; rfl)]; done) | (rw [if_neg (show ¬ signs f.pat = false from by rw [hx2, drop_end (by omega)]; decide)]; (repeat' split) <;> first | rfl | (exfalso; omega) | (exfalso; simp_all; done) | (exfalso; simp_all <;> omega) | (simp_all; done) | (rw [Bool.eq_iff_iff]; simp_all; done) | (rw [Bool.eq_iff_iff]; simp_all <;> omega))) : p := h
set_option maxRecDepth 20000 in
theorem f_seeks {f : Search} {p : Past} : FnP PP 47 [searchD f, pastD p] (.bool (seeksS f p)) := by
  refine FnP.of_body Tryz.func47 rfl (by kernel_rfl) rfl ?_
  refine Wp.bound 0 rfl (fun hb0 => ?_)
  simp only [D.bd, D.bdL, List.length_map, and_true] at hb0
  refine Wp.bound 1 rfl (fun hb1 => ?_)
  simp only [D.bd, D.bdL, List.length_map, and_true] at hb1
  refine Wp.seq <| reg <| bx0 66 rfl ?_
  refine bx0 67 rfl ?_
  refine asg0 rfl <| done ?_
  refine Wp.seq <| Wp.seq <| reg <| faA0 rfl ?_
  refine ldA0 rfl ?_
  first | refine lnM0 rfl ?_ | refine lns0 rfl ?_ | refine ln0 rfl ?_
  refine mv0 rfl <| done ?_
  refine Wp.block ?_
  refine Wp.loopK (α := Nat) [2, 3, 10, 11] [66, 67] (fun x tl => (12, .int .i64 x) :: tl) (fun x tl => tl) (fun x => x ≤ f.pat.length ∧ signs f.pat = signs (f.pat.drop x)) (fun x => f.pat.length - x) (0) rfl rfl (⟨by omega, rfl⟩) (Rp) (Rp) ?_
  intro x hx
  obtain ⟨hx1, hx2⟩ := hx
  refine Wp.seq <| reg <| cmp0 rfl <| done ?_
  refine Wp.seq ?_
  refine Wp.cond rfl (fun c1 => ?_) (fun c1 => ?_)
  have nc1 := Nz c1
  refine Wp.skip <| Wp.seq <| Wp.block <| Wp.seq <| reg <| iaE0 (x) Bd rfl Eq' ?_
  refine ldA0 rfl ?_
  refine asg0 rfl <| done ?_
  refine Wp.seq <| reg <| mv0 rfl <| clw0 rfl f_glyphIs rfl ?_
  refine nt0 rfl <| done ?_
  refine Wp.cond rfl (fun c2 => ?_) (fun c2 => ?_)
  have nc2 := Nz c2
  refine Wp.seq <| reg <| asg0 rfl <| done ?_
  refine Wp.ret ?_
  refine Ends.ret (.cons (.tmp rfl (Fz.pure rfl)) <|  .nil) ?_
  exact f_seeks_k1
  have nc2 := Nz c2
  refine Wp.skip <| reg <| ar0 rfl (wrapI Bd) <| mv0 rfl <| done ?_
  refine ⟨x + 1, ⟨by omega, by rw [hx2, signs_drop (by omega)]; simp_all⟩, by omega, Rp, Rp, rfl⟩
  have nc1 := Nz c1
  refine Wp.exit <| Wp.seq <| Wp.block <| Wp.seq <| reg <| faA0 rfl ?_
  refine ldA0 rfl ?_
  first | refine lnM0 rfl ?_ | refine lns0 rfl ?_ | refine ln0 rfl ?_
  refine cmp0 rfl <| mv0 rfl ?_
  refine bcase 25 rfl (fun h25 => ?_) (fun h25 => ?_)
  have nh25 := Nz h25
  refine sk0 rfl h25 <| sk0 rfl h25 <| sk0 rfl h25 <| pkt0 rfl h25 <| mv0 rfl <| sk0 rfl rfl <| sk0 rfl rfl <| sk0 rfl rfl <| sk0 rfl rfl <| sk0 rfl rfl <| sk0 rfl rfl <| pkt0 rfl rfl <| asg0 rfl <| done ?_
  refine Wp.condT rfl rfl <| Wp.seq <| reg <| asg0 rfl <| done ?_
  refine Wp.ret ?_
  refine Ends.ret (.cons (.tmp rfl (Fz.pure rfl)) <|  .nil) ?_
  exact f_seeks_k1
  have nh25 := Nz h25
  refine faA1 rfl h25 rfl ?_
  refine ldA1 rfl h25 rfl ?_
  refine cmp1 rfl h25 rfl <| pkf0 rfl h25 <| mv0 rfl ?_
  refine bcase 30 rfl (fun h30 => ?_) (fun h30 => ?_)
  have nh30 := Nz h30
  refine sk0 rfl h30 <| sk0 rfl h30 <| sk0 rfl h30 <| sk0 rfl h30 <| sk0 rfl h30 <| sk0 rfl h30 <| pkt0 rfl h30 <| asg0 rfl <| done ?_
  refine Wp.condT rfl rfl <| Wp.seq <| reg <| asg0 rfl <| done ?_
  refine Wp.ret ?_
  refine Ends.ret (.cons (.tmp rfl (Fz.pure rfl)) <|  .nil) ?_
  exact f_seeks_k1
  have nh30 := Nz h30
  refine faA1 rfl h30 rfl ?_
  refine ldA1 rfl h30 rfl ?_
  refine faA1 rfl h30 rfl ?_
  refine ldA1 rfl h30 rfl ?_
  first | refine lnM1 rfl h30 rfl ?_ | refine lns1 rfl h30 rfl ?_ | refine ln1 rfl h30 rfl ?_
  refine cmp1 rfl h30 rfl <| pkf0 rfl h30 <| asg0 rfl <| done ?_
  refine Wp.cond rfl (fun c3 => ?_) (fun c3 => ?_)
  have nc3 := Nz c3
  refine Wp.seq <| reg <| asg0 rfl <| done ?_
  refine Wp.ret ?_
  refine Ends.ret (.cons (.tmp rfl (Fz.pure rfl)) <|  .nil) ?_
  exact f_seeks_k1
  have nc3 := Nz c3
  refine Wp.seq <| reg <| faA0 rfl ?_
  refine ldA0 rfl ?_
  refine nt0 rfl <| asg0 rfl <| done ?_
  refine Wp.cond rfl (fun c4 => ?_) (fun c4 => ?_)
  have nc4 := Nz c4
  refine Wp.seq <| reg <| faA0 rfl ?_
  refine ldA0 rfl ?_
  refine cmp0 rfl <| mv0 rfl ?_
  refine bcase 45 rfl (fun h45 => ?_) (fun h45 => ?_)
  have nh45 := Nz h45
  refine faA1 rfl h45 rfl ?_
  refine ldA1 rfl h45 rfl ?_
  refine cmp1 rfl h45 rfl <| pkt0 rfl h45 <| asg0 rfl <| done ?_
  refine Wp.ret ?_
  refine Ends.ret (.cons (.tmp rfl (Fz.pure rfl)) <|  .nil) ?_
  exact f_seeks_k1
  have nh45 := Nz h45
  refine sk0 rfl h45 <| sk0 rfl h45 <| sk0 rfl h45 <| pkf0 rfl h45 <| asg0 rfl <| done ?_
  refine Wp.ret ?_
  refine Ends.ret (.cons (.tmp rfl (Fz.pure rfl)) <|  .nil) ?_
  exact f_seeks_k1
  have nc4 := Nz c4
  refine Wp.skip <| Wp.seq <| reg <| ldA0 rfl ?_
  refine faA0 rfl ?_
  refine ldA0 rfl ?_
  refine clw0 rfl f_pastGet rfl ?_
  refine mv0 rfl <| xt0 rfl <| xt0 rfl <| asg0 rfl <| asg0 rfl <| done ?_
  refine Wp.seq <| regd mixed ?_
  refine mv0 rfl <| cmp0 rfl <| mv0 rfl ?_
  refine bcase 59 rfl (fun h59 => ?_) (fun h59 => ?_)
  have nh59 := Nz h59
  refine faA1 rfl h59 rfl ?_
  refine ldA1 rfl h59 rfl ?_
  refine cmp1 rfl h59 rfl <| pkt0 rfl h59 <| mv0 rfl ?_
  refine bcase 64 rfl (fun h64 => ?_) (fun h64 => ?_)
  have nh64 := Nz h64
  refine mv1 rfl h64 rfl <| faA1 rfl h64 rfl ?_
  refine ldA1 rfl h64 rfl ?_
  refine clw1 rfl h64 rfl f_place rfl ?_
  refine faA1 rfl h64 rfl ?_
  refine ldA1 rfl h64 rfl ?_
  refine cmp1 rfl h64 rfl <| pkt0 rfl h64 <| asg0 rfl ?_
  refine done ⟨by kernel_rfl, by kernel_rfl, ?_⟩
  refine Wp.ret ?_
  refine Ends.ret (.cons (.tmp rfl (Fz.pure rfl)) <|  .nil) ?_
  exact f_seeks_k1
  have nh64 := Nz h64
  refine sk0 rfl h64 <| sk0 rfl h64 <| sk0 rfl h64 <| sk0 rfl h64 <| sk0 rfl h64 <| sk0 rfl h64 <| sk0 rfl h64 <| pkf0 rfl h64 <| asg0 rfl ?_
  refine done ⟨by kernel_rfl, by kernel_rfl, ?_⟩
  refine Wp.ret ?_
  refine Ends.ret (.cons (.tmp rfl (Fz.pure rfl)) <|  .nil) ?_
  exact f_seeks_k1
  have nh59 := Nz h59
  refine sk0 rfl h59 <| sk0 rfl h59 <| sk0 rfl h59 <| pkf0 rfl h59 <| mv0 rfl <| sk0 rfl rfl <| sk0 rfl rfl <| sk0 rfl rfl <| sk0 rfl rfl <| sk0 rfl rfl <| sk0 rfl rfl <| sk0 rfl rfl <| pkf0 rfl rfl <| asg0 rfl ?_
  refine done ⟨by kernel_rfl, by kernel_rfl, ?_⟩
  refine Wp.ret ?_
  refine Ends.ret (.cons (.tmp rfl (Fz.pure rfl)) <|  .nil) ?_
  exact f_seeks_k1

theorem f_edIs_k1 {p : Prop} (h : p := by
    refine congrArg D.bool ?_
    unfold edIs
    first | exact if_pos (.inl (by assumption)) | exact if_pos (.inr (.inl (by assumption))) | exact if_pos (.inr (.inr (.inl (by assumption)))) | exact if_pos (.inr (.inr (.inr (.inl (by assumption))))) | exact if_pos (.inr (.inr (.inr (.inr (by assumption))))) | (rw [if_neg (edIs_all (by assumption) (by assumption) (by assumption) (by assumption) (by assumption))]; (repeat' split) <;> first | rfl | (exfalso; omega) | (exfalso; simp_all; done) | (exfalso; simp_all <;> omega) | (simp_all; done) | (rw [Bool.eq_iff_iff]; simp_all; done) | (rw [Bool.eq_iff_iff]; simp_all <;> omega))) : p := h
set_option maxRecDepth 20000 in
theorem f_edIs {d : Ed} (ok : EdOk d) : FnP PP 15 [edD d] (.bool (edIs d)) := by
  have hu := ok.u; have ha := ok.a; have hb := ok.b; have hs := small_stash ok.s
  refine FnP.of_body Tryz.func15 rfl (by kernel_rfl) rfl ?_
  refine Wp.seq <| reg <| bx0 65 rfl ?_
  refine asg0 rfl <| done ?_
  refine Wp.seq <| Wp.block <| Wp.seq <| reg <| faA0 rfl ?_
  refine ldA0 rfl ?_
  refine clw0 rfl (f_editIs hu (by omega) (by omega)) rfl ?_
  refine nt0 rfl <| mv0 rfl ?_
  refine bcase 9 rfl (fun h9 => ?_) (fun h9 => ?_)
  have nh9 := Nz h9
  refine sk0 rfl h9 <| sk0 rfl h9 <| sk0 rfl h9 <| sk0 rfl h9 <| pkt0 rfl h9 <| mv0 rfl <| sk0 rfl rfl <| sk0 rfl rfl <| sk0 rfl rfl <| sk0 rfl rfl <| pkt0 rfl rfl <| mv0 rfl <| sk0 rfl rfl <| sk0 rfl rfl <| sk0 rfl rfl <| sk0 rfl rfl <| pkt0 rfl rfl <| mv0 rfl <| sk0 rfl rfl <| sk0 rfl rfl <| sk0 rfl rfl <| sk0 rfl rfl <| sk0 rfl rfl <| sk0 rfl rfl <| pkt0 rfl rfl <| asg0 rfl <| done ?_
  refine Wp.condT rfl rfl <| Wp.seq <| reg <| asg0 rfl <| done ?_
  refine Wp.ret ?_
  refine Ends.ret (.cons (.tmp rfl (Fz.pure rfl)) <|  .nil) ?_
  exact f_edIs_k1
  have nh9 := Nz h9
  refine faA1 rfl h9 rfl ?_
  refine ldA1 rfl h9 rfl ?_
  refine clw1 rfl h9 rfl f_countIs rfl ?_
  refine nt1 rfl h9 rfl <| pkf0 rfl h9 <| mv0 rfl ?_
  refine bcase 15 rfl (fun h15 => ?_) (fun h15 => ?_)
  have nh15 := Nz h15
  refine sk0 rfl h15 <| sk0 rfl h15 <| sk0 rfl h15 <| sk0 rfl h15 <| pkt0 rfl h15 <| mv0 rfl <| sk0 rfl rfl <| sk0 rfl rfl <| sk0 rfl rfl <| sk0 rfl rfl <| pkt0 rfl rfl <| mv0 rfl <| sk0 rfl rfl <| sk0 rfl rfl <| sk0 rfl rfl <| sk0 rfl rfl <| sk0 rfl rfl <| sk0 rfl rfl <| pkt0 rfl rfl <| asg0 rfl <| done ?_
  refine Wp.condT rfl rfl <| Wp.seq <| reg <| asg0 rfl <| done ?_
  refine Wp.ret ?_
  refine Ends.ret (.cons (.tmp rfl (Fz.pure rfl)) <|  .nil) ?_
  exact f_edIs_k1
  have nh15 := Nz h15
  refine faA1 rfl h15 rfl ?_
  refine ldA1 rfl h15 rfl ?_
  refine clw1 rfl h15 rfl f_viIs rfl ?_
  refine nt1 rfl h15 rfl <| pkf0 rfl h15 <| mv0 rfl ?_
  refine bcase 21 rfl (fun h21 => ?_) (fun h21 => ?_)
  have nh21 := Nz h21
  refine sk0 rfl h21 <| sk0 rfl h21 <| sk0 rfl h21 <| sk0 rfl h21 <| pkt0 rfl h21 <| mv0 rfl <| sk0 rfl rfl <| sk0 rfl rfl <| sk0 rfl rfl <| sk0 rfl rfl <| sk0 rfl rfl <| sk0 rfl rfl <| pkt0 rfl rfl <| asg0 rfl <| done ?_
  refine Wp.condT rfl rfl <| Wp.seq <| reg <| asg0 rfl <| done ?_
  refine Wp.ret ?_
  refine Ends.ret (.cons (.tmp rfl (Fz.pure rfl)) <|  .nil) ?_
  exact f_edIs_k1
  have nh21 := Nz h21
  refine faA1 rfl h21 rfl ?_
  refine ldA1 rfl h21 rfl ?_
  refine clw1 rfl h21 rfl f_pastIs rfl ?_
  refine nt1 rfl h21 rfl <| pkf0 rfl h21 <| mv0 rfl ?_
  refine bcase 27 rfl (fun h27 => ?_) (fun h27 => ?_)
  have nh27 := Nz h27
  refine sk0 rfl h27 <| sk0 rfl h27 <| sk0 rfl h27 <| sk0 rfl h27 <| sk0 rfl h27 <| sk0 rfl h27 <| pkt0 rfl h27 <| asg0 rfl <| done ?_
  refine Wp.condT rfl rfl <| Wp.seq <| reg <| asg0 rfl <| done ?_
  refine Wp.ret ?_
  refine Ends.ret (.cons (.tmp rfl (Fz.pure rfl)) <|  .nil) ?_
  exact f_edIs_k1
  have nh27 := Nz h27
  refine faA1 rfl h27 rfl ?_
  refine ldA1 rfl h27 rfl ?_
  refine faA1 rfl h27 rfl ?_
  refine ldA1 rfl h27 rfl ?_
  refine clw1 rfl h27 rfl (f_stashIs hs) rfl ?_
  refine nt1 rfl h27 rfl <| pkf0 rfl h27 <| asg0 rfl <| done ?_
  refine Wp.cond rfl (fun c1 => ?_) (fun c1 => ?_)
  have nc1 := Nz c1
  refine Wp.seq <| reg <| asg0 rfl <| done ?_
  refine Wp.ret ?_
  refine Ends.ret (.cons (.tmp rfl (Fz.pure rfl)) <|  .nil) ?_
  exact f_edIs_k1
  have nc1 := Nz c1
  refine Wp.seq <| Wp.seq <| reg <| faA0 rfl ?_
  refine ldA0 rfl ?_
  refine cmp0 rfl <| mv0 rfl ?_
  refine bcase 39 rfl (fun h39 => ?_) (fun h39 => ?_)
  have nh39 := Nz h39
  refine faA1 rfl h39 rfl ?_
  refine ldA1 rfl h39 rfl ?_
  refine cmp1 rfl h39 rfl <| mv1 rfl h39 rfl ?_
  refine bcase 43 rfl (fun h43 => ?_) (fun h43 => ?_)
  have nh43 := Nz h43
  refine sk0 rfl h43 <| sk0 rfl h43 <| sk0 rfl h43 <| sk0 rfl h43 <| pkt1 rfl h39 rfl h43 <| pkt0 rfl h39 <| asg0 rfl <| done ?_
  refine Wp.condT rfl rfl <| Wp.skip <| Wp.condT rfl rfl <| Wp.seq <| reg <| asg0 rfl <| done ?_
  refine Wp.ret ?_
  refine Ends.ret (.cons (.tmp rfl (Fz.pure rfl)) <|  .nil) ?_
  exact f_edIs_k1
  have nh43 := Nz h43
  refine faA1 rfl h43 rfl ?_
  refine ldA1 rfl h43 rfl ?_
  refine bdw1 rfl h43 rfl ?_
  refine cms1 rfl h43 rfl ?_
  refine pkf1 rfl h39 rfl h43 <| pkt0 rfl h39 <| asg0 rfl <| done ?_
  refine Wp.cond rfl (fun c2 => ?_) (fun c2 => ?_)
  have nc2 := Nz c2
  refine Wp.skip <| Wp.condT rfl c2 <| Wp.seq <| reg <| asg0 rfl <| done ?_
  refine Wp.ret ?_
  refine Ends.ret (.cons (.tmp rfl (Fz.pure rfl)) <|  .nil) ?_
  exact f_edIs_k1
  have nc2 := Nz c2
  refine Wp.seq <| reg <| faA0 rfl ?_
  refine ldA0 rfl ?_
  refine cmp0 rfl <| asg0 rfl <| done ?_
  refine Wp.cond rfl (fun c3 => ?_) (fun c3 => ?_)
  have nc3 := Nz c3
  refine Wp.skip <| Wp.condT rfl c3 <| Wp.seq <| reg <| asg0 rfl <| done ?_
  refine Wp.ret ?_
  refine Ends.ret (.cons (.tmp rfl (Fz.pure rfl)) <|  .nil) ?_
  exact f_edIs_k1
  have nc3 := Nz c3
  refine reg <| faA0 rfl ?_
  refine ldA0 rfl ?_
  refine cmp0 rfl <| asg0 rfl <| done ?_
  refine Wp.cond rfl (fun c4 => ?_) (fun c4 => ?_)
  have nc4 := Nz c4
  refine Wp.seq <| reg <| asg0 rfl <| done ?_
  refine Wp.ret ?_
  refine Ends.ret (.cons (.tmp rfl (Fz.pure rfl)) <|  .nil) ?_
  exact f_edIs_k1
  have nc4 := Nz c4
  refine Wp.seq <| reg <| faA0 rfl ?_
  refine faA0 rfl ?_
  refine ldA0 rfl ?_
  refine asg0 rfl <| done ?_
  refine Wp.cond rfl (fun c5 => ?_) (fun c5 => ?_)
  have nc5 := Nz c5
  refine Wp.seq <| reg <| faA0 rfl ?_
  refine ldA0 rfl ?_
  refine nt0 rfl <| mv0 rfl ?_
  refine bcase 63 rfl (fun h63 => ?_) (fun h63 => ?_)
  have nh63 := Nz h63
  refine faA1 rfl h63 rfl ?_
  refine ldA1 rfl h63 rfl ?_
  refine faA1 rfl h63 rfl ?_
  refine ldA1 rfl h63 rfl ?_
  refine clw1 rfl h63 rfl f_seeks rfl ?_
  refine pkt0 rfl h63 <| asg0 rfl <| done ?_
  refine Wp.ret ?_
  refine Ends.ret (.cons (.tmp rfl (Fz.pure rfl)) <|  .nil) ?_
  exact f_edIs_k1
  have nh63 := Nz h63
  refine sk0 rfl h63 <| sk0 rfl h63 <| sk0 rfl h63 <| sk0 rfl h63 <| sk0 rfl h63 <| pkf0 rfl h63 <| asg0 rfl <| done ?_
  refine Wp.ret ?_
  refine Ends.ret (.cons (.tmp rfl (Fz.pure rfl)) <|  .nil) ?_
  exact f_edIs_k1
  have nc5 := Nz c5
  refine Wp.skip <| Wp.seq <| reg <| faA0 rfl ?_
  refine ldA0 rfl ?_
  refine al0 67 rfl ?_
  refine stw0 rfl ?_
  refine done ?_
  refine Wp.seq <| reg <| faA0 rfl ?_
  refine ldA0 rfl ?_
  refine nt0 rfl <| mv0 rfl ?_
  refine bcase 75 rfl (fun h75 => ?_) (fun h75 => ?_)
  have nh75 := Nz h75
  refine faA1 rfl h75 rfl ?_
  refine ldA1 rfl h75 rfl ?_
  refine nt1 rfl h75 rfl <| pkt0 rfl h75 <| mv0 rfl ?_
  refine bcase 80 rfl (fun h80 => ?_) (fun h80 => ?_)
  have nh80 := Nz h80
  refine faA1 rfl h80 rfl ?_
  refine ldA1 rfl h80 rfl ?_
  first | refine lnM1 rfl h80 rfl ?_ | refine lns1 rfl h80 rfl ?_ | refine ln1 rfl h80 rfl ?_
  refine cmp1 rfl h80 rfl <| pkt0 rfl h80 <| mv0 rfl ?_
  refine bcase 86 rfl (fun h86 => ?_) (fun h86 => ?_)
  have nh86 := Nz h86
  refine faA1 rfl h86 rfl ?_
  refine ldA1 rfl h86 rfl ?_
  refine cmp1 rfl h86 rfl <| pkt0 rfl h86 <| mv0 rfl ?_
  refine bcase 91 rfl (fun h91 => ?_) (fun h91 => ?_)
  have nh91 := Nz h91
  refine faA1 rfl h91 rfl ?_
  refine ldA1 rfl h91 rfl ?_
  refine cmp1 rfl h91 rfl <| pkt0 rfl h91 <| mv0 rfl ?_
  refine bcase 96 rfl (fun h96 => ?_) (fun h96 => ?_)
  have nh96 := Nz h96
  refine faA1 rfl h96 rfl ?_
  refine ldA1 rfl h96 rfl ?_
  refine cmp1 rfl h96 rfl <| pkt0 rfl h96 <| asg0 rfl <| done ?_
  refine Wp.ret ?_
  refine Ends.ret (.cons (.tmp rfl (Fz.pure rfl)) <|  .nil) ?_
  exact f_edIs_k1
  have nh96 := Nz h96
  refine sk0 rfl h96 <| sk0 rfl h96 <| sk0 rfl h96 <| pkf0 rfl h96 <| asg0 rfl <| done ?_
  refine Wp.ret ?_
  refine Ends.ret (.cons (.tmp rfl (Fz.pure rfl)) <|  .nil) ?_
  exact f_edIs_k1
  have nh91 := Nz h91
  refine sk0 rfl h91 <| sk0 rfl h91 <| sk0 rfl h91 <| pkf0 rfl h91 <| mv0 rfl <| sk0 rfl rfl <| sk0 rfl rfl <| sk0 rfl rfl <| pkf0 rfl rfl <| asg0 rfl <| done ?_
  refine Wp.ret ?_
  refine Ends.ret (.cons (.tmp rfl (Fz.pure rfl)) <|  .nil) ?_
  exact f_edIs_k1
  have nh86 := Nz h86
  refine sk0 rfl h86 <| sk0 rfl h86 <| sk0 rfl h86 <| pkf0 rfl h86 <| mv0 rfl <| sk0 rfl rfl <| sk0 rfl rfl <| sk0 rfl rfl <| pkf0 rfl rfl <| mv0 rfl <| sk0 rfl rfl <| sk0 rfl rfl <| sk0 rfl rfl <| pkf0 rfl rfl <| asg0 rfl <| done ?_
  refine Wp.ret ?_
  refine Ends.ret (.cons (.tmp rfl (Fz.pure rfl)) <|  .nil) ?_
  exact f_edIs_k1
  have nh80 := Nz h80
  refine sk0 rfl h80 <| sk0 rfl h80 <| sk0 rfl h80 <| sk0 rfl h80 <| pkf0 rfl h80 <| mv0 rfl <| sk0 rfl rfl <| sk0 rfl rfl <| sk0 rfl rfl <| pkf0 rfl rfl <| mv0 rfl <| sk0 rfl rfl <| sk0 rfl rfl <| sk0 rfl rfl <| pkf0 rfl rfl <| mv0 rfl <| sk0 rfl rfl <| sk0 rfl rfl <| sk0 rfl rfl <| pkf0 rfl rfl <| asg0 rfl <| done ?_
  refine Wp.ret ?_
  refine Ends.ret (.cons (.tmp rfl (Fz.pure rfl)) <|  .nil) ?_
  exact f_edIs_k1
  have nh75 := Nz h75
  refine sk0 rfl h75 <| sk0 rfl h75 <| sk0 rfl h75 <| pkf0 rfl h75 <| mv0 rfl <| sk0 rfl rfl <| sk0 rfl rfl <| sk0 rfl rfl <| sk0 rfl rfl <| pkf0 rfl rfl <| mv0 rfl <| sk0 rfl rfl <| sk0 rfl rfl <| sk0 rfl rfl <| pkf0 rfl rfl <| mv0 rfl <| sk0 rfl rfl <| sk0 rfl rfl <| sk0 rfl rfl <| pkf0 rfl rfl <| mv0 rfl <| sk0 rfl rfl <| sk0 rfl rfl <| sk0 rfl rfl <| pkf0 rfl rfl <| asg0 rfl <| done ?_
  refine Wp.ret ?_
  refine Ends.ret (.cons (.tmp rfl (Fz.pure rfl)) <|  .nil) ?_
  exact f_edIs_k1
  have nh39 := Nz h39
  refine sk0 rfl h39 <| sk0 rfl h39 <| sk0 rfl h39 <| sk0 rfl h39 <| sku0 rfl <| sku0 rfl <| sku0 rfl <| sku0 rfl <| sk0 rfl h39 <| pkf0 rfl h39 <| asg0 rfl <| done ?_
  refine Wp.condF rfl rfl <| Wp.seq <| reg <| faA0 rfl ?_
  refine ldA0 rfl ?_
  refine cmp0 rfl <| asg0 rfl <| done ?_
  refine Wp.cond rfl (fun c6 => ?_) (fun c6 => ?_)
  have nc6 := Nz c6
  refine Wp.skip <| Wp.condT rfl c6 <| Wp.seq <| reg <| asg0 rfl <| done ?_
  refine Wp.ret ?_
  refine Ends.ret (.cons (.tmp rfl (Fz.pure rfl)) <|  .nil) ?_
  exact f_edIs_k1
  have nc6 := Nz c6
  refine reg <| faA0 rfl ?_
  refine ldA0 rfl ?_
  refine cmp0 rfl <| asg0 rfl <| done ?_
  refine Wp.cond rfl (fun c7 => ?_) (fun c7 => ?_)
  have nc7 := Nz c7
  refine Wp.seq <| reg <| asg0 rfl <| done ?_
  refine Wp.ret ?_
  refine Ends.ret (.cons (.tmp rfl (Fz.pure rfl)) <|  .nil) ?_
  exact f_edIs_k1
  have nc7 := Nz c7
  refine Wp.seq <| reg <| faA0 rfl ?_
  refine faA0 rfl ?_
  refine ldA0 rfl ?_
  refine asg0 rfl <| done ?_
  refine Wp.cond rfl (fun c8 => ?_) (fun c8 => ?_)
  have nc8 := Nz c8
  refine Wp.seq <| reg <| faA0 rfl ?_
  refine ldA0 rfl ?_
  refine nt0 rfl <| mv0 rfl ?_
  refine bcase 63 rfl (fun h63 => ?_) (fun h63 => ?_)
  have nh63 := Nz h63
  refine faA1 rfl h63 rfl ?_
  refine ldA1 rfl h63 rfl ?_
  refine faA1 rfl h63 rfl ?_
  refine ldA1 rfl h63 rfl ?_
  refine clw1 rfl h63 rfl f_seeks rfl ?_
  refine pkt0 rfl h63 <| asg0 rfl <| done ?_
  refine Wp.ret ?_
  refine Ends.ret (.cons (.tmp rfl (Fz.pure rfl)) <|  .nil) ?_
  exact f_edIs_k1
  have nh63 := Nz h63
  refine sk0 rfl h63 <| sk0 rfl h63 <| sk0 rfl h63 <| sk0 rfl h63 <| sk0 rfl h63 <| pkf0 rfl h63 <| asg0 rfl <| done ?_
  refine Wp.ret ?_
  refine Ends.ret (.cons (.tmp rfl (Fz.pure rfl)) <|  .nil) ?_
  exact f_edIs_k1
  have nc8 := Nz c8
  refine Wp.skip <| Wp.seq <| reg <| faA0 rfl ?_
  refine ldA0 rfl ?_
  refine al0 67 rfl ?_
  refine stw0 rfl ?_
  refine done ?_
  refine Wp.seq <| reg <| faA0 rfl ?_
  refine ldA0 rfl ?_
  refine nt0 rfl <| mv0 rfl ?_
  refine bcase 75 rfl (fun h75 => ?_) (fun h75 => ?_)
  have nh75 := Nz h75
  refine faA1 rfl h75 rfl ?_
  refine ldA1 rfl h75 rfl ?_
  refine nt1 rfl h75 rfl <| pkt0 rfl h75 <| mv0 rfl ?_
  refine bcase 80 rfl (fun h80 => ?_) (fun h80 => ?_)
  have nh80 := Nz h80
  refine faA1 rfl h80 rfl ?_
  refine ldA1 rfl h80 rfl ?_
  first | refine lnM1 rfl h80 rfl ?_ | refine lns1 rfl h80 rfl ?_ | refine ln1 rfl h80 rfl ?_
  refine cmp1 rfl h80 rfl <| pkt0 rfl h80 <| mv0 rfl ?_
  refine bcase 86 rfl (fun h86 => ?_) (fun h86 => ?_)
  have nh86 := Nz h86
  refine faA1 rfl h86 rfl ?_
  refine ldA1 rfl h86 rfl ?_
  refine cmp1 rfl h86 rfl <| pkt0 rfl h86 <| mv0 rfl ?_
  refine bcase 91 rfl (fun h91 => ?_) (fun h91 => ?_)
  have nh91 := Nz h91
  refine faA1 rfl h91 rfl ?_
  refine ldA1 rfl h91 rfl ?_
  refine cmp1 rfl h91 rfl <| pkt0 rfl h91 <| mv0 rfl ?_
  refine bcase 96 rfl (fun h96 => ?_) (fun h96 => ?_)
  have nh96 := Nz h96
  refine faA1 rfl h96 rfl ?_
  refine ldA1 rfl h96 rfl ?_
  refine cmp1 rfl h96 rfl <| pkt0 rfl h96 <| asg0 rfl <| done ?_
  refine Wp.ret ?_
  refine Ends.ret (.cons (.tmp rfl (Fz.pure rfl)) <|  .nil) ?_
  exact f_edIs_k1
  have nh96 := Nz h96
  refine sk0 rfl h96 <| sk0 rfl h96 <| sk0 rfl h96 <| pkf0 rfl h96 <| asg0 rfl <| done ?_
  refine Wp.ret ?_
  refine Ends.ret (.cons (.tmp rfl (Fz.pure rfl)) <|  .nil) ?_
  exact f_edIs_k1
  have nh91 := Nz h91
  refine sk0 rfl h91 <| sk0 rfl h91 <| sk0 rfl h91 <| pkf0 rfl h91 <| mv0 rfl <| sk0 rfl rfl <| sk0 rfl rfl <| sk0 rfl rfl <| pkf0 rfl rfl <| asg0 rfl <| done ?_
  refine Wp.ret ?_
  refine Ends.ret (.cons (.tmp rfl (Fz.pure rfl)) <|  .nil) ?_
  exact f_edIs_k1
  have nh86 := Nz h86
  refine sk0 rfl h86 <| sk0 rfl h86 <| sk0 rfl h86 <| pkf0 rfl h86 <| mv0 rfl <| sk0 rfl rfl <| sk0 rfl rfl <| sk0 rfl rfl <| pkf0 rfl rfl <| mv0 rfl <| sk0 rfl rfl <| sk0 rfl rfl <| sk0 rfl rfl <| pkf0 rfl rfl <| asg0 rfl <| done ?_
  refine Wp.ret ?_
  refine Ends.ret (.cons (.tmp rfl (Fz.pure rfl)) <|  .nil) ?_
  exact f_edIs_k1
  have nh80 := Nz h80
  refine sk0 rfl h80 <| sk0 rfl h80 <| sk0 rfl h80 <| sk0 rfl h80 <| pkf0 rfl h80 <| mv0 rfl <| sk0 rfl rfl <| sk0 rfl rfl <| sk0 rfl rfl <| pkf0 rfl rfl <| mv0 rfl <| sk0 rfl rfl <| sk0 rfl rfl <| sk0 rfl rfl <| pkf0 rfl rfl <| mv0 rfl <| sk0 rfl rfl <| sk0 rfl rfl <| sk0 rfl rfl <| pkf0 rfl rfl <| asg0 rfl <| done ?_
  refine Wp.ret ?_
  refine Ends.ret (.cons (.tmp rfl (Fz.pure rfl)) <|  .nil) ?_
  exact f_edIs_k1
  have nh75 := Nz h75
  refine sk0 rfl h75 <| sk0 rfl h75 <| sk0 rfl h75 <| pkf0 rfl h75 <| mv0 rfl <| sk0 rfl rfl <| sk0 rfl rfl <| sk0 rfl rfl <| sk0 rfl rfl <| pkf0 rfl rfl <| mv0 rfl <| sk0 rfl rfl <| sk0 rfl rfl <| sk0 rfl rfl <| pkf0 rfl rfl <| mv0 rfl <| sk0 rfl rfl <| sk0 rfl rfl <| sk0 rfl rfl <| pkf0 rfl rfl <| mv0 rfl <| sk0 rfl rfl <| sk0 rfl rfl <| sk0 rfl rfl <| pkf0 rfl rfl <| asg0 rfl <| done ?_
  refine Wp.ret ?_
  refine Ends.ret (.cons (.tmp rfl (Fz.pure rfl)) <|  .nil) ?_
  exact f_edIs_k1

end Go.Proofs.YtkcdmmafkpplhaaGreat
/- Walks of layer 24: the desk. -/
namespace Go.Proofs.YtkcdmmafkpplhaaGreat
open Go.Eng
theorem isT {b : Bool} (h : b = true) : ¬ b = false := by rw [h]; exact fun h => Bool.noConfusion h
theorem isF {b : Bool} (h : b = false) : ¬ b = true := by rw [h]; exact Bool.false_ne_true

set_option maxRecDepth 20000 in
theorem f_doff {x : Desk}  : FnG PP 54 [.ptr 0 0] [(0, .cells 77 (deskC x))] (.tup []) [(0, .cells 77 (deskC ⟨offS x.ed, x.line, x.is_⟩))] [0] := by
  refine FnG.of_body 1 Tryz.func54 rfl (by kernel_rfl) rfl rfl rfl ?_
  refine reg <| mv0 rfl <| mv0 rfl <| mv0 rfl <| nck0 rfl <| faA0 rfl ?_
  refine faA0 rfl ?_
  refine faA0 rfl ?_
  refine stw0 rfl ?_
  refine nck0 rfl <| faA0 rfl ?_
  refine faA0 rfl ?_
  refine faA0 rfl ?_
  refine stw0 rfl ?_
  refine nck0 rfl <| faA0 rfl ?_
  refine faA0 rfl ?_
  refine faA0 rfl ?_
  refine stw0 rfl ?_
  refine done ?_
  refine EndsG.one (.inl rfl) ( .nil) ?_ rfl ?_
  · rfl
  · exact .of_eq rfl

theorem f_ddo_k1 {p : Prop} (h : p := by
    unfold doEd; first | (rw [if_pos (by assumption)]; exact .of_eq rfl) | (rw [if_neg (not_not_intro (by assumption))]; exact .of_eq rfl)) : p := h
set_option maxRecDepth 20000 in
theorem f_ddo {x : Desk} {a : ActE} (ok : EdOk x.ed) : FnG PP 51 [.ptr 0 0, actD a] [(0, .cells 77 (deskC x))] (.tup []) [(0, .cells 77 (deskC ⟨doEd x.ed a, x.line, x.is_⟩))] [0] := by
  refine FnG.of_body 1 Tryz.func51 rfl (by kernel_rfl) rfl rfl rfl ?_
  refine Wp.seq <| reg <| bx0 67 rfl ?_
  refine done ?_
  refine Wp.seq <| regd mixed ?_
  refine mv0 rfl <| nck0 rfl <| faA0 rfl ?_
  refine faA0 rfl ?_
  refine ldA0 rfl ?_
  refine ldA0 rfl ?_
  refine mv0 rfl <| nck0 rfl <| faA0 rfl ?_
  refine faA0 rfl ?_
  refine ldA0 rfl ?_
  refine clw0 rfl f_value rfl ?_
  refine clw0 rfl (f_editDo ok.u (Nat.le_trans ok.a (by omega)) (Nat.le_trans ok.b (by omega))) rfl ?_
  refine mv0 rfl <| xt0 rfl <| xt0 rfl <| al0 68 rfl ?_
  refine stw0 rfl ?_
  refine asg0 rfl ?_
  refine done ⟨by kernel_rfl, by kernel_rfl, ?_⟩
  refine Wp.seq <| Wp.seq <| reg <| mv0 rfl <| cmp0 rfl <| done ?_
  refine Wp.cond rfl (fun c1 => ?_) (fun c1 => ?_)
  have nc1 := Nz c1
  refine Wp.seq <| reg <| mv0 rfl <| clmw0 0 rfl f_doff rfl ?_
  refine done ?_
  refine Wp.ret ?_
  refine EndsG.one (.inr rfl) ( .nil) ?_ rfl ?_
  · rfl
  · exact f_ddo_k1
  have nc1 := Nz c1
  refine Wp.skip <| reg <| mv0 rfl <| ldA0 rfl ?_
  refine nck0 rfl <| faA0 rfl ?_
  refine faA0 rfl ?_
  refine stw0 rfl ?_
  refine done ?_
  refine EndsG.one (.inl rfl) ( .nil) ?_ rfl ?_
  · rfl
  · exact f_ddo_k1

theorem f_dgoes_k1 {p : Prop} (h : p := by
    unfold goesS; first | (rw [if_pos (by assumption)]; exact .of_eq rfl) | (rw [if_neg (by assumption)]; exact .of_eq rfl)) : p := h
set_option maxRecDepth 20000 in
theorem f_dgoes {x : Desk} {i : Int} (ok : EdOk x.ed) : FnG PP 55 [.ptr 0 0, .int .i64 i] [(0, .cells 77 (deskC x))] (.tup []) [(0, .cells 77 (deskC ⟨goesS x.ed i, x.line, x.is_⟩))] [0] := by
  refine FnG.of_body 1 Tryz.func55 rfl (by kernel_rfl) rfl rfl rfl ?_
  refine Wp.seq <| reg <| mv0 rfl <| clmw0 0 rfl f_doff rfl ?_
  refine done ?_
  refine Wp.seq <| regd mixed ?_
  refine mv0 rfl <| nck0 rfl <| faA0 rfl ?_
  refine faA0 rfl ?_
  refine ldA0 rfl ?_
  refine mv0 rfl <| nck0 rfl <| faA0 rfl ?_
  refine faA0 rfl ?_
  refine ldA0 rfl ?_
  refine mv0 rfl <| nck0 rfl <| faA0 rfl ?_
  refine faA0 rfl ?_
  refine faA0 rfl ?_
  refine ldA0 rfl ?_
  refine mv0 rfl <| clw0 rfl (f_stashGo (small_stash ok.s) (Nat.le_trans ok.a (by omega)) (Nat.le_trans ok.b (by omega))) rfl ?_
  refine mv0 rfl <| xt0 rfl <| xt0 rfl <| xt0 rfl <| al0 68 rfl ?_
  refine al0 69 rfl ?_
  refine stw0 rfl ?_
  refine stw0 rfl ?_
  refine asg0 rfl ?_
  refine done ⟨by kernel_rfl, by kernel_rfl, ?_⟩
  refine Wp.seq <| reg <| mv0 rfl <| cmp0 rfl <| done ?_
  refine Wp.cond rfl (fun c1 => ?_) (fun c1 => ?_)
  have nc1 := Nz c1
  refine regd mixed ?_
  refine mv0 rfl <| mv0 rfl <| mv0 rfl <| ldA0 rfl ?_
  refine ldA0 rfl ?_
  refine bdw0 rfl ?_
  refine nck0 rfl <| faA0 rfl ?_
  refine faA0 rfl ?_
  refine stw0 rfl ?_
  refine nck0 rfl <| faA0 rfl ?_
  refine faA0 rfl ?_
  refine faA0 rfl ?_
  refine stw0 rfl ?_
  refine nck0 rfl <| faA0 rfl ?_
  refine faA0 rfl ?_
  refine faA0 rfl ?_
  refine stw0 rfl ?_
  refine done ⟨by kernel_rfl, by kernel_rfl, ?_⟩
  refine EndsG.one (.inl rfl) ( .nil) ?_ rfl ?_
  · rfl
  · exact f_dgoes_k1
  have nc1 := Nz c1
  refine Wp.skip ?_
  refine EndsG.one (.inl rfl) ( .nil) ?_ rfl ?_
  · rfl
  · exact f_dgoes_k1

theorem f_dlook_k1 {p : Prop} (h : p := by
    first | (have hfs : findS x.ed.f.fore x.ed.p pat from_ = findFore x.ed.p pat from_ := if_pos (by assumption); unfold lookS; rw [hfs]; first | (rw [if_pos (by assumption)]; rfl) | (rw [if_neg (not_not_intro (by assumption))]; rfl)) | (have hfs : findS x.ed.f.fore x.ed.p pat from_ = findBack x.ed.p pat from_ := if_neg (isF nc1); unfold lookS; rw [hfs]; first | (rw [if_pos (by assumption)]; rfl) | (rw [if_neg (not_not_intro (by assumption))]; rfl))) : p := h
theorem f_dlook_k2 {p : Prop} (h : p := by
    first | (have hfs : findS x.ed.f.fore x.ed.p pat from_ = findFore x.ed.p pat from_ := if_pos (by assumption); unfold lookS; rw [hfs]; first | (rw [if_pos (by assumption)]; exact .of_eq rfl) | (rw [if_neg (not_not_intro (by assumption))]; exact .of_eq rfl)) | (have hfs : findS x.ed.f.fore x.ed.p pat from_ = findBack x.ed.p pat from_ := if_neg (isF nc1); unfold lookS; rw [hfs]; first | (rw [if_pos (by assumption)]; exact .of_eq rfl) | (rw [if_neg (not_not_intro (by assumption))]; exact .of_eq rfl))) : p := h
set_option maxRecDepth 20000 in
theorem f_dlook {x : Desk} {pat : List Int} {from_ : Int} : FnG PP 52 [.ptr 0 0, rl pat, .int .i64 from_] [(0, .cells 77 (deskC x))] (.bool (lookS x.ed pat from_).2) [(0, .cells 77 (deskC ⟨(lookS x.ed pat from_).1, x.line, x.is_⟩))] [0] := by
  refine FnG.of_body 1 Tryz.func52 rfl (by kernel_rfl) rfl rfl rfl ?_
  refine Wp.seq <| reg <| asg0 rfl <| done ?_
  refine Wp.seq <| reg <| asg0 rfl <| done ?_
  refine Wp.seq <| Wp.seq <| reg <| mv0 rfl <| nck0 rfl <| faA0 rfl ?_
  refine faA0 rfl ?_
  refine faA0 rfl ?_
  refine ldA0 rfl ?_
  refine done ?_
  refine Wp.cond rfl (fun c1 => ?_) (fun c1 => ?_)
  have nc1 := Nz c1
  refine reg <| asg0 rfl <| done ?_
  refine Wp.seq <| reg <| mv0 rfl <| mv0 rfl <| nck0 rfl <| faA0 rfl ?_
  refine faA0 rfl ?_
  refine ldA0 rfl ?_
  refine mv0 rfl <| mv0 rfl ?_
  first | refine clw0 rfl f_back rfl ?_ | refine clw0 rfl f_fore rfl ?_
  refine mv0 rfl <| xt0 rfl <| xt0 rfl <| xt0 rfl <| asg0 rfl <| asg0 rfl <| asg0 rfl <| done ?_
  refine Wp.seq <| Wp.seq <| reg <| mv0 rfl <| cmp0 rfl <| done ?_
  refine Wp.cond rfl (fun c2 => ?_) (fun c2 => ?_)
  have nc2 := Nz c2
  refine Wp.seq <| reg <| asg0 rfl <| done ?_
  refine Wp.ret ?_
  refine EndsG.one (.inr rfl) (.cons (.tmp rfl FzG.same) <|  .nil) ?_ rfl ?_
  · exact f_dlook_k1
  · exact f_dlook_k2
  have nc2 := Nz c2
  refine Wp.skip <| Wp.seq <| reg <| mv0 rfl <| mv0 rfl <| mv0 rfl <| mv0 rfl <| mv0 rfl <| nck0 rfl <| faA0 rfl ?_
  refine faA0 rfl ?_
  refine faA0 rfl ?_
  refine stw0 rfl ?_
  refine nck0 rfl <| faA0 rfl ?_
  refine faA0 rfl ?_
  refine faA0 rfl ?_
  refine stw0 rfl ?_
  refine nck0 rfl <| faA0 rfl ?_
  refine faA0 rfl ?_
  refine faA0 rfl ?_
  refine stw0 rfl ?_
  refine done ?_
  refine Wp.seq <| reg <| asg0 rfl <| done ?_
  refine Wp.ret ?_
  refine EndsG.one (.inr rfl) (.cons (.tmp rfl FzG.same) <|  .nil) ?_ rfl ?_
  · exact f_dlook_k1
  · exact f_dlook_k2
  have nc1 := Nz c1
  refine Wp.skip <| Wp.seq <| reg <| mv0 rfl <| mv0 rfl <| nck0 rfl <| faA0 rfl ?_
  refine faA0 rfl ?_
  refine ldA0 rfl ?_
  refine mv0 rfl <| mv0 rfl ?_
  first | refine clw0 rfl f_back rfl ?_ | refine clw0 rfl f_fore rfl ?_
  refine mv0 rfl <| xt0 rfl <| xt0 rfl <| xt0 rfl <| asg0 rfl <| asg0 rfl <| asg0 rfl <| done ?_
  refine Wp.seq <| Wp.seq <| reg <| mv0 rfl <| cmp0 rfl <| done ?_
  refine Wp.cond rfl (fun c3 => ?_) (fun c3 => ?_)
  have nc3 := Nz c3
  refine Wp.seq <| reg <| asg0 rfl <| done ?_
  refine Wp.ret ?_
  refine EndsG.one (.inr rfl) (.cons (.tmp rfl FzG.same) <|  .nil) ?_ rfl ?_
  · exact f_dlook_k1
  · exact f_dlook_k2
  have nc3 := Nz c3
  refine Wp.skip <| Wp.seq <| reg <| mv0 rfl <| mv0 rfl <| mv0 rfl <| mv0 rfl <| mv0 rfl <| nck0 rfl <| faA0 rfl ?_
  refine faA0 rfl ?_
  refine faA0 rfl ?_
  refine stw0 rfl ?_
  refine nck0 rfl <| faA0 rfl ?_
  refine faA0 rfl ?_
  refine faA0 rfl ?_
  refine stw0 rfl ?_
  refine nck0 rfl <| faA0 rfl ?_
  refine faA0 rfl ?_
  refine faA0 rfl ?_
  refine stw0 rfl ?_
  refine done ?_
  refine Wp.seq <| reg <| asg0 rfl <| done ?_
  refine Wp.ret ?_
  refine EndsG.one (.inr rfl) (.cons (.tmp rfl FzG.same) <|  .nil) ?_ rfl ?_
  · exact f_dlook_k1
  · exact f_dlook_k2

set_option maxRecDepth 20000 in
theorem f_daccept {x : Desk} (ok : EdOk x.ed) : FnG PP 60 [.ptr 0 0] [(0, .cells 77 (deskC x))] (.tup []) [(0, .cells 77 (deskC ⟨acceptEd x.ed, textS x.ed.e.g, true⟩))] [0] := by
  refine FnG.of_body 1 Tryz.func60 rfl (by kernel_rfl) rfl rfl rfl ?_
  refine Wp.seq <| reg <| mv0 rfl <| mv0 rfl <| mv0 rfl <| nck0 rfl <| faA0 rfl ?_
  refine faA0 rfl ?_
  refine faA0 rfl ?_
  refine ldA0 rfl ?_
  refine clw0 rfl (FnO.toP (f_textO (Nat.le_trans ok.a (by omega)) (Nat.le_trans ok.b (by omega)))) rfl ?_
  refine nck0 rfl <| faA0 rfl ?_
  refine stw0 rfl ?_
  refine nck0 rfl <| faA0 rfl ?_
  refine stw0 rfl ?_
  refine done ?_
  refine Wp.seq <| regd mixed ?_
  refine mv0 rfl <| mv0 rfl <| nck0 rfl <| faA0 rfl ?_
  refine faA0 rfl ?_
  refine ldA0 rfl ?_
  refine mv0 rfl <| nck0 rfl <| faA0 rfl ?_
  refine ldA0 rfl ?_
  refine clw0 rfl f_pastAdd rfl ?_
  refine nck0 rfl <| faA0 rfl ?_
  refine faA0 rfl ?_
  refine stw0 rfl ?_
  refine done ⟨by kernel_rfl, by kernel_rfl, ?_⟩
  refine Wp.seq <| reg <| mv0 rfl <| mv0 rfl <| nck0 rfl <| faA0 rfl ?_
  refine faA0 rfl ?_
  refine faA0 rfl ?_
  refine ldA0 rfl ?_
  refine bdw0 rfl ?_
  refine nck0 rfl <| faA0 rfl ?_
  refine faA0 rfl ?_
  refine stw0 rfl ?_
  refine done ?_
  refine reg <| mv0 rfl <| mv0 rfl <| nck0 rfl <| faA0 rfl ?_
  refine faA0 rfl ?_
  refine ldA0 rfl ?_
  refine clw0 rfl f_stashOpen rfl ?_
  refine nck0 rfl <| faA0 rfl ?_
  refine faA0 rfl ?_
  refine stw0 rfl ?_
  refine done ?_
  refine EndsG.one (.inl rfl) ( .nil) ?_ rfl ?_
  · rfl
  · exact .of_eq rfl

theorem f_dprefix_k1 {p : Prop} (h : p := by
    unfold prefixEd; first | (rw [if_pos (by assumption)]; exact .of_eq rfl) | (rw [if_neg (not_not_intro (by assumption))]; exact .of_eq rfl)) : p := h
set_option maxRecDepth 20000 in
theorem f_dprefix {x : Desk} (ok : EdOk x.ed) (hat : 0 ≤ x.ed.s.at_ ∧ x.ed.s.at_ ≤ 1000) : FnG PP 61 [.ptr 0 0] [(0, .cells 77 (deskC x))] (.tup []) [(0, .cells 77 (deskC ⟨prefixEd x.ed, x.line, x.is_⟩))] [0] := by
  refine FnG.of_body 1 Tryz.func61 rfl (by kernel_rfl) rfl rfl rfl ?_
  refine Wp.seq <| reg <| mv0 rfl <| nck0 rfl <| faA0 rfl ?_
  refine faA0 rfl ?_
  refine faA0 rfl ?_
  refine faA0 rfl ?_
  refine ldA0 rfl ?_
  refine asg0 rfl <| done ?_
  refine Wp.seq <| regd mixed ?_
  refine mv0 rfl <| nck0 rfl <| faA0 rfl ?_
  refine faA0 rfl ?_
  refine ldA0 rfl ?_
  refine mv0 rfl <| mv0 rfl <| nck0 rfl <| faA0 rfl ?_
  refine faA0 rfl ?_
  refine faA0 rfl ?_
  refine ldA0 rfl ?_
  refine ar0 rfl (wrapI Bd) <| clw0 rfl f_prefix rfl ?_
  refine mv0 rfl <| xt0 rfl <| xt0 rfl <| asg0 rfl <| asg0 rfl ?_
  refine done ⟨by kernel_rfl, by kernel_rfl, ?_⟩
  refine Wp.seq <| Wp.seq <| reg <| mv0 rfl <| cmp0 rfl <| done ?_
  refine Wp.cond rfl (fun c1 => ?_) (fun c1 => ?_)
  have nc1 := Nz c1
  refine Wp.seq <| reg <| mv0 rfl <| clmw0 0 rfl f_doff rfl ?_
  refine done ?_
  refine Wp.ret ?_
  refine EndsG.one (.inr rfl) ( .nil) ?_ rfl ?_
  · rfl
  · exact f_dprefix_k1
  have nc1 := Nz c1
  refine Wp.skip <| Wp.seq <| reg <| mv0 rfl <| mv0 rfl <| clmw0 0 rfl (f_dgoes ok) rfl ?_
  refine done ?_
  refine reg <| mv0 rfl <| mv0 rfl <| nck0 rfl <| faA0 rfl ?_
  refine faA0 rfl ?_
  refine faA0 rfl ?_
  refine ldA0 rfl ?_
  refine mv0 rfl ?_
  first | refine lnM0 rfl ?_ | refine lns0 rfl ?_ | refine ln0 rfl ?_
  refine clw0 rfl (f_go (by have := (ok_goes ok (prefixS x.ed.p x.ed.e.g.a (x.ed.s.at_ - 1)).1).a; exact Nat.le_trans this (by omega)) (by have := (ok_goes ok (prefixS x.ed.p x.ed.e.g.a (x.ed.s.at_ - 1)).1).b; exact Nat.le_trans this (by omega))) rfl ?_
  refine nck0 rfl <| faA0 rfl ?_
  refine faA0 rfl ?_
  refine faA0 rfl ?_
  refine stw0 rfl ?_
  refine done ?_
  refine EndsG.one (.inl rfl) ( .nil) ?_ rfl ?_
  · rfl
  · exact f_dprefix_k1

end Go.Proofs.YtkcdmmafkpplhaaGreat
/- Walks of layer 24: keys at the desk. -/
namespace Go.Proofs.YtkcdmmafkpplhaaGreat
open Go.Eng

theorem f_dquoted_k1 {p : Prop} (h : p := by
    unfold quotedEd; first | (rw [if_pos (by assumption)]; exact .of_eq rfl) | (rw [if_neg (by assumption), if_pos (by assumption)]; exact .of_eq rfl) | (rw [if_neg (by assumption), if_neg (by assumption)]; exact .of_eq rfl)) : p := h
set_option maxRecDepth 20000 in
theorem f_dquoted {x : Desk} {k r : Int} (ok : EdOk x.ed) : FnG PP 29 [.ptr 0 0, .agg [.int .i64 k, .int .i32 r]] [(0, .cells 77 (deskC x))] (.tup []) [(0, .cells 77 (deskC ⟨quotedEd x.ed k r, x.line, x.is_⟩))] [0] := by
  refine FnG.of_body 1 Tryz.func29 rfl (by kernel_rfl) rfl rfl rfl ?_
  refine Wp.seq <| reg <| bx0 67 rfl ?_
  refine done ?_
  refine Wp.seq <| reg <| mv0 rfl <| nck0 rfl <| faA0 rfl ?_
  refine faA0 rfl ?_
  refine stw0 rfl ?_
  refine done ?_
  refine Wp.seq <| Wp.seq <| reg <| faA0 rfl ?_
  refine ldA0 rfl ?_
  refine done ?_
  refine Wp.block <| Wp.seq <| reg <| cmp0 rfl <| asg0 rfl <| done ?_
  refine Wp.cond rfl (fun c1 => ?_) (fun c1 => ?_)
  have nc1 := Nz c1
  refine reg <| mv0 rfl <| faA0 rfl ?_
  refine ldA0 rfl ?_
  refine bdw0 rfl ?_
  refine clmw0 0 rfl (f_ddo (x := ⟨setQ x.ed false, x.line, x.is_⟩) (a := ⟨2, 0, 0, r⟩) ⟨ok.u, ok.a, ok.b, ok.s⟩) rfl ?_
  refine done ?_
  refine reg <| mv0 rfl <| bdw0 rfl ?_
  refine nck0 rfl <| faA0 rfl ?_
  refine faA0 rfl ?_
  refine stw0 rfl ?_
  refine done ?_
  refine EndsG.one (.inl rfl) ( .nil) ?_ rfl ?_
  · rfl
  · exact f_dquoted_k1
  have nc1 := Nz c1
  refine Wp.seq <| reg <| cmp0 rfl <| asg0 rfl <| done ?_
  refine Wp.cond rfl (fun c2 => ?_) (fun c2 => ?_)
  have nc2 := Nz c2
  refine reg <| mv0 rfl <| bdw0 rfl ?_
  refine clmw0 0 rfl (f_ddo (x := ⟨setQ x.ed false, x.line, x.is_⟩) (a := ⟨2, 0, 0, 27⟩) ⟨ok.u, ok.a, ok.b, ok.s⟩) rfl ?_
  refine done ?_
  refine reg <| mv0 rfl <| bdw0 rfl ?_
  refine nck0 rfl <| faA0 rfl ?_
  refine faA0 rfl ?_
  refine stw0 rfl ?_
  refine done ?_
  refine EndsG.one (.inl rfl) ( .nil) ?_ rfl ?_
  · rfl
  · exact f_dquoted_k1
  have nc2 := Nz c2
  refine Wp.skip <| reg <| mv0 rfl <| bdw0 rfl ?_
  refine nck0 rfl <| faA0 rfl ?_
  refine faA0 rfl ?_
  refine stw0 rfl ?_
  refine done ?_
  refine EndsG.one (.inl rfl) ( .nil) ?_ rfl ?_
  · rfl
  · exact f_dquoted_k1

theorem f_dend_k1 {p : Prop} (h : p := by
    unfold endEd; first | (rw [if_pos (by assumption)]; exact .of_eq rfl) | (rw [if_neg (isT nc1), show endTo x.ed = goesS (offS (setF x.ed noSearch)) x.ed.f.i from if_pos (by assumption)]; exact .of_eq rfl) | (rw [if_neg (isT nc1), show endTo x.ed = offS (setF x.ed noSearch) from if_neg (not_not_intro (by assumption))]; exact .of_eq rfl)) : p := h
set_option maxRecDepth 20000 in
theorem f_dend {x : Desk} (ok : EdOk x.ed) : FnG PP 31 [.ptr 0 0] [(0, .cells 77 (deskC x))] (.tup []) [(0, .cells 77 (deskC ⟨endEd x.ed, x.line, x.is_⟩))] [0] := by
  refine FnG.of_body 1 Tryz.func31 rfl (by kernel_rfl) rfl rfl rfl ?_
  refine Wp.seq <| reg <| mv0 rfl <| nck0 rfl <| faA0 rfl ?_
  refine faA0 rfl ?_
  refine ldA0 rfl ?_
  refine al0 66 rfl ?_
  refine stw0 rfl ?_
  refine done ?_
  refine Wp.seq <| reg <| mv0 rfl <| bdw0 rfl ?_
  refine nck0 rfl <| faA0 rfl ?_
  refine faA0 rfl ?_
  refine stw0 rfl ?_
  refine done ?_
  refine Wp.seq <| Wp.seq <| reg <| faA0 rfl ?_
  refine ldA0 rfl ?_
  refine nt0 rfl <| done ?_
  refine Wp.cond rfl (fun c1 => ?_) (fun c1 => ?_)
  have nc1 := Nz c1
  refine Wp.ret ?_
  refine EndsG.one (.inr rfl) ( .nil) ?_ rfl ?_
  · rfl
  · exact f_dend_k1
  have nc1 := Nz c1
  refine Wp.skip <| Wp.seq <| reg <| mv0 rfl <| clmw0 0 rfl (f_doff (x := ⟨setF x.ed noSearch, x.line, x.is_⟩)) rfl ?_
  refine done ?_
  refine Wp.seq <| Wp.seq <| regd mixed ?_
  refine faA0 rfl ?_
  refine ldA0 rfl ?_
  refine mv0 rfl <| nck0 rfl <| faA0 rfl ?_
  refine faA0 rfl ?_
  refine faA0 rfl ?_
  refine ldA0 rfl ?_
  refine cmp0 rfl ?_
  refine done ⟨by kernel_rfl, by kernel_rfl, ?_⟩
  refine Wp.cond rfl (fun c2 => ?_) (fun c2 => ?_)
  have nc2 := Nz c2
  refine reg <| mv0 rfl <| faA0 rfl ?_
  refine ldA0 rfl ?_
  refine clmw0 0 rfl (f_dgoes (x := ⟨offS (setF x.ed noSearch), x.line, x.is_⟩) ⟨ok.u, ok.a, ok.b, ok.s⟩) rfl ?_
  refine done ?_
  refine regd mixed ?_
  refine mv0 rfl <| mv0 rfl <| nck0 rfl <| faA0 rfl ?_
  refine faA0 rfl ?_
  refine faA0 rfl ?_
  refine ldA0 rfl ?_
  refine faA0 rfl ?_
  refine ldA0 rfl ?_
  first | refine clw0 rfl (f_go (a := (goesS (offS (setF x.ed noSearch)) x.ed.f.i).e.g.a) (b := (goesS (offS (setF x.ed noSearch)) x.ed.f.i).e.g.b) (Nat.le_trans (ok_goes (d := offS (setF x.ed noSearch)) ⟨ok.u, ok.a, ok.b, ok.s⟩ x.ed.f.i).a (by omega)) (Nat.le_trans (ok_goes (d := offS (setF x.ed noSearch)) ⟨ok.u, ok.a, ok.b, ok.s⟩ x.ed.f.i).b (by omega))) rfl ?_ | refine clw0 rfl (f_go (Nat.le_trans ok.a (by omega)) (Nat.le_trans ok.b (by omega))) rfl ?_
  refine nck0 rfl <| faA0 rfl ?_
  refine faA0 rfl ?_
  refine faA0 rfl ?_
  refine stw0 rfl ?_
  refine done ⟨by kernel_rfl, by kernel_rfl, ?_⟩
  refine EndsG.one (.inl rfl) ( .nil) ?_ rfl ?_
  · rfl
  · exact f_dend_k1
  have nc2 := Nz c2
  refine Wp.skip <| regd mixed ?_
  refine mv0 rfl <| mv0 rfl <| nck0 rfl <| faA0 rfl ?_
  refine faA0 rfl ?_
  refine faA0 rfl ?_
  refine ldA0 rfl ?_
  refine faA0 rfl ?_
  refine ldA0 rfl ?_
  first | refine clw0 rfl (f_go (a := (goesS (offS (setF x.ed noSearch)) x.ed.f.i).e.g.a) (b := (goesS (offS (setF x.ed noSearch)) x.ed.f.i).e.g.b) (Nat.le_trans (ok_goes (d := offS (setF x.ed noSearch)) ⟨ok.u, ok.a, ok.b, ok.s⟩ x.ed.f.i).a (by omega)) (Nat.le_trans (ok_goes (d := offS (setF x.ed noSearch)) ⟨ok.u, ok.a, ok.b, ok.s⟩ x.ed.f.i).b (by omega))) rfl ?_ | refine clw0 rfl (f_go (Nat.le_trans ok.a (by omega)) (Nat.le_trans ok.b (by omega))) rfl ?_
  refine nck0 rfl <| faA0 rfl ?_
  refine faA0 rfl ?_
  refine faA0 rfl ?_
  refine stw0 rfl ?_
  refine done ⟨by kernel_rfl, by kernel_rfl, ?_⟩
  refine EndsG.one (.inl rfl) ( .nil) ?_ rfl ?_
  · rfl
  · exact f_dend_k1

theorem f_dseek_k1 {p : Prop} (h : p := by
    unfold seekEd; first | (rw [if_pos (by omega)]; rfl) | (rw [if_neg (by omega), if_pos (by omega), show turnFrom x.ed.f (r == 19) = x.ed.f.i + 1 from (if_neg (isT (by assumption))).trans (if_pos (by assumption))]; rfl) | (rw [if_neg (by omega), if_pos (by omega), show turnFrom x.ed.f (r == 19) = x.ed.f.i - 1 from (if_neg (isT (by assumption))).trans (if_neg (isF (by assumption)))]; rfl) | (rw [if_neg (by omega), if_pos (by omega), show turnFrom x.ed.f (r == 19) = x.ed.f.from_ from if_pos (by assumption)]; rfl) | (rw [if_neg (by omega), if_neg (by omega), if_pos (by omega)]; rfl) | (rw [if_neg (by omega), if_neg (by omega), if_neg (by omega), if_pos (.inl (by omega))]; rfl) | (rw [if_neg (by omega), if_neg (by omega), if_neg (by omega), if_pos (.inr (by assumption))]; rfl) | (rw [if_neg (by omega), if_neg (by omega), if_neg (by omega), if_neg (not_or.2 ⟨by omega, isT (by assumption)⟩), if_pos (by omega), show (if x.ed.f.hit = true then x.ed.f.i else x.ed.f.from_) = x.ed.f.i from if_pos (by assumption), if_pos (by assumption)]; rfl) | (rw [if_neg (by omega), if_neg (by omega), if_neg (by omega), if_neg (not_or.2 ⟨by omega, isT (by assumption)⟩), if_pos (by omega), show (if x.ed.f.hit = true then x.ed.f.i else x.ed.f.from_) = x.ed.f.i from if_pos (by assumption), if_neg (isF (by assumption))]; rfl) | (rw [if_neg (by omega), if_neg (by omega), if_neg (by omega), if_neg (not_or.2 ⟨by omega, isT (by assumption)⟩), if_pos (by omega), show (if x.ed.f.hit = true then x.ed.f.i else x.ed.f.from_) = x.ed.f.from_ from if_neg (isF (by assumption)), if_pos (by assumption)]; rfl) | (rw [if_neg (by omega), if_neg (by omega), if_neg (by omega), if_neg (not_or.2 ⟨by omega, isT (by assumption)⟩), if_pos (by omega), show (if x.ed.f.hit = true then x.ed.f.i else x.ed.f.from_) = x.ed.f.from_ from if_neg (isF (by assumption)), if_neg (isF (by assumption))]; rfl) | (rw [if_neg (by omega), if_neg (by omega), if_neg (by omega), if_neg (not_or.2 ⟨by omega, isT (by assumption)⟩), if_neg (by omega)]; rfl)) : p := h
theorem f_dseek_k2 {p : Prop} (h : p := by
    unfold seekEd; first | (rw [if_pos (by omega)]; exact .of_eq rfl) | (rw [if_neg (by omega), if_pos (by omega), show turnFrom x.ed.f (r == 19) = x.ed.f.i + 1 from (if_neg (isT (by assumption))).trans (if_pos (by assumption))]; exact .of_eq rfl) | (rw [if_neg (by omega), if_pos (by omega), show turnFrom x.ed.f (r == 19) = x.ed.f.i - 1 from (if_neg (isT (by assumption))).trans (if_neg (isF (by assumption)))]; exact .of_eq rfl) | (rw [if_neg (by omega), if_pos (by omega), show turnFrom x.ed.f (r == 19) = x.ed.f.from_ from if_pos (by assumption)]; exact .of_eq rfl) | (rw [if_neg (by omega), if_neg (by omega), if_pos (by omega)]; exact .of_eq rfl) | (rw [if_neg (by omega), if_neg (by omega), if_neg (by omega), if_pos (.inl (by omega))]; exact .of_eq rfl) | (rw [if_neg (by omega), if_neg (by omega), if_neg (by omega), if_pos (.inr (by assumption))]; exact .of_eq rfl) | (rw [if_neg (by omega), if_neg (by omega), if_neg (by omega), if_neg (not_or.2 ⟨by omega, isT (by assumption)⟩), if_pos (by omega), show (if x.ed.f.hit = true then x.ed.f.i else x.ed.f.from_) = x.ed.f.i from if_pos (by assumption), if_pos (by assumption)]; exact .of_eq rfl) | (rw [if_neg (by omega), if_neg (by omega), if_neg (by omega), if_neg (not_or.2 ⟨by omega, isT (by assumption)⟩), if_pos (by omega), show (if x.ed.f.hit = true then x.ed.f.i else x.ed.f.from_) = x.ed.f.i from if_pos (by assumption), if_neg (isF (by assumption))]; exact .of_eq rfl) | (rw [if_neg (by omega), if_neg (by omega), if_neg (by omega), if_neg (not_or.2 ⟨by omega, isT (by assumption)⟩), if_pos (by omega), show (if x.ed.f.hit = true then x.ed.f.i else x.ed.f.from_) = x.ed.f.from_ from if_neg (isF (by assumption)), if_pos (by assumption)]; exact .of_eq rfl) | (rw [if_neg (by omega), if_neg (by omega), if_neg (by omega), if_neg (not_or.2 ⟨by omega, isT (by assumption)⟩), if_pos (by omega), show (if x.ed.f.hit = true then x.ed.f.i else x.ed.f.from_) = x.ed.f.from_ from if_neg (isF (by assumption)), if_neg (isF (by assumption))]; exact .of_eq rfl) | (rw [if_neg (by omega), if_neg (by omega), if_neg (by omega), if_neg (not_or.2 ⟨by omega, isT (by assumption)⟩), if_neg (by omega)]; exact .of_eq rfl)) : p := h
set_option maxRecDepth 20000 in
theorem f_dseek {x : Desk} {r : Int} (hi : 0 ≤ x.ed.f.i ∧ x.ed.f.i ≤ 1000) (hp : x.ed.f.pat.length ≤ 1000) : FnG PP 30 [.ptr 0 0, .int .i32 r] [(0, .cells 77 (deskC x))] (.bool (seekEd x.ed r).2) [(0, .cells 77 (deskC ⟨(seekEd x.ed r).1, x.line, x.is_⟩))] [0] := by
  refine FnG.of_body 1 Tryz.func30 rfl (by kernel_rfl) rfl rfl rfl ?_
  refine Wp.seq <| reg <| asg0 rfl <| done ?_
  refine Wp.seq <| reg <| mv0 rfl <| nck0 rfl <| faA0 rfl ?_
  refine faA0 rfl ?_
  refine faA0 rfl ?_
  refine ldA0 rfl ?_
  refine asg0 rfl <| done ?_
  refine Wp.seq <| Wp.block <| Wp.seq <| reg <| mv0 rfl <| cmp0 rfl <| asg0 rfl <| done ?_
  refine Wp.cond rfl (fun c1 => ?_) (fun c1 => ?_)
  have nc1 := Nz c1
  refine reg <| mv0 rfl <| bdw0 rfl ?_
  refine nck0 rfl <| faA0 rfl ?_
  refine faA0 rfl ?_
  refine stw0 rfl ?_
  refine done ?_
  refine Wp.seq <| reg <| mv0 rfl <| bdw0 rfl ?_
  refine nck0 rfl <| faA0 rfl ?_
  refine faA0 rfl ?_
  refine stw0 rfl ?_
  refine done ?_
  refine Wp.seq <| reg <| asg0 rfl <| done ?_
  refine Wp.ret ?_
  refine EndsG.one (.inr rfl) (.cons (.tmp rfl FzG.same) <|  .nil) ?_ rfl ?_
  · exact f_dseek_k1
  · exact f_dseek_k2
  have nc1 := Nz c1
  refine Wp.seq <| reg <| mv0 rfl <| cmp0 rfl <| mv0 rfl ?_
  refine bcase 24 rfl (fun h24 => ?_) (fun h24 => ?_)
  have nh24 := Nz h24
  refine sk0 rfl h24 <| sk0 rfl h24 <| pkt0 rfl h24 <| asg0 rfl <| done ?_
  refine Wp.condT rfl rfl <| Wp.seq <| reg <| mv0 rfl <| mv0 rfl <| cmp0 rfl <| nck0 rfl <| faA0 rfl ?_
  refine faA0 rfl ?_
  refine faA0 rfl ?_
  refine stw0 rfl ?_
  refine done ?_
  refine Wp.seq <| Wp.seq <| reg <| mv0 rfl <| nck0 rfl <| faA0 rfl ?_
  refine faA0 rfl ?_
  refine faA0 rfl ?_
  refine ldA0 rfl ?_
  refine done ?_
  refine Wp.cond rfl (fun c2 => ?_) (fun c2 => ?_)
  have nc2 := Nz c2
  refine Wp.seq <| reg <| mv0 rfl <| nck0 rfl <| faA0 rfl ?_
  refine faA0 rfl ?_
  refine faA0 rfl ?_
  refine ldA0 rfl ?_
  refine ar0 rfl (wrapI Bd) <| asg0 rfl <| done ?_
  refine Wp.seq <| reg <| mv0 rfl <| nck0 rfl <| faA0 rfl ?_
  refine faA0 rfl ?_
  refine faA0 rfl ?_
  refine ldA0 rfl ?_
  refine done ?_
  refine Wp.cond rfl (fun c3 => ?_) (fun c3 => ?_)
  have nc3 := Nz c3
  refine reg <| mv0 rfl <| nck0 rfl <| faA0 rfl ?_
  refine faA0 rfl ?_
  refine faA0 rfl ?_
  refine ldA0 rfl ?_
  refine ar0 rfl (wrapI Bd) <| asg0 rfl <| done ?_
  refine reg <| mv0 rfl <| mv0 rfl <| nck0 rfl <| faA0 rfl ?_
  refine faA0 rfl ?_
  refine faA0 rfl ?_
  refine ldA0 rfl ?_
  refine mv0 rfl <| clmw0 0 rfl (f_dlook (x := ⟨setF x.ed (foreF x.ed.f (r == 19)), x.line, x.is_⟩)) rfl ?_
  refine done ?_
  refine Wp.seq <| reg <| mv0 rfl <| bdw0 rfl ?_
  refine nck0 rfl <| faA0 rfl ?_
  refine faA0 rfl ?_
  refine stw0 rfl ?_
  refine done ?_
  refine Wp.seq <| reg <| asg0 rfl <| done ?_
  refine Wp.ret ?_
  refine EndsG.one (.inr rfl) (.cons (.tmp rfl FzG.same) <|  .nil) ?_ rfl ?_
  · exact f_dseek_k1
  · exact f_dseek_k2
  have nc3 := Nz c3
  refine Wp.skip <| reg <| mv0 rfl <| mv0 rfl <| nck0 rfl <| faA0 rfl ?_
  refine faA0 rfl ?_
  refine faA0 rfl ?_
  refine ldA0 rfl ?_
  refine mv0 rfl <| clmw0 0 rfl (f_dlook (x := ⟨setF x.ed (foreF x.ed.f (r == 19)), x.line, x.is_⟩)) rfl ?_
  refine done ?_
  refine Wp.seq <| reg <| mv0 rfl <| bdw0 rfl ?_
  refine nck0 rfl <| faA0 rfl ?_
  refine faA0 rfl ?_
  refine stw0 rfl ?_
  refine done ?_
  refine Wp.seq <| reg <| asg0 rfl <| done ?_
  refine Wp.ret ?_
  refine EndsG.one (.inr rfl) (.cons (.tmp rfl FzG.same) <|  .nil) ?_ rfl ?_
  · exact f_dseek_k1
  · exact f_dseek_k2
  have nc2 := Nz c2
  refine Wp.skip <| reg <| mv0 rfl <| mv0 rfl <| nck0 rfl <| faA0 rfl ?_
  refine faA0 rfl ?_
  refine faA0 rfl ?_
  refine ldA0 rfl ?_
  refine mv0 rfl <| clmw0 0 rfl (f_dlook (x := ⟨setF x.ed (foreF x.ed.f (r == 19)), x.line, x.is_⟩)) rfl ?_
  refine done ?_
  refine Wp.seq <| reg <| mv0 rfl <| bdw0 rfl ?_
  refine nck0 rfl <| faA0 rfl ?_
  refine faA0 rfl ?_
  refine stw0 rfl ?_
  refine done ?_
  refine Wp.seq <| reg <| asg0 rfl <| done ?_
  refine Wp.ret ?_
  refine EndsG.one (.inr rfl) (.cons (.tmp rfl FzG.same) <|  .nil) ?_ rfl ?_
  · exact f_dseek_k1
  · exact f_dseek_k2
  have nh24 := Nz h24
  refine mv1 rfl h24 rfl <| cmp1 rfl h24 rfl <| pkf0 rfl h24 <| asg0 rfl <| done ?_
  refine Wp.cond rfl (fun c4 => ?_) (fun c4 => ?_)
  have nc4 := Nz c4
  refine Wp.seq <| reg <| mv0 rfl <| mv0 rfl <| cmp0 rfl <| nck0 rfl <| faA0 rfl ?_
  refine faA0 rfl ?_
  refine faA0 rfl ?_
  refine stw0 rfl ?_
  refine done ?_
  refine Wp.seq <| Wp.seq <| reg <| mv0 rfl <| nck0 rfl <| faA0 rfl ?_
  refine faA0 rfl ?_
  refine faA0 rfl ?_
  refine ldA0 rfl ?_
  refine done ?_
  refine Wp.cond rfl (fun c5 => ?_) (fun c5 => ?_)
  have nc5 := Nz c5
  refine Wp.seq <| reg <| mv0 rfl <| nck0 rfl <| faA0 rfl ?_
  refine faA0 rfl ?_
  refine faA0 rfl ?_
  refine ldA0 rfl ?_
  refine ar0 rfl (wrapI Bd) <| asg0 rfl <| done ?_
  refine Wp.seq <| reg <| mv0 rfl <| nck0 rfl <| faA0 rfl ?_
  refine faA0 rfl ?_
  refine faA0 rfl ?_
  refine ldA0 rfl ?_
  refine done ?_
  refine Wp.cond rfl (fun c6 => ?_) (fun c6 => ?_)
  have nc6 := Nz c6
  refine reg <| mv0 rfl <| nck0 rfl <| faA0 rfl ?_
  refine faA0 rfl ?_
  refine faA0 rfl ?_
  refine ldA0 rfl ?_
  refine ar0 rfl (wrapI Bd) <| asg0 rfl <| done ?_
  refine reg <| mv0 rfl <| mv0 rfl <| nck0 rfl <| faA0 rfl ?_
  refine faA0 rfl ?_
  refine faA0 rfl ?_
  refine ldA0 rfl ?_
  refine mv0 rfl <| clmw0 0 rfl (f_dlook (x := ⟨setF x.ed (foreF x.ed.f (r == 19)), x.line, x.is_⟩)) rfl ?_
  refine done ?_
  refine Wp.seq <| reg <| mv0 rfl <| bdw0 rfl ?_
  refine nck0 rfl <| faA0 rfl ?_
  refine faA0 rfl ?_
  refine stw0 rfl ?_
  refine done ?_
  refine Wp.seq <| reg <| asg0 rfl <| done ?_
  refine Wp.ret ?_
  refine EndsG.one (.inr rfl) (.cons (.tmp rfl FzG.same) <|  .nil) ?_ rfl ?_
  · exact f_dseek_k1
  · exact f_dseek_k2
  have nc6 := Nz c6
  refine Wp.skip <| reg <| mv0 rfl <| mv0 rfl <| nck0 rfl <| faA0 rfl ?_
  refine faA0 rfl ?_
  refine faA0 rfl ?_
  refine ldA0 rfl ?_
  refine mv0 rfl <| clmw0 0 rfl (f_dlook (x := ⟨setF x.ed (foreF x.ed.f (r == 19)), x.line, x.is_⟩)) rfl ?_
  refine done ?_
  refine Wp.seq <| reg <| mv0 rfl <| bdw0 rfl ?_
  refine nck0 rfl <| faA0 rfl ?_
  refine faA0 rfl ?_
  refine stw0 rfl ?_
  refine done ?_
  refine Wp.seq <| reg <| asg0 rfl <| done ?_
  refine Wp.ret ?_
  refine EndsG.one (.inr rfl) (.cons (.tmp rfl FzG.same) <|  .nil) ?_ rfl ?_
  · exact f_dseek_k1
  · exact f_dseek_k2
  have nc5 := Nz c5
  refine Wp.skip <| reg <| mv0 rfl <| mv0 rfl <| nck0 rfl <| faA0 rfl ?_
  refine faA0 rfl ?_
  refine faA0 rfl ?_
  refine ldA0 rfl ?_
  refine mv0 rfl <| clmw0 0 rfl (f_dlook (x := ⟨setF x.ed (foreF x.ed.f (r == 19)), x.line, x.is_⟩)) rfl ?_
  refine done ?_
  refine Wp.seq <| reg <| mv0 rfl <| bdw0 rfl ?_
  refine nck0 rfl <| faA0 rfl ?_
  refine faA0 rfl ?_
  refine stw0 rfl ?_
  refine done ?_
  refine Wp.seq <| reg <| asg0 rfl <| done ?_
  refine Wp.ret ?_
  refine EndsG.one (.inr rfl) (.cons (.tmp rfl FzG.same) <|  .nil) ?_ rfl ?_
  · exact f_dseek_k1
  · exact f_dseek_k2
  have nc4 := Nz c4
  refine Wp.seq <| reg <| mv0 rfl <| cmp0 rfl <| mv0 rfl ?_
  refine bcase 73 rfl (fun h73 => ?_) (fun h73 => ?_)
  have nh73 := Nz h73
  refine sk0 rfl h73 <| sk0 rfl h73 <| pkt0 rfl h73 <| asg0 rfl <| done ?_
  refine Wp.condT rfl rfl <| Wp.seq <| regd mixed ?_
  refine mv0 rfl <| mv0 rfl <| nck0 rfl <| faA0 rfl ?_
  refine faA0 rfl ?_
  refine faA0 rfl ?_
  refine ldA0 rfl ?_
  refine mv0 rfl <| nck0 rfl <| faA0 rfl ?_
  refine faA0 rfl ?_
  refine faA0 rfl ?_
  refine ldA0 rfl ?_
  first | refine lnM0 rfl ?_ | refine lns0 rfl ?_ | refine ln0 rfl ?_
  refine ar0 rfl (wrapI Bd) <| mx0 rfl ?_
  refine sl2M (0) (x.ed.f.pat.length - 1) (x.ed.f.pat.take (x.ed.f.pat.length - 1)) rfl rfl rfl Og Og ⟨Bd, Bd⟩ (by simp) rfl .none ?_
  refine nck0 rfl <| faA0 rfl ?_
  refine faA0 rfl ?_
  refine faA0 rfl ?_
  refine stw0 rfl ?_
  refine done ⟨by kernel_rfl, by kernel_rfl, ?_⟩
  refine Wp.seq <| reg <| mv0 rfl <| mv0 rfl <| mv0 rfl <| nck0 rfl <| faA0 rfl ?_
  refine faA0 rfl ?_
  refine faA0 rfl ?_
  refine stw0 rfl ?_
  refine nck0 rfl <| faA0 rfl ?_
  refine faA0 rfl ?_
  refine faA0 rfl ?_
  refine stw0 rfl ?_
  refine nck0 rfl <| faA0 rfl ?_
  refine faA0 rfl ?_
  refine faA0 rfl ?_
  refine stw0 rfl ?_
  refine done ?_
  refine reg <| mv0 rfl <| mv0 rfl <| nck0 rfl <| faA0 rfl ?_
  refine faA0 rfl ?_
  refine faA0 rfl ?_
  refine ldA0 rfl ?_
  refine mv0 rfl <| clmw0 0 rfl (f_dlook (x := ⟨setF x.ed (lessF x.ed.f), x.line, x.is_⟩)) rfl ?_
  refine done ?_
  refine Wp.seq <| reg <| mv0 rfl <| bdw0 rfl ?_
  refine nck0 rfl <| faA0 rfl ?_
  refine faA0 rfl ?_
  refine stw0 rfl ?_
  refine done ?_
  refine Wp.seq <| reg <| asg0 rfl <| done ?_
  refine Wp.ret ?_
  refine EndsG.one (.inr rfl) (.cons (.tmp rfl FzG.same) <|  .nil) ?_ rfl ?_
  · exact f_dseek_k1
  · exact f_dseek_k2
  have nh73 := Nz h73
  refine mv1 rfl h73 rfl <| cmp1 rfl h73 rfl <| pkf0 rfl h73 <| asg0 rfl <| done ?_
  refine Wp.cond rfl (fun c7 => ?_) (fun c7 => ?_)
  have nc7 := Nz c7
  refine Wp.seq <| regd mixed ?_
  refine mv0 rfl <| mv0 rfl <| nck0 rfl <| faA0 rfl ?_
  refine faA0 rfl ?_
  refine faA0 rfl ?_
  refine ldA0 rfl ?_
  refine mv0 rfl <| nck0 rfl <| faA0 rfl ?_
  refine faA0 rfl ?_
  refine faA0 rfl ?_
  refine ldA0 rfl ?_
  first | refine lnM0 rfl ?_ | refine lns0 rfl ?_ | refine ln0 rfl ?_
  refine ar0 rfl (wrapI Bd) <| mx0 rfl ?_
  refine sl2M (0) (x.ed.f.pat.length - 1) (x.ed.f.pat.take (x.ed.f.pat.length - 1)) rfl rfl rfl Og Og ⟨Bd, Bd⟩ (by simp) rfl .none ?_
  refine nck0 rfl <| faA0 rfl ?_
  refine faA0 rfl ?_
  refine faA0 rfl ?_
  refine stw0 rfl ?_
  refine done ⟨by kernel_rfl, by kernel_rfl, ?_⟩
  refine Wp.seq <| reg <| mv0 rfl <| mv0 rfl <| mv0 rfl <| nck0 rfl <| faA0 rfl ?_
  refine faA0 rfl ?_
  refine faA0 rfl ?_
  refine stw0 rfl ?_
  refine nck0 rfl <| faA0 rfl ?_
  refine faA0 rfl ?_
  refine faA0 rfl ?_
  refine stw0 rfl ?_
  refine nck0 rfl <| faA0 rfl ?_
  refine faA0 rfl ?_
  refine faA0 rfl ?_
  refine stw0 rfl ?_
  refine done ?_
  refine reg <| mv0 rfl <| mv0 rfl <| nck0 rfl <| faA0 rfl ?_
  refine faA0 rfl ?_
  refine faA0 rfl ?_
  refine ldA0 rfl ?_
  refine mv0 rfl <| clmw0 0 rfl (f_dlook (x := ⟨setF x.ed (lessF x.ed.f), x.line, x.is_⟩)) rfl ?_
  refine done ?_
  refine Wp.seq <| reg <| mv0 rfl <| bdw0 rfl ?_
  refine nck0 rfl <| faA0 rfl ?_
  refine faA0 rfl ?_
  refine stw0 rfl ?_
  refine done ?_
  refine Wp.seq <| reg <| asg0 rfl <| done ?_
  refine Wp.ret ?_
  refine EndsG.one (.inr rfl) (.cons (.tmp rfl FzG.same) <|  .nil) ?_ rfl ?_
  · exact f_dseek_k1
  · exact f_dseek_k2
  have nc7 := Nz c7
  refine Wp.seq <| reg <| mv0 rfl <| cmp0 rfl <| mv0 rfl ?_
  refine bcase 125 rfl (fun h125 => ?_) (fun h125 => ?_)
  have nh125 := Nz h125
  refine sk0 rfl h125 <| sk0 rfl h125 <| sk0 rfl h125 <| pkt0 rfl h125 <| asg0 rfl <| done ?_
  refine Wp.condT rfl rfl <| Wp.seq <| reg <| asg0 rfl <| done ?_
  refine Wp.ret ?_
  refine EndsG.one (.inr rfl) (.cons (.tmp rfl FzG.same) <|  .nil) ?_ rfl ?_
  · exact f_dseek_k1
  · exact f_dseek_k2
  have nh125 := Nz h125
  refine mv1 rfl h125 rfl <| clw1 rfl h125 rfl f_glyphIs rfl ?_
  refine nt1 rfl h125 rfl <| pkf0 rfl h125 <| asg0 rfl <| done ?_
  refine Wp.cond rfl (fun c8 => ?_) (fun c8 => ?_)
  have nc8 := Nz c8
  refine Wp.seq <| reg <| asg0 rfl <| done ?_
  refine Wp.ret ?_
  refine EndsG.one (.inr rfl) (.cons (.tmp rfl FzG.same) <|  .nil) ?_ rfl ?_
  · exact f_dseek_k1
  · exact f_dseek_k2
  have nc8 := Nz c8
  refine Wp.seq <| reg <| mv0 rfl <| nck0 rfl <| faA0 rfl ?_
  refine faA0 rfl ?_
  refine faA0 rfl ?_
  refine ldA0 rfl ?_
  first | refine lnM0 rfl ?_ | refine lns0 rfl ?_ | refine ln0 rfl ?_
  refine cmp0 rfl <| asg0 rfl <| done ?_
  refine Wp.cond rfl (fun c9 => ?_) (fun c9 => ?_)
  have nc9 := Nz c9
  refine Wp.seq <| Wp.seq <| reg <| mv0 rfl <| nck0 rfl <| faA0 rfl ?_
  refine faA0 rfl ?_
  refine faA0 rfl ?_
  refine ldA0 rfl ?_
  refine done ?_
  refine Wp.cond rfl (fun c10 => ?_) (fun c10 => ?_)
  have nc10 := Nz c10
  refine reg <| mv0 rfl <| nck0 rfl <| faA0 rfl ?_
  refine faA0 rfl ?_
  refine faA0 rfl ?_
  refine ldA0 rfl ?_
  refine asg0 rfl <| done ?_
  refine Wp.seq <| reg <| mv0 rfl <| nck0 rfl <| faA0 rfl ?_
  refine faA0 rfl ?_
  refine faA0 rfl ?_
  refine ldA0 rfl ?_
  refine clo 221 rfl rfl (f_cloneR (by omega)) rfl rfl .none ?_
  refine mv0 rfl <| bsM0 runR [r] rfl ?_
  refine apoF 2601 rfl rfl Bd rfl Bd rfl rfl rfl .none ?_
  refine asg0 rfl <| done ?_
  refine Wp.seq <| reg <| mv0 rfl <| mv0 rfl <| mv0 rfl <| clmw0 0 rfl (f_dlook (x := x) (pat := x.ed.f.pat ++ [r])) rfl ?_
  refine done ?_
  refine Wp.cond rfl (fun c11 => ?_) (fun c11 => ?_)
  have nc11 := Nz c11
  refine reg <| mv0 rfl <| mv0 rfl <| nck0 rfl <| faA0 rfl ?_
  refine faA0 rfl ?_
  refine faA0 rfl ?_
  refine stw0 rfl ?_
  refine done ?_
  refine Wp.seq <| reg <| mv0 rfl <| bdw0 rfl ?_
  refine nck0 rfl <| faA0 rfl ?_
  refine faA0 rfl ?_
  refine stw0 rfl ?_
  refine done ?_
  refine Wp.seq <| reg <| asg0 rfl <| done ?_
  refine Wp.ret ?_
  refine EndsG.one (.inr rfl) (.cons (.tmp rfl FzG.same) <|  .nil) ?_ rfl ?_
  · exact f_dseek_k1
  · exact f_dseek_k2
  have nc11 := Nz c11
  refine Wp.skip <| Wp.seq <| reg <| mv0 rfl <| bdw0 rfl ?_
  refine nck0 rfl <| faA0 rfl ?_
  refine faA0 rfl ?_
  refine stw0 rfl ?_
  refine done ?_
  refine Wp.seq <| reg <| asg0 rfl <| done ?_
  refine Wp.ret ?_
  refine EndsG.one (.inr rfl) (.cons (.tmp rfl FzG.same) <|  .nil) ?_ rfl ?_
  · exact f_dseek_k1
  · exact f_dseek_k2
  have nc10 := Nz c10
  refine Wp.skip <| Wp.seq <| reg <| mv0 rfl <| nck0 rfl <| faA0 rfl ?_
  refine faA0 rfl ?_
  refine faA0 rfl ?_
  refine ldA0 rfl ?_
  refine clo 221 rfl rfl (f_cloneR (by omega)) rfl rfl .none ?_
  refine mv0 rfl <| bsM0 runR [r] rfl ?_
  refine apoF 2603 rfl rfl Bd rfl Bd rfl rfl rfl .none ?_
  refine asg0 rfl <| done ?_
  refine Wp.seq <| reg <| mv0 rfl <| mv0 rfl <| mv0 rfl <| clmw0 0 rfl (f_dlook (x := x) (pat := x.ed.f.pat ++ [r])) rfl ?_
  refine done ?_
  refine Wp.cond rfl (fun c12 => ?_) (fun c12 => ?_)
  have nc12 := Nz c12
  refine reg <| mv0 rfl <| mv0 rfl <| nck0 rfl <| faA0 rfl ?_
  refine faA0 rfl ?_
  refine faA0 rfl ?_
  refine stw0 rfl ?_
  refine done ?_
  refine Wp.seq <| reg <| mv0 rfl <| bdw0 rfl ?_
  refine nck0 rfl <| faA0 rfl ?_
  refine faA0 rfl ?_
  refine stw0 rfl ?_
  refine done ?_
  refine Wp.seq <| reg <| asg0 rfl <| done ?_
  refine Wp.ret ?_
  refine EndsG.one (.inr rfl) (.cons (.tmp rfl FzG.same) <|  .nil) ?_ rfl ?_
  · exact f_dseek_k1
  · exact f_dseek_k2
  have nc12 := Nz c12
  refine Wp.skip <| Wp.seq <| reg <| mv0 rfl <| bdw0 rfl ?_
  refine nck0 rfl <| faA0 rfl ?_
  refine faA0 rfl ?_
  refine stw0 rfl ?_
  refine done ?_
  refine Wp.seq <| reg <| asg0 rfl <| done ?_
  refine Wp.ret ?_
  refine EndsG.one (.inr rfl) (.cons (.tmp rfl FzG.same) <|  .nil) ?_ rfl ?_
  · exact f_dseek_k1
  · exact f_dseek_k2
  have nc9 := Nz c9
  refine Wp.skip <| Wp.seq <| reg <| mv0 rfl <| bdw0 rfl ?_
  refine nck0 rfl <| faA0 rfl ?_
  refine faA0 rfl ?_
  refine stw0 rfl ?_
  refine done ?_
  refine Wp.seq <| reg <| asg0 rfl <| done ?_
  refine Wp.ret ?_
  refine EndsG.one (.inr rfl) (.cons (.tmp rfl FzG.same) <|  .nil) ?_ rfl ?_
  · exact f_dseek_k1
  · exact f_dseek_k2

end Go.Proofs.YtkcdmmafkpplhaaGreat
/- A right editor stays right (layers 19, 20, 24), told in Lean. No program in sight. -/
namespace Go.Eng
open Go
theorem pastIs_iff {p : Past} : pastIs p = true ↔ (1 ≤ p.room ∧ p.room ≤ 16 ∧ 0 ≤ p.dup ∧ p.dup ≤ 2) ∧ (p.l.length : Int) ≤ p.room ∧ ∀ l ∈ p.l, oneS l = true := by
  simp only [pastIs, okRD, Bool.and_eq_true, decide_eq_true_eq, List.all_eq_true]
  exact ⟨fun h => ⟨h.1.1, h.1.2, h.2⟩, fun h => ⟨⟨h.1, h.2.1⟩, h.2.2⟩⟩
theorem past_add_is {p : Past} (l : List Int) (h : pastIs p = true) : pastIs (pastAdd p l) = true := by
  obtain ⟨h1, h2, h3⟩ := pastIs_iff.1 h
  have key : ∀ k : List (List Int), (∀ x ∈ k, oneS x = true) → oneS l = true → pastIs ⟨p.room, p.dup, (k ++ [l]).drop ((k ++ [l]).length - p.room.toNat)⟩ = true := fun k hk hl => by
    refine pastIs_iff.2 ⟨h1, by simp only [List.length_drop]; omega, fun x hx => ?_⟩
    rcases List.mem_append.1 (List.mem_of_mem_drop hx) with hx | hx
    · exact hk x hx
    · obtain rfl := List.mem_singleton.1 hx; exact hl
  unfold pastAdd
  split
  · exact h
  · rename_i hl
    have ho : oneS l = true := by cases hs : oneS l; exact absurd (.inr hs) hl; rfl
    split
    · exact h
    · split
      · exact key _ (fun x hx => h3 x (List.mem_filter.1 hx).1) ho
      · exact key _ h3 ho
theorem past_add_same (p : Past) (l : List Int) : (pastAdd p l).room = p.room ∧ (pastAdd p l).dup = p.dup := by
  unfold pastAdd; repeat' split
  all_goals exact ⟨rfl, rfl⟩
theorem open_is {p : Past} (h : pastIs p = true) : stashIs (stashOpen p) p = true := by
  simp only [stashIs, stashOpen, riseS, h, Bool.true_and, Bool.and_true]
  exact decide_eq_true ⟨by omega, by omega⟩
theorem rise_mono {n : Int} : ∀ {l : List Slot} {k k' : Int}, riseS n l k = true → k' ≤ k → riseS n l k' = true
  | [], _, _, _, _ => rfl
  | a :: r, k, k', h, hk => by
    simp only [riseS, Bool.and_eq_true, decide_eq_true_eq] at h ⊢
    exact ⟨⟨by omega, h.1.2⟩, h.2⟩
theorem into_nil (x : Slot) : intoS x [] = [x] := rfl
theorem into_cons_lt {x a : Slot} {r : List Slot} (h : a.i < x.i) : intoS x (a :: r) = a :: intoS x r := by
  unfold intoS hasS
  simp only [belowS, if_pos h, List.length_cons, List.getD_cons_succ, List.set_cons_succ, List.take_succ_cons, List.drop_succ_cons, List.cons_append]
  by_cases hd : belowS x.i r < r.length ∧ (r.getD (belowS x.i r) noSlot).i = x.i
  · have hd2 : belowS x.i r + 1 < r.length + 1 ∧ (r.getD (belowS x.i r) noSlot).i = x.i := ⟨by omega, hd.2⟩
    rw [decide_eq_true hd, decide_eq_true hd2]; rfl
  · have hd2 : ¬ (belowS x.i r + 1 < r.length + 1 ∧ (r.getD (belowS x.i r) noSlot).i = x.i) := fun h2 => hd ⟨by omega, h2.2⟩
    rw [decide_eq_false hd, decide_eq_false hd2]; rfl
theorem into_cons_eq {x a : Slot} {r : List Slot} (h : a.i = x.i) : intoS x (a :: r) = x :: r := by
  unfold intoS hasS
  have h0 : belowS x.i (a :: r) = 0 := by simp only [belowS, if_neg (show ¬ a.i < x.i by omega)]
  rw [h0]
  simp [h]
theorem into_cons_gt {x a : Slot} {r : List Slot} (h : x.i < a.i) : intoS x (a :: r) = x :: a :: r := by
  unfold intoS hasS
  have h0 : belowS x.i (a :: r) = 0 := by simp only [belowS, if_neg (show ¬ a.i < x.i by omega)]
  rw [h0]
  have h1 : ¬ a.i = x.i := by omega
  simp [h1]
theorem into_rise {n : Int} {x : Slot} (hg : gapIs x.g = true) (hn : x.i ≤ n) : ∀ {l : List Slot} {k : Int}, riseS n l k = true → k ≤ x.i → riseS n (intoS x l) k = true
  | [], k, _, hk => by rw [into_nil]; simp only [riseS, hg, Bool.and_true, decide_eq_true_eq]; omega
  | a :: r, k, h, hk => by
    have h' := h
    simp only [riseS, Bool.and_eq_true, decide_eq_true_eq] at h
    by_cases h1 : a.i < x.i
    · rw [into_cons_lt h1]
      simp only [riseS, Bool.and_eq_true, decide_eq_true_eq]
      exact ⟨h.1, into_rise hg hn h.2 (by omega)⟩
    · by_cases h2 : a.i = x.i
      · rw [into_cons_eq h2]
        simp only [riseS, Bool.and_eq_true, decide_eq_true_eq]
        rw [h2] at h
        exact ⟨⟨by omega, hg⟩, h.2⟩
      · rw [into_cons_gt (by omega)]
        simp only [riseS, Bool.and_eq_true, decide_eq_true_eq]
        exact ⟨⟨by omega, hg⟩, ⟨⟨by omega, by omega⟩, h.1.2⟩, h.2⟩
structure SIs (s : Stash) (p : Past) : Prop where
  q : pastIs p = true
  lo : 0 ≤ s.at_
  hi : s.at_ ≤ p.l.length
  r : riseS p.l.length s.l 0 = true
theorem stashIs_iff {s : Stash} {p : Past} : stashIs s p = true ↔ SIs s p := by
  simp only [stashIs, Bool.and_eq_true, decide_eq_true_eq]
  exact ⟨fun h => ⟨h.1.1, h.1.2.1, h.1.2.2, h.2⟩, fun h => ⟨⟨h.q, h.lo, h.hi⟩, h.r⟩⟩
theorem find_gap {n : Int} : ∀ {l : List Slot} {k : Int}, riseS n l k = true → ∀ i, gapIs (findSl l i).1 = true ∧ ((findSl l i).2 = false → (findSl l i).1 = noGap)
  | [], _, _, _ => ⟨rfl, fun _ => rfl⟩
  | a :: r, k, h, i => by
    simp only [riseS, Bool.and_eq_true, decide_eq_true_eq] at h
    unfold findSl
    split
    · exact ⟨h.1.2, fun h => by cases h⟩
    · exact find_gap h.2 i
theorem past_one {p : Past} {i : Int} (h : (pastGet p i).2 = 0) : oneS (pastGet p i).1 = true ∧ 0 ≤ i ∧ i < p.l.length ∧ (pastGet p i).1 = p.l.getD i.toNat [] := by
  unfold pastGet at h ⊢
  split at h
  · simp at h
  · rename_i h1
    split at h
    · simp at h
    · rename_i h2
      rw [if_neg h1, if_neg h2]
      have hp : pastIs p = true := by cases hs : pastIs p; exact absurd hs h1; rfl
      exact ⟨(pastIs_iff.1 hp).2.2 _ (getD_mem (by omega)), by omega, by omega, rfl⟩
structure Went (s : Stash) (p : Past) (g : Gap) (to : Int) : Prop where
  st : SIs (goStash s p g to).1 p
  gp : gapIs (goStash s p g to).2.1 = true
  at_ : (goStash s p g to).1.at_ = to
theorem go_stash_is {s : Stash} {p : Past} {g : Gap} {to : Int} (h : (goStash s p g to).2.2 = 0) : Went s p g to := by
  have h0 := h
  unfold goStash at h
  split at h
  · simp at h
  · rename_i h1
    split at h
    · simp at h
    · rename_i h2
      have e : goStash s p g to = (⟨to, intoS ⟨s.at_, g⟩ s.l⟩, if (findSl s.l to).2 = false ∧ (pastGet p to).2 = 0 then ⟨(pastGet p to).1, (findSl s.l to).1.b⟩ else (findSl s.l to).1, 0) := by
        unfold goStash; rw [if_neg h1, if_neg h2]
      have hs := stashIs_iff.1 (show stashIs s p = true by cases hs : stashIs s p; exact absurd (.inl hs) h1; rfl)
      have hg : gapIs g = true := by cases hs : gapIs g; exact absurd (.inr hs) h1; rfl
      have hf := find_gap hs.r to
      constructor
      · rw [e]; exact ⟨hs.q, by show 0 ≤ to; omega, by show to ≤ _; omega, into_rise (x := ⟨s.at_, g⟩) hg hs.hi hs.r hs.lo⟩
      · rw [e]
        show gapIs (if (findSl s.l to).2 = false ∧ (pastGet p to).2 = 0 then (⟨(pastGet p to).1, (findSl s.l to).1.b⟩ : Gap) else (findSl s.l to).1) = true
        split
        · rename_i hb
          have ho := oneS_iff.1 (past_one hb.2).1
          rw [hf.2 hb.1]
          exact gapIs_iff.2 ⟨by simp only [noGap, List.length_nil]; omega, ho.1, rfl⟩
        · exact hf.1
      · rw [e]
theorem digit_is {c : Count} (d : Int) (h : countIs c = true) : countIs (digitS c d) = true := by
  unfold digitS
  split
  · exact h
  · split
    · exact h
    · rename_i h1 h2
      unfold countIs
      have hc : 0 ≤ c.n := by
        unfold countIs at h
        split at h
        · have := of_decide_eq_true h; omega
        · have := of_decide_eq_true h; omega
      rw [if_neg (by simp)]
      exact decide_eq_true (by show 0 ≤ min (10 * c.n + d) 9999 ∧ min (10 * c.n + d) 9999 ≤ 9999; omega)
theorem minus_is {c : Count} (h : countIs c = true) : countIs (minusS c) = true := by
  unfold minusS
  split
  · rfl
  · exact h
/-- All that is right but for what is sought. -/
structure Rt (d : Ed) : Prop where
  e : EIs d.e
  c : countIs d.c = true
  v : viIsS d.v.1 d.v.2 = true
  p : pastIs d.p = true
  s : SIs d.s d.p
  m : ¬ (d.map ≠ 1 ∧ (d.map ≠ 0 ∨ d.v.1 ≠ 0 ∨ d.v.2 ≠ 0))
  fr : 0 ≤ d.fresh ∧ d.fresh ≤ 999
theorem Rt.setC {d : Ed} {c : Count} (h : Rt d) (hc : countIs c = true) : Rt (setC d c) := ⟨h.e, hc, h.v, h.p, h.s, h.m, h.fr⟩
theorem Rt.off {d : Ed} (h : Rt d) : Rt (offS d) := ⟨h.e.off, h.c, h.v, h.p, h.s, h.m, h.fr⟩
theorem Rt.setF {d : Ed} {f : Search} (h : Rt d) : Rt (setF d f) := ⟨h.e, h.c, h.v, h.p, h.s, h.m, h.fr⟩
theorem Rt.setQ {d : Ed} {q : Bool} (h : Rt d) : Rt (setQ d q) := ⟨h.e, h.c, h.v, h.p, h.s, h.m, h.fr⟩
theorem Rt.doEd {d : Ed} (h : Rt d) (a : ActE) : Rt (doEd d a) := by
  unfold Go.Eng.doEd
  split
  · exact h.off
  · rename_i h0
    exact ⟨do_is (by simpa using h0), h.c, h.v, h.p, h.s, h.m, h.fr⟩
theorem Rt.goes {d : Ed} (h : Rt d) (i : Int) : Rt (goesS d i) := by
  unfold goesS
  split
  · rename_i h0
    have w := go_stash_is h0
    exact ⟨.plain w.gp h.e.k rfl 0 (by omega), h.c, h.v, h.p, w.st, h.m, h.fr⟩
  · exact h.off
theorem EIs.setG {e : Edit} (h : EIs e) (h0 : e.last ≠ 3) {g : Gap} (hg : gapIs g = true) : EIs ⟨g, e.k, e.u, e.last, e.turn, e.size⟩ := ⟨hg, h.k, h.u, h.last, fun h3 => absurd h3 h0, h.no⟩
theorem goes_last (d : Ed) (i : Int) : (goesS d i).e.last = 0 := by unfold goesS; split <;> rfl
theorem Rt.setG {d : Ed} (h : Rt d) (h0 : d.e.last ≠ 3) {g : Gap} (hg : gapIs g = true) : Rt (setG d g) := ⟨h.e.setG h0 hg, h.c, h.v, h.p, h.s, h.m, h.fr⟩
theorem Rt.accept {d : Ed} (h : Rt d) : Rt (acceptEd d) := by
  have hp := past_add_is (textS d.e.g) h.p
  exact ⟨.plain rfl h.e.k rfl 0 (by omega), h.c, h.v, hp, stashIs_iff.1 (open_is hp), h.m, h.fr⟩
theorem Rt.prefix {d : Ed} (h : Rt d) : Rt (prefixEd d) := by
  unfold prefixEd
  split
  · exact h.off
  · have h1 := h.goes (prefixS d.p d.e.g.a (d.s.at_ - 1)).1
    exact h1.setG (by rw [goes_last]; decide) (go_is _ h1.e.g)
theorem Rt.act {x : Desk} (h : Rt x.ed) (a : ActE) : Rt (actEd x a).ed := by
  unfold actEd
  repeat' split
  · exact h.setC (digit_is _ h.c)
  · exact h.setC (minus_is h.c)
  · exact h.setQ
  · exact h.accept.setC rfl
  · exact (h.goes _).setC rfl
  · exact (h.goes _).setC rfl
  · exact h.prefix.setC rfl
  · exact h.off.setC rfl
  · exact h.off.setF.setC rfl
  · exact ⟨h.e.off, rfl, h.v, h.p, h.s, h.m, by show 0 ≤ (x.ed.fresh + 1) % 1000 ∧ (x.ed.fresh + 1) % 1000 ≤ 999; omega⟩
  · exact (h.doEd a).setC rfl
theorem Rt.ok {d : Ed} (h : Rt d) : EdOk d := by
  have hg := gapIs_iff.1 h.e.g
  refine ⟨h.e.smu, by omega, by omega, fun s hs => ?_⟩
  have := gapIs_iff.1 (rise_all h.s.r s hs).2.2
  omega
theorem Rt.at_ {d : Ed} (h : Rt d) : 0 ≤ d.s.at_ ∧ d.s.at_ ≤ 1000 := by
  have h1 := pastIs_iff.1 h.p; have h2 := h.s.lo; have h3 := h.s.hi; omega
theorem edIs_rt {d : Ed} (h : edIs d = true) : Rt d ∧ (d.f.on = true → d.quote = false ∧ seeksS d.f d.p = true) ∧ (d.f.on = false → d.f = noSearch) := by
  unfold edIs at h
  split at h
  · cases h
  · rename_i h1
    split at h
    · cases h
    · rename_i h2
      simp only [not_or, Bool.not_eq_false] at h1
      refine ⟨⟨editIs_iff.1 h1.1, h1.2.1, h1.2.2.1, h1.2.2.2.1, stashIs_iff.1 h1.2.2.2.2, fun hm => h2 (.inl hm), by omega⟩, fun ho => ?_, fun ho => ?_⟩
      · rw [if_pos ho] at h; simp only [Bool.and_eq_true, Bool.not_eq_true'] at h; exact h
      · rw [if_neg (by simp [ho])] at h
        have := of_decide_eq_true h
        rcases hd : d.f with ⟨on, fore, pat, fr, hit, i, at_⟩
        rw [hd] at this ho
        obtain ⟨a1, a2, a3, a4, a5, a6⟩ := this
        simp only at a1 a2 a3 a4 a5 a6 ho
        subst a1 a2 a4 a5 a6 ho
        rw [List.length_eq_zero_iff.1 a3]; rfl
theorem rt_edIs {d : Ed} (h : Rt d) (h1 : d.f.on = true → d.quote = false ∧ seeksS d.f d.p = true) (h2 : d.f.on = false → d.f = noSearch) : edIs d = true := by
  unfold edIs
  rw [if_neg (by rw [editIs_iff.2 h.e, h.c, h.v, h.p, stashIs_iff.2 h.s]; simp), if_neg (by have := h.m; have := h.fr; rintro (h3 | h3 | h3); exact h.m h3; omega; omega)]
  by_cases ho : d.f.on = true
  · rw [if_pos ho, (h1 ho).1, (h1 ho).2]; rfl
  · rw [if_neg ho]
    have := h2 (by simpa using ho)
    rw [this]; rfl
theorem end_to_last (d : Ed) : (endTo d).e.last = 0 := by unfold endTo; split; exact goes_last _ _; rfl
theorem Rt.endTo {d : Ed} (h : Rt d) : Rt (endTo d) := by
  unfold Go.Eng.endTo
  split
  · exact (h.setF.off).goes _
  · exact h.setF.off
theorem Rt.end_ {d : Ed} (h : Rt d) : Rt (endEd d) := by
  unfold endEd
  split
  · exact h.setF
  · exact h.endTo.setG (by rw [end_to_last]; decide) (go_is _ h.endTo.e.g)
theorem seeks_parts {f : Search} {p : Past} (h : seeksS f p = true) : signs f.pat = true ∧ f.pat.length ≤ 200 ∧ 0 ≤ f.from_ ∧ f.from_ ≤ p.l.length ∧ (f.hit = false → f.i = 0 ∧ f.at_ = 0) ∧ (f.hit = true → (pastGet p f.i).2 = 0 ∧ 0 ≤ f.at_ ∧ placeOf (pastGet p f.i).1 f.pat = f.at_) := by
  unfold seeksS at h
  split at h
  · cases h
  · rename_i h1
    split at h
    · cases h
    · rename_i h2
      refine ⟨by cases hs : signs f.pat; exact absurd hs h1; rfl, by omega, by omega, by omega, fun hh => ?_, fun hh => ?_⟩
      · rw [if_pos hh] at h; exact of_decide_eq_true h
      · rw [if_neg (by simp [hh])] at h; exact of_decide_eq_true h
theorem seeks_of {f : Search} {p : Past} (h1 : signs f.pat = true) (h2 : f.pat.length ≤ 200 ∧ 0 ≤ f.from_ ∧ f.from_ ≤ p.l.length) (h3 : f.hit = false → f.i = 0 ∧ f.at_ = 0) (h4 : f.hit = true → (pastGet p f.i).2 = 0 ∧ 0 ≤ f.at_ ∧ placeOf (pastGet p f.i).1 f.pat = f.at_) : seeksS f p = true := by
  unfold seeksS
  rw [if_neg (by simp [h1]), if_neg (by omega)]
  by_cases hh : f.hit = false
  · rw [if_pos hh]; exact decide_eq_true (h3 hh)
  · rw [if_neg hh]; exact decide_eq_true (h4 (by simpa using hh))
theorem seek_no {d : Ed} {r : Int} (h : (seekEd d r).2 = false) : (seekEd d r).1 = d := by
  unfold seekEd at h ⊢
  repeat' split at h
  all_goals first | cases h | skip
  rename_i h1 h2 h3 h4
  rw [if_neg h1, if_neg h2, if_neg h3, if_pos h4]
theorem seek_small {d : Ed} (h : Rt d) (hs : seeksS d.f d.p = true) : (0 ≤ d.f.i ∧ d.f.i ≤ 1000) ∧ d.f.pat.length ≤ 1000 := by
  obtain ⟨h1, h2, h3, h4, h5, h6⟩ := seeks_parts hs
  have hp := pastIs_iff.1 h.p
  refine ⟨?_, by omega⟩
  by_cases hh : d.f.hit = true
  · have := past_one (h6 hh).1; omega
  · have := h5 (by simpa using hh); omega
def shownS (d : Ed) : List Int × Gap :=
  if edIs d = false then ([], noGap) else if d.f.on = false ∧ d.v.1 = 1 then ([58, 32], d.e.g) else if d.f.on = false then ([62, 32], d.e.g)
  else if d.f.hit = false then ([if d.f.fore = true then 47 else 63] ++ d.f.pat ++ [58, 32], d.e.g)
  else ([if d.f.fore = true then 47 else 63] ++ d.f.pat ++ [58, 32], (ofS (d.p.l.getD d.f.i.toNat []) d.f.at_).1)
end Go.Eng

/- Walks of layer 24: acts, keys, what is shown. -/
namespace Go.Proofs.YtkcdmmafkpplhaaGreat
open Go.Eng
instance : Enc actR 4 := ⟨fun _ => ⟨rfl, rfl⟩⟩

theorem f_dact_k1 {p : Prop} (h : p := by
    unfold actEd; first | (rw [if_pos (by omega)]; exact .of_eq rfl) | (rw [if_neg (by omega), if_pos (by omega)]; exact .of_eq rfl) | (rw [if_neg (by omega), if_neg (by omega), if_pos (by omega)]; exact .of_eq rfl) | (rw [if_neg (by omega), if_neg (by omega), if_neg (by omega), if_pos (by omega)]; exact .of_eq rfl) | (rw [if_neg (by omega), if_neg (by omega), if_neg (by omega), if_neg (by omega), if_pos (by omega)]; exact .of_eq rfl) | (rw [if_neg (by omega), if_neg (by omega), if_neg (by omega), if_neg (by omega), if_neg (by omega), if_pos (by omega)]; exact .of_eq rfl) | (rw [if_neg (by omega), if_neg (by omega), if_neg (by omega), if_neg (by omega), if_neg (by omega), if_neg (by omega), if_pos (by omega)]; exact .of_eq rfl) | (rw [if_neg (by omega), if_neg (by omega), if_neg (by omega), if_neg (by omega), if_neg (by omega), if_neg (by omega), if_neg (by omega), if_pos (by omega)]; exact .of_eq rfl) | (rw [if_neg (by omega), if_neg (by omega), if_neg (by omega), if_neg (by omega), if_neg (by omega), if_neg (by omega), if_neg (by omega), if_neg (by omega), if_pos (by omega)]; exact .of_eq rfl) | (rw [if_neg (by omega), if_neg (by omega), if_neg (by omega), if_neg (by omega), if_neg (by omega), if_neg (by omega), if_neg (by omega), if_neg (by omega), if_neg (by omega), if_pos (by omega)]; exact .of_eq rfl) | (rw [if_neg (by omega), if_neg (by omega), if_neg (by omega), if_neg (by omega), if_neg (by omega), if_neg (by omega), if_neg (by omega), if_neg (by omega), if_pos (by omega), show (a.kind == 12) = true from beq_iff_eq.2 (by omega)]; exact .of_eq rfl) | (rw [if_neg (by omega), if_neg (by omega), if_neg (by omega), if_neg (by omega), if_neg (by omega), if_neg (by omega), if_neg (by omega), if_neg (by omega), if_pos (by omega), show (a.kind == 12) = false from beq_eq_false_iff_ne.2 (by omega)]; exact .of_eq rfl) | (rw [if_neg (by omega), if_neg (by omega), if_neg (by omega), if_neg (by omega), if_neg (by omega), if_neg (by omega), if_neg (by omega), if_neg (by omega), if_neg (by omega), if_neg (by omega)]; exact .of_eq rfl)) : p := h
set_option maxRecDepth 20000 in
theorem f_dact {x : Desk} {a : ActE} (rt : Rt x.ed) (hd : a.kind = 14 → 48 ≤ a.r ∧ a.r ≤ 57) : FnG PP 32 [.ptr 0 0, actD a] [(0, .cells 77 (deskC x))] (.tup []) [(0, .cells 77 (deskC (actEd x a)))] [0] := by
  have ok := rt.ok; have hat := rt.at_; have hfr := rt.fr; have hfo : 0 ≤ (offS x.ed).fresh ∧ (offS x.ed).fresh ≤ 999 := rt.fr; have hvl := value_le ⟨x.ed.c.has, x.ed.c.neg, x.ed.c.n⟩
  refine FnG.of_body 1 Tryz.func32 rfl (by kernel_rfl) rfl rfl rfl ?_
  refine Wp.seq <| reg <| bx0 67 rfl ?_
  refine done ?_
  refine Wp.seq <| reg <| mv0 rfl <| nck0 rfl <| faA0 rfl ?_
  refine faA0 rfl ?_
  refine ldA0 rfl ?_
  refine clw0 rfl f_value rfl ?_
  refine asg0 rfl <| done ?_
  refine Wp.seq <| Wp.seq <| reg <| faA0 rfl ?_
  refine ldA0 rfl ?_
  refine done ?_
  refine Wp.block <| Wp.seq <| reg <| cmp0 rfl <| asg0 rfl <| done ?_
  refine Wp.cond rfl (fun c1 => ?_) (fun c1 => ?_)
  have nc1 := Nz c1
  refine Wp.seq <| regd mixed ?_
  refine mv0 rfl <| mv0 rfl <| nck0 rfl <| faA0 rfl ?_
  refine faA0 rfl ?_
  refine ldA0 rfl ?_
  refine faA0 rfl ?_
  refine ldA0 rfl ?_
  have hd' := hd (by omega)
  refine ar0 rfl (wrap32 Bd) <| cv (a.r - 48) rfl (wrapI (by omega)) rfl .none ?_
  refine bsM0 intR [a.r - 48] rfl ?_
  refine clw0 rfl (f_digit (by omega)) rfl ?_
  refine nck0 rfl <| faA0 rfl ?_
  refine faA0 rfl ?_
  refine stw0 rfl ?_
  refine done ⟨by kernel_rfl, by kernel_rfl, ?_⟩
  refine Wp.ret ?_
  refine EndsG.one (.inr rfl) ( .nil) ?_ rfl ?_
  · rfl
  · exact f_dact_k1
  have nc1 := Nz c1
  refine Wp.seq <| reg <| cmp0 rfl <| asg0 rfl <| done ?_
  refine Wp.cond rfl (fun c2 => ?_) (fun c2 => ?_)
  have nc2 := Nz c2
  refine Wp.seq <| reg <| mv0 rfl <| mv0 rfl <| nck0 rfl <| faA0 rfl ?_
  refine faA0 rfl ?_
  refine ldA0 rfl ?_
  refine clw0 rfl f_minus rfl ?_
  refine nck0 rfl <| faA0 rfl ?_
  refine faA0 rfl ?_
  refine stw0 rfl ?_
  refine done ?_
  refine Wp.ret ?_
  refine EndsG.one (.inr rfl) ( .nil) ?_ rfl ?_
  · rfl
  · exact f_dact_k1
  have nc2 := Nz c2
  refine Wp.seq <| reg <| cmp0 rfl <| asg0 rfl <| done ?_
  refine Wp.cond rfl (fun c3 => ?_) (fun c3 => ?_)
  have nc3 := Nz c3
  refine Wp.seq <| reg <| mv0 rfl <| nck0 rfl <| faA0 rfl ?_
  refine faA0 rfl ?_
  refine stw0 rfl ?_
  refine done ?_
  refine Wp.ret ?_
  refine EndsG.one (.inr rfl) ( .nil) ?_ rfl ?_
  · rfl
  · exact f_dact_k1
  have nc3 := Nz c3
  refine Wp.seq <| reg <| cmp0 rfl <| asg0 rfl <| done ?_
  refine Wp.cond rfl (fun c4 => ?_) (fun c4 => ?_)
  have nc4 := Nz c4
  refine reg <| mv0 rfl <| clmw0 0 rfl (f_daccept ok) rfl ?_
  refine done ?_
  refine reg <| mv0 rfl <| bdw0 rfl ?_
  refine nck0 rfl <| faA0 rfl ?_
  refine faA0 rfl ?_
  refine stw0 rfl ?_
  refine done ?_
  refine EndsG.one (.inl rfl) ( .nil) ?_ rfl ?_
  · rfl
  · exact f_dact_k1
  have nc4 := Nz c4
  refine Wp.seq <| reg <| cmp0 rfl <| asg0 rfl <| done ?_
  refine Wp.cond rfl (fun c5 => ?_) (fun c5 => ?_)
  have nc5 := Nz c5
  refine reg <| mv0 rfl <| mv0 rfl <| nck0 rfl <| faA0 rfl ?_
  refine faA0 rfl ?_
  refine faA0 rfl ?_
  refine ldA0 rfl ?_
  refine mv0 rfl <| ar0 rfl (wrapI Bd) <| clmw0 0 rfl (f_dgoes ok) rfl ?_
  refine done ?_
  refine reg <| mv0 rfl <| bdw0 rfl ?_
  refine nck0 rfl <| faA0 rfl ?_
  refine faA0 rfl ?_
  refine stw0 rfl ?_
  refine done ?_
  refine EndsG.one (.inl rfl) ( .nil) ?_ rfl ?_
  · rfl
  · exact f_dact_k1
  have nc5 := Nz c5
  refine Wp.seq <| reg <| cmp0 rfl <| asg0 rfl <| done ?_
  refine Wp.cond rfl (fun c6 => ?_) (fun c6 => ?_)
  have nc6 := Nz c6
  refine reg <| mv0 rfl <| mv0 rfl <| nck0 rfl <| faA0 rfl ?_
  refine faA0 rfl ?_
  refine faA0 rfl ?_
  refine ldA0 rfl ?_
  refine mv0 rfl <| ar0 rfl (wrapI Bd) <| clmw0 0 rfl (f_dgoes ok) rfl ?_
  refine done ?_
  refine reg <| mv0 rfl <| bdw0 rfl ?_
  refine nck0 rfl <| faA0 rfl ?_
  refine faA0 rfl ?_
  refine stw0 rfl ?_
  refine done ?_
  refine EndsG.one (.inl rfl) ( .nil) ?_ rfl ?_
  · rfl
  · exact f_dact_k1
  have nc6 := Nz c6
  refine Wp.seq <| reg <| cmp0 rfl <| asg0 rfl <| done ?_
  refine Wp.cond rfl (fun c7 => ?_) (fun c7 => ?_)
  have nc7 := Nz c7
  refine reg <| mv0 rfl <| clmw0 0 rfl (f_dprefix ok hat) rfl ?_
  refine done ?_
  refine reg <| mv0 rfl <| bdw0 rfl ?_
  refine nck0 rfl <| faA0 rfl ?_
  refine faA0 rfl ?_
  refine stw0 rfl ?_
  refine done ?_
  refine EndsG.one (.inl rfl) ( .nil) ?_ rfl ?_
  · rfl
  · exact f_dact_k1
  have nc7 := Nz c7
  refine Wp.seq <| Wp.seq <| reg <| cmp0 rfl <| asg0 rfl <| done ?_
  refine Wp.cond rfl (fun c8 => ?_) (fun c8 => ?_)
  have nc8 := Nz c8
  refine Wp.skip <| Wp.condT rfl c8 <| reg <| mv0 rfl <| clmw0 0 rfl f_doff rfl ?_
  refine done ?_
  refine reg <| mv0 rfl <| bdw0 rfl ?_
  refine nck0 rfl <| faA0 rfl ?_
  refine faA0 rfl ?_
  refine stw0 rfl ?_
  refine done ?_
  refine EndsG.one (.inl rfl) ( .nil) ?_ rfl ?_
  · rfl
  · exact f_dact_k1
  have nc8 := Nz c8
  refine reg <| cmp0 rfl <| asg0 rfl <| done ?_
  refine Wp.cond rfl (fun c9 => ?_) (fun c9 => ?_)
  have nc9 := Nz c9
  refine reg <| mv0 rfl <| clmw0 0 rfl f_doff rfl ?_
  refine done ?_
  refine reg <| mv0 rfl <| bdw0 rfl ?_
  refine nck0 rfl <| faA0 rfl ?_
  refine faA0 rfl ?_
  refine stw0 rfl ?_
  refine done ?_
  refine EndsG.one (.inl rfl) ( .nil) ?_ rfl ?_
  · rfl
  · exact f_dact_k1
  have nc9 := Nz c9
  refine Wp.seq <| Wp.seq <| reg <| cmp0 rfl <| asg0 rfl <| done ?_
  refine Wp.cond rfl (fun c10 => ?_) (fun c10 => ?_)
  have nc10 := Nz c10
  refine Wp.skip <| Wp.condT rfl c10 <| Wp.seq <| reg <| mv0 rfl <| clmw0 0 rfl f_doff rfl ?_
  refine done ?_
  refine regd mixed ?_
  refine mv0 rfl <| faA0 rfl ?_
  refine ldA0 rfl ?_
  refine cmp0 rfl <| mv0 rfl <| nck0 rfl <| faA0 rfl ?_
  refine faA0 rfl ?_
  refine faA0 rfl ?_
  refine ldA0 rfl ?_
  refine bdw0 rfl ?_
  refine nck0 rfl <| faA0 rfl ?_
  refine faA0 rfl ?_
  refine stw0 rfl ?_
  refine done ⟨by kernel_rfl, by kernel_rfl, ?_⟩
  refine reg <| mv0 rfl <| bdw0 rfl ?_
  refine nck0 rfl <| faA0 rfl ?_
  refine faA0 rfl ?_
  refine stw0 rfl ?_
  refine done ?_
  refine EndsG.one (.inl rfl) ( .nil) ?_ rfl ?_
  · rfl
  · exact f_dact_k1
  have nc10 := Nz c10
  refine reg <| cmp0 rfl <| asg0 rfl <| done ?_
  refine Wp.cond rfl (fun c11 => ?_) (fun c11 => ?_)
  have nc11 := Nz c11
  refine Wp.seq <| reg <| mv0 rfl <| clmw0 0 rfl f_doff rfl ?_
  refine done ?_
  refine regd mixed ?_
  refine mv0 rfl <| faA0 rfl ?_
  refine ldA0 rfl ?_
  refine cmp0 rfl <| mv0 rfl <| nck0 rfl <| faA0 rfl ?_
  refine faA0 rfl ?_
  refine faA0 rfl ?_
  refine ldA0 rfl ?_
  refine bdw0 rfl ?_
  refine nck0 rfl <| faA0 rfl ?_
  refine faA0 rfl ?_
  refine stw0 rfl ?_
  refine done ⟨by kernel_rfl, by kernel_rfl, ?_⟩
  refine reg <| mv0 rfl <| bdw0 rfl ?_
  refine nck0 rfl <| faA0 rfl ?_
  refine faA0 rfl ?_
  refine stw0 rfl ?_
  refine done ?_
  refine EndsG.one (.inl rfl) ( .nil) ?_ rfl ?_
  · rfl
  · exact f_dact_k1
  have nc11 := Nz c11
  refine Wp.seq <| reg <| cmp0 rfl <| asg0 rfl <| done ?_
  refine Wp.cond rfl (fun c12 => ?_) (fun c12 => ?_)
  have nc12 := Nz c12
  refine Wp.seq <| reg <| mv0 rfl <| clmw0 0 rfl f_doff rfl ?_
  refine done ?_
  refine reg <| mv0 rfl <| mv0 rfl <| nck0 rfl <| faA0 rfl ?_
  refine faA0 rfl ?_
  refine ldA0 rfl ?_
  refine ar0 rfl (wrapI Bd) <| rm ((x.ed.fresh + 1) % 1000) rfl rfl Bd (Int.tmod_eq_emod_of_nonneg (show (0 : Int) ≤ x.ed.fresh + 1 by omega)) rfl .none ?_
  refine nck0 rfl <| faA0 rfl ?_
  refine faA0 rfl ?_
  refine stw0 rfl ?_
  refine done ?_
  refine reg <| mv0 rfl <| bdw0 rfl ?_
  refine nck0 rfl <| faA0 rfl ?_
  refine faA0 rfl ?_
  refine stw0 rfl ?_
  refine done ?_
  refine EndsG.one (.inl rfl) ( .nil) ?_ rfl ?_
  · rfl
  · exact f_dact_k1
  have nc12 := Nz c12
  refine reg <| mv0 rfl <| ldA0 rfl ?_
  refine clmw0 0 rfl (f_ddo ok) rfl ?_
  refine done ?_
  refine reg <| mv0 rfl <| bdw0 rfl ?_
  refine nck0 rfl <| faA0 rfl ?_
  refine faA0 rfl ?_
  refine stw0 rfl ?_
  refine done ?_
  refine EndsG.one (.inl rfl) ( .nil) ?_ rfl ?_
  · rfl
  · exact f_dact_k1

end Go.Proofs.YtkcdmmafkpplhaaGreat
/- Walks of layer 24: keys, what is shown. -/
namespace Go.Proofs.YtkcdmmafkpplhaaGreat
open Go.Eng
def toAct (a : Act4) : ActE := ⟨a.1, a.2.1, a.2.2.1, a.2.2.2⟩
def runA (x : Desk) (l : List Act4) : Desk := l.foldl (fun x a => actEd x (toAct a)) x
def vDesk (x : Desk) (k r : Int) : Desk := ⟨setV x.ed (mapV x.ed.v.1 x.ed.v.2 k r x.ed.c.has).1, x.line, x.is_⟩
def keyEd (x : Desk) (k r : Int) : Desk := if x.ed.map = 1 then runA (vDesk x k r) (mapV x.ed.v.1 x.ed.v.2 k r x.ed.c.has).2 else runA x [emMap k r]
theorem run_succ (x : Desk) {l : List Act4} {i : Nat} (h : i < l.length) : actEd (runA x (l.take i)) (toAct l[i]) = runA x (l.take (i + 1)) := by
  unfold runA; rw [List.take_succ_eq_append_getElem h, List.foldl_append]; rfl
theorem run_end (x : Desk) {l : List Act4} {i : Nat} (h : l.length ≤ i) : runA x (l.take i) = runA x l := by rw [List.take_of_length_le h]
def digOk (a : Act4) : Bool := if a.1 = 14 then decide (48 ≤ a.2.2.2 ∧ a.2.2.2 ≤ 57) else true
theorem dig_ok {a : Act4} (h : digOk a = true) : (toAct a).kind = 14 → 48 ≤ (toAct a).r ∧ (toAct a).r ≤ 57 := fun h1 => by
  have h1 : a.1 = 14 := h1
  unfold digOk at h; rw [if_pos h1] at h; exact of_decide_eq_true h
theorem look_mem {α : Type} [DecidableEq α] {β : Type} : ∀ {l : List (α × β)} {k : α} {v : β}, lookL l k = some v → ∃ q, (q, v) ∈ l
  | [], _, _, h => by simp [lookL] at h
  | (a, b) :: r, k, v, h => by
    have e : lookL ((a, b) :: r) k = match decide (k = a) with | true => some b | false => lookL r k := rfl
    rw [e] at h
    split at h
    · cases h; exact ⟨a, .head _⟩
    · obtain ⟨q, hq⟩ := look_mem h; exact ⟨q, .tail _ hq⟩
theorem look_all {α : Type} [DecidableEq α] {β : Type} {l : List (α × β)} {k : α} {p : β → Bool} {z : β} (h : (l.all fun e => p e.2) = true) (hs : (lookL l k).isSome = true) : p ((lookL l k).getD z) = true := by
  cases hv : lookL l k with
  | none => rw [hv] at hs; cases hs
  | some v => obtain ⟨q, hq⟩ := look_mem hv; exact (List.all_eq_true.1 h) _ hq
theorem em_dig (k r : Int) : digOk (emMap k r) = true := by
  unfold emMap
  dsimp only
  generalize (if k ≠ 1 ∧ k ≠ 2 then (0 : Int) else r) = r'
  split
  · rename_i h; exact look_all (p := digOk) (by decide) h
  · split
    · rfl
    · split
      · rename_i h; unfold digOk; rw [if_pos rfl]; exact decide_eq_true h.2
      · rfl
theorem em_all (k r : Int) : ∀ a ∈ [emMap k r], digOk a = true := fun a h => by rw [List.mem_singleton.1 h]; exact em_dig k r
def okR (x : (Int × Int) × List Act4) : Bool := viIsS x.1.1 x.1.2 && x.2.all digOk
theorem okR_one {v : Int × Int} {a : Act4} (hv : viIsS v.1 v.2 = true) (ha : digOk a = true) : okR (v, [a]) = true := by simp [okR, hv, ha]
theorem ok_insK (k r : Int) : okR (insK k r) = true := by
  unfold insK
  repeat' split
  all_goals first | rfl | exact okR_one rfl (em_dig _ _)
theorem ok_signS (r : Int) : okR (signS r) = true := by
  unfold signS
  split
  · rename_i h; exact look_all (p := okR) (by decide) h
  · rfl
theorem ok_obS (k r : Int) (dg : Bool) : okR (obS k r dg) = true := by
  unfold obS
  repeat' split
  all_goals first | rfl | exact okR_one rfl (em_dig _ _) | exact ok_signS _ | skip
  all_goals (rename_i h; exact okR_one rfl (by unfold digOk; rw [if_pos rfl]; exact decide_eq_true h))
theorem ok_waS {w : Int} (k r : Int) (dg : Bool) (h1 : 1 ≤ w ∧ w ≤ 3) : okR (waS w k r dg) = true := by
  unfold waS
  dsimp only
  generalize (if w = 1 then (100 : Int) else if w = 2 then 99 else 121) = own
  split
  · rename_i h
    exact okR_one (by show viIsS 1 w = true; unfold viIsS; rw [if_neg (by decide), if_pos rfl]; exact decide_eq_true (by omega)) (by unfold digOk; rw [if_pos rfl]; exact decide_eq_true h.2.2.2)
  · generalize (if k ≠ 1 then (0 : Int) else if r = own then 10 else leadsS r dg) = m
    repeat' split
    all_goals rfl
theorem ok_metaS {a : Act4} (r : Int) (dg : Bool) (h : digOk a = true) : okR (metaS [a] r dg) = true := by
  have h1 := ok_obS 1 r dg
  simp only [okR, Bool.and_eq_true] at h1
  simp only [okR, metaS, Bool.and_eq_true, List.all_append, List.all_cons, List.all_nil, Bool.and_true]
  exact ⟨h1.1, h, h1.2⟩
theorem ok_mapV {m o : Int} (k r : Int) (dg : Bool) (hv : viIsS m o = true) : okR (mapV m o k r dg) = true := by
  unfold mapV
  split
  · split
    · exact ok_insK k r
    · exact ok_metaS r dg rfl
  · rename_i hm
    split
    · split
      · exact ok_obS k r dg
      · exact ok_metaS r dg rfl
    · rename_i ho
      split
      · unfold viIsS at hv
        rw [if_neg hm] at hv
        split at hv
        · have := of_decide_eq_true hv; exact ok_waS k r dg (by omega)
        · cases hv
      · exact ok_metaS r dg rfl
theorem rt_setV {d : Ed} {v : Int × Int} (h : Rt d) (hv : viIsS v.1 v.2 = true) (hm : d.map = 1) : Rt (setV d v) := ⟨h.e, h.c, hv, h.p, h.s, fun h2 => h2.1 hm, h.fr⟩
theorem rt_run {x : Desk} (h : Rt x.ed) (l : List Act4) : Rt (runA x l).ed := by
  unfold runA
  induction l generalizing x with
  | nil => exact h
  | cons a l ih => exact ih (h.act (toAct a))
theorem rt_vDesk {x : Desk} {k r : Int} (h : Rt x.ed) (hm : x.ed.map = 1) : Rt (vDesk x k r).ed := by
  have h1 := ok_mapV k r x.ed.c.has h.v
  simp only [okR, Bool.and_eq_true] at h1
  exact rt_setV h h1.1 hm
theorem rt_key {x : Desk} {k r : Int} (h : Rt x.ed) : Rt (keyEd x k r).ed := by
  unfold keyEd
  split
  · rename_i hm; exact rt_run (rt_vDesk h hm) _
  · exact rt_run h _
theorem map_dig {m o : Int} {k r : Int} {dg : Bool} (hv : viIsS m o = true) : ∀ a ∈ (mapV m o k r dg).2, digOk a = true := by
  have h1 := ok_mapV k r dg hv
  simp only [okR, Bool.and_eq_true, List.all_eq_true] at h1
  exact h1.2
/-- What comes of a key: the editor, what was accepted, whether something was. -/
def keyS (d : Ed) (k r : Int) : Desk :=
  if edIs d = false then ⟨d, [], false⟩
  else if d.quote = true then ⟨quotedEd d k r, [], false⟩
  else if d.f.on = true ∧ k = 1 ∧ (seekEd d r).2 = true then ⟨(seekEd d r).1, [], false⟩
  else if d.f.on = true ∧ k = 1 ∧ (r = 10 ∨ r = 13) then actEd ⟨setV (endEd d) (0, 0), [], false⟩ ⟨7, 0, 0, 0⟩
  else if d.f.on = true then keyEd ⟨endEd d, [], false⟩ k r
  else keyEd ⟨d, [], false⟩ k r

theorem f_dkey_k1 {p : Prop} (h : p := by
    unfold keyEd; first | (rw [if_pos (by assumption)]; exact .of_eq (congrArg deskC (run_end (vDesk y k r) (l := (mapV y.ed.v.1 y.ed.v.2 k r y.ed.c.has).2) (i := x) (by omega)))) | (rw [if_neg (by assumption)]; exact .of_eq (congrArg deskC (run_end y (l := [emMap k r]) (i := x) (by omega))))) : p := h
set_option maxRecDepth 20000 in
theorem f_dkey {y : Desk} {k r : Int} (rt : Rt y.ed) : FnG PP 33 [.ptr 0 0, .agg [.int .i64 k, .int .i32 r]] [(0, .cells 77 (deskC y))] (.tup []) [(0, .cells 77 (deskC (keyEd y k r)))] [0] := by
  refine FnG.of_body 1 Tryz.func33 rfl (by kernel_rfl) rfl rfl rfl ?_
  refine Wp.seq <| reg <| bx0 67 rfl ?_
  refine done ?_
  refine Wp.seq <| reg <| ldA0 rfl ?_
  refine clw0 rfl f_emMap rfl ?_
  refine bsM0 actR [emMap k r] rfl ?_
  refine asg0 rfl <| done ?_
  refine Wp.seq <| Wp.seq <| reg <| mv0 rfl <| nck0 rfl <| faA0 rfl ?_
  refine faA0 rfl ?_
  refine ldA0 rfl ?_
  refine cmp0 rfl <| done ?_
  refine Wp.cond rfl (fun c1 => ?_) (fun c1 => ?_)
  have nc1 := Nz c1
  refine regd mixed ?_
  refine mv0 rfl <| mv0 rfl <| nck0 rfl <| faA0 rfl ?_
  refine faA0 rfl ?_
  refine ldA0 rfl ?_
  refine ldA0 rfl ?_
  refine mv0 rfl <| nck0 rfl <| faA0 rfl ?_
  refine faA0 rfl ?_
  refine faA0 rfl ?_
  refine ldA0 rfl ?_
  refine clw0 rfl (f_viMap rt.v) rfl ?_
  refine mv0 rfl <| xt0 rfl <| xt0 rfl <| nck0 rfl <| faA0 rfl ?_
  refine faA0 rfl ?_
  refine stw0 rfl ?_
  refine asg0 rfl ?_
  refine done ⟨by kernel_rfl, by kernel_rfl, ?_⟩
  refine Wp.seq <| reg <| mv0 rfl ?_
  first | refine lnM0 rfl ?_ | refine lns0 rfl ?_ | refine ln0 rfl ?_
  refine mv0 rfl <| done ?_
  refine Wp.bound 36 rfl (fun hb36 => ?_)
  simp only [D.bd, D.bdL, List.length_map, and_true] at hb36
  refine Wp.block ?_
  refine Wp.loopK (α := Nat) [0, 36, 37] [] (fun x tl => (38, .int .i64 (x : Nat)) :: tl) (fun x tl => (0, some (.cells 77 (deskC (runA (vDesk y k r) ((mapV y.ed.v.1 y.ed.v.2 k r y.ed.c.has).2.take x))))) :: tl) (fun x => x ≤ (mapV y.ed.v.1 y.ed.v.2 k r y.ed.c.has).2.length) (fun x => (mapV y.ed.v.1 y.ed.v.2 k r y.ed.c.has).2.length - x) (0) rfl rfl (by omega) (Rp) (Rp) ?_
  intro x hx
  have hx1 := hx
  refine Wp.seq <| reg <| cmp0 rfl <| done ?_
  refine Wp.seq ?_
  refine Wp.cond rfl (fun c2 => ?_) (fun c2 => ?_)
  have nc2 := Nz c2
  refine Wp.skip <| Wp.seq <| Wp.block <| Wp.seq <| reg <| iaE0 (x) Bd rfl Eq' ?_
  refine ldA0 rfl ?_
  refine al0 70 rfl ?_
  refine stw0 rfl ?_
  refine done ?_
  refine reg <| mv0 rfl <| ldA0 rfl ?_
  first | refine clmw0 0 rfl (f_dact (x := runA (vDesk y k r) ((mapV y.ed.v.1 y.ed.v.2 k r y.ed.c.has).2.take x)) (a := toAct (mapV y.ed.v.1 y.ed.v.2 k r y.ed.c.has).2[x]) (rt_run (rt_vDesk rt (by assumption)) _) (dig_ok (map_dig rt.v _ (List.getElem_mem _)))) rfl ?_ | refine clmw0 0 rfl (f_dact (x := runA y ([emMap k r].take x)) (a := toAct ([emMap k r][x]'(by omega))) (rt_run rt _) (dig_ok (em_all k r _ (List.getElem_mem _)))) rfl ?_
  refine done ?_
  refine reg <| ar0 rfl (wrapI Bd) <| mv0 rfl <| done ?_
  exact ⟨x + 1, by omega, by omega, Rp, ⟨congrArg (fun z => some (Blk.cells 77 (deskC z))) (run_succ (vDesk y k r) (l := (mapV y.ed.v.1 y.ed.v.2 k r y.ed.c.has).2) (i := x) (by omega)), trivial⟩, rfl⟩
  have nc2 := Nz c2
  refine Wp.exit ?_
  refine EndsG.one (.inl rfl) ( .nil) ?_ rfl ?_
  · rfl
  · exact f_dkey_k1
  have nc1 := Nz c1
  refine Wp.skip <| Wp.seq <| reg <| mv0 rfl ?_
  first | refine lnM0 rfl ?_ | refine lns0 rfl ?_ | refine ln0 rfl ?_
  refine mv0 rfl <| done ?_
  refine Wp.bound 36 rfl (fun hb36 => ?_)
  simp only [D.bd, D.bdL, List.length_map, and_true] at hb36
  refine Wp.block ?_
  refine Wp.loopK (α := Nat) [0, 36, 37] [] (fun x tl => (38, .int .i64 (x : Nat)) :: tl) (fun x tl => (0, some (.cells 77 (deskC (runA y ([emMap k r].take x))))) :: tl) (fun x => x ≤ [emMap k r].length) (fun x => [emMap k r].length - x) (0) rfl rfl (by omega) (Rp) (Rp) ?_
  intro x hx
  have hx1 := hx
  refine Wp.seq <| reg <| cmp0 rfl <| done ?_
  refine Wp.seq ?_
  refine Wp.cond rfl (fun c3 => ?_) (fun c3 => ?_)
  have nc3 := Nz c3
  refine Wp.skip <| Wp.seq <| Wp.block <| Wp.seq <| reg <| iaE0 (x) Bd rfl Eq' ?_
  refine ldA0 rfl ?_
  refine al0 70 rfl ?_
  refine stw0 rfl ?_
  refine done ?_
  refine reg <| mv0 rfl <| ldA0 rfl ?_
  first | refine clmw0 0 rfl (f_dact (x := runA (vDesk y k r) ((mapV y.ed.v.1 y.ed.v.2 k r y.ed.c.has).2.take x)) (a := toAct (mapV y.ed.v.1 y.ed.v.2 k r y.ed.c.has).2[x]) (rt_run (rt_vDesk rt (by assumption)) _) (dig_ok (map_dig rt.v _ (List.getElem_mem _)))) rfl ?_ | refine clmw0 0 rfl (f_dact (x := runA y ([emMap k r].take x)) (a := toAct ([emMap k r][x]'(by omega))) (rt_run rt _) (dig_ok (em_all k r _ (List.getElem_mem _)))) rfl ?_
  refine done ?_
  refine reg <| ar0 rfl (wrapI Bd) <| mv0 rfl <| done ?_
  exact ⟨x + 1, by omega, by omega, Rp, ⟨congrArg (fun z => some (Blk.cells 77 (deskC z))) (run_succ y (l := [emMap k r]) (i := x) (by omega)), trivial⟩, rfl⟩
  have nc3 := Nz c3
  refine Wp.exit ?_
  refine EndsG.one (.inl rfl) ( .nil) ?_ rfl ?_
  · rfl
  · exact f_dkey_k1

end Go.Proofs.YtkcdmmafkpplhaaGreat
/- Walks of layer 24: Key and Shown. -/
namespace Go.Proofs.YtkcdmmafkpplhaaGreat
open Go.Eng
theorem key_e1 {d : Ed} {k r : Int} (h0 : edIs d = false) : keyS d k r = ⟨d, [], false⟩ := if_pos h0
theorem key_e2 {d : Ed} {k r : Int} (h0 : edIs d = true) (h1 : d.quote = true) : keyS d k r = ⟨quotedEd d k r, [], false⟩ := by unfold keyS; rw [if_neg (isT h0), if_pos h1]
theorem key_e3 {d : Ed} {k r : Int} (h0 : edIs d = true) (h1 : d.quote = false) (h2 : d.f.on = true) (h3 : k = 1) (h4 : (seekEd d r).2 = true) : keyS d k r = ⟨(seekEd d r).1, [], false⟩ := by unfold keyS; rw [if_neg (isT h0), if_neg (isF h1), if_pos ⟨h2, h3, h4⟩]
theorem key_e4 {d : Ed} {k r : Int} (h0 : edIs d = true) (h1 : d.quote = false) (h2 : d.f.on = true) (h3 : k = 1) (h4 : (seekEd d r).2 = false) (h5 : r = 10 ∨ r = 13) : keyS d k r = actEd ⟨setV (endEd d) (0, 0), [], false⟩ ⟨7, 0, 0, 0⟩ := by
  unfold keyS; rw [if_neg (isT h0), if_neg (isF h1), if_neg (fun h => isF h4 h.2.2), if_pos ⟨h2, h3, h5⟩]
theorem key_e5 {d : Ed} {k r : Int} (h0 : edIs d = true) (h1 : d.quote = false) (h2 : d.f.on = true) (h4 : k = 1 → (seekEd d r).2 = false) (h5 : k = 1 → ¬ (r = 10 ∨ r = 13)) : keyS d k r = keyEd ⟨endEd d, [], false⟩ k r := by
  unfold keyS; rw [if_neg (isT h0), if_neg (isF h1), if_neg (fun h => isF (h4 h.2.1) h.2.2), if_neg (fun h => h5 h.2.1 h.2.2), if_pos h2]
theorem key_e6 {d : Ed} {k r : Int} (h0 : edIs d = true) (h1 : d.quote = false) (h2 : d.f.on = false) : keyS d k r = keyEd ⟨d, [], false⟩ k r := by
  unfold keyS; rw [if_neg (isT h0), if_neg (isF h1), if_neg (fun h => isF h2 h.1), if_neg (fun h => isF h2 h.1), if_neg (isF h2)]
theorem rt_v0 {d : Ed} (h : Rt d) : Rt (setV d (0, 0)) := ⟨h.e, h.c, rfl, h.p, h.s, fun h2 => h.m ⟨h2.1, by rcases h2.2 with h3 | h3 | h3; exact .inl h3; exact absurd rfl h3; exact absurd rfl h3⟩, h.fr⟩

theorem f_edKey_k1 {p : Prop} (h : p := by
    first | (exfalso; omega) | (exfalso; exact absurd (show d.f.on = true by assumption) (isF (by assumption))) | (rw [key_e1 (d := d) (k := k) (r := r) (by assumption)]; rfl) | (rw [key_e2 (d := d) (k := k) (r := r) (by assumption) (by assumption)]; rfl) | (rw [key_e3 (d := d) (k := k) (r := r) (by assumption) (by assumption) (by assumption) (by assumption) (by assumption)]; rfl) | (rw [key_e4 (d := d) (k := k) (r := r) (by assumption) (by assumption) (by assumption) (by assumption) (by assumption) (by omega)]; rfl) | (rw [key_e5 (d := d) (k := k) (r := r) (by assumption) (by assumption) (by assumption) (fun _ => by assumption) (fun _ => by omega)]; rfl) | (rw [key_e5 (d := d) (k := k) (r := r) (by assumption) (by assumption) (by assumption) (fun h => absurd h (by assumption)) (fun h => absurd h (by assumption))]; rfl) | (rw [key_e6 (d := d) (k := k) (r := r) (by assumption) (by assumption) (by assumption)]; rfl)) : p := h
set_option maxRecDepth 20000 in
theorem f_edKey {d : Ed} {k r : Int} (ok : EdOk d) : FnP PP 9 [edD d, .agg [.int .i64 k, .int .i32 r]] (.tup [edD (keyS d k r).ed, rl (keyS d k r).line, .bool (keyS d k r).is_]) := by
  refine FnP.of_body Tryz.func9 rfl (by kernel_rfl) rfl ?_
  refine Wp.seq <| reg <| bx0 66 rfl ?_
  refine bx0 67 rfl ?_
  refine al0 68 rfl ?_
  refine asg0 rfl <| asg0 rfl <| done ?_
  refine Wp.seq <| Wp.seq <| reg <| ldA0 rfl ?_
  refine clw0 rfl (f_edIs ok) rfl ?_
  refine nt0 rfl <| done ?_
  refine Wp.cond rfl (fun c1 => ?_) (fun c1 => ?_)
  have nc1 := Nz c1
  refine Wp.seq <| reg <| ldA0 rfl ?_
  refine stw0 rfl ?_
  refine asg0 rfl <| asg0 rfl <| done ?_
  refine Wp.ret ?_
  refine Ends.ret (.cons (.cell rfl rfl rfl (Nat.le_of_ble_eq_true rfl) (Fz.wk rfl)) <| .cons (.tmp rfl (Fz.wk rfl)) <| .cons (.tmp rfl (Fz.pure rfl)) <|  .nil) ?_
  exact f_edKey_k1
  have nc1 := Nz c1
  refine Wp.skip <| Wp.seq <| reg <| ldA0 rfl ?_
  refine bdw0 rfl ?_
  refine bx0 0 rfl ?_
  refine asg0 rfl <| done ?_
  have hall := edIs_rt (d := d) (by assumption)
  have rt := hall.1
  refine Wp.seq <| Wp.block <| Wp.seq <| reg <| mv0 rfl <| nck0 rfl <| faA0 rfl ?_
  refine faA0 rfl ?_
  refine ldA0 rfl ?_
  refine asg0 rfl <| done ?_
  refine Wp.cond rfl (fun c2 => ?_) (fun c2 => ?_)
  have nc2 := Nz c2
  refine reg <| mv0 rfl <| ldA0 rfl ?_
  refine clmw0 0 rfl (f_dquoted (x := ⟨d, [], false⟩) ok) rfl ?_
  refine done ?_
  refine Wp.seq <| regd mixed ?_
  refine mv0 rfl <| nck0 rfl <| faA0 rfl ?_
  refine ldA0 rfl ?_
  refine mv0 rfl <| nck0 rfl <| faA0 rfl ?_
  refine ldA0 rfl ?_
  refine mv0 rfl <| nck0 rfl <| faA0 rfl ?_
  refine ldA0 rfl ?_
  refine stw0 rfl ?_
  refine asg0 rfl <| asg0 rfl ?_
  refine done ⟨by kernel_rfl, by kernel_rfl, ?_⟩
  refine Wp.ret ?_
  refine Ends.ret (.cons (.cell rfl rfl rfl (Nat.le_of_ble_eq_true rfl) (Fz.wk rfl)) <| .cons (.tmp rfl (Fz.wk rfl)) <| .cons (.tmp rfl (Fz.pure rfl)) <|  .nil) ?_
  exact f_edKey_k1
  have nc2 := Nz c2
  refine Wp.seq <| reg <| mv0 rfl <| nck0 rfl <| faA0 rfl ?_
  refine faA0 rfl ?_
  refine faA0 rfl ?_
  refine ldA0 rfl ?_
  refine mv0 rfl ?_
  refine bcase 34 rfl (fun h34 => ?_) (fun h34 => ?_)
  have nh34 := Nz h34
  refine faA1 rfl h34 rfl ?_
  refine ldA1 rfl h34 rfl ?_
  refine cmp1 rfl h34 rfl <| pkt0 rfl h34 <| mv0 rfl ?_
  refine bcase 39 rfl (fun h39 => ?_) (fun h39 => ?_)
  have nh39 := Nz h39
  refine mv1 rfl h39 rfl <| faA1 rfl h39 rfl ?_
  refine ldA1 rfl h39 rfl ?_
  have hsm := seek_small rt (hall.2.1 (by assumption)).2
  refine clmw1 rfl h39 0 rfl (f_dseek (x := ⟨d, [], false⟩) hsm.1 hsm.2) rfl ?_
  refine pkt0 rfl h39 <| asg0 rfl <| done ?_
  refine Wp.cond rfl (fun c3 => ?_) (fun c3 => ?_)
  have nc3 := Nz c3
  refine Wp.skip <| Wp.seq <| regd mixed ?_
  refine mv0 rfl <| nck0 rfl <| faA0 rfl ?_
  refine ldA0 rfl ?_
  refine mv0 rfl <| nck0 rfl <| faA0 rfl ?_
  refine ldA0 rfl ?_
  refine mv0 rfl <| nck0 rfl <| faA0 rfl ?_
  refine ldA0 rfl ?_
  refine stw0 rfl ?_
  refine asg0 rfl <| asg0 rfl ?_
  refine done ⟨by kernel_rfl, by kernel_rfl, ?_⟩
  refine Wp.ret ?_
  refine Ends.ret (.cons (.cell rfl rfl rfl (Nat.le_of_ble_eq_true rfl) (Fz.wk rfl)) <| .cons (.tmp rfl (Fz.wk rfl)) <| .cons (.tmp rfl (Fz.pure rfl)) <|  .nil) ?_
  exact f_edKey_k1
  have nc3 := Nz c3
  refine Wp.seq ?_
  (try rw [seek_no (d := d) (r := r) (by assumption)])
  refine reg <| mv0 rfl <| nck0 rfl <| faA0 rfl ?_
  refine faA0 rfl ?_
  refine faA0 rfl ?_
  refine ldA0 rfl ?_
  refine mv0 rfl ?_
  refine bcase 52 rfl (fun h52 => ?_) (fun h52 => ?_)
  have nh52 := Nz h52
  refine faA1 rfl h52 rfl ?_
  refine ldA1 rfl h52 rfl ?_
  refine cmp1 rfl h52 rfl <| pkt0 rfl h52 <| mv0 rfl ?_
  refine bcase 57 rfl (fun h57 => ?_) (fun h57 => ?_)
  have nh57 := Nz h57
  refine faA1 rfl h57 rfl ?_
  refine ldA1 rfl h57 rfl ?_
  refine cmp1 rfl h57 rfl <| mv1 rfl h57 rfl ?_
  refine bcase 61 rfl (fun h61 => ?_) (fun h61 => ?_)
  have nh61 := Nz h61
  refine sk0 rfl h61 <| sk0 rfl h61 <| sk0 rfl h61 <| pkt1 rfl h57 rfl h61 <| pkt0 rfl h57 <| asg0 rfl <| done ?_
  refine Wp.condT rfl rfl <| Wp.seq <| reg <| mv0 rfl <| clmw0 0 rfl (f_dend (x := ⟨d, [], false⟩) ok) rfl ?_
  refine done ?_
  refine Wp.seq <| reg <| mv0 rfl <| bdw0 rfl ?_
  refine nck0 rfl <| faA0 rfl ?_
  refine faA0 rfl ?_
  refine stw0 rfl ?_
  refine done ?_
  refine reg <| mv0 rfl <| bdw0 rfl ?_
  refine clmw0 0 rfl (f_dact (x := ⟨setV (endEd d) (0, 0), [], false⟩) (a := ⟨7, 0, 0, 0⟩) (rt_v0 rt.end_) (fun h => by cases h)) rfl ?_
  refine done ?_
  refine Wp.seq <| regd mixed ?_
  refine mv0 rfl <| nck0 rfl <| faA0 rfl ?_
  refine ldA0 rfl ?_
  refine mv0 rfl <| nck0 rfl <| faA0 rfl ?_
  refine ldA0 rfl ?_
  refine mv0 rfl <| nck0 rfl <| faA0 rfl ?_
  refine ldA0 rfl ?_
  refine stw0 rfl ?_
  refine asg0 rfl <| asg0 rfl ?_
  refine done ⟨by kernel_rfl, by kernel_rfl, ?_⟩
  refine Wp.ret ?_
  refine Ends.ret (.cons (.cell rfl rfl rfl (Nat.le_of_ble_eq_true rfl) (Fz.wk rfl)) <| .cons (.tmp rfl (Fz.wk rfl)) <| .cons (.tmp rfl (Fz.pure rfl)) <|  .nil) ?_
  exact f_edKey_k1
  have nh61 := Nz h61
  refine faA1 rfl h61 rfl ?_
  refine ldA1 rfl h61 rfl ?_
  refine cmp1 rfl h61 rfl <| pkf1 rfl h57 rfl h61 <| pkt0 rfl h57 <| asg0 rfl <| done ?_
  refine Wp.cond rfl (fun c4 => ?_) (fun c4 => ?_)
  have nc4 := Nz c4
  refine Wp.seq <| reg <| mv0 rfl <| clmw0 0 rfl (f_dend (x := ⟨d, [], false⟩) ok) rfl ?_
  refine done ?_
  refine Wp.seq <| reg <| mv0 rfl <| bdw0 rfl ?_
  refine nck0 rfl <| faA0 rfl ?_
  refine faA0 rfl ?_
  refine stw0 rfl ?_
  refine done ?_
  refine reg <| mv0 rfl <| bdw0 rfl ?_
  refine clmw0 0 rfl (f_dact (x := ⟨setV (endEd d) (0, 0), [], false⟩) (a := ⟨7, 0, 0, 0⟩) (rt_v0 rt.end_) (fun h => by cases h)) rfl ?_
  refine done ?_
  refine Wp.seq <| regd mixed ?_
  refine mv0 rfl <| nck0 rfl <| faA0 rfl ?_
  refine ldA0 rfl ?_
  refine mv0 rfl <| nck0 rfl <| faA0 rfl ?_
  refine ldA0 rfl ?_
  refine mv0 rfl <| nck0 rfl <| faA0 rfl ?_
  refine ldA0 rfl ?_
  refine stw0 rfl ?_
  refine asg0 rfl <| asg0 rfl ?_
  refine done ⟨by kernel_rfl, by kernel_rfl, ?_⟩
  refine Wp.ret ?_
  refine Ends.ret (.cons (.cell rfl rfl rfl (Nat.le_of_ble_eq_true rfl) (Fz.wk rfl)) <| .cons (.tmp rfl (Fz.wk rfl)) <| .cons (.tmp rfl (Fz.pure rfl)) <|  .nil) ?_
  exact f_edKey_k1
  have nc4 := Nz c4
  refine Wp.seq <| reg <| mv0 rfl <| nck0 rfl <| faA0 rfl ?_
  refine faA0 rfl ?_
  refine faA0 rfl ?_
  refine ldA0 rfl ?_
  refine asg0 rfl <| done ?_
  refine Wp.cond rfl (fun c5 => ?_) (fun c5 => ?_)
  have nc5 := Nz c5
  refine Wp.seq <| reg <| mv0 rfl <| clmw0 0 rfl (f_dend (x := ⟨d, [], false⟩) ok) rfl ?_
  refine done ?_
  refine reg <| mv0 rfl <| ldA0 rfl ?_
  refine clmw0 0 rfl (f_dkey (y := ⟨endEd d, [], false⟩) rt.end_) rfl ?_
  refine done ?_
  refine Wp.seq <| regd mixed ?_
  refine mv0 rfl <| nck0 rfl <| faA0 rfl ?_
  refine ldA0 rfl ?_
  refine mv0 rfl <| nck0 rfl <| faA0 rfl ?_
  refine ldA0 rfl ?_
  refine mv0 rfl <| nck0 rfl <| faA0 rfl ?_
  refine ldA0 rfl ?_
  refine stw0 rfl ?_
  refine asg0 rfl <| asg0 rfl ?_
  refine done ⟨by kernel_rfl, by kernel_rfl, ?_⟩
  refine Wp.ret ?_
  refine Ends.ret (.cons (.cell rfl rfl rfl (Nat.le_of_ble_eq_true rfl) (Fz.wk rfl)) <| .cons (.tmp rfl (Fz.wk rfl)) <| .cons (.tmp rfl (Fz.pure rfl)) <|  .nil) ?_
  exact f_edKey_k1
  have nc5 := Nz c5
  refine reg <| mv0 rfl <| ldA0 rfl ?_
  refine clmw0 0 rfl (f_dkey (y := ⟨d, [], false⟩) rt) rfl ?_
  refine done ?_
  refine Wp.seq <| regd mixed ?_
  refine mv0 rfl <| nck0 rfl <| faA0 rfl ?_
  refine ldA0 rfl ?_
  refine mv0 rfl <| nck0 rfl <| faA0 rfl ?_
  refine ldA0 rfl ?_
  refine mv0 rfl <| nck0 rfl <| faA0 rfl ?_
  refine ldA0 rfl ?_
  refine stw0 rfl ?_
  refine asg0 rfl <| asg0 rfl ?_
  refine done ⟨by kernel_rfl, by kernel_rfl, ?_⟩
  refine Wp.ret ?_
  refine Ends.ret (.cons (.cell rfl rfl rfl (Nat.le_of_ble_eq_true rfl) (Fz.wk rfl)) <| .cons (.tmp rfl (Fz.wk rfl)) <| .cons (.tmp rfl (Fz.pure rfl)) <|  .nil) ?_
  exact f_edKey_k1
  have nh57 := Nz h57
  refine sk0 rfl h57 <| sk0 rfl h57 <| sk0 rfl h57 <| sk0 rfl h57 <| sku0 rfl <| sku0 rfl <| sku0 rfl <| sk0 rfl h57 <| pkf0 rfl h57 <| asg0 rfl <| done ?_
  refine Wp.condF rfl rfl <| Wp.seq <| reg <| mv0 rfl <| nck0 rfl <| faA0 rfl ?_
  refine faA0 rfl ?_
  refine faA0 rfl ?_
  refine ldA0 rfl ?_
  refine asg0 rfl <| done ?_
  refine Wp.cond rfl (fun c6 => ?_) (fun c6 => ?_)
  have nc6 := Nz c6
  refine Wp.seq <| reg <| mv0 rfl <| clmw0 0 rfl (f_dend (x := ⟨d, [], false⟩) ok) rfl ?_
  refine done ?_
  refine reg <| mv0 rfl <| ldA0 rfl ?_
  refine clmw0 0 rfl (f_dkey (y := ⟨endEd d, [], false⟩) rt.end_) rfl ?_
  refine done ?_
  refine Wp.seq <| regd mixed ?_
  refine mv0 rfl <| nck0 rfl <| faA0 rfl ?_
  refine ldA0 rfl ?_
  refine mv0 rfl <| nck0 rfl <| faA0 rfl ?_
  refine ldA0 rfl ?_
  refine mv0 rfl <| nck0 rfl <| faA0 rfl ?_
  refine ldA0 rfl ?_
  refine stw0 rfl ?_
  refine asg0 rfl <| asg0 rfl ?_
  refine done ⟨by kernel_rfl, by kernel_rfl, ?_⟩
  refine Wp.ret ?_
  refine Ends.ret (.cons (.cell rfl rfl rfl (Nat.le_of_ble_eq_true rfl) (Fz.wk rfl)) <| .cons (.tmp rfl (Fz.wk rfl)) <| .cons (.tmp rfl (Fz.pure rfl)) <|  .nil) ?_
  exact f_edKey_k1
  have nc6 := Nz c6
  refine reg <| mv0 rfl <| ldA0 rfl ?_
  refine clmw0 0 rfl (f_dkey (y := ⟨d, [], false⟩) rt) rfl ?_
  refine done ?_
  refine Wp.seq <| regd mixed ?_
  refine mv0 rfl <| nck0 rfl <| faA0 rfl ?_
  refine ldA0 rfl ?_
  refine mv0 rfl <| nck0 rfl <| faA0 rfl ?_
  refine ldA0 rfl ?_
  refine mv0 rfl <| nck0 rfl <| faA0 rfl ?_
  refine ldA0 rfl ?_
  refine stw0 rfl ?_
  refine asg0 rfl <| asg0 rfl ?_
  refine done ⟨by kernel_rfl, by kernel_rfl, ?_⟩
  refine Wp.ret ?_
  refine Ends.ret (.cons (.cell rfl rfl rfl (Nat.le_of_ble_eq_true rfl) (Fz.wk rfl)) <| .cons (.tmp rfl (Fz.wk rfl)) <| .cons (.tmp rfl (Fz.pure rfl)) <|  .nil) ?_
  exact f_edKey_k1
  have nh52 := Nz h52
  refine sk0 rfl h52 <| sk0 rfl h52 <| sk0 rfl h52 <| pkf0 rfl h52 <| mv0 rfl <| sk0 rfl rfl <| sk0 rfl rfl <| sk0 rfl rfl <| sk0 rfl rfl <| sku0 rfl <| sku0 rfl <| sku0 rfl <| sk0 rfl rfl <| pkf0 rfl rfl <| asg0 rfl <| done ?_
  refine Wp.condF rfl rfl <| Wp.seq <| reg <| mv0 rfl <| nck0 rfl <| faA0 rfl ?_
  refine faA0 rfl ?_
  refine faA0 rfl ?_
  refine ldA0 rfl ?_
  refine asg0 rfl <| done ?_
  refine Wp.cond rfl (fun c7 => ?_) (fun c7 => ?_)
  have nc7 := Nz c7
  refine Wp.seq <| reg <| mv0 rfl <| clmw0 0 rfl (f_dend (x := ⟨d, [], false⟩) ok) rfl ?_
  refine done ?_
  refine reg <| mv0 rfl <| ldA0 rfl ?_
  refine clmw0 0 rfl (f_dkey (y := ⟨endEd d, [], false⟩) rt.end_) rfl ?_
  refine done ?_
  refine Wp.seq <| regd mixed ?_
  refine mv0 rfl <| nck0 rfl <| faA0 rfl ?_
  refine ldA0 rfl ?_
  refine mv0 rfl <| nck0 rfl <| faA0 rfl ?_
  refine ldA0 rfl ?_
  refine mv0 rfl <| nck0 rfl <| faA0 rfl ?_
  refine ldA0 rfl ?_
  refine stw0 rfl ?_
  refine asg0 rfl <| asg0 rfl ?_
  refine done ⟨by kernel_rfl, by kernel_rfl, ?_⟩
  refine Wp.ret ?_
  refine Ends.ret (.cons (.cell rfl rfl rfl (Nat.le_of_ble_eq_true rfl) (Fz.wk rfl)) <| .cons (.tmp rfl (Fz.wk rfl)) <| .cons (.tmp rfl (Fz.pure rfl)) <|  .nil) ?_
  exact f_edKey_k1
  have nc7 := Nz c7
  refine reg <| mv0 rfl <| ldA0 rfl ?_
  refine clmw0 0 rfl (f_dkey (y := ⟨d, [], false⟩) rt) rfl ?_
  refine done ?_
  refine Wp.seq <| regd mixed ?_
  refine mv0 rfl <| nck0 rfl <| faA0 rfl ?_
  refine ldA0 rfl ?_
  refine mv0 rfl <| nck0 rfl <| faA0 rfl ?_
  refine ldA0 rfl ?_
  refine mv0 rfl <| nck0 rfl <| faA0 rfl ?_
  refine ldA0 rfl ?_
  refine stw0 rfl ?_
  refine asg0 rfl <| asg0 rfl ?_
  refine done ⟨by kernel_rfl, by kernel_rfl, ?_⟩
  refine Wp.ret ?_
  refine Ends.ret (.cons (.cell rfl rfl rfl (Nat.le_of_ble_eq_true rfl) (Fz.wk rfl)) <| .cons (.tmp rfl (Fz.wk rfl)) <| .cons (.tmp rfl (Fz.pure rfl)) <|  .nil) ?_
  exact f_edKey_k1
  have nh39 := Nz h39
  refine sk0 rfl h39 <| sk0 rfl h39 <| sk0 rfl h39 <| sk0 rfl h39 <| pkf0 rfl h39 <| asg0 rfl <| done ?_
  refine Wp.condF rfl rfl <| Wp.seq ?_
  (try rw [seek_no (d := d) (r := r) (by assumption)])
  refine reg <| mv0 rfl <| nck0 rfl <| faA0 rfl ?_
  refine faA0 rfl ?_
  refine faA0 rfl ?_
  refine ldA0 rfl ?_
  refine mv0 rfl ?_
  refine bcase 52 rfl (fun h52 => ?_) (fun h52 => ?_)
  have nh52 := Nz h52
  refine faA1 rfl h52 rfl ?_
  refine ldA1 rfl h52 rfl ?_
  refine cmp1 rfl h52 rfl <| pkt0 rfl h52 <| mv0 rfl ?_
  refine bcase 57 rfl (fun h57 => ?_) (fun h57 => ?_)
  have nh57 := Nz h57
  refine faA1 rfl h57 rfl ?_
  refine ldA1 rfl h57 rfl ?_
  refine cmp1 rfl h57 rfl <| mv1 rfl h57 rfl ?_
  refine bcase 61 rfl (fun h61 => ?_) (fun h61 => ?_)
  have nh61 := Nz h61
  refine sk0 rfl h61 <| sk0 rfl h61 <| sk0 rfl h61 <| pkt1 rfl h57 rfl h61 <| pkt0 rfl h57 <| asg0 rfl <| done ?_
  refine Wp.condT rfl rfl <| Wp.seq <| reg <| mv0 rfl <| clmw0 0 rfl (f_dend (x := ⟨d, [], false⟩) ok) rfl ?_
  refine done ?_
  refine Wp.seq <| reg <| mv0 rfl <| bdw0 rfl ?_
  refine nck0 rfl <| faA0 rfl ?_
  refine faA0 rfl ?_
  refine stw0 rfl ?_
  refine done ?_
  refine reg <| mv0 rfl <| bdw0 rfl ?_
  refine clmw0 0 rfl (f_dact (x := ⟨setV (endEd d) (0, 0), [], false⟩) (a := ⟨7, 0, 0, 0⟩) (rt_v0 rt.end_) (fun h => by cases h)) rfl ?_
  refine done ?_
  refine Wp.seq <| regd mixed ?_
  refine mv0 rfl <| nck0 rfl <| faA0 rfl ?_
  refine ldA0 rfl ?_
  refine mv0 rfl <| nck0 rfl <| faA0 rfl ?_
  refine ldA0 rfl ?_
  refine mv0 rfl <| nck0 rfl <| faA0 rfl ?_
  refine ldA0 rfl ?_
  refine stw0 rfl ?_
  refine asg0 rfl <| asg0 rfl ?_
  refine done ⟨by kernel_rfl, by kernel_rfl, ?_⟩
  refine Wp.ret ?_
  refine Ends.ret (.cons (.cell rfl rfl rfl (Nat.le_of_ble_eq_true rfl) (Fz.wk rfl)) <| .cons (.tmp rfl (Fz.wk rfl)) <| .cons (.tmp rfl (Fz.pure rfl)) <|  .nil) ?_
  exact f_edKey_k1
  have nh61 := Nz h61
  refine faA1 rfl h61 rfl ?_
  refine ldA1 rfl h61 rfl ?_
  refine cmp1 rfl h61 rfl <| pkf1 rfl h57 rfl h61 <| pkt0 rfl h57 <| asg0 rfl <| done ?_
  refine Wp.cond rfl (fun c8 => ?_) (fun c8 => ?_)
  have nc8 := Nz c8
  refine Wp.seq <| reg <| mv0 rfl <| clmw0 0 rfl (f_dend (x := ⟨d, [], false⟩) ok) rfl ?_
  refine done ?_
  refine Wp.seq <| reg <| mv0 rfl <| bdw0 rfl ?_
  refine nck0 rfl <| faA0 rfl ?_
  refine faA0 rfl ?_
  refine stw0 rfl ?_
  refine done ?_
  refine reg <| mv0 rfl <| bdw0 rfl ?_
  refine clmw0 0 rfl (f_dact (x := ⟨setV (endEd d) (0, 0), [], false⟩) (a := ⟨7, 0, 0, 0⟩) (rt_v0 rt.end_) (fun h => by cases h)) rfl ?_
  refine done ?_
  refine Wp.seq <| regd mixed ?_
  refine mv0 rfl <| nck0 rfl <| faA0 rfl ?_
  refine ldA0 rfl ?_
  refine mv0 rfl <| nck0 rfl <| faA0 rfl ?_
  refine ldA0 rfl ?_
  refine mv0 rfl <| nck0 rfl <| faA0 rfl ?_
  refine ldA0 rfl ?_
  refine stw0 rfl ?_
  refine asg0 rfl <| asg0 rfl ?_
  refine done ⟨by kernel_rfl, by kernel_rfl, ?_⟩
  refine Wp.ret ?_
  refine Ends.ret (.cons (.cell rfl rfl rfl (Nat.le_of_ble_eq_true rfl) (Fz.wk rfl)) <| .cons (.tmp rfl (Fz.wk rfl)) <| .cons (.tmp rfl (Fz.pure rfl)) <|  .nil) ?_
  exact f_edKey_k1
  have nc8 := Nz c8
  refine Wp.seq <| reg <| mv0 rfl <| nck0 rfl <| faA0 rfl ?_
  refine faA0 rfl ?_
  refine faA0 rfl ?_
  refine ldA0 rfl ?_
  refine asg0 rfl <| done ?_
  refine Wp.cond rfl (fun c9 => ?_) (fun c9 => ?_)
  have nc9 := Nz c9
  refine Wp.seq <| reg <| mv0 rfl <| clmw0 0 rfl (f_dend (x := ⟨d, [], false⟩) ok) rfl ?_
  refine done ?_
  refine reg <| mv0 rfl <| ldA0 rfl ?_
  refine clmw0 0 rfl (f_dkey (y := ⟨endEd d, [], false⟩) rt.end_) rfl ?_
  refine done ?_
  refine Wp.seq <| regd mixed ?_
  refine mv0 rfl <| nck0 rfl <| faA0 rfl ?_
  refine ldA0 rfl ?_
  refine mv0 rfl <| nck0 rfl <| faA0 rfl ?_
  refine ldA0 rfl ?_
  refine mv0 rfl <| nck0 rfl <| faA0 rfl ?_
  refine ldA0 rfl ?_
  refine stw0 rfl ?_
  refine asg0 rfl <| asg0 rfl ?_
  refine done ⟨by kernel_rfl, by kernel_rfl, ?_⟩
  refine Wp.ret ?_
  refine Ends.ret (.cons (.cell rfl rfl rfl (Nat.le_of_ble_eq_true rfl) (Fz.wk rfl)) <| .cons (.tmp rfl (Fz.wk rfl)) <| .cons (.tmp rfl (Fz.pure rfl)) <|  .nil) ?_
  exact f_edKey_k1
  have nc9 := Nz c9
  refine reg <| mv0 rfl <| ldA0 rfl ?_
  refine clmw0 0 rfl (f_dkey (y := ⟨d, [], false⟩) rt) rfl ?_
  refine done ?_
  refine Wp.seq <| regd mixed ?_
  refine mv0 rfl <| nck0 rfl <| faA0 rfl ?_
  refine ldA0 rfl ?_
  refine mv0 rfl <| nck0 rfl <| faA0 rfl ?_
  refine ldA0 rfl ?_
  refine mv0 rfl <| nck0 rfl <| faA0 rfl ?_
  refine ldA0 rfl ?_
  refine stw0 rfl ?_
  refine asg0 rfl <| asg0 rfl ?_
  refine done ⟨by kernel_rfl, by kernel_rfl, ?_⟩
  refine Wp.ret ?_
  refine Ends.ret (.cons (.cell rfl rfl rfl (Nat.le_of_ble_eq_true rfl) (Fz.wk rfl)) <| .cons (.tmp rfl (Fz.wk rfl)) <| .cons (.tmp rfl (Fz.pure rfl)) <|  .nil) ?_
  exact f_edKey_k1
  have nh57 := Nz h57
  refine sk0 rfl h57 <| sk0 rfl h57 <| sk0 rfl h57 <| sk0 rfl h57 <| sku0 rfl <| sku0 rfl <| sku0 rfl <| sk0 rfl h57 <| pkf0 rfl h57 <| asg0 rfl <| done ?_
  refine Wp.condF rfl rfl <| Wp.seq <| reg <| mv0 rfl <| nck0 rfl <| faA0 rfl ?_
  refine faA0 rfl ?_
  refine faA0 rfl ?_
  refine ldA0 rfl ?_
  refine asg0 rfl <| done ?_
  refine Wp.cond rfl (fun c10 => ?_) (fun c10 => ?_)
  have nc10 := Nz c10
  refine Wp.seq <| reg <| mv0 rfl <| clmw0 0 rfl (f_dend (x := ⟨d, [], false⟩) ok) rfl ?_
  refine done ?_
  refine reg <| mv0 rfl <| ldA0 rfl ?_
  refine clmw0 0 rfl (f_dkey (y := ⟨endEd d, [], false⟩) rt.end_) rfl ?_
  refine done ?_
  refine Wp.seq <| regd mixed ?_
  refine mv0 rfl <| nck0 rfl <| faA0 rfl ?_
  refine ldA0 rfl ?_
  refine mv0 rfl <| nck0 rfl <| faA0 rfl ?_
  refine ldA0 rfl ?_
  refine mv0 rfl <| nck0 rfl <| faA0 rfl ?_
  refine ldA0 rfl ?_
  refine stw0 rfl ?_
  refine asg0 rfl <| asg0 rfl ?_
  refine done ⟨by kernel_rfl, by kernel_rfl, ?_⟩
  refine Wp.ret ?_
  refine Ends.ret (.cons (.cell rfl rfl rfl (Nat.le_of_ble_eq_true rfl) (Fz.wk rfl)) <| .cons (.tmp rfl (Fz.wk rfl)) <| .cons (.tmp rfl (Fz.pure rfl)) <|  .nil) ?_
  exact f_edKey_k1
  have nc10 := Nz c10
  refine reg <| mv0 rfl <| ldA0 rfl ?_
  refine clmw0 0 rfl (f_dkey (y := ⟨d, [], false⟩) rt) rfl ?_
  refine done ?_
  refine Wp.seq <| regd mixed ?_
  refine mv0 rfl <| nck0 rfl <| faA0 rfl ?_
  refine ldA0 rfl ?_
  refine mv0 rfl <| nck0 rfl <| faA0 rfl ?_
  refine ldA0 rfl ?_
  refine mv0 rfl <| nck0 rfl <| faA0 rfl ?_
  refine ldA0 rfl ?_
  refine stw0 rfl ?_
  refine asg0 rfl <| asg0 rfl ?_
  refine done ⟨by kernel_rfl, by kernel_rfl, ?_⟩
  refine Wp.ret ?_
  refine Ends.ret (.cons (.cell rfl rfl rfl (Nat.le_of_ble_eq_true rfl) (Fz.wk rfl)) <| .cons (.tmp rfl (Fz.wk rfl)) <| .cons (.tmp rfl (Fz.pure rfl)) <|  .nil) ?_
  exact f_edKey_k1
  have nh52 := Nz h52
  refine sk0 rfl h52 <| sk0 rfl h52 <| sk0 rfl h52 <| pkf0 rfl h52 <| mv0 rfl <| sk0 rfl rfl <| sk0 rfl rfl <| sk0 rfl rfl <| sk0 rfl rfl <| sku0 rfl <| sku0 rfl <| sku0 rfl <| sk0 rfl rfl <| pkf0 rfl rfl <| asg0 rfl <| done ?_
  refine Wp.condF rfl rfl <| Wp.seq <| reg <| mv0 rfl <| nck0 rfl <| faA0 rfl ?_
  refine faA0 rfl ?_
  refine faA0 rfl ?_
  refine ldA0 rfl ?_
  refine asg0 rfl <| done ?_
  refine Wp.cond rfl (fun c11 => ?_) (fun c11 => ?_)
  have nc11 := Nz c11
  refine Wp.seq <| reg <| mv0 rfl <| clmw0 0 rfl (f_dend (x := ⟨d, [], false⟩) ok) rfl ?_
  refine done ?_
  refine reg <| mv0 rfl <| ldA0 rfl ?_
  refine clmw0 0 rfl (f_dkey (y := ⟨endEd d, [], false⟩) rt.end_) rfl ?_
  refine done ?_
  refine Wp.seq <| regd mixed ?_
  refine mv0 rfl <| nck0 rfl <| faA0 rfl ?_
  refine ldA0 rfl ?_
  refine mv0 rfl <| nck0 rfl <| faA0 rfl ?_
  refine ldA0 rfl ?_
  refine mv0 rfl <| nck0 rfl <| faA0 rfl ?_
  refine ldA0 rfl ?_
  refine stw0 rfl ?_
  refine asg0 rfl <| asg0 rfl ?_
  refine done ⟨by kernel_rfl, by kernel_rfl, ?_⟩
  refine Wp.ret ?_
  refine Ends.ret (.cons (.cell rfl rfl rfl (Nat.le_of_ble_eq_true rfl) (Fz.wk rfl)) <| .cons (.tmp rfl (Fz.wk rfl)) <| .cons (.tmp rfl (Fz.pure rfl)) <|  .nil) ?_
  exact f_edKey_k1
  have nc11 := Nz c11
  refine reg <| mv0 rfl <| ldA0 rfl ?_
  refine clmw0 0 rfl (f_dkey (y := ⟨d, [], false⟩) rt) rfl ?_
  refine done ?_
  refine Wp.seq <| regd mixed ?_
  refine mv0 rfl <| nck0 rfl <| faA0 rfl ?_
  refine ldA0 rfl ?_
  refine mv0 rfl <| nck0 rfl <| faA0 rfl ?_
  refine ldA0 rfl ?_
  refine mv0 rfl <| nck0 rfl <| faA0 rfl ?_
  refine ldA0 rfl ?_
  refine stw0 rfl ?_
  refine asg0 rfl <| asg0 rfl ?_
  refine done ⟨by kernel_rfl, by kernel_rfl, ?_⟩
  refine Wp.ret ?_
  refine Ends.ret (.cons (.cell rfl rfl rfl (Nat.le_of_ble_eq_true rfl) (Fz.wk rfl)) <| .cons (.tmp rfl (Fz.wk rfl)) <| .cons (.tmp rfl (Fz.pure rfl)) <|  .nil) ?_
  exact f_edKey_k1
  have nh34 := Nz h34
  refine sk0 rfl h34 <| sk0 rfl h34 <| sk0 rfl h34 <| pkf0 rfl h34 <| mv0 rfl <| sk0 rfl rfl <| sk0 rfl rfl <| sk0 rfl rfl <| sk0 rfl rfl <| pkf0 rfl rfl <| asg0 rfl <| done ?_
  refine Wp.condF rfl rfl <| Wp.seq ?_
  (try rw [seek_no (d := d) (r := r) (by assumption)])
  refine reg <| mv0 rfl <| nck0 rfl <| faA0 rfl ?_
  refine faA0 rfl ?_
  refine faA0 rfl ?_
  refine ldA0 rfl ?_
  refine mv0 rfl ?_
  refine bcase 52 rfl (fun h52 => ?_) (fun h52 => ?_)
  have nh52 := Nz h52
  refine faA1 rfl h52 rfl ?_
  refine ldA1 rfl h52 rfl ?_
  refine cmp1 rfl h52 rfl <| pkt0 rfl h52 <| mv0 rfl ?_
  refine bcase 57 rfl (fun h57 => ?_) (fun h57 => ?_)
  have nh57 := Nz h57
  refine faA1 rfl h57 rfl ?_
  refine ldA1 rfl h57 rfl ?_
  refine cmp1 rfl h57 rfl <| mv1 rfl h57 rfl ?_
  refine bcase 61 rfl (fun h61 => ?_) (fun h61 => ?_)
  have nh61 := Nz h61
  refine sk0 rfl h61 <| sk0 rfl h61 <| sk0 rfl h61 <| pkt1 rfl h57 rfl h61 <| pkt0 rfl h57 <| asg0 rfl <| done ?_
  refine Wp.condT rfl rfl <| Wp.seq <| reg <| mv0 rfl <| clmw0 0 rfl (f_dend (x := ⟨d, [], false⟩) ok) rfl ?_
  refine done ?_
  refine Wp.seq <| reg <| mv0 rfl <| bdw0 rfl ?_
  refine nck0 rfl <| faA0 rfl ?_
  refine faA0 rfl ?_
  refine stw0 rfl ?_
  refine done ?_
  refine reg <| mv0 rfl <| bdw0 rfl ?_
  refine clmw0 0 rfl (f_dact (x := ⟨setV (endEd d) (0, 0), [], false⟩) (a := ⟨7, 0, 0, 0⟩) (rt_v0 rt.end_) (fun h => by cases h)) rfl ?_
  refine done ?_
  refine Wp.seq <| regd mixed ?_
  refine mv0 rfl <| nck0 rfl <| faA0 rfl ?_
  refine ldA0 rfl ?_
  refine mv0 rfl <| nck0 rfl <| faA0 rfl ?_
  refine ldA0 rfl ?_
  refine mv0 rfl <| nck0 rfl <| faA0 rfl ?_
  refine ldA0 rfl ?_
  refine stw0 rfl ?_
  refine asg0 rfl <| asg0 rfl ?_
  refine done ⟨by kernel_rfl, by kernel_rfl, ?_⟩
  refine Wp.ret ?_
  refine Ends.ret (.cons (.cell rfl rfl rfl (Nat.le_of_ble_eq_true rfl) (Fz.wk rfl)) <| .cons (.tmp rfl (Fz.wk rfl)) <| .cons (.tmp rfl (Fz.pure rfl)) <|  .nil) ?_
  exact f_edKey_k1
  have nh61 := Nz h61
  refine faA1 rfl h61 rfl ?_
  refine ldA1 rfl h61 rfl ?_
  refine cmp1 rfl h61 rfl <| pkf1 rfl h57 rfl h61 <| pkt0 rfl h57 <| asg0 rfl <| done ?_
  refine Wp.cond rfl (fun c12 => ?_) (fun c12 => ?_)
  have nc12 := Nz c12
  refine Wp.seq <| reg <| mv0 rfl <| clmw0 0 rfl (f_dend (x := ⟨d, [], false⟩) ok) rfl ?_
  refine done ?_
  refine Wp.seq <| reg <| mv0 rfl <| bdw0 rfl ?_
  refine nck0 rfl <| faA0 rfl ?_
  refine faA0 rfl ?_
  refine stw0 rfl ?_
  refine done ?_
  refine reg <| mv0 rfl <| bdw0 rfl ?_
  refine clmw0 0 rfl (f_dact (x := ⟨setV (endEd d) (0, 0), [], false⟩) (a := ⟨7, 0, 0, 0⟩) (rt_v0 rt.end_) (fun h => by cases h)) rfl ?_
  refine done ?_
  refine Wp.seq <| regd mixed ?_
  refine mv0 rfl <| nck0 rfl <| faA0 rfl ?_
  refine ldA0 rfl ?_
  refine mv0 rfl <| nck0 rfl <| faA0 rfl ?_
  refine ldA0 rfl ?_
  refine mv0 rfl <| nck0 rfl <| faA0 rfl ?_
  refine ldA0 rfl ?_
  refine stw0 rfl ?_
  refine asg0 rfl <| asg0 rfl ?_
  refine done ⟨by kernel_rfl, by kernel_rfl, ?_⟩
  refine Wp.ret ?_
  refine Ends.ret (.cons (.cell rfl rfl rfl (Nat.le_of_ble_eq_true rfl) (Fz.wk rfl)) <| .cons (.tmp rfl (Fz.wk rfl)) <| .cons (.tmp rfl (Fz.pure rfl)) <|  .nil) ?_
  exact f_edKey_k1
  have nc12 := Nz c12
  refine Wp.seq <| reg <| mv0 rfl <| nck0 rfl <| faA0 rfl ?_
  refine faA0 rfl ?_
  refine faA0 rfl ?_
  refine ldA0 rfl ?_
  refine asg0 rfl <| done ?_
  refine Wp.cond rfl (fun c13 => ?_) (fun c13 => ?_)
  have nc13 := Nz c13
  refine Wp.seq <| reg <| mv0 rfl <| clmw0 0 rfl (f_dend (x := ⟨d, [], false⟩) ok) rfl ?_
  refine done ?_
  refine reg <| mv0 rfl <| ldA0 rfl ?_
  refine clmw0 0 rfl (f_dkey (y := ⟨endEd d, [], false⟩) rt.end_) rfl ?_
  refine done ?_
  refine Wp.seq <| regd mixed ?_
  refine mv0 rfl <| nck0 rfl <| faA0 rfl ?_
  refine ldA0 rfl ?_
  refine mv0 rfl <| nck0 rfl <| faA0 rfl ?_
  refine ldA0 rfl ?_
  refine mv0 rfl <| nck0 rfl <| faA0 rfl ?_
  refine ldA0 rfl ?_
  refine stw0 rfl ?_
  refine asg0 rfl <| asg0 rfl ?_
  refine done ⟨by kernel_rfl, by kernel_rfl, ?_⟩
  refine Wp.ret ?_
  refine Ends.ret (.cons (.cell rfl rfl rfl (Nat.le_of_ble_eq_true rfl) (Fz.wk rfl)) <| .cons (.tmp rfl (Fz.wk rfl)) <| .cons (.tmp rfl (Fz.pure rfl)) <|  .nil) ?_
  exact f_edKey_k1
  have nc13 := Nz c13
  refine reg <| mv0 rfl <| ldA0 rfl ?_
  refine clmw0 0 rfl (f_dkey (y := ⟨d, [], false⟩) rt) rfl ?_
  refine done ?_
  refine Wp.seq <| regd mixed ?_
  refine mv0 rfl <| nck0 rfl <| faA0 rfl ?_
  refine ldA0 rfl ?_
  refine mv0 rfl <| nck0 rfl <| faA0 rfl ?_
  refine ldA0 rfl ?_
  refine mv0 rfl <| nck0 rfl <| faA0 rfl ?_
  refine ldA0 rfl ?_
  refine stw0 rfl ?_
  refine asg0 rfl <| asg0 rfl ?_
  refine done ⟨by kernel_rfl, by kernel_rfl, ?_⟩
  refine Wp.ret ?_
  refine Ends.ret (.cons (.cell rfl rfl rfl (Nat.le_of_ble_eq_true rfl) (Fz.wk rfl)) <| .cons (.tmp rfl (Fz.wk rfl)) <| .cons (.tmp rfl (Fz.pure rfl)) <|  .nil) ?_
  exact f_edKey_k1
  have nh57 := Nz h57
  refine sk0 rfl h57 <| sk0 rfl h57 <| sk0 rfl h57 <| sk0 rfl h57 <| sku0 rfl <| sku0 rfl <| sku0 rfl <| sk0 rfl h57 <| pkf0 rfl h57 <| asg0 rfl <| done ?_
  refine Wp.condF rfl rfl <| Wp.seq <| reg <| mv0 rfl <| nck0 rfl <| faA0 rfl ?_
  refine faA0 rfl ?_
  refine faA0 rfl ?_
  refine ldA0 rfl ?_
  refine asg0 rfl <| done ?_
  refine Wp.cond rfl (fun c14 => ?_) (fun c14 => ?_)
  have nc14 := Nz c14
  refine Wp.seq <| reg <| mv0 rfl <| clmw0 0 rfl (f_dend (x := ⟨d, [], false⟩) ok) rfl ?_
  refine done ?_
  refine reg <| mv0 rfl <| ldA0 rfl ?_
  refine clmw0 0 rfl (f_dkey (y := ⟨endEd d, [], false⟩) rt.end_) rfl ?_
  refine done ?_
  refine Wp.seq <| regd mixed ?_
  refine mv0 rfl <| nck0 rfl <| faA0 rfl ?_
  refine ldA0 rfl ?_
  refine mv0 rfl <| nck0 rfl <| faA0 rfl ?_
  refine ldA0 rfl ?_
  refine mv0 rfl <| nck0 rfl <| faA0 rfl ?_
  refine ldA0 rfl ?_
  refine stw0 rfl ?_
  refine asg0 rfl <| asg0 rfl ?_
  refine done ⟨by kernel_rfl, by kernel_rfl, ?_⟩
  refine Wp.ret ?_
  refine Ends.ret (.cons (.cell rfl rfl rfl (Nat.le_of_ble_eq_true rfl) (Fz.wk rfl)) <| .cons (.tmp rfl (Fz.wk rfl)) <| .cons (.tmp rfl (Fz.pure rfl)) <|  .nil) ?_
  exact f_edKey_k1
  have nc14 := Nz c14
  refine reg <| mv0 rfl <| ldA0 rfl ?_
  refine clmw0 0 rfl (f_dkey (y := ⟨d, [], false⟩) rt) rfl ?_
  refine done ?_
  refine Wp.seq <| regd mixed ?_
  refine mv0 rfl <| nck0 rfl <| faA0 rfl ?_
  refine ldA0 rfl ?_
  refine mv0 rfl <| nck0 rfl <| faA0 rfl ?_
  refine ldA0 rfl ?_
  refine mv0 rfl <| nck0 rfl <| faA0 rfl ?_
  refine ldA0 rfl ?_
  refine stw0 rfl ?_
  refine asg0 rfl <| asg0 rfl ?_
  refine done ⟨by kernel_rfl, by kernel_rfl, ?_⟩
  refine Wp.ret ?_
  refine Ends.ret (.cons (.cell rfl rfl rfl (Nat.le_of_ble_eq_true rfl) (Fz.wk rfl)) <| .cons (.tmp rfl (Fz.wk rfl)) <| .cons (.tmp rfl (Fz.pure rfl)) <|  .nil) ?_
  exact f_edKey_k1
  have nh52 := Nz h52
  refine sk0 rfl h52 <| sk0 rfl h52 <| sk0 rfl h52 <| pkf0 rfl h52 <| mv0 rfl <| sk0 rfl rfl <| sk0 rfl rfl <| sk0 rfl rfl <| sk0 rfl rfl <| sku0 rfl <| sku0 rfl <| sku0 rfl <| sk0 rfl rfl <| pkf0 rfl rfl <| asg0 rfl <| done ?_
  refine Wp.condF rfl rfl <| Wp.seq <| reg <| mv0 rfl <| nck0 rfl <| faA0 rfl ?_
  refine faA0 rfl ?_
  refine faA0 rfl ?_
  refine ldA0 rfl ?_
  refine asg0 rfl <| done ?_
  refine Wp.cond rfl (fun c15 => ?_) (fun c15 => ?_)
  have nc15 := Nz c15
  refine Wp.seq <| reg <| mv0 rfl <| clmw0 0 rfl (f_dend (x := ⟨d, [], false⟩) ok) rfl ?_
  refine done ?_
  refine reg <| mv0 rfl <| ldA0 rfl ?_
  refine clmw0 0 rfl (f_dkey (y := ⟨endEd d, [], false⟩) rt.end_) rfl ?_
  refine done ?_
  refine Wp.seq <| regd mixed ?_
  refine mv0 rfl <| nck0 rfl <| faA0 rfl ?_
  refine ldA0 rfl ?_
  refine mv0 rfl <| nck0 rfl <| faA0 rfl ?_
  refine ldA0 rfl ?_
  refine mv0 rfl <| nck0 rfl <| faA0 rfl ?_
  refine ldA0 rfl ?_
  refine stw0 rfl ?_
  refine asg0 rfl <| asg0 rfl ?_
  refine done ⟨by kernel_rfl, by kernel_rfl, ?_⟩
  refine Wp.ret ?_
  refine Ends.ret (.cons (.cell rfl rfl rfl (Nat.le_of_ble_eq_true rfl) (Fz.wk rfl)) <| .cons (.tmp rfl (Fz.wk rfl)) <| .cons (.tmp rfl (Fz.pure rfl)) <|  .nil) ?_
  exact f_edKey_k1
  have nc15 := Nz c15
  refine reg <| mv0 rfl <| ldA0 rfl ?_
  refine clmw0 0 rfl (f_dkey (y := ⟨d, [], false⟩) rt) rfl ?_
  refine done ?_
  refine Wp.seq <| regd mixed ?_
  refine mv0 rfl <| nck0 rfl <| faA0 rfl ?_
  refine ldA0 rfl ?_
  refine mv0 rfl <| nck0 rfl <| faA0 rfl ?_
  refine ldA0 rfl ?_
  refine mv0 rfl <| nck0 rfl <| faA0 rfl ?_
  refine ldA0 rfl ?_
  refine stw0 rfl ?_
  refine asg0 rfl <| asg0 rfl ?_
  refine done ⟨by kernel_rfl, by kernel_rfl, ?_⟩
  refine Wp.ret ?_
  refine Ends.ret (.cons (.cell rfl rfl rfl (Nat.le_of_ble_eq_true rfl) (Fz.wk rfl)) <| .cons (.tmp rfl (Fz.wk rfl)) <| .cons (.tmp rfl (Fz.pure rfl)) <|  .nil) ?_
  exact f_edKey_k1

theorem f_edShown_k1 {p : Prop} (h : p := by
    show _ = _; unfold shownS; (repeat' split) <;> first | rfl | (exfalso; omega) | (exfalso; simp_all; done) | (exfalso; simp_all <;> omega)) : p := h
set_option maxRecDepth 20000 in
theorem f_edShown {d : Ed} (ok : EdOk d) : FnP PP 20 [edD d] (.tup [rl (shownS d).1, gapD (shownS d).2]) := by
  refine FnP.of_body Tryz.func20 rfl (by kernel_rfl) rfl ?_
  refine Wp.seq <| reg <| bx0 65 rfl ?_
  refine asg0 rfl <| al0 67 rfl ?_
  refine done ?_
  refine Wp.seq <| Wp.block <| Wp.seq <| reg <| ldA0 rfl ?_
  refine clw0 rfl (f_edIs ok) rfl ?_
  refine nt0 rfl <| asg0 rfl <| done ?_
  refine Wp.cond rfl (fun c1 => ?_) (fun c1 => ?_)
  have nc1 := Nz c1
  refine Wp.seq <| reg <| bdw0 rfl ?_
  refine asg0 rfl <| stw0 rfl ?_
  refine done ?_
  refine Wp.ret ?_
  refine Ends.ret (.cons (.tmp rfl (Fz.wk rfl)) <| .cons (.cell rfl rfl rfl (Nat.le_of_ble_eq_true rfl) (Fz.wk rfl)) <|  .nil) ?_
  exact f_edShown_k1
  have nc1 := Nz c1
  refine Wp.seq <| reg <| faA0 rfl ?_
  refine faA0 rfl ?_
  refine ldA0 rfl ?_
  refine nt0 rfl <| mv0 rfl ?_
  refine bcase 18 rfl (fun h18 => ?_) (fun h18 => ?_)
  have nh18 := Nz h18
  refine faA1 rfl h18 rfl ?_
  refine faA1 rfl h18 rfl ?_
  refine ldA1 rfl h18 rfl ?_
  refine cmp1 rfl h18 rfl <| pkt0 rfl h18 <| asg0 rfl <| done ?_
  refine Wp.cond rfl (fun c2 => ?_) (fun c2 => ?_)
  have nc2 := Nz c2
  refine Wp.seq <| regd mixed ?_
  refine bsM0 runR [58, 32] rfl ?_
  refine faA0 rfl ?_
  refine faA0 rfl ?_
  refine ldA0 rfl ?_
  refine asg0 rfl <| stw0 rfl ?_
  refine done ⟨by kernel_rfl, by kernel_rfl, ?_⟩
  refine Wp.ret ?_
  refine Ends.ret (.cons (.tmp rfl (Fz.wk rfl)) <| .cons (.cell rfl rfl rfl (Nat.le_of_ble_eq_true rfl) (Fz.wk rfl)) <|  .nil) ?_
  exact f_edShown_k1
  have nc2 := Nz c2
  refine Wp.seq <| reg <| faA0 rfl ?_
  refine faA0 rfl ?_
  refine ldA0 rfl ?_
  refine nt0 rfl <| asg0 rfl <| done ?_
  refine Wp.cond rfl (fun c3 => ?_) (fun c3 => ?_)
  have nc3 := Nz c3
  refine Wp.seq <| regd mixed ?_
  refine bsM0 runR [62, 32] rfl ?_
  refine faA0 rfl ?_
  refine faA0 rfl ?_
  refine ldA0 rfl ?_
  refine asg0 rfl <| stw0 rfl ?_
  refine done ⟨by kernel_rfl, by kernel_rfl, ?_⟩
  refine Wp.ret ?_
  refine Ends.ret (.cons (.tmp rfl (Fz.wk rfl)) <| .cons (.cell rfl rfl rfl (Nat.le_of_ble_eq_true rfl) (Fz.wk rfl)) <|  .nil) ?_
  exact f_edShown_k1
  have nc3 := Nz c3
  refine Wp.skip <| Wp.seq <| reg <| asg0 rfl <| done ?_
  have hall := edIs_rt (d := d) (by assumption)
  have hsk := seeks_parts (hall.2.1 (by assumption)).2
  have hsm := seek_small hall.1 (hall.2.1 (by assumption)).2
  refine Wp.seq <| Wp.seq <| reg <| faA0 rfl ?_
  refine faA0 rfl ?_
  refine ldA0 rfl ?_
  refine done ?_
  refine Wp.cond rfl (fun c4 => ?_) (fun c4 => ?_)
  have nc4 := Nz c4
  refine reg <| asg0 rfl <| done ?_
  refine Wp.seq <| reg <| mv0 rfl ?_
  first | refine bsoM 105 runR [63] rfl rfl rfl rfl rfl rfl .none ?_ | refine bsoM 105 runR [47] rfl rfl rfl rfl rfl rfl .none ?_
  refine faA0 rfl ?_
  refine faA0 rfl ?_
  refine ldA0 rfl ?_
  refine apoM 1451 rfl rfl Bd rfl Bd rfl rfl rfl .none ?_
  refine bsM0 runR [58, 32] rfl ?_
  refine apoF 1471 rfl rfl Bd rfl Bd rfl rfl rfl .none ?_
  refine asg0 rfl <| done ?_
  refine Wp.seq <| Wp.seq <| reg <| faA0 rfl ?_
  refine faA0 rfl ?_
  refine ldA0 rfl ?_
  refine nt0 rfl <| done ?_
  refine Wp.cond rfl (fun c5 => ?_) (fun c5 => ?_)
  have nc5 := Nz c5
  refine Wp.seq <| regd mixed ?_
  refine mv0 rfl <| faA0 rfl ?_
  refine faA0 rfl ?_
  refine ldA0 rfl ?_
  refine asg0 rfl <| stw0 rfl ?_
  refine done ⟨by kernel_rfl, by kernel_rfl, ?_⟩
  refine Wp.ret ?_
  refine Ends.ret (.cons (.tmp rfl (Fz.wk rfl)) <| .cons (.cell rfl rfl rfl (Nat.le_of_ble_eq_true rfl) (Fz.wk rfl)) <|  .nil) ?_
  exact f_edShown_k1
  have nc5 := Nz c5
  refine Wp.skip <| Wp.seq <| regd mixed ?_
  have hpo := past_one (hsk.2.2.2.2.2 (by assumption)).1
  refine faA0 rfl ?_
  refine faA0 rfl ?_
  refine ldA0 rfl ?_
  refine faA0 rfl ?_
  refine faA0 rfl ?_
  refine ldA0 rfl ?_
  refine iaD ([]) (d.f.i.toNat) Bd rfl rfl Eq' rfl .none ?_
  refine ldA0 rfl ?_
  refine faA0 rfl ?_
  refine faA0 rfl ?_
  refine ldA0 rfl ?_
  refine clw0 rfl f_of rfl ?_
  refine mv0 rfl <| xt0 rfl <| xt0 rfl <| al0 70 rfl ?_
  refine stw0 rfl ?_
  refine asg0 rfl ?_
  refine done ⟨by kernel_rfl, by kernel_rfl, ?_⟩
  refine Wp.seq <| regd mixed ?_
  refine mv0 rfl <| ldA0 rfl ?_
  refine asg0 rfl <| stw0 rfl ?_
  refine done ⟨by kernel_rfl, by kernel_rfl, ?_⟩
  refine Wp.ret ?_
  refine Ends.ret (.cons (.tmp rfl (Fz.wk rfl)) <| .cons (.cell rfl rfl rfl (Nat.le_of_ble_eq_true rfl) (Fz.wk rfl)) <|  .nil) ?_
  exact f_edShown_k1
  have nc4 := Nz c4
  refine Wp.skip <| Wp.seq <| reg <| mv0 rfl ?_
  first | refine bsoM 105 runR [63] rfl rfl rfl rfl rfl rfl .none ?_ | refine bsoM 105 runR [47] rfl rfl rfl rfl rfl rfl .none ?_
  refine faA0 rfl ?_
  refine faA0 rfl ?_
  refine ldA0 rfl ?_
  refine apoM 1453 rfl rfl Bd rfl Bd rfl rfl rfl .none ?_
  refine bsM0 runR [58, 32] rfl ?_
  refine apoF 1473 rfl rfl Bd rfl Bd rfl rfl rfl .none ?_
  refine asg0 rfl <| done ?_
  refine Wp.seq <| Wp.seq <| reg <| faA0 rfl ?_
  refine faA0 rfl ?_
  refine ldA0 rfl ?_
  refine nt0 rfl <| done ?_
  refine Wp.cond rfl (fun c6 => ?_) (fun c6 => ?_)
  have nc6 := Nz c6
  refine Wp.seq <| regd mixed ?_
  refine mv0 rfl <| faA0 rfl ?_
  refine faA0 rfl ?_
  refine ldA0 rfl ?_
  refine asg0 rfl <| stw0 rfl ?_
  refine done ⟨by kernel_rfl, by kernel_rfl, ?_⟩
  refine Wp.ret ?_
  refine Ends.ret (.cons (.tmp rfl (Fz.wk rfl)) <| .cons (.cell rfl rfl rfl (Nat.le_of_ble_eq_true rfl) (Fz.wk rfl)) <|  .nil) ?_
  exact f_edShown_k1
  have nc6 := Nz c6
  refine Wp.skip <| Wp.seq <| regd mixed ?_
  have hpo := past_one (hsk.2.2.2.2.2 (by assumption)).1
  refine faA0 rfl ?_
  refine faA0 rfl ?_
  refine ldA0 rfl ?_
  refine faA0 rfl ?_
  refine faA0 rfl ?_
  refine ldA0 rfl ?_
  refine iaD ([]) (d.f.i.toNat) Bd rfl rfl Eq' rfl .none ?_
  refine ldA0 rfl ?_
  refine faA0 rfl ?_
  refine faA0 rfl ?_
  refine ldA0 rfl ?_
  refine clw0 rfl f_of rfl ?_
  refine mv0 rfl <| xt0 rfl <| xt0 rfl <| al0 70 rfl ?_
  refine stw0 rfl ?_
  refine asg0 rfl ?_
  refine done ⟨by kernel_rfl, by kernel_rfl, ?_⟩
  refine Wp.seq <| regd mixed ?_
  refine mv0 rfl <| ldA0 rfl ?_
  refine asg0 rfl <| stw0 rfl ?_
  refine done ⟨by kernel_rfl, by kernel_rfl, ?_⟩
  refine Wp.ret ?_
  refine Ends.ret (.cons (.tmp rfl (Fz.wk rfl)) <| .cons (.cell rfl rfl rfl (Nat.le_of_ble_eq_true rfl) (Fz.wk rfl)) <|  .nil) ?_
  exact f_edShown_k1
  have nh18 := Nz h18
  refine sk0 rfl h18 <| sk0 rfl h18 <| sk0 rfl h18 <| sk0 rfl h18 <| pkf0 rfl h18 <| asg0 rfl <| done ?_
  refine Wp.condF rfl rfl <| Wp.seq <| reg <| faA0 rfl ?_
  refine faA0 rfl ?_
  refine ldA0 rfl ?_
  refine nt0 rfl <| asg0 rfl <| done ?_
  refine Wp.cond rfl (fun c7 => ?_) (fun c7 => ?_)
  have nc7 := Nz c7
  refine Wp.seq <| regd mixed ?_
  refine bsM0 runR [62, 32] rfl ?_
  refine faA0 rfl ?_
  refine faA0 rfl ?_
  refine ldA0 rfl ?_
  refine asg0 rfl <| stw0 rfl ?_
  refine done ⟨by kernel_rfl, by kernel_rfl, ?_⟩
  refine Wp.ret ?_
  refine Ends.ret (.cons (.tmp rfl (Fz.wk rfl)) <| .cons (.cell rfl rfl rfl (Nat.le_of_ble_eq_true rfl) (Fz.wk rfl)) <|  .nil) ?_
  exact f_edShown_k1
  have nc7 := Nz c7
  refine Wp.skip <| Wp.seq <| reg <| asg0 rfl <| done ?_
  have hall := edIs_rt (d := d) (by assumption)
  have hsk := seeks_parts (hall.2.1 (by assumption)).2
  have hsm := seek_small hall.1 (hall.2.1 (by assumption)).2
  refine Wp.seq <| Wp.seq <| reg <| faA0 rfl ?_
  refine faA0 rfl ?_
  refine ldA0 rfl ?_
  refine done ?_
  refine Wp.cond rfl (fun c8 => ?_) (fun c8 => ?_)
  have nc8 := Nz c8
  refine reg <| asg0 rfl <| done ?_
  refine Wp.seq <| reg <| mv0 rfl ?_
  first | refine bsoM 105 runR [63] rfl rfl rfl rfl rfl rfl .none ?_ | refine bsoM 105 runR [47] rfl rfl rfl rfl rfl rfl .none ?_
  refine faA0 rfl ?_
  refine faA0 rfl ?_
  refine ldA0 rfl ?_
  refine apoM 1455 rfl rfl Bd rfl Bd rfl rfl rfl .none ?_
  refine bsM0 runR [58, 32] rfl ?_
  refine apoF 1475 rfl rfl Bd rfl Bd rfl rfl rfl .none ?_
  refine asg0 rfl <| done ?_
  refine Wp.seq <| Wp.seq <| reg <| faA0 rfl ?_
  refine faA0 rfl ?_
  refine ldA0 rfl ?_
  refine nt0 rfl <| done ?_
  refine Wp.cond rfl (fun c9 => ?_) (fun c9 => ?_)
  have nc9 := Nz c9
  refine Wp.seq <| regd mixed ?_
  refine mv0 rfl <| faA0 rfl ?_
  refine faA0 rfl ?_
  refine ldA0 rfl ?_
  refine asg0 rfl <| stw0 rfl ?_
  refine done ⟨by kernel_rfl, by kernel_rfl, ?_⟩
  refine Wp.ret ?_
  refine Ends.ret (.cons (.tmp rfl (Fz.wk rfl)) <| .cons (.cell rfl rfl rfl (Nat.le_of_ble_eq_true rfl) (Fz.wk rfl)) <|  .nil) ?_
  exact f_edShown_k1
  have nc9 := Nz c9
  refine Wp.skip <| Wp.seq <| regd mixed ?_
  have hpo := past_one (hsk.2.2.2.2.2 (by assumption)).1
  refine faA0 rfl ?_
  refine faA0 rfl ?_
  refine ldA0 rfl ?_
  refine faA0 rfl ?_
  refine faA0 rfl ?_
  refine ldA0 rfl ?_
  refine iaD ([]) (d.f.i.toNat) Bd rfl rfl Eq' rfl .none ?_
  refine ldA0 rfl ?_
  refine faA0 rfl ?_
  refine faA0 rfl ?_
  refine ldA0 rfl ?_
  refine clw0 rfl f_of rfl ?_
  refine mv0 rfl <| xt0 rfl <| xt0 rfl <| al0 70 rfl ?_
  refine stw0 rfl ?_
  refine asg0 rfl ?_
  refine done ⟨by kernel_rfl, by kernel_rfl, ?_⟩
  refine Wp.seq <| regd mixed ?_
  refine mv0 rfl <| ldA0 rfl ?_
  refine asg0 rfl <| stw0 rfl ?_
  refine done ⟨by kernel_rfl, by kernel_rfl, ?_⟩
  refine Wp.ret ?_
  refine Ends.ret (.cons (.tmp rfl (Fz.wk rfl)) <| .cons (.cell rfl rfl rfl (Nat.le_of_ble_eq_true rfl) (Fz.wk rfl)) <|  .nil) ?_
  exact f_edShown_k1
  have nc8 := Nz c8
  refine Wp.skip <| Wp.seq <| reg <| mv0 rfl ?_
  first | refine bsoM 105 runR [63] rfl rfl rfl rfl rfl rfl .none ?_ | refine bsoM 105 runR [47] rfl rfl rfl rfl rfl rfl .none ?_
  refine faA0 rfl ?_
  refine faA0 rfl ?_
  refine ldA0 rfl ?_
  refine apoM 1457 rfl rfl Bd rfl Bd rfl rfl rfl .none ?_
  refine bsM0 runR [58, 32] rfl ?_
  refine apoF 1477 rfl rfl Bd rfl Bd rfl rfl rfl .none ?_
  refine asg0 rfl <| done ?_
  refine Wp.seq <| Wp.seq <| reg <| faA0 rfl ?_
  refine faA0 rfl ?_
  refine ldA0 rfl ?_
  refine nt0 rfl <| done ?_
  refine Wp.cond rfl (fun c10 => ?_) (fun c10 => ?_)
  have nc10 := Nz c10
  refine Wp.seq <| regd mixed ?_
  refine mv0 rfl <| faA0 rfl ?_
  refine faA0 rfl ?_
  refine ldA0 rfl ?_
  refine asg0 rfl <| stw0 rfl ?_
  refine done ⟨by kernel_rfl, by kernel_rfl, ?_⟩
  refine Wp.ret ?_
  refine Ends.ret (.cons (.tmp rfl (Fz.wk rfl)) <| .cons (.cell rfl rfl rfl (Nat.le_of_ble_eq_true rfl) (Fz.wk rfl)) <|  .nil) ?_
  exact f_edShown_k1
  have nc10 := Nz c10
  refine Wp.skip <| Wp.seq <| regd mixed ?_
  have hpo := past_one (hsk.2.2.2.2.2 (by assumption)).1
  refine faA0 rfl ?_
  refine faA0 rfl ?_
  refine ldA0 rfl ?_
  refine faA0 rfl ?_
  refine faA0 rfl ?_
  refine ldA0 rfl ?_
  refine iaD ([]) (d.f.i.toNat) Bd rfl rfl Eq' rfl .none ?_
  refine ldA0 rfl ?_
  refine faA0 rfl ?_
  refine faA0 rfl ?_
  refine ldA0 rfl ?_
  refine clw0 rfl f_of rfl ?_
  refine mv0 rfl <| xt0 rfl <| xt0 rfl <| al0 70 rfl ?_
  refine stw0 rfl ?_
  refine asg0 rfl ?_
  refine done ⟨by kernel_rfl, by kernel_rfl, ?_⟩
  refine Wp.seq <| regd mixed ?_
  refine mv0 rfl <| ldA0 rfl ?_
  refine asg0 rfl <| stw0 rfl ?_
  refine done ⟨by kernel_rfl, by kernel_rfl, ?_⟩
  refine Wp.ret ?_
  refine Ends.ret (.cons (.tmp rfl (Fz.wk rfl)) <| .cons (.cell rfl rfl rfl (Nat.le_of_ble_eq_true rfl) (Fz.wk rfl)) <|  .nil) ?_
  exact f_edShown_k1

end Go.Proofs.YtkcdmmafkpplhaaGreat
/- Walks of what the statements of layer 24 call beside the program. -/
namespace Go.Proofs.YtkcdmmafkpplhaaGreat
open Go.Eng
def bigL (k : List (List Int)) : Bool := k.any fun l => decide (1000 < l.length)
def bigU (u : List Gap) : Bool := u.any fun g => decide (1000 < g.a.length) || decide (1000 < g.b.length)
def bigSl (l : List Slot) : Bool := l.any fun s => decide (1000 < s.g.a.length) || decide (1000 < s.g.b.length)
def big23 (e : Edit) : Bool := (((decide (1000 < e.g.a.length) || decide (1000 < e.g.b.length)) || (decide (50 < e.k.length) || decide (50 < e.u.length))) || bigL e.k) || bigU e.u
def big24 (d : Ed) : Bool := ((big23 d.e || ((decide (50 < d.p.l.length) || decide (50 < d.s.l.length)) || decide (1000 < d.f.pat.length))) || bigL d.p.l) || bigSl d.s.l
theorem any_drop {α : Type} {p : α → Bool} {l : List α} {i : Nat} (h : i < l.length) : (l.drop i).any p = (p l[i] || (l.drop (i + 1)).any p) := by
  rw [List.drop_eq_getElem_cons h]; rfl
theorem bigL_drop {l : List (List Int)} {i : Nat} (h : i < l.length) : bigL (l.drop i) = (decide (1000 < l[i].length) || bigL (l.drop (i + 1))) := any_drop h
theorem bigU_drop {l : List Gap} {i : Nat} (h : i < l.length) : bigU (l.drop i) = ((decide (1000 < l[i].a.length) || decide (1000 < l[i].b.length)) || bigU (l.drop (i + 1))) := any_drop h
theorem bigS_drop {l : List Slot} {i : Nat} (h : i < l.length) : bigSl (l.drop i) = ((decide (1000 < l[i].g.a.length) || decide (1000 < l[i].g.b.length)) || bigSl (l.drop (i + 1))) := any_drop h
theorem big23_iff {e : Edit} : big23 e = true ↔ (1000 < e.g.a.length ∨ 1000 < e.g.b.length ∨ 50 < e.k.length ∨ 50 < e.u.length) ∨ bigL e.k = true ∨ bigU e.u = true := by
  simp only [big23, Bool.or_eq_true, decide_eq_true_eq, or_assoc]
theorem big23_no {e : Edit} (h : e.g.a.length ≤ 1000 ∧ e.g.b.length ≤ 1000 ∧ e.k.length ≤ 50 ∧ e.u.length ≤ 50) (h1 : bigL e.k = false) (h2 : bigU e.u = false) : big23 e = false := by
  cases hb : big23 e with
  | false => rfl
  | true => rcases big23_iff.1 hb with h3 | h3 | h3; omega; rw [h1] at h3; cases h3; rw [h2] at h3; cases h3
theorem big24_iff {d : Ed} : big24 d = true ↔ (big23 d.e = true ∨ 50 < d.p.l.length ∨ 50 < d.s.l.length ∨ 1000 < d.f.pat.length) ∨ bigL d.p.l = true ∨ bigSl d.s.l = true := by
  simp only [big24, Bool.or_eq_true, decide_eq_true_eq, or_assoc]
theorem big24_no {d : Ed} (h0 : big23 d.e = false) (h : d.p.l.length ≤ 50 ∧ d.s.l.length ≤ 50 ∧ d.f.pat.length ≤ 1000) (h1 : bigL d.p.l = false) (h2 : bigSl d.s.l = false) : big24 d = false := by
  cases hb : big24 d with
  | false => rfl
  | true => rcases big24_iff.1 hb with (h3 | h3) | h3 | h3; rw [h0] at h3; cases h3; omega; rw [h1] at h3; cases h3; rw [h2] at h3; cases h3
theorem big_ok {d : Ed} (h : big24 d = false) : EdOk d := by
  simp only [big24, big23, bigL, bigU, bigSl, Bool.or_eq_false_iff, List.any_eq_false, decide_eq_false_iff_not, decide_eq_true_eq, Bool.or_eq_true, not_or, Nat.not_lt] at h
  obtain ⟨⟨⟨⟨⟨⟨⟨h1, h2⟩, h3, h4⟩, h5⟩, h6⟩, h7⟩, h8⟩, h9⟩ := h
  exact ⟨fun g hg => by have := h6 g hg; unfold Gap.sm; omega, h1, h2, h9⟩

set_option maxRecDepth 20000 in
theorem f_same01 {l : List Int} : FnP PP 11 [rl l, rl l] (.bool true) := by
  refine FnP.of_body Tryz.func11 rfl (by kernel_rfl) rfl ?_
  refine Wp.bound 0 rfl (fun hb0 => ?_)
  simp only [D.bd, D.bdL, List.length_map, and_true] at hb0
  refine Wp.seq <| reg <| asg0 rfl <| done ?_
  refine Wp.seq <| Wp.seq <| reg <| mv0 rfl ?_
  first | refine lnM0 rfl ?_ | refine lns0 rfl ?_ | refine ln0 rfl ?_
  refine mv0 rfl ?_
  first | refine lnM0 rfl ?_ | refine lns0 rfl ?_ | refine ln0 rfl ?_
  refine cmp0 rfl <| done ?_
  refine Wp.cond rfl (fun c1 => ?_) (fun c1 => ?_)
  have nc1 := Nz c1
  refine Wp.seq <| reg <| asg0 rfl <| done ?_
  refine Wp.ret ?_
  refine Ends.ret (.cons (.tmp rfl (Fz.pure rfl)) <|  .nil) ?_
  · first | rfl | (exfalso; simp_all; done)
  have nc1 := Nz c1
  refine Wp.skip <| Wp.seq <| Wp.seq <| reg <| asg0 rfl <| done ?_
  refine Wp.block ?_
  refine Wp.loopK (α := Nat) [0, 1] [] (fun x tl => (5, .int .i64 x) :: tl) (fun x tl => tl) (fun x => x ≤ l.length ∧ True) (fun x => l.length - x) (0) rfl rfl (⟨by omega, trivial⟩) (Rp) (Rp) ?_
  intro x hx
  obtain ⟨hx1, hx2⟩ := hx
  refine Wp.seq <| Wp.seq <| reg <| mv0 rfl <| mv0 rfl ?_
  first | refine lnM0 rfl ?_ | refine lns0 rfl ?_ | refine ln0 rfl ?_
  refine cmp0 rfl <| done ?_
  refine Wp.cond rfl (fun c2 => ?_) (fun c2 => ?_)
  have nc2 := Nz c2
  refine Wp.skip <| Wp.seq <| Wp.block <| Wp.seq <| regd mixed ?_
  refine mv0 rfl <| mv0 rfl <| iaE0 (x) Bd rfl Eq' ?_
  refine ldA0 rfl ?_
  refine mv0 rfl <| mv0 rfl <| iaE0 (x) Bd rfl Eq' ?_
  refine ldA0 rfl ?_
  refine cmp0 rfl ?_
  refine done ⟨by kernel_rfl, by kernel_rfl, ?_⟩
  refine Wp.cond rfl (fun c3 => ?_) (fun c3 => ?_)
  have nc3 := Nz c3
  refine Wp.seq <| reg <| asg0 rfl <| done ?_
  refine Wp.ret ?_
  refine Ends.ret (.cons (.tmp rfl (Fz.pure rfl)) <|  .nil) ?_
  · first | rfl | (exfalso; simp_all; done)
  have nc3 := Nz c3
  refine Wp.skip <| reg <| mv0 rfl <| ar0 rfl (wrapI Bd) <| asg0 rfl <| done ?_
  refine ⟨x + 1, ⟨by omega, trivial⟩, by omega, Rp, Rp, rfl⟩
  have nc2 := Nz c2
  refine Wp.exit <| Wp.seq <| reg <| asg0 rfl <| done ?_
  refine Wp.ret ?_
  refine Ends.ret (.cons (.tmp rfl (Fz.pure rfl)) <|  .nil) ?_
  · first | rfl | (exfalso; simp_all; done)

set_option maxRecDepth 20000 in
theorem f_sames01 {l : List (List Int)} : FnP PP 48 [rlL l, rlL l] (.bool true) := by
  refine FnP.of_body Tryz.func48 rfl (by kernel_rfl) rfl ?_
  refine Wp.bound 0 rfl (fun hb0 => ?_)
  simp only [D.bd, D.bdL, List.length_map, and_true] at hb0
  refine Wp.seq <| reg <| asg0 rfl <| done ?_
  refine Wp.seq <| Wp.seq <| reg <| mv0 rfl ?_
  first | refine lnM0 rfl ?_ | refine lns0 rfl ?_ | refine ln0 rfl ?_
  refine mv0 rfl ?_
  first | refine lnM0 rfl ?_ | refine lns0 rfl ?_ | refine ln0 rfl ?_
  refine cmp0 rfl <| done ?_
  refine Wp.cond rfl (fun c1 => ?_) (fun c1 => ?_)
  have nc1 := Nz c1
  refine Wp.seq <| reg <| asg0 rfl <| done ?_
  refine Wp.ret ?_
  refine Ends.ret (.cons (.tmp rfl (Fz.pure rfl)) <|  .nil) ?_
  · first | rfl | (exfalso; simp_all; done)
  have nc1 := Nz c1
  refine Wp.skip <| Wp.seq <| Wp.seq <| reg <| asg0 rfl <| done ?_
  refine Wp.block ?_
  refine Wp.loopK (α := Nat) [0, 1] [] (fun x tl => (5, .int .i64 x) :: tl) (fun x tl => tl) (fun x => x ≤ l.length ∧ True) (fun x => l.length - x) (0) rfl rfl (⟨by omega, trivial⟩) (Rp) (Rp) ?_
  intro x hx
  obtain ⟨hx1, hx2⟩ := hx
  refine Wp.seq <| Wp.seq <| reg <| mv0 rfl <| mv0 rfl ?_
  first | refine lnM0 rfl ?_ | refine lns0 rfl ?_ | refine ln0 rfl ?_
  refine cmp0 rfl <| done ?_
  refine Wp.cond rfl (fun c2 => ?_) (fun c2 => ?_)
  have nc2 := Nz c2
  refine Wp.skip <| Wp.seq <| Wp.block <| Wp.seq <| regd mixed ?_
  refine mv0 rfl <| mv0 rfl <| iaE0 (x) Bd rfl Eq' ?_
  refine ldA0 rfl ?_
  refine mv0 rfl <| mv0 rfl <| iaE0 (x) Bd rfl Eq' ?_
  refine ldA0 rfl ?_
  refine clw0 rfl f_same01 rfl ?_
  refine nt0 rfl ?_
  refine done ⟨by kernel_rfl, by kernel_rfl, ?_⟩
  refine Wp.cond rfl (fun c3 => ?_) (fun c3 => ?_)
  have nc3 := Nz c3
  refine Wp.seq <| reg <| asg0 rfl <| done ?_
  refine Wp.ret ?_
  refine Ends.ret (.cons (.tmp rfl (Fz.pure rfl)) <|  .nil) ?_
  · first | rfl | (exfalso; simp_all; done)
  have nc3 := Nz c3
  refine Wp.skip <| reg <| mv0 rfl <| ar0 rfl (wrapI Bd) <| asg0 rfl <| done ?_
  refine ⟨x + 1, ⟨by omega, trivial⟩, by omega, Rp, Rp, rfl⟩
  have nc2 := Nz c2
  refine Wp.exit <| Wp.seq <| reg <| asg0 rfl <| done ?_
  refine Wp.ret ?_
  refine Ends.ret (.cons (.tmp rfl (Fz.pure rfl)) <|  .nil) ?_
  · first | rfl | (exfalso; simp_all; done)

set_option maxRecDepth 20000 in
theorem f_same10 {g : Gap} : FnP PP 21 [gapD g, gapD g] (.bool true) := by
  refine FnP.of_body Tryz.func21 rfl (by kernel_rfl) rfl ?_
  refine Wp.seq <| reg <| bx0 66 rfl ?_
  refine bx0 67 rfl ?_
  refine asg0 rfl <| done ?_
  refine Wp.seq <| reg <| faA0 rfl ?_
  refine ldA0 rfl ?_
  refine faA0 rfl ?_
  refine ldA0 rfl ?_
  refine clw0 rfl f_same01 rfl ?_
  refine mv0 rfl ?_
  refine bcase 10 rfl (fun h10 => ?_) (fun h10 => ?_)
  have nh10 := Nz h10
  refine faA1 rfl h10 rfl ?_
  refine ldA1 rfl h10 rfl ?_
  refine faA1 rfl h10 rfl ?_
  refine ldA1 rfl h10 rfl ?_
  refine clw1 rfl h10 rfl f_same01 rfl ?_
  refine pkt0 rfl h10 <| asg0 rfl <| done ?_
  refine Wp.ret ?_
  refine Ends.ret (.cons (.tmp rfl (Fz.pure rfl)) <|  .nil) ?_
  · first | rfl | (exfalso; simp_all; done)
  have nh10 := Nz h10
  refine sk0 rfl h10 <| sk0 rfl h10 <| sk0 rfl h10 <| sk0 rfl h10 <| sk0 rfl h10 <| pkf0 rfl h10 <| asg0 rfl <| done ?_
  refine Wp.ret ?_
  refine Ends.ret (.cons (.tmp rfl (Fz.pure rfl)) <|  .nil) ?_
  · first | rfl | (exfalso; simp_all; done)

set_option maxRecDepth 20000 in
theorem f_same12 {k : List (List Int)} : FnP PP 22 [killsD k, killsD k] (.bool true) := by
  refine FnP.of_body Tryz.func22 rfl (by kernel_rfl) rfl ?_
  refine Wp.seq <| reg <| bx0 66 rfl ?_
  refine bx0 67 rfl ?_
  refine asg0 rfl <| done ?_
  refine Wp.seq <| reg <| faA0 rfl ?_
  refine ldA0 rfl ?_
  refine faA0 rfl ?_
  refine ldA0 rfl ?_
  refine clw0 rfl f_sames01 rfl ?_
  refine asg0 rfl <| done ?_
  refine Wp.ret ?_
  refine Ends.ret (.cons (.tmp rfl (Fz.pure rfl)) <|  .nil) ?_
  · first | rfl | (exfalso; simp_all; done)

set_option maxRecDepth 20000 in
theorem f_same13 {u : List Gap} : FnP PP 23 [undoD u, undoD u] (.bool true) := by
  refine FnP.of_body Tryz.func23 rfl (by kernel_rfl) rfl ?_
  refine Wp.bound 0 rfl (fun hb0 => ?_)
  simp only [D.bd, D.bdL, List.length_map, and_true] at hb0
  refine Wp.seq <| reg <| bx0 66 rfl ?_
  refine bx0 67 rfl ?_
  refine asg0 rfl <| done ?_
  refine Wp.seq <| Wp.seq <| reg <| faA0 rfl ?_
  refine ldA0 rfl ?_
  first | refine lnM0 rfl ?_ | refine lns0 rfl ?_ | refine ln0 rfl ?_
  refine faA0 rfl ?_
  refine ldA0 rfl ?_
  first | refine lnM0 rfl ?_ | refine lns0 rfl ?_ | refine ln0 rfl ?_
  refine cmp0 rfl <| done ?_
  refine Wp.cond rfl (fun c1 => ?_) (fun c1 => ?_)
  have nc1 := Nz c1
  refine Wp.seq <| reg <| asg0 rfl <| done ?_
  refine Wp.ret ?_
  refine Ends.ret (.cons (.tmp rfl (Fz.pure rfl)) <|  .nil) ?_
  · first | rfl | (exfalso; simp_all; done)
  have nc1 := Nz c1
  refine Wp.skip <| Wp.seq <| Wp.seq <| reg <| asg0 rfl <| done ?_
  refine Wp.block ?_
  refine Wp.loopK (α := Nat) [2, 3] [66, 67] (fun x tl => (5, .int .i64 x) :: tl) (fun x tl => tl) (fun x => x ≤ u.length ∧ True) (fun x => u.length - x) (0) rfl rfl (⟨by omega, trivial⟩) (Rp) (Rp) ?_
  intro x hx
  obtain ⟨hx1, hx2⟩ := hx
  refine Wp.seq <| Wp.seq <| reg <| mv0 rfl <| faA0 rfl ?_
  refine ldA0 rfl ?_
  first | refine lnM0 rfl ?_ | refine lns0 rfl ?_ | refine ln0 rfl ?_
  refine cmp0 rfl <| done ?_
  refine Wp.cond rfl (fun c2 => ?_) (fun c2 => ?_)
  have nc2 := Nz c2
  refine Wp.skip <| Wp.seq <| Wp.block <| Wp.seq <| regd mixed ?_
  refine faA0 rfl ?_
  refine ldA0 rfl ?_
  refine mv0 rfl <| iaE0 (x) Bd rfl Eq' ?_
  refine ldA0 rfl ?_
  refine faA0 rfl ?_
  refine ldA0 rfl ?_
  refine mv0 rfl <| iaE0 (x) Bd rfl Eq' ?_
  refine ldA0 rfl ?_
  refine clw0 rfl (f_same10 (g := u[x])) rfl ?_
  refine nt0 rfl ?_
  refine done ⟨by kernel_rfl, by kernel_rfl, ?_⟩
  refine Wp.cond rfl (fun c3 => ?_) (fun c3 => ?_)
  have nc3 := Nz c3
  refine Wp.seq <| reg <| asg0 rfl <| done ?_
  refine Wp.ret ?_
  refine Ends.ret (.cons (.tmp rfl (Fz.pure rfl)) <|  .nil) ?_
  · first | rfl | (exfalso; simp_all; done)
  have nc3 := Nz c3
  refine Wp.skip <| reg <| mv0 rfl <| ar0 rfl (wrapI Bd) <| asg0 rfl <| done ?_
  refine ⟨x + 1, ⟨by omega, trivial⟩, by omega, Rp, Rp, rfl⟩
  have nc2 := Nz c2
  refine Wp.exit <| Wp.seq <| reg <| asg0 rfl <| done ?_
  refine Wp.ret ?_
  refine Ends.ret (.cons (.tmp rfl (Fz.pure rfl)) <|  .nil) ?_
  · first | rfl | (exfalso; simp_all; done)

set_option maxRecDepth 20000 in
theorem f_same19 {p : Past} : FnP PP 16 [pastD p, pastD p] (.bool true) := by
  refine FnP.of_body Tryz.func16 rfl (by kernel_rfl) rfl ?_
  refine Wp.seq <| reg <| bx0 66 rfl ?_
  refine bx0 67 rfl ?_
  refine asg0 rfl <| done ?_
  refine Wp.seq <| reg <| faA0 rfl ?_
  refine ldA0 rfl ?_
  refine faA0 rfl ?_
  refine ldA0 rfl ?_
  refine cmp0 rfl <| mv0 rfl ?_
  refine bcase 10 rfl (fun h10 => ?_) (fun h10 => ?_)
  have nh10 := Nz h10
  refine faA1 rfl h10 rfl ?_
  refine ldA1 rfl h10 rfl ?_
  refine faA1 rfl h10 rfl ?_
  refine ldA1 rfl h10 rfl ?_
  refine cmp1 rfl h10 rfl <| pkt0 rfl h10 <| mv0 rfl ?_
  refine bcase 17 rfl (fun h17 => ?_) (fun h17 => ?_)
  have nh17 := Nz h17
  refine faA1 rfl h17 rfl ?_
  refine ldA1 rfl h17 rfl ?_
  refine faA1 rfl h17 rfl ?_
  refine ldA1 rfl h17 rfl ?_
  refine clw1 rfl h17 rfl f_sames01 rfl ?_
  refine pkt0 rfl h17 <| asg0 rfl <| done ?_
  refine Wp.ret ?_
  refine Ends.ret (.cons (.tmp rfl (Fz.pure rfl)) <|  .nil) ?_
  · first | rfl | (exfalso; simp_all; done)
  have nh17 := Nz h17
  refine sk0 rfl h17 <| sk0 rfl h17 <| sk0 rfl h17 <| sk0 rfl h17 <| sk0 rfl h17 <| pkf0 rfl h17 <| asg0 rfl <| done ?_
  refine Wp.ret ?_
  refine Ends.ret (.cons (.tmp rfl (Fz.pure rfl)) <|  .nil) ?_
  · first | rfl | (exfalso; simp_all; done)
  have nh10 := Nz h10
  refine sk0 rfl h10 <| sk0 rfl h10 <| sk0 rfl h10 <| sk0 rfl h10 <| sk0 rfl h10 <| pkf0 rfl h10 <| mv0 rfl <| sk0 rfl rfl <| sk0 rfl rfl <| sk0 rfl rfl <| sk0 rfl rfl <| sk0 rfl rfl <| pkf0 rfl rfl <| asg0 rfl <| done ?_
  refine Wp.ret ?_
  refine Ends.ret (.cons (.tmp rfl (Fz.pure rfl)) <|  .nil) ?_
  · first | rfl | (exfalso; simp_all; done)

set_option maxRecDepth 20000 in
theorem f_same20 {s : Stash} : FnP PP 24 [stashD s, stashD s] (.bool true) := by
  refine FnP.of_body Tryz.func24 rfl (by kernel_rfl) rfl ?_
  refine Wp.bound 0 rfl (fun hb0 => ?_)
  simp only [D.bd, D.bdL, List.length_map, and_true] at hb0
  refine Wp.seq <| reg <| bx0 66 rfl ?_
  refine bx0 67 rfl ?_
  refine asg0 rfl <| done ?_
  refine Wp.seq <| Wp.seq <| reg <| faA0 rfl ?_
  refine ldA0 rfl ?_
  refine faA0 rfl ?_
  refine ldA0 rfl ?_
  refine cmp0 rfl <| mv0 rfl ?_
  refine bcase 11 rfl (fun h11 => ?_) (fun h11 => ?_)
  have nh11 := Nz h11
  refine sk0 rfl h11 <| sk0 rfl h11 <| sk0 rfl h11 <| sk0 rfl h11 <| sk0 rfl h11 <| sk0 rfl h11 <| sk0 rfl h11 <| pkt0 rfl h11 <| done ?_
  refine Wp.condT rfl rfl <| Wp.seq <| reg <| asg0 rfl <| done ?_
  refine Wp.ret ?_
  refine Ends.ret (.cons (.tmp rfl (Fz.pure rfl)) <|  .nil) ?_
  · first | rfl | (exfalso; simp_all; done)
  have nh11 := Nz h11
  refine faA1 rfl h11 rfl ?_
  refine ldA1 rfl h11 rfl ?_
  first | refine lnM1 rfl h11 rfl ?_ | refine lns1 rfl h11 rfl ?_ | refine ln1 rfl h11 rfl ?_
  refine faA1 rfl h11 rfl ?_
  refine ldA1 rfl h11 rfl ?_
  first | refine lnM1 rfl h11 rfl ?_ | refine lns1 rfl h11 rfl ?_ | refine ln1 rfl h11 rfl ?_
  refine cmp1 rfl h11 rfl <| pkf0 rfl h11 <| done ?_
  refine Wp.cond rfl (fun c1 => ?_) (fun c1 => ?_)
  have nc1 := Nz c1
  refine Wp.seq <| reg <| asg0 rfl <| done ?_
  refine Wp.ret ?_
  refine Ends.ret (.cons (.tmp rfl (Fz.pure rfl)) <|  .nil) ?_
  · first | rfl | (exfalso; simp_all; done)
  have nc1 := Nz c1
  refine Wp.skip <| Wp.seq <| Wp.seq <| reg <| asg0 rfl <| done ?_
  refine Wp.block ?_
  refine Wp.loopK (α := Nat) [2, 3] [66, 67] (fun x tl => (5, .int .i64 x) :: tl) (fun x tl => tl) (fun x => x ≤ s.l.length ∧ True) (fun x => s.l.length - x) (0) rfl rfl (⟨by omega, trivial⟩) (Rp) (Rp) ?_
  intro x hx
  obtain ⟨hx1, hx2⟩ := hx
  refine Wp.seq <| Wp.seq <| reg <| mv0 rfl <| faA0 rfl ?_
  refine ldA0 rfl ?_
  first | refine lnM0 rfl ?_ | refine lns0 rfl ?_ | refine ln0 rfl ?_
  refine cmp0 rfl <| done ?_
  refine Wp.cond rfl (fun c2 => ?_) (fun c2 => ?_)
  have nc2 := Nz c2
  refine Wp.skip <| Wp.seq <| Wp.block <| Wp.seq <| regd mixed ?_
  refine faA0 rfl ?_
  refine ldA0 rfl ?_
  refine mv0 rfl <| iaE0 (x) Bd rfl Eq' ?_
  refine faA0 rfl ?_
  refine ldA0 rfl ?_
  refine faA0 rfl ?_
  refine ldA0 rfl ?_
  refine mv0 rfl <| iaE0 (x) Bd rfl Eq' ?_
  refine faA0 rfl ?_
  refine ldA0 rfl ?_
  refine cmp0 rfl <| mv0 rfl ?_
  refine bcase 40 rfl (fun h40 => ?_) (fun h40 => ?_)
  have nh40 := Nz h40
  refine sk0 rfl h40 <| sk0 rfl h40 <| sk0 rfl h40 <| sk0 rfl h40 <| sk0 rfl h40 <| sk0 rfl h40 <| sk0 rfl h40 <| sk0 rfl h40 <| sk0 rfl h40 <| sk0 rfl h40 <| sk0 rfl h40 <| sk0 rfl h40 <| sk0 rfl h40 <| sk0 rfl h40 <| pkt0 rfl h40 ?_
  refine done ⟨by kernel_rfl, by kernel_rfl, ?_⟩
  refine Wp.condT rfl rfl <| Wp.seq <| reg <| asg0 rfl <| done ?_
  refine Wp.ret ?_
  refine Ends.ret (.cons (.tmp rfl (Fz.pure rfl)) <|  .nil) ?_
  · first | rfl | (exfalso; simp_all; done)
  have nh40 := Nz h40
  refine faA1 rfl h40 rfl ?_
  refine ldA1 rfl h40 rfl ?_
  refine mv1 rfl h40 rfl <| iaE1 rfl h40 (x) Bd rfl Eq' ?_
  refine faA1 rfl h40 rfl ?_
  refine ldA1 rfl h40 rfl ?_
  refine faA1 rfl h40 rfl ?_
  refine ldA1 rfl h40 rfl ?_
  refine mv1 rfl h40 rfl <| iaE1 rfl h40 (x) Bd rfl Eq' ?_
  refine faA1 rfl h40 rfl ?_
  refine ldA1 rfl h40 rfl ?_
  refine clw1 rfl h40 rfl (f_same10 (g := s.l[x].g)) rfl ?_
  refine nt1 rfl h40 rfl <| pkf0 rfl h40 ?_
  refine done ⟨by kernel_rfl, by kernel_rfl, ?_⟩
  refine Wp.cond rfl (fun c3 => ?_) (fun c3 => ?_)
  have nc3 := Nz c3
  refine Wp.seq <| reg <| asg0 rfl <| done ?_
  refine Wp.ret ?_
  refine Ends.ret (.cons (.tmp rfl (Fz.pure rfl)) <|  .nil) ?_
  · first | rfl | (exfalso; simp_all; done)
  have nc3 := Nz c3
  refine Wp.skip <| reg <| mv0 rfl <| ar0 rfl (wrapI Bd) <| asg0 rfl <| done ?_
  refine ⟨x + 1, ⟨by omega, trivial⟩, by omega, Rp, Rp, rfl⟩
  have nc2 := Nz c2
  refine Wp.exit <| Wp.seq <| reg <| asg0 rfl <| done ?_
  refine Wp.ret ?_
  refine Ends.ret (.cons (.tmp rfl (Fz.pure rfl)) <|  .nil) ?_
  · first | rfl | (exfalso; simp_all; done)

set_option maxRecDepth 20000 in
theorem f_lawSign {r : Int} : FnP PP 18 [.int .i32 r] (.agg [.int .i64 1, .int .i32 r]) := by
  refine FnP.of_body Tryz.func18 rfl (by kernel_rfl) rfl ?_
  refine Wp.seq <| reg <| al0 66 rfl ?_
  refine done ?_
  refine Wp.seq <| reg <| mv0 rfl <| bdw0 rfl ?_
  refine stw0 rfl ?_
  refine done ?_
  refine Wp.ret ?_
  refine Ends.ret (.cons (.cell rfl rfl rfl (Nat.le_of_ble_eq_true rfl) (Fz.wk rfl)) <|  .nil) ?_
  · rfl

theorem f_big23_k1 {p : Prop} (h : p := by
    refine congrArg D.bool ?_; first | exact big23_iff.2 (.inl (by omega)) | exact big23_iff.2 (.inr (.inl (by rw [hx2, bigL_drop (by omega), decide_eq_true (by omega)]; rfl))) | exact big23_iff.2 (.inr (.inr (by rw [hx2, bigU_drop (by omega), decide_eq_true (p := 1000 < e.u[x].a.length) (by omega)]; rfl))) | exact big23_iff.2 (.inr (.inr (by rw [hx2, bigU_drop (by omega), decide_eq_true (p := 1000 < e.u[x].b.length) (by omega), Bool.or_true]; rfl))) | exact big23_no hx3.2 hx3.1 (by rw [hx2, drop_end (by omega)]; rfl)) : p := h
set_option maxRecDepth 20000 in
theorem f_big23 {e : Edit} : FnP PP 41 [editD e] (.bool (big23 e)) := by
  refine FnP.of_body Tryz.func41 rfl (by kernel_rfl) rfl ?_
  refine Wp.bound 0 rfl (fun hb0 => ?_)
  simp only [D.bd, D.bdL, List.length_map, and_true] at hb0
  refine Wp.seq <| reg <| bx0 65 rfl ?_
  refine asg0 rfl <| done ?_
  refine Wp.seq <| Wp.seq <| reg <| faA0 rfl ?_
  refine faA0 rfl ?_
  refine ldA0 rfl ?_
  first | refine lnM0 rfl ?_ | refine lns0 rfl ?_ | refine ln0 rfl ?_
  refine cmp0 rfl <| mv0 rfl ?_
  refine bcase 10 rfl (fun h10 => ?_) (fun h10 => ?_)
  have nh10 := Nz h10
  refine sk0 rfl h10 <| sk0 rfl h10 <| sk0 rfl h10 <| sk0 rfl h10 <| sk0 rfl h10 <| pkt0 rfl h10 <| mv0 rfl <| sk0 rfl rfl <| sk0 rfl rfl <| sk0 rfl rfl <| sk0 rfl rfl <| sk0 rfl rfl <| pkt0 rfl rfl <| mv0 rfl <| sk0 rfl rfl <| sk0 rfl rfl <| sk0 rfl rfl <| sk0 rfl rfl <| sk0 rfl rfl <| pkt0 rfl rfl <| done ?_
  refine Wp.condT rfl rfl <| Wp.seq <| reg <| asg0 rfl <| done ?_
  refine Wp.ret ?_
  refine Ends.ret (.cons (.tmp rfl (Fz.pure rfl)) <|  .nil) ?_
  · exact f_big23_k1
  have nh10 := Nz h10
  refine faA1 rfl h10 rfl ?_
  refine faA1 rfl h10 rfl ?_
  refine ldA1 rfl h10 rfl ?_
  first | refine lnM1 rfl h10 rfl ?_ | refine lns1 rfl h10 rfl ?_ | refine ln1 rfl h10 rfl ?_
  refine cmp1 rfl h10 rfl <| pkf0 rfl h10 <| mv0 rfl ?_
  refine bcase 17 rfl (fun h17 => ?_) (fun h17 => ?_)
  have nh17 := Nz h17
  refine sk0 rfl h17 <| sk0 rfl h17 <| sk0 rfl h17 <| sk0 rfl h17 <| sk0 rfl h17 <| pkt0 rfl h17 <| mv0 rfl <| sk0 rfl rfl <| sk0 rfl rfl <| sk0 rfl rfl <| sk0 rfl rfl <| sk0 rfl rfl <| pkt0 rfl rfl <| done ?_
  refine Wp.condT rfl rfl <| Wp.seq <| reg <| asg0 rfl <| done ?_
  refine Wp.ret ?_
  refine Ends.ret (.cons (.tmp rfl (Fz.pure rfl)) <|  .nil) ?_
  · exact f_big23_k1
  have nh17 := Nz h17
  refine faA1 rfl h17 rfl ?_
  refine faA1 rfl h17 rfl ?_
  refine ldA1 rfl h17 rfl ?_
  first | refine lnM1 rfl h17 rfl ?_ | refine lns1 rfl h17 rfl ?_ | refine ln1 rfl h17 rfl ?_
  refine cmp1 rfl h17 rfl <| pkf0 rfl h17 <| mv0 rfl ?_
  refine bcase 24 rfl (fun h24 => ?_) (fun h24 => ?_)
  have nh24 := Nz h24
  refine sk0 rfl h24 <| sk0 rfl h24 <| sk0 rfl h24 <| sk0 rfl h24 <| sk0 rfl h24 <| pkt0 rfl h24 <| done ?_
  refine Wp.condT rfl rfl <| Wp.seq <| reg <| asg0 rfl <| done ?_
  refine Wp.ret ?_
  refine Ends.ret (.cons (.tmp rfl (Fz.pure rfl)) <|  .nil) ?_
  · exact f_big23_k1
  have nh24 := Nz h24
  refine faA1 rfl h24 rfl ?_
  refine faA1 rfl h24 rfl ?_
  refine ldA1 rfl h24 rfl ?_
  first | refine lnM1 rfl h24 rfl ?_ | refine lns1 rfl h24 rfl ?_ | refine ln1 rfl h24 rfl ?_
  refine cmp1 rfl h24 rfl <| pkf0 rfl h24 <| done ?_
  refine Wp.cond rfl (fun c1 => ?_) (fun c1 => ?_)
  have nc1 := Nz c1
  refine Wp.seq <| reg <| asg0 rfl <| done ?_
  refine Wp.ret ?_
  refine Ends.ret (.cons (.tmp rfl (Fz.pure rfl)) <|  .nil) ?_
  · exact f_big23_k1
  have nc1 := Nz c1
  refine Wp.skip <| Wp.seq <| Wp.seq <| reg <| asg0 rfl <| done ?_
  refine Wp.block ?_
  refine Wp.loopK (α := Nat) [1] [65] (fun x tl => (3, .int .i64 (x : Nat)) :: tl) (fun x tl => tl) (fun x => x ≤ e.k.length ∧ bigL e.k = bigL (e.k.drop x) ∧ (e.g.a.length ≤ 1000 ∧ e.g.b.length ≤ 1000 ∧ e.k.length ≤ 50 ∧ e.u.length ≤ 50)) (fun x => e.k.length - x) (0) rfl rfl (⟨by omega, rfl, by omega, by omega, by omega, by omega⟩) (Rp) (Rp) ?_
  intro x hx
  obtain ⟨hx1, hx2, hx3⟩ := hx
  refine Wp.seq <| Wp.seq <| reg <| mv0 rfl <| faA0 rfl ?_
  refine faA0 rfl ?_
  refine ldA0 rfl ?_
  first | refine lnM0 rfl ?_ | refine lns0 rfl ?_ | refine ln0 rfl ?_
  refine cmp0 rfl <| done ?_
  refine Wp.cond rfl (fun c2 => ?_) (fun c2 => ?_)
  have nc2 := Nz c2
  refine Wp.skip <| Wp.seq <| Wp.block <| Wp.seq <| reg <| faA0 rfl ?_
  refine faA0 rfl ?_
  refine ldA0 rfl ?_
  refine mv0 rfl <| iaE0 (x) Bd rfl Eq' ?_
  refine ldA0 rfl ?_
  first | refine lnM0 rfl ?_ | refine lns0 rfl ?_ | refine ln0 rfl ?_
  refine cmp0 rfl <| done ?_
  refine Wp.cond rfl (fun c3 => ?_) (fun c3 => ?_)
  have nc3 := Nz c3
  refine Wp.seq <| reg <| asg0 rfl <| done ?_
  refine Wp.ret ?_
  refine Ends.ret (.cons (.tmp rfl (Fz.pure rfl)) <|  .nil) ?_
  · exact f_big23_k1
  have nc3 := Nz c3
  refine Wp.skip <| reg <| mv0 rfl <| ar0 rfl (wrapI Bd) <| asg0 rfl <| done ?_
  refine ⟨x + 1, ⟨by omega, by rw [hx2, bigL_drop (by omega), decide_eq_false (by omega)]; rfl, hx3⟩, by omega, Rp, Rp, rfl⟩
  have nc2 := Nz c2
  refine Wp.exit <| Wp.seq <| Wp.seq <| reg <| asg0 rfl <| done ?_
  refine Wp.block ?_
  refine Wp.loopK (α := Nat) [1] [65] (fun x tl => (4, .int .i64 (x : Nat)) :: tl) (fun x tl => tl) (fun x => x ≤ e.u.length ∧ bigU e.u = bigU (e.u.drop x) ∧ bigL e.k = false ∧ (e.g.a.length ≤ 1000 ∧ e.g.b.length ≤ 1000 ∧ e.k.length ≤ 50 ∧ e.u.length ≤ 50)) (fun x => e.u.length - x) (0) rfl rfl (⟨by omega, rfl, by rw [hx2, drop_end (by omega)]; rfl, hx3⟩) (Rp) (Rp) ?_
  intro x hx
  obtain ⟨hx1, hx2, hx3⟩ := hx
  refine Wp.seq <| Wp.seq <| reg <| mv0 rfl <| faA0 rfl ?_
  refine faA0 rfl ?_
  refine ldA0 rfl ?_
  first | refine lnM0 rfl ?_ | refine lns0 rfl ?_ | refine ln0 rfl ?_
  refine cmp0 rfl <| done ?_
  refine Wp.cond rfl (fun c4 => ?_) (fun c4 => ?_)
  have nc4 := Nz c4
  refine Wp.skip <| Wp.seq <| Wp.block <| Wp.seq <| reg <| faA0 rfl ?_
  refine faA0 rfl ?_
  refine ldA0 rfl ?_
  refine mv0 rfl <| iaE0 (x) Bd rfl Eq' ?_
  refine faA0 rfl ?_
  refine ldA0 rfl ?_
  first | refine lnM0 rfl ?_ | refine lns0 rfl ?_ | refine ln0 rfl ?_
  refine cmp0 rfl <| mv0 rfl ?_
  refine bcase 64 rfl (fun h64 => ?_) (fun h64 => ?_)
  have nh64 := Nz h64
  refine sk0 rfl h64 <| sk0 rfl h64 <| sk0 rfl h64 <| sk0 rfl h64 <| sk0 rfl h64 <| sk0 rfl h64 <| sk0 rfl h64 <| sk0 rfl h64 <| sk0 rfl h64 <| pkt0 rfl h64 <| done ?_
  refine Wp.condT rfl rfl <| Wp.seq <| reg <| asg0 rfl <| done ?_
  refine Wp.ret ?_
  refine Ends.ret (.cons (.tmp rfl (Fz.pure rfl)) <|  .nil) ?_
  · exact f_big23_k1
  have nh64 := Nz h64
  refine faA1 rfl h64 rfl ?_
  refine faA1 rfl h64 rfl ?_
  refine ldA1 rfl h64 rfl ?_
  refine mv1 rfl h64 rfl <| iaE1 rfl h64 (x) Bd rfl Eq' ?_
  refine faA1 rfl h64 rfl ?_
  refine ldA1 rfl h64 rfl ?_
  first | refine lnM1 rfl h64 rfl ?_ | refine lns1 rfl h64 rfl ?_ | refine ln1 rfl h64 rfl ?_
  refine cmp1 rfl h64 rfl <| pkf0 rfl h64 <| done ?_
  refine Wp.cond rfl (fun c5 => ?_) (fun c5 => ?_)
  have nc5 := Nz c5
  refine Wp.seq <| reg <| asg0 rfl <| done ?_
  refine Wp.ret ?_
  refine Ends.ret (.cons (.tmp rfl (Fz.pure rfl)) <|  .nil) ?_
  · exact f_big23_k1
  have nc5 := Nz c5
  refine Wp.skip <| reg <| mv0 rfl <| ar0 rfl (wrapI Bd) <| asg0 rfl <| done ?_
  refine ⟨x + 1, ⟨by omega, by rw [hx2, bigU_drop (by omega), decide_eq_false (by omega), decide_eq_false (by omega)]; rfl, hx3⟩, by omega, Rp, Rp, rfl⟩
  have nc4 := Nz c4
  refine Wp.exit <| Wp.seq <| reg <| asg0 rfl <| done ?_
  refine Wp.ret ?_
  refine Ends.ret (.cons (.tmp rfl (Fz.pure rfl)) <|  .nil) ?_
  · exact f_big23_k1

theorem f_big24_k1 {p : Prop} (h : p := by
    refine congrArg D.bool ?_; first | exact big24_iff.2 (.inl (.inl (by assumption))) | exact big24_iff.2 (.inl (.inr (by omega))) | exact big24_iff.2 (.inr (.inl (by rw [hx2, bigL_drop (by omega), decide_eq_true (by omega)]; rfl))) | exact big24_iff.2 (.inr (.inr (by rw [hx2, bigS_drop (by omega), decide_eq_true (p := 1000 < d.s.l[x].g.a.length) (by omega)]; rfl))) | exact big24_iff.2 (.inr (.inr (by rw [hx2, bigS_drop (by omega), decide_eq_true (p := 1000 < d.s.l[x].g.b.length) (by omega), Bool.or_true]; rfl))) | exact big24_no hx3.2.1 hx3.2.2 hx3.1 (by rw [hx2, drop_end (by omega)]; rfl)) : p := h
set_option maxRecDepth 20000 in
theorem f_big24 {d : Ed} : FnP PP 14 [edD d] (.bool (big24 d)) := by
  refine FnP.of_body Tryz.func14 rfl (by kernel_rfl) rfl ?_
  refine Wp.bound 0 rfl (fun hb0 => ?_)
  simp only [D.bd, D.bdL, List.length_map, and_true] at hb0
  refine Wp.seq <| reg <| bx0 65 rfl ?_
  refine asg0 rfl <| done ?_
  refine Wp.seq <| Wp.seq <| reg <| faA0 rfl ?_
  refine ldA0 rfl ?_
  refine clw0 rfl f_big23 rfl ?_
  refine mv0 rfl ?_
  refine bcase 8 rfl (fun h8 => ?_) (fun h8 => ?_)
  have nh8 := Nz h8
  refine sk0 rfl h8 <| sk0 rfl h8 <| sk0 rfl h8 <| sk0 rfl h8 <| sk0 rfl h8 <| pkt0 rfl h8 <| mv0 rfl <| sk0 rfl rfl <| sk0 rfl rfl <| sk0 rfl rfl <| sk0 rfl rfl <| sk0 rfl rfl <| pkt0 rfl rfl <| mv0 rfl <| sk0 rfl rfl <| sk0 rfl rfl <| sk0 rfl rfl <| sk0 rfl rfl <| sk0 rfl rfl <| pkt0 rfl rfl <| done ?_
  refine Wp.condT rfl rfl <| Wp.seq <| reg <| asg0 rfl <| done ?_
  refine Wp.ret ?_
  refine Ends.ret (.cons (.tmp rfl (Fz.pure rfl)) <|  .nil) ?_
  · exact f_big24_k1
  have nh8 := Nz h8
  refine faA1 rfl h8 rfl ?_
  refine faA1 rfl h8 rfl ?_
  refine ldA1 rfl h8 rfl ?_
  first | refine lnM1 rfl h8 rfl ?_ | refine lns1 rfl h8 rfl ?_ | refine ln1 rfl h8 rfl ?_
  refine cmp1 rfl h8 rfl <| pkf0 rfl h8 <| mv0 rfl ?_
  refine bcase 15 rfl (fun h15 => ?_) (fun h15 => ?_)
  have nh15 := Nz h15
  refine sk0 rfl h15 <| sk0 rfl h15 <| sk0 rfl h15 <| sk0 rfl h15 <| sk0 rfl h15 <| pkt0 rfl h15 <| mv0 rfl <| sk0 rfl rfl <| sk0 rfl rfl <| sk0 rfl rfl <| sk0 rfl rfl <| sk0 rfl rfl <| pkt0 rfl rfl <| done ?_
  refine Wp.condT rfl rfl <| Wp.seq <| reg <| asg0 rfl <| done ?_
  refine Wp.ret ?_
  refine Ends.ret (.cons (.tmp rfl (Fz.pure rfl)) <|  .nil) ?_
  · exact f_big24_k1
  have nh15 := Nz h15
  refine faA1 rfl h15 rfl ?_
  refine faA1 rfl h15 rfl ?_
  refine ldA1 rfl h15 rfl ?_
  first | refine lnM1 rfl h15 rfl ?_ | refine lns1 rfl h15 rfl ?_ | refine ln1 rfl h15 rfl ?_
  refine cmp1 rfl h15 rfl <| pkf0 rfl h15 <| mv0 rfl ?_
  refine bcase 22 rfl (fun h22 => ?_) (fun h22 => ?_)
  have nh22 := Nz h22
  refine sk0 rfl h22 <| sk0 rfl h22 <| sk0 rfl h22 <| sk0 rfl h22 <| sk0 rfl h22 <| pkt0 rfl h22 <| done ?_
  refine Wp.condT rfl rfl <| Wp.seq <| reg <| asg0 rfl <| done ?_
  refine Wp.ret ?_
  refine Ends.ret (.cons (.tmp rfl (Fz.pure rfl)) <|  .nil) ?_
  · exact f_big24_k1
  have nh22 := Nz h22
  refine faA1 rfl h22 rfl ?_
  refine faA1 rfl h22 rfl ?_
  refine ldA1 rfl h22 rfl ?_
  first | refine lnM1 rfl h22 rfl ?_ | refine lns1 rfl h22 rfl ?_ | refine ln1 rfl h22 rfl ?_
  refine cmp1 rfl h22 rfl <| pkf0 rfl h22 <| done ?_
  refine Wp.cond rfl (fun c1 => ?_) (fun c1 => ?_)
  have nc1 := Nz c1
  refine Wp.seq <| reg <| asg0 rfl <| done ?_
  refine Wp.ret ?_
  refine Ends.ret (.cons (.tmp rfl (Fz.pure rfl)) <|  .nil) ?_
  · exact f_big24_k1
  have nc1 := Nz c1
  refine Wp.skip <| Wp.seq <| Wp.seq <| reg <| asg0 rfl <| done ?_
  refine Wp.block ?_
  refine Wp.loopK (α := Nat) [1] [65] (fun x tl => (3, .int .i64 (x : Nat)) :: tl) (fun x tl => tl) (fun x => x ≤ d.p.l.length ∧ bigL d.p.l = bigL (d.p.l.drop x) ∧ big23 d.e = false ∧ (d.p.l.length ≤ 50 ∧ d.s.l.length ≤ 50 ∧ d.f.pat.length ≤ 1000)) (fun x => d.p.l.length - x) (0) rfl rfl (⟨by omega, rfl, by assumption, by omega, by omega, by omega⟩) (Rp) (Rp) ?_
  intro x hx
  obtain ⟨hx1, hx2, hx3⟩ := hx
  refine Wp.seq <| Wp.seq <| reg <| mv0 rfl <| faA0 rfl ?_
  refine faA0 rfl ?_
  refine ldA0 rfl ?_
  first | refine lnM0 rfl ?_ | refine lns0 rfl ?_ | refine ln0 rfl ?_
  refine cmp0 rfl <| done ?_
  refine Wp.cond rfl (fun c2 => ?_) (fun c2 => ?_)
  have nc2 := Nz c2
  refine Wp.skip <| Wp.seq <| Wp.block <| Wp.seq <| reg <| faA0 rfl ?_
  refine faA0 rfl ?_
  refine ldA0 rfl ?_
  refine mv0 rfl <| iaE0 (x) Bd rfl Eq' ?_
  refine ldA0 rfl ?_
  first | refine lnM0 rfl ?_ | refine lns0 rfl ?_ | refine ln0 rfl ?_
  refine cmp0 rfl <| done ?_
  refine Wp.cond rfl (fun c3 => ?_) (fun c3 => ?_)
  have nc3 := Nz c3
  refine Wp.seq <| reg <| asg0 rfl <| done ?_
  refine Wp.ret ?_
  refine Ends.ret (.cons (.tmp rfl (Fz.pure rfl)) <|  .nil) ?_
  · exact f_big24_k1
  have nc3 := Nz c3
  refine Wp.skip <| reg <| mv0 rfl <| ar0 rfl (wrapI Bd) <| asg0 rfl <| done ?_
  refine ⟨x + 1, ⟨by omega, by rw [hx2, bigL_drop (by omega), decide_eq_false (by omega)]; rfl, hx3⟩, by omega, Rp, Rp, rfl⟩
  have nc2 := Nz c2
  refine Wp.exit <| Wp.seq <| Wp.seq <| reg <| asg0 rfl <| done ?_
  refine Wp.block ?_
  refine Wp.loopK (α := Nat) [1] [65] (fun x tl => (4, .int .i64 (x : Nat)) :: tl) (fun x tl => tl) (fun x => x ≤ d.s.l.length ∧ bigSl d.s.l = bigSl (d.s.l.drop x) ∧ bigL d.p.l = false ∧ big23 d.e = false ∧ (d.p.l.length ≤ 50 ∧ d.s.l.length ≤ 50 ∧ d.f.pat.length ≤ 1000)) (fun x => d.s.l.length - x) (0) rfl rfl (⟨by omega, rfl, by rw [hx2, drop_end (by omega)]; rfl, hx3⟩) (Rp) (Rp) ?_
  intro x hx
  obtain ⟨hx1, hx2, hx3⟩ := hx
  refine Wp.seq <| Wp.seq <| reg <| mv0 rfl <| faA0 rfl ?_
  refine faA0 rfl ?_
  refine ldA0 rfl ?_
  first | refine lnM0 rfl ?_ | refine lns0 rfl ?_ | refine ln0 rfl ?_
  refine cmp0 rfl <| done ?_
  refine Wp.cond rfl (fun c4 => ?_) (fun c4 => ?_)
  have nc4 := Nz c4
  refine Wp.skip <| Wp.seq <| Wp.block <| Wp.seq <| reg <| faA0 rfl ?_
  refine faA0 rfl ?_
  refine ldA0 rfl ?_
  refine mv0 rfl <| iaE0 (x) Bd rfl Eq' ?_
  refine faA0 rfl ?_
  refine faA0 rfl ?_
  refine ldA0 rfl ?_
  first | refine lnM0 rfl ?_ | refine lns0 rfl ?_ | refine ln0 rfl ?_
  refine cmp0 rfl <| mv0 rfl ?_
  refine bcase 63 rfl (fun h63 => ?_) (fun h63 => ?_)
  have nh63 := Nz h63
  refine sk0 rfl h63 <| sk0 rfl h63 <| sk0 rfl h63 <| sk0 rfl h63 <| sk0 rfl h63 <| sk0 rfl h63 <| sk0 rfl h63 <| sk0 rfl h63 <| sk0 rfl h63 <| sk0 rfl h63 <| pkt0 rfl h63 <| done ?_
  refine Wp.condT rfl rfl <| Wp.seq <| reg <| asg0 rfl <| done ?_
  refine Wp.ret ?_
  refine Ends.ret (.cons (.tmp rfl (Fz.pure rfl)) <|  .nil) ?_
  · exact f_big24_k1
  have nh63 := Nz h63
  refine faA1 rfl h63 rfl ?_
  refine faA1 rfl h63 rfl ?_
  refine ldA1 rfl h63 rfl ?_
  refine mv1 rfl h63 rfl <| iaE1 rfl h63 (x) Bd rfl Eq' ?_
  refine faA1 rfl h63 rfl ?_
  refine faA1 rfl h63 rfl ?_
  refine ldA1 rfl h63 rfl ?_
  first | refine lnM1 rfl h63 rfl ?_ | refine lns1 rfl h63 rfl ?_ | refine ln1 rfl h63 rfl ?_
  refine cmp1 rfl h63 rfl <| pkf0 rfl h63 <| done ?_
  refine Wp.cond rfl (fun c5 => ?_) (fun c5 => ?_)
  have nc5 := Nz c5
  refine Wp.seq <| reg <| asg0 rfl <| done ?_
  refine Wp.ret ?_
  refine Ends.ret (.cons (.tmp rfl (Fz.pure rfl)) <|  .nil) ?_
  · exact f_big24_k1
  have nc5 := Nz c5
  refine Wp.skip <| reg <| mv0 rfl <| ar0 rfl (wrapI Bd) <| asg0 rfl <| done ?_
  refine ⟨x + 1, ⟨by omega, by rw [hx2, bigS_drop (by omega), decide_eq_false (by omega), decide_eq_false (by omega)]; rfl, hx3⟩, by omega, Rp, Rp, rfl⟩
  have nc4 := Nz c4
  refine Wp.exit <| Wp.seq <| reg <| asg0 rfl <| done ?_
  refine Wp.ret ?_
  refine Ends.ret (.cons (.tmp rfl (Fz.pure rfl)) <|  .nil) ?_
  · exact f_big24_k1

end Go.Proofs.YtkcdmmafkpplhaaGreat
/- The walk of the example of layer 24. -/
namespace Go.Proofs.YtkcdmmafkpplhaaGreat
open Go.Eng
def tA : Ed := ⟨noEdit, noCount, (0, 0), 0, false, ⟨3, 0, []⟩, ⟨0, []⟩, noSearch, 0⟩
def tB : Ed := ⟨⟨⟨[97], []⟩, [], [⟨[], []⟩], 1, 0, 0⟩, noCount, (0, 0), 0, false, ⟨3, 0, []⟩, ⟨0, []⟩, noSearch, 0⟩
def tC : Ed := ⟨⟨⟨[97, 98], []⟩, [], [⟨[], []⟩], 1, 0, 0⟩, noCount, (0, 0), 0, false, ⟨3, 0, []⟩, ⟨0, []⟩, noSearch, 0⟩
def tD : Ed := ⟨noEdit, noCount, (0, 0), 0, false, ⟨3, 0, [[97, 98]]⟩, ⟨1, []⟩, noSearch, 0⟩
def tF : Ed := ⟨noEdit, noCount, (0, 0), 0, false, ⟨3, 0, [[97, 98]]⟩, ⟨1, []⟩, ⟨true, false, [], 1, false, 0, 0⟩, 0⟩
def tG : Ed := ⟨noEdit, noCount, (0, 0), 0, false, ⟨3, 0, [[97, 98]]⟩, ⟨1, []⟩, ⟨true, false, [98], 1, true, 0, 1⟩, 0⟩
def tH : Ed := ⟨⟨⟨[], [97, 98]⟩, [], [], 0, 0, 0⟩, noCount, (0, 0), 0, false, ⟨3, 0, [[97, 98]]⟩, ⟨0, [⟨1, ⟨[], []⟩⟩]⟩, noSearch, 0⟩
theorem t_ok {d : Ed} (h : edIs d = true) : EdOk d := (edIs_rt h).1.ok
theorem c_new : FnP PP 7 [.int .i64 0, .int .i64 3, .int .i64 0] (.tup [edD tA, .int .i64 0]) := by
  have h := f_edNew (m := 0) (room := 3) (dup := 0)
  rw [show newEd 0 3 0 = (tA, 0) from by kernel_rfl] at h; exact h
theorem c_new2 : FnP PP 7 [.int .i64 2, .int .i64 3, .int .i64 0] (.tup [edD noEd, .int .i64 4]) := by
  have h := f_edNew (m := 2) (room := 3) (dup := 0)
  rw [show newEd 2 3 0 = (noEd, 4) from by kernel_rfl] at h; exact h
theorem c_key {d e : Ed} {r : Int} {l : List Int} {b : Bool} (hd : edIs d = true) (hk : keyS d 1 r = ⟨e, l, b⟩) : FnP PP 9 [edD d, .agg [.int .i64 1, .int .i32 r]] (.tup [edD e, rl l, .bool b]) := by
  have h := f_edKey (d := d) (k := 1) (r := r) (t_ok hd)
  rw [hk] at h; exact h
theorem c_b : FnP PP 9 [edD tA, .agg [.int .i64 1, .int .i32 97]] (.tup [edD tB, rl [], .bool false]) := c_key (by kernel_rfl) (by kernel_rfl)
theorem c_c : FnP PP 9 [edD tB, .agg [.int .i64 1, .int .i32 98]] (.tup [edD tC, rl [], .bool false]) := c_key (by kernel_rfl) (by kernel_rfl)
theorem c_d : FnP PP 9 [edD tC, .agg [.int .i64 1, .int .i32 13]] (.tup [edD tD, rl [97, 98], .bool true]) := c_key (by kernel_rfl) (by kernel_rfl)
theorem c_f : FnP PP 9 [edD tD, .agg [.int .i64 1, .int .i32 18]] (.tup [edD tF, rl [], .bool false]) := c_key (by kernel_rfl) (by kernel_rfl)
theorem c_g : FnP PP 9 [edD tF, .agg [.int .i64 1, .int .i32 98]] (.tup [edD tG, rl [], .bool false]) := c_key (by kernel_rfl) (by kernel_rfl)
theorem c_h : FnP PP 9 [edD tG, .agg [.int .i64 1, .int .i32 1]] (.tup [edD tH, rl [], .bool false]) := c_key (by kernel_rfl) (by kernel_rfl)
theorem c_p : FnP PP 20 [edD tG] (.tup [rl [63, 98, 58, 32], gapD ⟨[97], [98]⟩]) := by
  have h := f_edShown (d := tG) (t_ok (by kernel_rfl))
  rw [show shownS tG = ([63, 98, 58, 32], ⟨[97], [98]⟩) from by kernel_rfl] at h; exact h
theorem c_q : FnP PP 20 [edD tH] (.tup [rl [62, 32], gapD ⟨[], [97, 98]⟩]) := by
  have h := f_edShown (d := tH) (t_ok (by kernel_rfl))
  rw [show shownS tH = ([62, 32], ⟨[], [97, 98]⟩) from by kernel_rfl] at h; exact h
theorem c_is : FnP PP 15 [edD tH] (.bool true) := by
  have h := f_edIs (d := tH) (t_ok (by kernel_rfl))
  rw [show edIs tH = true from by kernel_rfl] at h; exact h
theorem c_no : FnP PP 15 [edD noEd] (.bool false) := by
  have h := f_edIs (d := noEd) ⟨fun g hg => (by cases hg), by decide, by decide, fun s hs => (by cases hs)⟩
  rw [show edIs noEd = false from by kernel_rfl] at h; exact h

set_option maxRecDepth 20000 in
theorem f_typed  : FnP PP 13 [] (.bool true) := by
  refine FnP.of_body Tryz.func13 rfl (by kernel_rfl) rfl ?_
  refine Wp.seq <| reg <| asg0 rfl <| done ?_
  refine Wp.seq <| reg <| clw0 rfl c_new rfl ?_
  refine mv0 rfl <| xt0 rfl <| xt0 rfl <| al0 65 rfl ?_
  refine stw0 rfl ?_
  refine asg0 rfl <| done ?_
  refine Wp.seq <| regd mixed ?_
  refine ldA0 rfl ?_
  refine clw0 rfl f_lawSign rfl ?_
  refine clw0 rfl c_b rfl ?_
  refine mv0 rfl <| xt0 rfl <| xt0 rfl <| xt0 rfl <| al0 67 rfl ?_
  refine stw0 rfl ?_
  refine asg0 rfl <| asg0 rfl ?_
  refine done ⟨by kernel_rfl, by kernel_rfl, ?_⟩
  refine Wp.seq <| regd mixed ?_
  refine ldA0 rfl ?_
  refine clw0 rfl f_lawSign rfl ?_
  refine clw0 rfl c_c rfl ?_
  refine mv0 rfl <| xt0 rfl <| xt0 rfl <| xt0 rfl <| al0 70 rfl ?_
  refine stw0 rfl ?_
  refine asg0 rfl <| asg0 rfl ?_
  refine done ⟨by kernel_rfl, by kernel_rfl, ?_⟩
  refine Wp.seq <| regd mixed ?_
  refine ldA0 rfl ?_
  refine clw0 rfl f_lawSign rfl ?_
  refine clw0 rfl c_d rfl ?_
  refine mv0 rfl <| xt0 rfl <| xt0 rfl <| xt0 rfl <| al0 73 rfl ?_
  refine stw0 rfl ?_
  refine asg0 rfl <| asg0 rfl ?_
  refine done ⟨by kernel_rfl, by kernel_rfl, ?_⟩
  refine Wp.seq <| regd mixed ?_
  refine ldA0 rfl ?_
  refine clw0 rfl f_lawSign rfl ?_
  refine clw0 rfl c_f rfl ?_
  refine mv0 rfl <| xt0 rfl <| xt0 rfl <| xt0 rfl <| al0 76 rfl ?_
  refine stw0 rfl ?_
  refine asg0 rfl <| asg0 rfl ?_
  refine done ⟨by kernel_rfl, by kernel_rfl, ?_⟩
  refine Wp.seq <| regd mixed ?_
  refine ldA0 rfl ?_
  refine clw0 rfl f_lawSign rfl ?_
  refine clw0 rfl c_g rfl ?_
  refine mv0 rfl <| xt0 rfl <| xt0 rfl <| xt0 rfl <| al0 79 rfl ?_
  refine stw0 rfl ?_
  refine asg0 rfl <| asg0 rfl ?_
  refine done ⟨by kernel_rfl, by kernel_rfl, ?_⟩
  refine Wp.seq <| reg <| ldA0 rfl ?_
  refine clw0 rfl c_p rfl ?_
  refine mv0 rfl <| xt0 rfl <| xt0 rfl <| al0 83 rfl ?_
  refine asg0 rfl <| stw0 rfl ?_
  refine done ?_
  refine Wp.seq <| regd mixed ?_
  refine ldA0 rfl ?_
  refine clw0 rfl f_lawSign rfl ?_
  refine clw0 rfl c_h rfl ?_
  refine mv0 rfl <| xt0 rfl <| xt0 rfl <| xt0 rfl <| al0 84 rfl ?_
  refine stw0 rfl ?_
  refine asg0 rfl <| asg0 rfl ?_
  refine done ⟨by kernel_rfl, by kernel_rfl, ?_⟩
  refine Wp.seq <| reg <| ldA0 rfl ?_
  refine clw0 rfl c_q rfl ?_
  refine mv0 rfl <| xt0 rfl <| xt0 rfl <| al0 88 rfl ?_
  refine asg0 rfl <| stw0 rfl ?_
  refine done ?_
  refine Wp.seq <| reg <| clw0 rfl c_new2 rfl ?_
  refine mv0 rfl <| xt0 rfl <| xt0 rfl <| al0 89 rfl ?_
  refine stw0 rfl ?_
  refine asg0 rfl <| done ?_
  refine Wp.seq <| reg <| mv0 rfl <| cmp0 rfl <| mv0 rfl <| mv1 rfl rfl rfl <| cmp1 rfl rfl rfl <| pkt0 rfl rfl <| mv0 rfl <| mv1 rfl rfl rfl <| nt1 rfl rfl rfl <| pkt0 rfl rfl <| mv0 rfl <| mv1 rfl rfl rfl <| pkt0 rfl rfl <| mv0 rfl <| mv1 rfl rfl rfl <| bsM1 rfl rfl runR [97, 98] rfl ?_
  refine clw1 rfl rfl rfl (f_same01 (l := [97, 98])) rfl ?_
  refine pkt0 rfl rfl <| mv0 rfl <| faA1 rfl rfl rfl ?_
  refine faA1 rfl rfl rfl ?_
  refine faA1 rfl rfl rfl ?_
  refine ldA1 rfl rfl rfl ?_
  first | refine lnM1 rfl rfl rfl ?_ | refine lns1 rfl rfl rfl ?_ | refine ln1 rfl rfl rfl ?_
  refine cmp1 rfl rfl rfl <| pkt0 rfl rfl <| mv0 rfl <| faA1 rfl rfl rfl ?_
  refine faA1 rfl rfl rfl ?_
  refine ldA1 rfl rfl rfl ?_
  first | refine lnM1 rfl rfl rfl ?_ | refine lns1 rfl rfl rfl ?_ | refine ln1 rfl rfl rfl ?_
  refine cmp1 rfl rfl rfl <| pkt0 rfl rfl <| mv0 rfl <| faA1 rfl rfl rfl ?_
  refine faA1 rfl rfl rfl ?_
  refine ldA1 rfl rfl rfl ?_
  refine pkt0 rfl rfl <| mv0 rfl <| faA1 rfl rfl rfl ?_
  refine faA1 rfl rfl rfl ?_
  refine ldA1 rfl rfl rfl ?_
  refine cmp1 rfl rfl rfl <| pkt0 rfl rfl <| mv0 rfl <| mv1 rfl rfl rfl <| bsM1 rfl rfl runR [63, 98, 58, 32] rfl ?_
  refine clw1 rfl rfl rfl (f_same01 (l := [63, 98, 58, 32])) rfl ?_
  refine pkt0 rfl rfl <| mv0 rfl <| faA1 rfl rfl rfl ?_
  refine ldA1 rfl rfl rfl ?_
  refine bsM1 rfl rfl runR [97] rfl ?_
  refine clw1 rfl rfl rfl (f_same01 (l := [97])) rfl ?_
  refine pkt0 rfl rfl <| mv0 rfl <| mv1 rfl rfl rfl <| bsM1 rfl rfl runR [62, 32] rfl ?_
  refine clw1 rfl rfl rfl (f_same01 (l := [62, 32])) rfl ?_
  refine pkt0 rfl rfl <| mv0 rfl <| faA1 rfl rfl rfl ?_
  refine ldA1 rfl rfl rfl ?_
  first | refine lnM1 rfl rfl rfl ?_ | refine lns1 rfl rfl rfl ?_ | refine ln1 rfl rfl rfl ?_
  refine cmp1 rfl rfl rfl <| pkt0 rfl rfl <| mv0 rfl <| faA1 rfl rfl rfl ?_
  refine ldA1 rfl rfl rfl ?_
  refine bsM1 rfl rfl runR [97, 98] rfl ?_
  refine clw1 rfl rfl rfl (f_same01 (l := [97, 98])) rfl ?_
  refine pkt0 rfl rfl <| mv0 rfl <| ldA1 rfl rfl rfl ?_
  refine clw1 rfl rfl rfl c_is rfl ?_
  refine pkt0 rfl rfl <| mv0 rfl <| bdw1 rfl rfl rfl ?_
  refine clw1 rfl rfl rfl c_no rfl ?_
  refine nt1 rfl rfl rfl <| pkt0 rfl rfl <| asg0 rfl <| done ?_
  refine Wp.ret ?_
  refine Ends.ret (.cons (.tmp rfl (Fz.pure rfl)) <|  .nil) ?_
  · rfl

end Go.Proofs.YtkcdmmafkpplhaaGreat
/- What a key does to a right editor (plain law of layer 24). -/
namespace Go.Proofs.YtkcdmmafkpplhaaGreat
open Go.Eng
-- what is sought
theorem hit_spec {t : Nat → Bool} {K q : Nat} (h : hitS t K = some q) : q < K ∧ t q = true := by
  unfold hitS at h
  have h1 := List.mem_of_find?_eq_some h
  exact ⟨List.mem_range.1 h1, List.find?_some h⟩
theorem seek_spec {p : Past} {pat : List Int} {fr by_ : Int} {K : Nat} (hK : ∀ q < K, 0 ≤ fr + by_ * q ∧ fr + by_ * q < p.l.length) (h : (seekS p pat fr by_ K).2.2 = 0) :
    (pastGet p (seekS p pat fr by_ K).1).2 = 0 ∧ 0 ≤ (seekS p pat fr by_ K).2.1 ∧ placeOf (pastGet p (seekS p pat fr by_ K).1).1 pat = (seekS p pat fr by_ K).2.1 := by
  unfold seekS at h ⊢
  by_cases h1 : pastIs p = false
  · rw [if_pos h1] at h; cases h
  rw [if_neg h1] at h ⊢
  by_cases h2 : pat.length = 0
  · rw [if_pos h2] at h; cases h
  rw [if_neg h2] at h ⊢
  cases hh : hitS (seekT p pat fr by_) K with
  | none => rw [hh] at h; cases h
  | some q =>
    obtain ⟨h3, h4⟩ := hit_spec hh
    obtain ⟨h5, h6⟩ := hK q h3
    have h7 : pastGet p (fr + by_ * q) = (p.l.getD (fr + by_ * q).toNat [], 0) := by unfold pastGet; rw [if_neg h1, if_neg (by omega)]
    simp only [h7]
    exact ⟨trivial, of_decide_eq_true h4, trivial⟩
theorem find_spec {fore : Bool} {p : Past} {pat : List Int} {from_ : Int} (h : (findS fore p pat from_).2.2 = 0) :
    (pastGet p (findS fore p pat from_).1).2 = 0 ∧ 0 ≤ (findS fore p pat from_).2.1 ∧ placeOf (pastGet p (findS fore p pat from_).1).1 pat = (findS fore p pat from_).2.1 := by
  unfold findS at h ⊢
  split at h
  · rename_i hf; rw [if_pos hf]; exact seek_spec (by intro q hq; omega) h
  · rename_i hf; rw [if_neg hf]; exact seek_spec (by intro q hq; omega) h
/-- The part of a search that is right. -/
def Sp (d : Ed) : Prop := (d.f.on = true → d.quote = false ∧ seeksS d.f d.p = true) ∧ (d.f.on = false → d.f = noSearch)
theorem look_no {d : Ed} {pat : List Int} {fr : Int} (h : (lookS d pat fr).2 = false) : (lookS d pat fr).1 = d := by
  unfold lookS at h ⊢
  split
  · rfl
  · rename_i h1; rw [if_neg h1] at h; cases h
theorem look_yes {d : Ed} {pat : List Int} {fr : Int} (h : (lookS d pat fr).2 = true) : (findS d.f.fore d.p pat fr).2.2 = 0 ∧ (lookS d pat fr).1 = setF d ⟨d.f.on, d.f.fore, d.f.pat, d.f.from_, true, (findS d.f.fore d.p pat fr).1, (findS d.f.fore d.p pat fr).2.1⟩ := by
  unfold lookS at h ⊢
  by_cases h1 : (findS d.f.fore d.p pat fr).2.2 ≠ 0
  · rw [if_pos h1] at h; cases h
  · rw [if_neg h1]; exact ⟨by simpa using h1, rfl⟩
/-- How an editor is while one looks. -/
structure Lk (d e : Ed) : Prop where
  ee : e.e = d.e
  c : e.c = d.c
  v : e.v = d.v
  map : e.map = d.map
  quote : e.quote = d.quote
  p : e.p = d.p
  s : e.s = d.s
  fresh : e.fresh = d.fresh
theorem Lk.refl (d : Ed) : Lk d d := ⟨rfl, rfl, rfl, rfl, rfl, rfl, rfl, rfl⟩
theorem look_keeps (d : Ed) (pat : List Int) (fr : Int) : Lk d (lookS d pat fr).1 := by
  unfold lookS; split <;> exact ⟨rfl, rfl, rfl, rfl, rfl, rfl, rfl, rfl⟩
theorem look_f (d : Ed) (pat : List Int) (fr : Int) : (lookS d pat fr).1.f.on = d.f.on ∧ (lookS d pat fr).1.f.pat = d.f.pat ∧ (lookS d pat fr).1.f.from_ = d.f.from_ := by
  unfold lookS; split <;> exact ⟨rfl, rfl, rfl⟩
/-- A look for the pattern itself keeps the search right. -/
theorem look_seeks {d : Ed} {fr : Int} (h : seeksS d.f d.p = true) : seeksS (lookS d d.f.pat fr).1.f (lookS d d.f.pat fr).1.p = true := by
  obtain ⟨h1, h2, h3, h4, h5, h6⟩ := seeks_parts h
  cases hb : (lookS d d.f.pat fr).2 with
  | false => rw [look_no hb]; exact h
  | true =>
    obtain ⟨h7, h8⟩ := look_yes hb
    rw [h8]
    exact seeks_of h1 ⟨h2, h3, h4⟩ (fun h => by cases h) (fun _ => find_spec h7)
theorem fore_seeks {f : Search} {p : Past} (b : Bool) (h : seeksS f p = true) : seeksS (foreF f b) p = true := h
theorem less_seeks {f : Search} {p : Past} (h : seeksS f p = true) : seeksS (lessF f) p = true := by
  obtain ⟨h1, h2, h3, h4, h5, h6⟩ := seeks_parts h
  exact seeks_of (signs_take _ h1) ⟨by show (f.pat.take _).length ≤ 200; rw [List.length_take]; omega, h3, h4⟩ (fun _ => ⟨rfl, rfl⟩) (fun h => by cases h)
/-- The pattern with one sign more, and what was found for it. -/
theorem more_seeks {d : Ed} {r fr : Int} (h : seeksS d.f d.p = true) (hr : signB r = true) (hl : d.f.pat.length < 200) (hb : (lookS d (d.f.pat ++ [r]) fr).2 = true) :
    seeksS (patF (lookS d (d.f.pat ++ [r]) fr).1.f (d.f.pat ++ [r])) d.p = true := by
  obtain ⟨h1, h2, h3, h4, h5, h6⟩ := seeks_parts h
  obtain ⟨h7, h8⟩ := look_yes hb
  rw [h8]
  refine seeks_of (signs_app.2 ⟨h1, by simp [signs, hr]⟩) ⟨by show (d.f.pat ++ [r]).length ≤ 200; rw [List.length_append]; simp; omega, h3, h4⟩ (fun h => by cases h) (fun _ => find_spec h7)
/-- What a sign of a search does. -/
structure Sk (d e : Ed) : Prop where
  ee : e.e = d.e
  c : e.c = noCount
  v : e.v = d.v
  map : e.map = d.map
  quote : e.quote = d.quote
  p : e.p = d.p
  s : e.s = d.s
  fresh : e.fresh = d.fresh
  f : (e.f.on = true ∧ seeksS e.f e.p = true) ∨ e.f = noSearch
theorem seek_keeps {d : Ed} {r : Int} (ho : d.f.on = true) (hs : seeksS d.f d.p = true) (hr : (seekEd d r).2 = true) : Sk d (seekEd d r).1 := by
  unfold seekEd at hr ⊢
  by_cases h1 : r = 7
  · rw [if_pos h1]; exact ⟨rfl, rfl, rfl, rfl, rfl, rfl, rfl, rfl, .inr rfl⟩
  rw [if_neg h1] at hr ⊢
  by_cases h2 : r = 18 ∨ r = 19
  · rw [if_pos h2]
    have k := look_keeps (setF d (foreF d.f (r == 19))) d.f.pat (turnFrom d.f (r == 19))
    have g := look_f (setF d (foreF d.f (r == 19))) d.f.pat (turnFrom d.f (r == 19))
    exact ⟨k.ee, rfl, k.v, k.map, k.quote, k.p, k.s, k.fresh, .inl ⟨g.1.trans ho, look_seeks (d := setF d (foreF d.f (r == 19))) (fore_seeks _ hs)⟩⟩
  rw [if_neg h2] at hr ⊢
  by_cases h3 : r = 8 ∨ r = 127
  · rw [if_pos h3]
    have k := look_keeps (setF d (lessF d.f)) (lessF d.f).pat d.f.from_
    have g := look_f (setF d (lessF d.f)) (lessF d.f).pat d.f.from_
    exact ⟨k.ee, rfl, k.v, k.map, k.quote, k.p, k.s, k.fresh, .inl ⟨g.1.trans ho, look_seeks (d := setF d (lessF d.f)) (less_seeks hs)⟩⟩
  rw [if_neg h3] at hr ⊢
  by_cases h4 : r < 32 ∨ signB r = false
  · rw [if_pos h4] at hr; cases hr
  rw [if_neg h4]
  have hsg : signB r = true := by cases hb : signB r; exact absurd (.inr hb) h4; rfl
  by_cases h5 : d.f.pat.length < 200
  · rw [if_pos h5]
    generalize (if d.f.hit = true then d.f.i else d.f.from_) = fr
    have k := look_keeps d (d.f.pat ++ [r]) fr
    have g := look_f d (d.f.pat ++ [r]) fr
    by_cases hb : (lookS d (d.f.pat ++ [r]) fr).2 = true
    · rw [if_pos hb]
      exact ⟨k.ee, rfl, k.v, k.map, k.quote, k.p, k.s, k.fresh, .inl ⟨g.1.trans ho, by have := more_seeks hs hsg h5 hb; rw [← k.p] at this; exact this⟩⟩
    · rw [if_neg hb, look_no (by simpa using hb)]
      exact ⟨rfl, rfl, rfl, rfl, rfl, rfl, rfl, rfl, .inl ⟨ho, hs⟩⟩
  · rw [if_neg h5]; exact ⟨rfl, rfl, rfl, rfl, rfl, rfl, rfl, rfl, .inl ⟨ho, hs⟩⟩
/-- What is the same. -/
structure Sm (d e : Ed) : Prop where
  map : e.map = d.map
  quote : e.quote = d.quote
  p : e.p = d.p
  f : e.f = d.f
theorem Sm.trans {a b c : Ed} (h : Sm a b) (k : Sm b c) : Sm a c := ⟨k.map.trans h.map, k.quote.trans h.quote, k.p.trans h.p, k.f.trans h.f⟩
theorem goes_sm (d : Ed) (i : Int) : Sm d (goesS d i) := by unfold goesS; split <;> exact ⟨rfl, rfl, rfl, rfl⟩
theorem do_sm (d : Ed) (a : ActE) : Sm d (doEd d a) := by unfold doEd; split <;> exact ⟨rfl, rfl, rfl, rfl⟩
theorem prefix_sm (d : Ed) : Sm d (prefixEd d) := by
  unfold prefixEd
  split
  · exact ⟨rfl, rfl, rfl, rfl⟩
  · have h := goes_sm d (prefixS d.p d.e.g.a (d.s.at_ - 1)).1; exact ⟨h.map, h.quote, h.p, h.f⟩
/-- Before the last act of a key. -/
structure Kb (d : Ed) (x : Desk) : Prop where
  rt : Rt x.ed
  f : x.ed.f = noSearch
  quote : x.ed.quote = false
  map : x.ed.map = d.map
  p : x.ed.p = d.p
  is_ : x.is_ = false
/-- Behind a key. -/
structure Kp (d : Ed) (x : Desk) : Prop where
  rt : Rt x.ed
  sp : Sp x.ed
  map : x.ed.map = d.map
  room : x.ed.p.room = d.p.room
  dup : x.ed.p.dup = d.p.dup
  no : x.is_ = false → x.ed.p = d.p
  yes : x.is_ = true → x.ed.e.g = ⟨[], []⟩ ∧ x.ed.s.at_ = x.ed.p.l.length ∧ (0 < x.line.length → x.ed.p.l.length ≠ 0 ∧ x.ed.p.l.getD (x.ed.p.l.length - 1) [] = x.line)
theorem sp_none {d : Ed} (h : d.f = noSearch) : Sp d := ⟨fun h1 => (by rw [h] at h1; cases h1), fun _ => h⟩
theorem Kb.same {d : Ed} {x : Desk} {e : Ed} (h : Kb d x) (r : Rt e) (k : Sm x.ed e) : Kp d ⟨e, x.line, x.is_⟩ :=
  ⟨r, sp_none (k.f.trans h.f), k.map.trans h.map, by rw [k.p, h.p], by rw [k.p, h.p], fun _ => k.p.trans h.p, fun hi => by have h1 : x.is_ = true := hi; rw [h.is_] at h1; cases h1⟩
theorem add_last {p : Past} {l : List Int} (hp : pastIs p = true) (hl : oneS l = true) : (pastAdd p l).l.length ≠ 0 ∧ (pastAdd p l).l.getD ((pastAdd p l).l.length - 1) [] = l := by
  have hr := (pastIs_iff.1 hp).1
  have key : ∀ k : List (List Int), ((k ++ [l]).drop ((k ++ [l]).length - p.room.toNat)).length ≠ 0 ∧ ((k ++ [l]).drop ((k ++ [l]).length - p.room.toNat)).getD (((k ++ [l]).drop ((k ++ [l]).length - p.room.toNat)).length - 1) [] = l := fun k => by
    have h1 : (k ++ [l]).drop ((k ++ [l]).length - p.room.toNat) = k.drop ((k ++ [l]).length - p.room.toNat) ++ [l] := List.drop_append_of_le_length (by rw [List.length_append]; simp only [List.length_cons, List.length_nil]; omega)
    rw [h1]
    refine ⟨by rw [List.length_append]; simp, ?_⟩
    generalize k.drop _ = q
    have e : (q ++ [l]).length - 1 = q.length := by simp
    rw [e]
    simp [List.getD]
  unfold pastAdd
  rw [if_neg (by rw [hp, hl]; simp)]
  split
  · rename_i h1; exact ⟨by omega, h1.2.2⟩
  · split
    · exact key _
    · exact key _
theorem text_one {g : Gap} (h : gapIs g = true) (h0 : 0 < (textS g).length) : oneS (textS g) = true := by
  obtain ⟨h1, h2, h3⟩ := gapIs_iff.1 h
  exact oneS_iff.2 ⟨signs_app.2 ⟨h2, h3⟩, h0, by unfold textS; rw [List.length_append]; exact h1⟩
theorem kb_act {d : Ed} {x : Desk} (h : Kb d x) (a : ActE) : Kp d (actEd x a) := by
  have hrt := h.rt.act a
  have key : ∀ e : Ed, actEd x a = ⟨e, x.line, x.is_⟩ → Sm x.ed e → Kp d (actEd x a) := fun e he k => by
    rw [he] at hrt ⊢; exact h.same hrt k
  by_cases c1 : a.kind = 14
  · exact key _ (if_pos c1) ⟨rfl, rfl, rfl, rfl⟩
  by_cases c2 : a.kind = 15
  · exact key _ ((if_neg c1).trans (if_pos c2)) ⟨rfl, rfl, rfl, rfl⟩
  by_cases c3 : a.kind = 13
  · have e : actEd x a = ⟨setQ x.ed true, x.line, x.is_⟩ := (if_neg c1).trans ((if_neg c2).trans (if_pos c3))
    rw [e] at hrt ⊢
    exact ⟨hrt, sp_none h.f, h.map, by show x.ed.p.room = _; rw [h.p], by show x.ed.p.dup = _; rw [h.p], fun _ => h.p, fun hi => by have h1 : x.is_ = true := hi; rw [h.is_] at h1; cases h1⟩
  by_cases c4 : a.kind = 7
  · have e : actEd x a = ⟨setC (acceptEd x.ed) noCount, textS x.ed.e.g, true⟩ := (if_neg c1).trans ((if_neg c2).trans ((if_neg c3).trans (if_pos c4)))
    rw [e] at hrt ⊢
    have hs := past_add_same x.ed.p (textS x.ed.e.g)
    exact ⟨hrt, sp_none h.f, h.map, by show (pastAdd x.ed.p _).room = _; rw [hs.1, h.p], by show (pastAdd x.ed.p _).dup = _; rw [hs.2, h.p], fun hi => (by cases hi), fun _ => ⟨rfl, rfl, fun h0 => add_last h.rt.p (text_one h.rt.e.g h0)⟩⟩
  by_cases c5 : a.kind = 8
  · have k := goes_sm x.ed (x.ed.s.at_ - valueS x.ed.c)
    exact key _ ((if_neg c1).trans ((if_neg c2).trans ((if_neg c3).trans ((if_neg c4).trans (if_pos c5))))) ⟨k.map, k.quote, k.p, k.f⟩
  by_cases c6 : a.kind = 9
  · have k := goes_sm x.ed (x.ed.s.at_ + valueS x.ed.c)
    exact key _ ((if_neg c1).trans ((if_neg c2).trans ((if_neg c3).trans ((if_neg c4).trans ((if_neg c5).trans (if_pos c6)))))) ⟨k.map, k.quote, k.p, k.f⟩
  by_cases c7 : a.kind = 10
  · have k := prefix_sm x.ed
    exact key _ ((if_neg c1).trans ((if_neg c2).trans ((if_neg c3).trans ((if_neg c4).trans ((if_neg c5).trans ((if_neg c6).trans (if_pos c7))))))) ⟨k.map, k.quote, k.p, k.f⟩
  by_cases c8 : a.kind = 0 ∨ a.kind = 16
  · exact key _ ((if_neg c1).trans ((if_neg c2).trans ((if_neg c3).trans ((if_neg c4).trans ((if_neg c5).trans ((if_neg c6).trans ((if_neg c7).trans (if_pos c8)))))))) ⟨rfl, rfl, rfl, rfl⟩
  by_cases c9 : a.kind = 11 ∨ a.kind = 12
  · have e : actEd x a = ⟨setC (searchS x.ed (a.kind == 12)) noCount, x.line, x.is_⟩ := (if_neg c1).trans ((if_neg c2).trans ((if_neg c3).trans ((if_neg c4).trans ((if_neg c5).trans ((if_neg c6).trans ((if_neg c7).trans ((if_neg c8).trans (if_pos c9))))))))
    rw [e] at hrt ⊢
    have hs := h.rt.s
    refine ⟨hrt, ⟨fun _ => ⟨h.quote, seeks_of rfl ⟨by show (0 : Nat) ≤ 200; omega, hs.lo, hs.hi⟩ (fun _ => ⟨rfl, rfl⟩) (fun h => by cases h)⟩, fun h => (by cases h)⟩, h.map, by show x.ed.p.room = _; rw [h.p], by show x.ed.p.dup = _; rw [h.p], fun _ => h.p, fun hi => by have h1 : x.is_ = true := hi; rw [h.is_] at h1; cases h1⟩
  by_cases c10 : a.kind = 17
  · exact key _ ((if_neg c1).trans ((if_neg c2).trans ((if_neg c3).trans ((if_neg c4).trans ((if_neg c5).trans ((if_neg c6).trans ((if_neg c7).trans ((if_neg c8).trans ((if_neg c9).trans (if_pos c10)))))))))) ⟨rfl, rfl, rfl, rfl⟩
  · have k := do_sm x.ed a
    exact key _ ((if_neg c1).trans ((if_neg c2).trans ((if_neg c3).trans ((if_neg c4).trans ((if_neg c5).trans ((if_neg c6).trans ((if_neg c7).trans ((if_neg c8).trans ((if_neg c9).trans (if_neg c10)))))))))) ⟨k.map, k.quote, k.p, k.f⟩
/-- A first act of two. -/
theorem kb_first {d : Ed} {x : Desk} (h : Kb d x) {a : ActE} (ha : a.kind = 1 ∨ a.kind = 16) : Kb d (actEd x a) := by
  have hrt := h.rt.act a
  have key : ∀ e : Ed, actEd x a = ⟨e, x.line, x.is_⟩ → Sm x.ed e → Kb d (actEd x a) := fun e he k => by
    rw [he] at hrt ⊢; exact ⟨hrt, k.f.trans h.f, k.quote.trans h.quote, k.map.trans h.map, k.p.trans h.p, h.is_⟩
  rcases ha with ha | ha
  · have k := do_sm x.ed a
    exact key (setC (doEd x.ed a) noCount) (by unfold actEd; rw [if_neg (by omega), if_neg (by omega), if_neg (by omega), if_neg (by omega), if_neg (by omega), if_neg (by omega), if_neg (by omega), if_neg (by omega), if_neg (by omega), if_neg (by omega)]) ⟨k.map, k.quote, k.p, k.f⟩
  · exact key (setC (offS x.ed) noCount) (by unfold actEd; rw [if_neg (by omega), if_neg (by omega), if_neg (by omega), if_neg (by omega), if_neg (by omega), if_neg (by omega), if_neg (by omega), if_pos (by omega)]) ⟨rfl, rfl, rfl, rfl⟩
/-- The shape of what a key asks for: one act at most, and perhaps one of two kinds ahead of it. -/
def shape (l : List Act4) : Bool := match l with
  | [] => true
  | [_] => true
  | [a, _] => a.1 == 1 || a.1 == 16
  | _ => false
theorem kb_run {d : Ed} {x : Desk} (h : Kb d x) {l : List Act4} (hl : shape l = true) : Kp d (runA x l) := by
  match l, hl with
  | [], _ => exact h.same h.rt ⟨rfl, rfl, rfl, rfl⟩
  | [a], _ => exact kb_act h (toAct a)
  | [a, b], hl =>
    simp only [shape, Bool.or_eq_true, beq_iff_eq] at hl
    exact kb_act (kb_first h hl) (toAct b)
def short (l : List Act4) : Bool := decide (l.length ≤ 1)
theorem short_insK (k r : Int) : (insK k r).2.length ≤ 1 := by
  unfold insK; repeat' split
  all_goals simp
theorem short_signS (r : Int) : (signS r).2.length ≤ 1 := by
  unfold signS
  split
  · rename_i h
    have := look_all (p := fun x : (Int × Int) × List Act4 => decide (x.2.length ≤ 1)) (z := ((0, 0), [])) (l := signL) (by decide) h
    exact of_decide_eq_true this
  · decide
theorem short_obS (k r : Int) (dg : Bool) : (obS k r dg).2.length ≤ 1 := by
  unfold obS; repeat' split
  all_goals first | exact short_signS r | exact Nat.le_refl _ | exact Nat.zero_le _
theorem short_waS (w k r : Int) (dg : Bool) : (waS w k r dg).2.length ≤ 1 := by
  unfold waS
  dsimp only
  repeat' split
  all_goals simp
theorem shape_short {l : List Act4} (h : l.length ≤ 1) : shape l = true := by
  match l, h with
  | [], _ => rfl
  | [_], _ => rfl
theorem shape_metaS {a : Act4} (r : Int) (dg : Bool) (h : (a.1 == 1 || a.1 == 16) = true) : shape (metaS [a] r dg).2 = true := by
  have h1 := short_obS 1 r dg
  show shape ([a] ++ (obS 1 r dg).2) = true
  generalize (obS 1 r dg).2 = q at h1
  match q, h1 with
  | [], _ => rfl
  | [_], _ => exact h
theorem shape_mapV (m o k r : Int) (dg : Bool) : shape (mapV m o k r dg).2 = true := by
  unfold mapV
  repeat' split
  · exact shape_short (short_insK k r)
  · exact shape_metaS r dg rfl
  · exact shape_short (short_obS k r dg)
  · exact shape_metaS r dg rfl
  · exact shape_short (short_waS _ k r dg)
  · exact shape_metaS r dg rfl
theorem kb_key {d : Ed} {x : Desk} (h : Kb d x) (k r : Int) : Kp d (keyEd x k r) := by
  unfold keyEd
  split
  · rename_i hm
    exact kb_run (x := vDesk x k r) ⟨rt_vDesk h.rt hm, h.f, h.quote, h.map, h.p, h.is_⟩ (shape_mapV _ _ _ _ _)
  · exact kb_run h rfl
theorem end_sm (d : Ed) : (endEd d).map = d.map ∧ (endEd d).quote = d.quote ∧ (endEd d).p = d.p ∧ (endEd d).f = noSearch := by
  unfold endEd
  split
  · exact ⟨rfl, rfl, rfl, rfl⟩
  · unfold endTo
    split
    · have k := goes_sm (offS (setF d noSearch)) d.f.i; exact ⟨k.map, k.quote, k.p, k.f⟩
    · exact ⟨rfl, rfl, rfl, rfl⟩
theorem kb_end {d : Ed} (h : Rt d) (hq : d.quote = false) : Kb d ⟨endEd d, [], false⟩ := by
  have k := end_sm d
  exact ⟨h.end_, k.2.2.2, k.2.1.trans hq, k.1, k.2.2.1, rfl⟩
/-- A right editor stays right. -/
theorem key_stays {d : Ed} (hd : edIs d = true) (k r : Int) : Kp d (keyS d k r) := by
  obtain ⟨rt, h1, h2⟩ := edIs_rt hd
  cases hq : d.quote with
  | true =>
    rw [key_e2 hd hq]
    have hf : d.f = noSearch := by
      cases ho : d.f.on with
      | true => have := (h1 ho).1; rw [hq] at this; cases this
      | false => exact h2 ho
    have kb : Kb d ⟨setQ d false, [], false⟩ := ⟨rt.setQ, hf, rfl, rfl, rfl, rfl⟩
    unfold quotedEd
    split
    · have s := do_sm (setQ d false) ⟨2, 0, 0, r⟩
      exact kb.same ((rt.setQ.doEd _).setC rfl) ⟨s.map, s.quote, s.p, s.f⟩
    · split
      · have s := do_sm (setQ d false) ⟨2, 0, 0, 27⟩
        exact kb.same ((rt.setQ.doEd _).setC rfl) ⟨s.map, s.quote, s.p, s.f⟩
      · exact kb.same (rt.setQ.setC rfl) ⟨rfl, rfl, rfl, rfl⟩
  | false =>
    cases ho : d.f.on with
    | false => rw [key_e6 hd hq ho]; exact kb_key (x := ⟨d, [], false⟩) ⟨rt, h2 ho, hq, rfl, rfl, rfl⟩ k r
    | true =>
      by_cases hk : k = 1
      · cases hs : (seekEd d r).2 with
        | true =>
          rw [key_e3 hd hq ho hk hs]
          have s := seek_keeps ho (h1 ho).2 hs
          refine ⟨⟨by show EIs (seekEd d r).1.e; rw [s.ee]; exact rt.e, by show countIs (seekEd d r).1.c = true; rw [s.c]; rfl, by show viIsS (seekEd d r).1.v.1 (seekEd d r).1.v.2 = true; rw [s.v]; exact rt.v, by show pastIs (seekEd d r).1.p = true; rw [s.p]; exact rt.p,
            by show SIs (seekEd d r).1.s (seekEd d r).1.p; rw [s.s, s.p]; exact rt.s, by show ¬ ((seekEd d r).1.map ≠ 1 ∧ ((seekEd d r).1.map ≠ 0 ∨ (seekEd d r).1.v.1 ≠ 0 ∨ (seekEd d r).1.v.2 ≠ 0)); rw [s.map, s.v]; exact rt.m, by show 0 ≤ (seekEd d r).1.fresh ∧ (seekEd d r).1.fresh ≤ 999; rw [s.fresh]; exact rt.fr⟩,
            ?_, s.map, by show (seekEd d r).1.p.room = _; rw [s.p], by show (seekEd d r).1.p.dup = _; rw [s.p], fun _ => s.p, fun h => (by cases h)⟩
          rcases s.f with hf | hf
          · exact ⟨fun _ => ⟨s.quote.trans hq, hf.2⟩, fun h => (by have h3 : (seekEd d r).1.f.on = false := h; rw [hf.1] at h3; cases h3)⟩
          · exact sp_none hf
        | false =>
          by_cases h5 : r = 10 ∨ r = 13
          · rw [key_e4 hd hq ho hk hs h5]
            have kb := kb_end rt hq
            exact kb_act (x := ⟨setV (endEd d) (0, 0), [], false⟩) ⟨rt_v0 kb.rt, kb.f, kb.quote, kb.map, kb.p, rfl⟩ _
          · rw [key_e5 hd hq ho (fun _ => hs) (fun _ => h5)]
            exact kb_key (kb_end rt hq) k r
      · rw [key_e5 hd hq ho (fun h => absurd h hk) (fun h => absurd h hk)]
        exact kb_key (kb_end rt hq) k r
theorem key_is {d : Ed} (hd : edIs d = true) (k r : Int) : edIs (keyS d k r).ed = true := by
  have h := key_stays hd k r
  exact rt_edIs h.rt h.sp.1 h.sp.2

end Go.Proofs.YtkcdmmafkpplhaaGreat