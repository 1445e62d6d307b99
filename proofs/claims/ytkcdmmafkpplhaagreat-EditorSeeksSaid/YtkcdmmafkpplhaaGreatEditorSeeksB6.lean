/- Own texts of this claim, laid together: EngAF, ES, E24, E25. -/
import Derived.OpenShut
import Derived.Deep.Slices
import Derived.Test.YtkcdmmafkpplhaaGreatEditorSeeksB5
set_option linter.unusedVariables false
set_option linter.unusedSimpArgs false
/- The engine, part AF: what a row hands over reads as abstract data. No program in sight. -/
namespace Go.Eng
open Go

/-- How a cell is laid out. -/
inductive Sh where
  | int (k : IntKind)
  | bool
  | str
  | slice (l : List Sh)

/-- How a type's cells are laid out. -/
def layFs (lay : TypeId → Option (List Sh)) (size : TypeId → Nat) : List Field → Nat → Option (List Sh)
  | [], _ => some []
  | f :: fs, off => if f.offset = off then
      match lay f.type with
      | some l => if size f.type = l.length then (layFs lay size fs (off + l.length)).map (l ++ ·) else none
      | none => none
    else none
def lay (P : Program) : Nat → TypeId → Option (List Sh)
  | 0, _ => none
  | n + 1, t =>
    match P.underlying t with
    | some .bool => some [.bool]
    | some (.int k) => some [.int k]
    | some .string => some [.str]
    | some (.slice e) => match lay P n e with
      | some l => if P.cellsOf e = l.length ∧ 0 < l.length then some [.slice l] else none
      | none => none
    | some (.struct fs) => match layFs (lay P n) P.cellsOf fs.toList 0 with
      | some l => if P.cellsOf t = l.length then some l else none
      | none => none
    | _ => none

/-- A datum of a layout. -/
inductive Fits : Sh → D → Prop
  | int (k : IntKind) (n : Int) (h : (Lit.int k n).wf = true) : Fits (.int k) (.int k n)
  | bool (b : Bool) : Fits .bool (.bool b)
  | str (s : ByteArray) (h : s.size ≤ maxLen) : Fits .str (.str s)
  | slice (l : List Sh) (rows : List (List D)) (hm : rows.length ≤ maxLen) (hl : ∀ r ∈ rows, r.length = l.length)
      (h : ∀ r ∈ rows, ∀ (i : Nat) (s : Sh) (d : D), l[i]? = some s → r[i]? = some d → Fits s d) : Fits (.slice l) (.rows false rows)
structure FitsL (l : List Sh) (ds : List D) : Prop where
  len : ds.length = l.length
  fit : ∀ (i : Nat) (s : Sh) (d : D), l[i]? = some s → ds[i]? = some d → Fits s d
structure AllDen (H : GH) (ds : List D) (cs : List Value) : Prop where
  len : cs.length = ds.length
  den : ∀ (i : Nat) (d : D) (v : Value), ds[i]? = some d → cs[i]? = some v → DenP H d v
theorem FitsL.one {s : Sh} {d : D} (h : Fits s d) : FitsL [s] [d] := ⟨rfl, fun i s' d' h1 h2 => by
  match i, h1, h2 with
  | 0, h1, h2 => simp at h1 h2; subst h1 h2; exact h
  | i + 1, h1, _ => simp at h1⟩
theorem AllDen.one {H : GH} {d : D} {v : Value} (h : DenP H d v) : AllDen H [d] [v] := ⟨rfl, fun i d' v' h1 h2 => by
  match i, h1, h2 with
  | 0, h1, h2 => simp at h1 h2; subst h1 h2; exact h
  | i + 1, h1, _ => simp at h1⟩
theorem FitsL.app {l1 l2 : List Sh} {d1 d2 : List D} (h1 : FitsL l1 d1) (h2 : FitsL l2 d2) : FitsL (l1 ++ l2) (d1 ++ d2) := ⟨by rw [List.length_append, List.length_append, h1.len, h2.len], fun i s d a b => by
  by_cases hi : i < l1.length
  · rw [List.getElem?_append_left hi] at a; rw [List.getElem?_append_left (by rw [h1.len]; exact hi)] at b; exact h1.fit i s d a b
  · rw [List.getElem?_append_right (by omega)] at a; rw [List.getElem?_append_right (by rw [h1.len]; omega), h1.len] at b; exact h2.fit _ s d a b⟩
theorem AllDen.app {H : GH} {d1 d2 : List D} {c1 c2 : List Value} (h1 : AllDen H d1 c1) (h2 : AllDen H d2 c2) : AllDen H (d1 ++ d2) (c1 ++ c2) := ⟨by rw [List.length_append, List.length_append, h1.len, h2.len], fun i s d a b => by
  by_cases hi : i < d1.length
  · rw [List.getElem?_append_left hi] at a; rw [List.getElem?_append_left (by rw [h1.len]; exact hi)] at b; exact h1.den i s d a b
  · rw [List.getElem?_append_right (by omega)] at a; rw [List.getElem?_append_right (by rw [h1.len]; omega), h1.len] at b; exact h2.den _ s d a b⟩

section
variable {H : Type} {enc : TypeId × Value → H} {P : Program} {w : World} {base : Nat} {spare : Nat → Bool} {held : Bool}
/-- All that there is. -/
def allH (w : World) : GH := fun b => w.heap[b]?
/-- What opening a type's cells gives. -/
def Opens (P : Program) (enc : TypeId × Value → H) (w : World) (base : Nat) (spare : Nat → Bool) (held : Bool) (t : TypeId) (shs : List Sh) : Prop :=
  ∀ fuel cs x, DataW.trod enc P w base spare held fuel t cs = some x → ∃ ds, FitsL shs ds ∧ AllDen (allH w) ds cs

theorem layFs_opens {lay : TypeId → Option (List Sh)} (ih : ∀ t shs, lay t = some shs → Opens P enc w base spare held t shs) {cs : List Value} :
    ∀ (fl : List Field) (off : Nat) (shs : List Sh), layFs lay P.cellsOf fl off = some shs → cs.length = off + shs.length →
      (∀ f ∈ fl, ∃ n x, DataW.trod enc P w base spare held n f.type ((cs.drop f.offset).take (P.cellsOf f.type)) = some x) →
      ∃ ds, FitsL shs ds ∧ AllDen (allH w) ds (cs.drop off)
  | [], off, shs, h, hc, _ => by
    simp only [layFs, Option.some.injEq] at h
    subst h
    refine ⟨[], ⟨rfl, by simp⟩, ⟨by rw [List.length_drop]; simp only [List.length_nil] at hc ⊢; omega, by simp⟩⟩
  | f :: fl, off, shs, h, hc, hf => by
    unfold layFs at h
    split at h
    case isFalse => cases h
    rename_i ho
    split at h
    case h_2 => cases h
    rename_i l hl
    split at h
    case isFalse => cases h
    rename_i hs
    obtain ⟨r, hr, rfl⟩ := Option.map_eq_some_iff.1 h
    rw [List.length_append] at hc
    obtain ⟨n, x, hx⟩ := hf f (List.mem_cons_self ..)
    obtain ⟨d1, f1, a1⟩ := ih f.type l hl n _ x hx
    obtain ⟨d2, f2, a2⟩ := layFs_opens ih fl (off + l.length) r hr (by omega) fun g hg => hf g (List.mem_cons_of_mem _ hg)
    refine ⟨d1 ++ d2, f1.app f2, ?_⟩
    rw [ho, hs] at a1
    have := a1.app a2
    rwa [← List.drop_drop, List.take_append_drop] at this

theorem opens_slice {t e : TypeId} {l : List Sh} (ht : P.underlying t = some (.slice e)) (hs : P.cellsOf e = l.length) (hp : 0 < l.length) (ih : Opens P enc w base spare held e l) : Opens P enc w base spare held t [.slice l] := by
  intro fuel cs x hx
  rcases Deep.open_slice ht hx with ⟨rfl, _⟩ | ⟨a, len, cap, m, n, Dd, Pl, rfl, hb, hl, hm, hmm, _, hel⟩
  · exact ⟨[.rows false []], .one (.slice l [] (by simp) (by simp) (by simp)), .one (.rowsE false none 0 (by simp))⟩
  by_cases h0 : len = 0
  · subst h0
    exact ⟨[.rows false []], .one (.slice l [] (by simp) (by simp) (by simp)), .one (.rowsE false _ cap (by simp))⟩
  have hlm : len ≤ m := by rw [hmm]; split <;> omega
  -- every element's data
  have hrow : ∀ i, i < len → ∃ ds cs', w.cells? base (a.add (i * l.length)) l.length = some cs' ∧ FitsL l ds ∧ AllDen (allH w) ds cs' := fun i hi => by
    obtain ⟨cs', h1, h2⟩ := hel i (by omega)
    obtain ⟨ds, h3, h4⟩ := ih _ _ _ h2
    rw [hs] at h1
    exact ⟨ds, cs', h1, h3, h4⟩
  obtain ⟨R, hR⟩ : ∃ R : Nat → List D, ∀ i, i < len → ∃ cs', w.cells? base (a.add (i * l.length)) l.length = some cs' ∧ FitsL l (R i) ∧ AllDen (allH w) (R i) cs' := by
    refine ⟨fun i => if h : i < len then (hrow i h).choose else [], fun i hi => ?_⟩
    simp only [dif_pos hi]
    exact (hrow i hi).choose_spec
  -- single cells
  have hcell : ∀ i, i < len → ∀ k, k < l.length → ∃ v, w.cell? (a.add (i * l.length + k)) = some v ∧ ∀ d, (R i)[k]? = some d → DenP (allH w) d v := fun i hi k hk => by
    obtain ⟨cs', h1, h2, h3⟩ := hR i hi
    unfold World.cells? at h1
    split at h1
    case isFalse => cases h1
    have hlen : cs'.length = l.length := by simpa using mapM_some_length h1
    have := mapM_some_get h1 k k (by simp [hk])
    rw [Deep.add_add] at this
    rw [List.getElem?_eq_getElem (by omega)] at this
    exact ⟨_, this, fun d hd => h3.den k d _ hd (List.getElem?_eq_getElem (by omega))⟩
  obtain ⟨b, off, spot⟩ := a
  have hsp : spot = none := by
    obtain ⟨v, hv, _⟩ := hcell 0 (by omega) 0 hp
    rw [Nat.zero_mul] at hv
    unfold World.cell? Addr.add at hv
    cases spot with
    | none => rfl
    | some s => exfalso; simp at hv; split at hv <;> simp_all
  subst hsp
  have hadd : ∀ i, (⟨b, off, none⟩ : Addr).add i = ⟨b, off + i, none⟩ := fun i => by unfold Addr.add; split <;> simp_all
  obtain ⟨arr, ty, fz, hbk⟩ : ∃ arr ty fz, w.heap[b]? = some (.cells arr ty fz) := by
    obtain ⟨v, hv, _⟩ := hcell 0 (by omega) 0 hp
    rw [hadd] at hv
    unfold World.cell? at hv
    split at hv
    · rename_i c e f h; exact ⟨c, e, f, h⟩
    · cases hv
  have harr : ∀ i, i < len → ∀ k, k < l.length → ∃ v, arr[off + i * l.length + k]? = some v ∧ ∀ d, (R i)[k]? = some d → DenP (allH w) d v := fun i hi k hk => by
    obtain ⟨v, hv, hd⟩ := hcell i hi k hk
    rw [hadd] at hv
    rw [← Nat.add_assoc] at hv
    exact ⟨v, by simpa [World.cell?, hbk] using hv, hd⟩
  have hin : off + len * l.length ≤ arr.size := by
    obtain ⟨v, hv, _⟩ := harr (len - 1) (by omega) (l.length - 1) (by omega)
    have h1 := (Array.getElem?_eq_some_iff.1 hv).1
    have h2 : (len - 1) * l.length + l.length = len * l.length := by
      have : len = (len - 1) + 1 := by omega
      conv => rhs; rw [this, Nat.add_mul, Nat.one_mul]
    omega
  refine ⟨[.rows false ((List.range len).map R)], .one (.slice l _ (by simp; omega) (fun r hr => ?_) (fun r hr i s d h1 h2 => ?_)), .one ?_⟩
  · obtain ⟨i, hi, rfl⟩ := List.mem_map.1 hr
    obtain ⟨_, _, h2, _⟩ := hR i (List.mem_range.1 hi)
    exact h2.len
  · obtain ⟨q, hq, rfl⟩ := List.mem_map.1 hr
    obtain ⟨_, _, h3, _⟩ := hR q (List.mem_range.1 hq)
    exact h3.fit i s d h1 h2
  · have hll : ((List.range len).map R).length = len := by simp
    have := DenP.rowsS (H := allH w) false ((List.range len).map R) b off cap l.length arr ty fz hbk (by intro h; rw [h] at hll; simp at hll; omega) (by rw [hll]; exact hl) (by simp)
      (fun row hr => by
        obtain ⟨i, hi, rfl⟩ := List.mem_map.1 hr
        obtain ⟨_, _, h2, _⟩ := hR i (List.mem_range.1 hi)
        exact h2.len) (by rw [hll]; exact hin) (fun i k row d v hi hk hv => by
        have hil : i < len := by rw [← hll]; exact (List.getElem?_eq_some_iff.1 hi).1
        have he : row = R i := by
          rw [List.getElem?_map, List.getElem?_range hil] at hi
          simpa using hi.symm
        subst he
        obtain ⟨_, _, h2, _⟩ := hR i hil
        have hkl : k < l.length := by rw [← h2.len]; exact (List.getElem?_eq_some_iff.1 hk).1
        obtain ⟨v', hv', hd⟩ := harr i hil k hkl
        rw [hv] at hv'; cases hv'
        exact hd d hk) (by rw [hll]; have : maxLen = 9223372036854775807 := rfl; omega)
    rwa [hll] at this

theorem lay_opens : ∀ (n : Nat) (t : TypeId) (shs : List Sh), lay P n t = some shs → Opens P enc w base spare held t shs
  | 0, _, _, h => by cases h
  | n + 1, t, shs, h => by
    have ih := lay_opens n
    unfold lay at h
    split at h
    · rename_i ht; cases h
      intro fuel cs x hx
      obtain ⟨b, rfl, _⟩ := DataW.trod_bool ht hx
      exact ⟨[.bool b], .one (.bool b), .one (.bool b)⟩
    · rename_i k ht; cases h
      intro fuel cs x hx
      obtain ⟨q, rfl, _, hw⟩ := DataW.trod_int ht hx
      exact ⟨[.int k q], .one (.int k q hw), .one (.int k q)⟩
    · rename_i ht; cases h
      intro fuel cs x hx
      obtain ⟨s, rfl, _, hs⟩ := DataW.trod_string ht hx
      exact ⟨[.str s], .one (.str s hs), .one (.str s)⟩
    · rename_i e ht
      split at h
      case h_2 => cases h
      rename_i l hl
      split at h
      case isFalse => cases h
      rename_i hs
      cases h
      exact opens_slice ht hs.1 hs.2 (ih e l hl)
    · rename_i fs ht
      split at h
      case h_2 => cases h
      rename_i l hl
      split at h
      case isFalse => cases h
      rename_i hs
      cases h
      intro fuel cs x hx
      obtain ⟨xs, q, _, _, hlen, hxl, hf⟩ := DataW.trod_struct ht hx
      have := layFs_opens (P := P) (enc := enc) (w := w) (base := base) (spare := spare) (held := held) (lay := lay P n) ih (cs := cs) fs.toList 0 shs hl (by omega) fun f hfm => by
        obtain ⟨i, hi, rfl⟩ := List.getElem_of_mem hfm
        have h1 := hf i fs.toList[i] (by simp at hi ⊢)
        exact ⟨q, _, h1.trans (List.getElem?_eq_getElem (by simp at hi; omega))⟩
      simpa using this
    · cases h
end

/-- An encoding reaches all data of a layout. -/
class Sur {α : Type} (C : α → List D) (l : outParam (List Sh)) : Prop where
  ex : ∀ ds, FitsL l ds → ∃ x, ds = C x
theorem Sur.rows {α : Type} {C : α → List D} {l : List Sh} [h : Sur C l] {d : D} (hf : Fits (.slice l) d) : ∃ xs : List α, d = .rows false (xs.map C) ∧ xs.length ≤ maxLen := by
  cases hf with
  | slice _ rows hm hl hr =>
    have : ∀ rows : List (List D), (∀ r ∈ rows, FitsL l r) → ∃ xs : List α, rows = xs.map C := by
      intro rows
      induction rows with
      | nil => exact fun _ => ⟨[], rfl⟩
      | cons r rs ih =>
        intro hall
        obtain ⟨x, hx⟩ := h.ex r (hall r (List.mem_cons_self ..))
        obtain ⟨xs, hxs⟩ := ih fun q hq => hall q (List.mem_cons_of_mem _ hq)
        exact ⟨x :: xs, by rw [hx, hxs]; rfl⟩
    obtain ⟨xs, rfl⟩ := this rows fun r hr' => ⟨hl r hr', hr r hr'⟩
    exact ⟨xs, rfl, by simpa using hm⟩
theorem Fits.int_inv {k : IntKind} {d : D} (h : Fits (.int k) d) : ∃ n, d = .int k n := by cases h; exact ⟨_, rfl⟩
theorem Fits.bool_inv {d : D} (h : Fits .bool d) : ∃ b, d = .bool b := by cases h; exact ⟨_, rfl⟩
theorem FitsL.nil_inv {ds : List D} (h : FitsL [] ds) : ds = [] := List.length_eq_zero_iff.1 h.len
theorem FitsL.cons_inv {s : Sh} {l : List Sh} {ds : List D} (h : FitsL (s :: l) ds) : ∃ d r, ds = d :: r ∧ Fits s d ∧ FitsL l r := by
  match ds, h with
  | [], h => have := h.len; simp at this
  | d :: r, h => exact ⟨d, r, rfl, h.fit 0 s d rfl rfl, ⟨by have := h.len; simpa using this, fun i s' d' h1 h2 => h.fit (i + 1) s' d' (by simpa using h1) (by simpa using h2)⟩⟩

/-- A struct that came in. -/
theorem came_agg {H : Type} {enc : TypeId × Value → H} {P : Program} {w : World} {base b0 : Nat} {spare : Nat → Bool} {held : Bool} {r : Reach} {t : TypeId} {v : Value} {x : DataW H} {ps : List MemPlace} {fs : Array Field} {n : Nat} {shs : List Sh}
    (ht : P.underlying t = some (.struct fs)) (hl : lay P n t = some shs) (hw : Value.okWide P w r b0 t v) (h : DataW.Trod enc P w base spare held t v x ps) : ∃ ds, FitsL shs ds ∧ DenP (allH w) (.agg ds) v := by
  obtain ⟨cs, rfl, _⟩ := WideShapes.okWide_struct ht hw
  obtain ⟨fuel, hf⟩ := h
  obtain ⟨ds, h1, h2⟩ := lay_opens n t shs hl _ _ _ hf
  have hlen : cs.size = ds.length := by simpa [Value.cells] using h2.len
  exact ⟨ds, h1, .agg ds cs hlen fun k d v a b => h2.den k d v a (by simpa [Value.cells] using b)⟩
/-- A slice that came in. -/
theorem came_slice {H : Type} {enc : TypeId × Value → H} {P : Program} {w : World} {base b0 : Nat} {spare : Nat → Bool} {held : Bool} {r : Reach} {t e : TypeId} {v : Value} {x : DataW H} {ps : List MemPlace} {n : Nat} {s : Sh}
    (ht : P.underlying t = some (.slice e)) (hl : lay P n t = some [s]) (hw : Value.okWide P w r b0 t v) (h : DataW.Trod enc P w base spare held t v x ps) : ∃ d, Fits s d ∧ DenP (allH w) d v := by
  obtain ⟨a, len, cap, rfl⟩ := WideShapes.okWide_slice ht hw
  obtain ⟨fuel, hf⟩ := h
  obtain ⟨ds, h1, h2⟩ := lay_opens n t _ hl _ _ _ hf
  obtain ⟨d, r, rfl, h3, h4⟩ := h1.cons_inv
  exact ⟨d, h3, h2.den 0 d _ rfl (by simp [Value.cells])⟩
end Go.Eng

/- What a row hands over reads as an editor, keys, signs. -/
namespace Go.Proofs.YtkcdmmafkpplhaaGreat
open Go.Eng
instance : Sur runR [.int .i32] := ⟨fun ds h => by
  obtain ⟨d, r, rfl, h1, h2⟩ := h.cons_inv
  obtain ⟨n, rfl⟩ := h1.int_inv
  rw [h2.nil_inv]; exact ⟨n, rfl⟩⟩
instance : Sur rowC [.slice [.int .i32]] := ⟨fun ds h => by
  obtain ⟨d, r, rfl, h1, h2⟩ := h.cons_inv
  obtain ⟨x, rfl, _⟩ := Sur.rows (C := runR) h1
  rw [h2.nil_inv]; exact ⟨x, rfl⟩⟩
instance : Sur gapC [.slice [.int .i32], .slice [.int .i32]] := ⟨fun ds h => by
  obtain ⟨d, r, rfl, h1, h2⟩ := h.cons_inv
  obtain ⟨d2, r2, rfl, h3, h4⟩ := h2.cons_inv
  obtain ⟨x, rfl, _⟩ := Sur.rows (C := runR) h1
  obtain ⟨y, rfl, _⟩ := Sur.rows (C := runR) h3
  rw [h4.nil_inv]; exact ⟨⟨x, y⟩, rfl⟩⟩
instance : Sur slotC [.int .i64, .slice [.int .i32], .slice [.int .i32]] := ⟨fun ds h => by
  obtain ⟨d, r, rfl, h1, h2⟩ := h.cons_inv
  obtain ⟨d2, r2, rfl, h3, h4⟩ := h2.cons_inv
  obtain ⟨d3, r3, rfl, h5, h6⟩ := h4.cons_inv
  obtain ⟨n, rfl⟩ := h1.int_inv
  obtain ⟨x, rfl, _⟩ := Sur.rows (C := runR) h3
  obtain ⟨y, rfl, _⟩ := Sur.rows (C := runR) h5
  rw [h6.nil_inv]; exact ⟨⟨n, ⟨x, y⟩⟩, rfl⟩⟩
def keyR (k : Int × Int) : List D := [.int .i64 k.1, .int .i32 k.2]
instance : Enc keyR 2 := ⟨fun _ => ⟨rfl, rfl⟩⟩
instance : Sur keyR [.int .i64, .int .i32] := ⟨fun ds h => by
  obtain ⟨d, r, rfl, h1, h2⟩ := h.cons_inv
  obtain ⟨d2, r2, rfl, h3, h4⟩ := h2.cons_inv
  obtain ⟨n, rfl⟩ := h1.int_inv
  obtain ⟨m, rfl⟩ := h3.int_inv
  rw [h4.nil_inv]; exact ⟨(n, m), rfl⟩⟩
abbrev edShs : List Sh := [.slice [.int .i32], .slice [.int .i32], .slice [.slice [.int .i32]], .slice [.slice [.int .i32], .slice [.int .i32]], .int .i64, .int .i64, .int .i64, .bool, .bool, .int .i64, .int .i64, .int .i64, .int .i64, .bool, .int .i64, .int .i64, .slice [.slice [.int .i32]], .int .i64, .slice [.int .i64, .slice [.int .i32], .slice [.int .i32]], .bool, .bool, .slice [.int .i32], .int .i64, .bool, .int .i64, .int .i64, .int .i64]
theorem ed_sur {ds : List D} (h : FitsL edShs ds) : ∃ d : Ed, ds = edC d := by
  obtain ⟨d0, r0, rfl, h0, g0⟩ := h.cons_inv
  obtain ⟨d1, r1, rfl, h1, g1⟩ := g0.cons_inv
  obtain ⟨d2, r2, rfl, h2, g2⟩ := g1.cons_inv
  obtain ⟨d3, r3, rfl, h3, g3⟩ := g2.cons_inv
  obtain ⟨d4, r4, rfl, h4, g4⟩ := g3.cons_inv
  obtain ⟨d5, r5, rfl, h5, g5⟩ := g4.cons_inv
  obtain ⟨d6, r6, rfl, h6, g6⟩ := g5.cons_inv
  obtain ⟨d7, r7, rfl, h7, g7⟩ := g6.cons_inv
  obtain ⟨d8, r8, rfl, h8, g8⟩ := g7.cons_inv
  obtain ⟨d9, r9, rfl, h9, g9⟩ := g8.cons_inv
  obtain ⟨d10, r10, rfl, h10, g10⟩ := g9.cons_inv
  obtain ⟨d11, r11, rfl, h11, g11⟩ := g10.cons_inv
  obtain ⟨d12, r12, rfl, h12, g12⟩ := g11.cons_inv
  obtain ⟨d13, r13, rfl, h13, g13⟩ := g12.cons_inv
  obtain ⟨d14, r14, rfl, h14, g14⟩ := g13.cons_inv
  obtain ⟨d15, r15, rfl, h15, g15⟩ := g14.cons_inv
  obtain ⟨d16, r16, rfl, h16, g16⟩ := g15.cons_inv
  obtain ⟨d17, r17, rfl, h17, g17⟩ := g16.cons_inv
  obtain ⟨d18, r18, rfl, h18, g18⟩ := g17.cons_inv
  obtain ⟨d19, r19, rfl, h19, g19⟩ := g18.cons_inv
  obtain ⟨d20, r20, rfl, h20, g20⟩ := g19.cons_inv
  obtain ⟨d21, r21, rfl, h21, g21⟩ := g20.cons_inv
  obtain ⟨d22, r22, rfl, h22, g22⟩ := g21.cons_inv
  obtain ⟨d23, r23, rfl, h23, g23⟩ := g22.cons_inv
  obtain ⟨d24, r24, rfl, h24, g24⟩ := g23.cons_inv
  obtain ⟨d25, r25, rfl, h25, g25⟩ := g24.cons_inv
  obtain ⟨d26, r26, rfl, h26, g26⟩ := g25.cons_inv
  obtain ⟨x0, rfl, _⟩ := Sur.rows (C := runR) h0
  obtain ⟨x1, rfl, _⟩ := Sur.rows (C := runR) h1
  obtain ⟨x2, rfl, _⟩ := Sur.rows (C := rowC) h2
  obtain ⟨x3, rfl, _⟩ := Sur.rows (C := gapC) h3
  obtain ⟨x4, rfl⟩ := h4.int_inv
  obtain ⟨x5, rfl⟩ := h5.int_inv
  obtain ⟨x6, rfl⟩ := h6.int_inv
  obtain ⟨x7, rfl⟩ := h7.bool_inv
  obtain ⟨x8, rfl⟩ := h8.bool_inv
  obtain ⟨x9, rfl⟩ := h9.int_inv
  obtain ⟨x10, rfl⟩ := h10.int_inv
  obtain ⟨x11, rfl⟩ := h11.int_inv
  obtain ⟨x12, rfl⟩ := h12.int_inv
  obtain ⟨x13, rfl⟩ := h13.bool_inv
  obtain ⟨x14, rfl⟩ := h14.int_inv
  obtain ⟨x15, rfl⟩ := h15.int_inv
  obtain ⟨x16, rfl, _⟩ := Sur.rows (C := rowC) h16
  obtain ⟨x17, rfl⟩ := h17.int_inv
  obtain ⟨x18, rfl, _⟩ := Sur.rows (C := slotC) h18
  obtain ⟨x19, rfl⟩ := h19.bool_inv
  obtain ⟨x20, rfl⟩ := h20.bool_inv
  obtain ⟨x21, rfl, _⟩ := Sur.rows (C := runR) h21
  obtain ⟨x22, rfl⟩ := h22.int_inv
  obtain ⟨x23, rfl⟩ := h23.bool_inv
  obtain ⟨x24, rfl⟩ := h24.int_inv
  obtain ⟨x25, rfl⟩ := h25.int_inv
  obtain ⟨x26, rfl⟩ := h26.int_inv
  rw [g26.nil_inv]
  exact ⟨⟨⟨⟨x0, x1⟩, x2, x3, x4, x5, x6⟩, ⟨x7, x8, x9⟩, (x10, x11), x12, x13, ⟨x14, x15, x16⟩, ⟨x17, x18⟩, ⟨x19, x20, x21, x22, x23, x24, x25⟩, x26⟩, rfl⟩

end Go.Proofs.YtkcdmmafkpplhaaGreat
/- EditorStays walked. -/
namespace Go.Proofs.YtkcdmmafkpplhaaGreat
open Go.Eng
theorem f_isT {d : Ed} (h : edIs d = true) : FnP PP 15 [edD d] (.bool true) := by have := f_edIs (t_ok h); rw [h] at this; exact this
theorem f_same01e {a b : List Int} (h : a = b) : FnP PP 11 [rl a, rl b] (.bool true) := by subst h; exact f_same01
theorem f_same19e {a b : Past} (h : a = b) : FnP PP 16 [pastD a, pastD b] (.bool true) := by subst h; exact f_same19
/-- The editor behind the first i keys. -/
def stK (d : Ed) (l : List (Int × Int)) (i : Nat) : Ed := (l.take i).foldl (fun d k => (keyS d k.1 k.2).ed) d
theorem stK_succ (d : Ed) {l : List (Int × Int)} {i : Nat} (h : i < l.length) : (keyS (stK d l i) l[i].1 l[i].2).ed = stK d l (i + 1) := by
  unfold stK; rw [List.take_succ_eq_append_getElem h, List.foldl_append]; rfl

theorem f_stays_k1 {p : Prop} (h : p := by
    first | rfl | (exfalso; omega) | contradiction | (exfalso; simp_all; done)) : p := h
set_option maxRecDepth 20000 in
theorem f_stays {d : Ed} {l : List (Int × Int)} : FnP PP 4 [edD d, .rows false (l.map keyR)] (.bool true) := by
  refine FnP.of_body Tryz.func4 rfl (by kernel_rfl) rfl ?_
  refine Wp.bound 1 rfl (fun hb1 => ?_)
  simp only [D.bd, D.bdL, List.length_map, and_true] at hb1
  refine Wp.seq <| reg <| bx0 66 rfl ?_
  refine asg0 rfl <| done ?_
  refine Wp.seq <| Wp.seq <| reg <| ldA0 rfl ?_
  refine clw0 rfl f_big24 rfl ?_
  refine mv0 rfl ?_
  refine bcase 11 rfl (fun h11 => ?_) (fun h11 => ?_)
  have nh11 := Nz h11
  refine sk0 rfl h11 <| sk0 rfl h11 <| sk0 rfl h11 <| pkt0 rfl h11 <| mv0 rfl <| sk0 rfl rfl <| sk0 rfl rfl <| sk0 rfl rfl <| pkt0 rfl rfl <| done ?_
  refine Wp.condT rfl rfl <| Wp.seq <| reg <| clw0 rfl f_typed rfl ?_
  refine asg0 rfl <| done ?_
  refine Wp.ret ?_
  refine Ends.ret (.cons (.tmp rfl (Fz.pure rfl)) <|  .nil) ?_
  · exact f_stays_k1
  have nh11 := Nz h11
  refine mv1 rfl h11 rfl ?_
  first | refine lnM1 rfl h11 rfl ?_ | refine lns1 rfl h11 rfl ?_ | refine ln1 rfl h11 rfl ?_
  refine cmp1 rfl h11 rfl <| pkf0 rfl h11 <| mv0 rfl ?_
  refine bcase 16 rfl (fun h16 => ?_) (fun h16 => ?_)
  have nh16 := Nz h16
  refine sk0 rfl h16 <| sk0 rfl h16 <| sk0 rfl h16 <| pkt0 rfl h16 <| done ?_
  refine Wp.condT rfl rfl <| Wp.seq <| reg <| clw0 rfl f_typed rfl ?_
  refine asg0 rfl <| done ?_
  refine Wp.ret ?_
  refine Ends.ret (.cons (.tmp rfl (Fz.pure rfl)) <|  .nil) ?_
  · exact f_stays_k1
  have nh16 := Nz h16
  refine ldA1 rfl h16 rfl ?_
  refine clw1 rfl h16 rfl (f_edIs (big_ok (by assumption))) rfl ?_
  refine nt1 rfl h16 rfl <| pkf0 rfl h16 <| done ?_
  refine Wp.cond rfl (fun c1 => ?_) (fun c1 => ?_)
  have nc1 := Nz c1
  refine Wp.seq <| reg <| clw0 rfl f_typed rfl ?_
  refine asg0 rfl <| done ?_
  refine Wp.ret ?_
  refine Ends.ret (.cons (.tmp rfl (Fz.pure rfl)) <|  .nil) ?_
  · exact f_stays_k1
  have nc1 := Nz c1
  refine Wp.skip <| Wp.seq <| Wp.seq <| reg <| asg0 rfl <| done ?_
  refine Wp.block ?_
  refine Wp.loopK (α := Nat) [1, 2] [] (fun x tl => (5, .int .i64 (x : Nat)) :: tl) (fun x tl => (66, some (.cells 46 (edC (stK d l x)))) :: tl) (fun x => x ≤ l.length ∧ edIs (stK d l x) = true) (fun x => l.length - x) (0) rfl rfl (⟨by omega, by assumption⟩) (Rp) (Rp) ?_
  intro x hx
  obtain ⟨hx1, hx2⟩ := hx
  refine Wp.seq <| Wp.seq <| reg <| mv0 rfl <| mv0 rfl ?_
  first | refine lnM0 rfl ?_ | refine lns0 rfl ?_ | refine ln0 rfl ?_
  refine cmp0 rfl <| done ?_
  refine Wp.cond rfl (fun c2 => ?_) (fun c2 => ?_)
  have nc2 := Nz c2
  refine Wp.skip <| Wp.seq <| Wp.block <| Wp.seq <| regd mixed ?_
  have hki := key_is hx2 l[x].1 l[x].2; have hk := key_stays hx2 l[x].1 l[x].2; have hkm := hk.map; have hkr := hk.room; have hkd := hk.dup
  refine ldA0 rfl ?_
  refine mv0 rfl <| mv0 rfl <| iaE0 (x) Bd rfl Eq' ?_
  refine ldA0 rfl ?_
  refine clw0 rfl (f_edKey (d := stK d l x) (k := l[x].1) (r := l[x].2) (t_ok hx2)) rfl ?_
  refine mv0 rfl <| xt0 rfl <| xt0 rfl <| xt0 rfl <| al0 70 rfl ?_
  refine stw0 rfl ?_
  refine asg0 rfl <| asg0 rfl ?_
  refine done ⟨by kernel_rfl, by kernel_rfl, ?_⟩
  refine Wp.seq <| Wp.seq <| reg <| ldA0 rfl ?_
  refine clw0 rfl (f_isT hki) rfl ?_
  refine nt0 rfl <| mv0 rfl ?_
  refine bcase 41 rfl (fun h41 => ?_) (fun h41 => ?_)
  have nh41 := Nz h41
  refine sk0 rfl h41 <| sk0 rfl h41 <| sk0 rfl h41 <| sk0 rfl h41 <| sk0 rfl h41 <| pkt0 rfl h41 <| mv0 rfl <| sk0 rfl rfl <| sk0 rfl rfl <| sk0 rfl rfl <| sk0 rfl rfl <| sk0 rfl rfl <| sk0 rfl rfl <| sk0 rfl rfl <| pkt0 rfl rfl <| mv0 rfl <| sk0 rfl rfl <| sk0 rfl rfl <| sk0 rfl rfl <| sk0 rfl rfl <| sk0 rfl rfl <| sk0 rfl rfl <| sk0 rfl rfl <| pkt0 rfl rfl <| done ?_
  refine Wp.condT rfl rfl <| Wp.seq <| reg <| asg0 rfl <| done ?_
  refine Wp.ret ?_
  refine Ends.ret (.cons (.tmp rfl (Fz.pure rfl)) <|  .nil) ?_
  · exact f_stays_k1
  have nh41 := Nz h41
  refine faA1 rfl h41 rfl ?_
  refine ldA1 rfl h41 rfl ?_
  refine faA1 rfl h41 rfl ?_
  refine ldA1 rfl h41 rfl ?_
  refine cmp1 rfl h41 rfl <| pkf0 rfl h41 <| mv0 rfl ?_
  refine bcase 48 rfl (fun h48 => ?_) (fun h48 => ?_)
  have nh48 := Nz h48
  refine sk0 rfl h48 <| sk0 rfl h48 <| sk0 rfl h48 <| sk0 rfl h48 <| sk0 rfl h48 <| sk0 rfl h48 <| sk0 rfl h48 <| pkt0 rfl h48 <| mv0 rfl <| sk0 rfl rfl <| sk0 rfl rfl <| sk0 rfl rfl <| sk0 rfl rfl <| sk0 rfl rfl <| sk0 rfl rfl <| sk0 rfl rfl <| pkt0 rfl rfl <| done ?_
  refine Wp.condT rfl rfl <| Wp.seq <| reg <| asg0 rfl <| done ?_
  refine Wp.ret ?_
  refine Ends.ret (.cons (.tmp rfl (Fz.pure rfl)) <|  .nil) ?_
  · exact f_stays_k1
  have nh48 := Nz h48
  refine faA1 rfl h48 rfl ?_
  refine faA1 rfl h48 rfl ?_
  refine ldA1 rfl h48 rfl ?_
  refine faA1 rfl h48 rfl ?_
  refine faA1 rfl h48 rfl ?_
  refine ldA1 rfl h48 rfl ?_
  refine cmp1 rfl h48 rfl <| pkf0 rfl h48 <| mv0 rfl ?_
  refine bcase 57 rfl (fun h57 => ?_) (fun h57 => ?_)
  have nh57 := Nz h57
  refine sk0 rfl h57 <| sk0 rfl h57 <| sk0 rfl h57 <| sk0 rfl h57 <| sk0 rfl h57 <| sk0 rfl h57 <| sk0 rfl h57 <| pkt0 rfl h57 <| done ?_
  refine Wp.condT rfl rfl <| Wp.seq <| reg <| asg0 rfl <| done ?_
  refine Wp.ret ?_
  refine Ends.ret (.cons (.tmp rfl (Fz.pure rfl)) <|  .nil) ?_
  · exact f_stays_k1
  have nh57 := Nz h57
  refine faA1 rfl h57 rfl ?_
  refine faA1 rfl h57 rfl ?_
  refine ldA1 rfl h57 rfl ?_
  refine faA1 rfl h57 rfl ?_
  refine faA1 rfl h57 rfl ?_
  refine ldA1 rfl h57 rfl ?_
  refine cmp1 rfl h57 rfl <| pkf0 rfl h57 <| done ?_
  refine Wp.cond rfl (fun c3 => ?_) (fun c3 => ?_)
  have nc3 := Nz c3
  refine Wp.seq <| reg <| asg0 rfl <| done ?_
  refine Wp.ret ?_
  refine Ends.ret (.cons (.tmp rfl (Fz.pure rfl)) <|  .nil) ?_
  · exact f_stays_k1
  have nc3 := Nz c3
  refine Wp.skip <| Wp.seq <| Wp.seq <| reg <| mv0 rfl <| mv0 rfl ?_
  refine bcase 67 rfl (fun h67 => ?_) (fun h67 => ?_)
  have nh67 := Nz h67
  have hy := hk.yes (by assumption); have hya : (keyS (stK d l x) l[x].1 l[x].2).ed.e.g.a.length = 0 ∧ (keyS (stK d l x) l[x].1 l[x].2).ed.e.g.b.length = 0 := by rw [hy.1]; exact ⟨rfl, rfl⟩
  refine faA1 rfl h67 rfl ?_
  refine faA1 rfl h67 rfl ?_
  refine faA1 rfl h67 rfl ?_
  refine ldA1 rfl h67 rfl ?_
  first | refine lnM1 rfl h67 rfl ?_ | refine lns1 rfl h67 rfl ?_ | refine ln1 rfl h67 rfl ?_
  refine faA1 rfl h67 rfl ?_
  refine faA1 rfl h67 rfl ?_
  refine faA1 rfl h67 rfl ?_
  refine ldA1 rfl h67 rfl ?_
  first | refine lnM1 rfl h67 rfl ?_ | refine lns1 rfl h67 rfl ?_ | refine ln1 rfl h67 rfl ?_
  refine ar1 rfl h67 rfl (wrapI Bd) <| cmp1 rfl h67 rfl <| mv1 rfl h67 rfl ?_
  refine bcase 80 rfl (fun h80 => ?_) (fun h80 => ?_)
  have nh80 := Nz h80
  refine sk0 rfl h80 <| sk0 rfl h80 <| sk0 rfl h80 <| sk0 rfl h80 <| sk0 rfl h80 <| sk0 rfl h80 <| sk0 rfl h80 <| sk0 rfl h80 <| pkt1 rfl h67 rfl h80 <| mv1 rfl h67 rfl <| sk0 rfl rfl <| sk0 rfl rfl <| sk0 rfl rfl <| sk0 rfl rfl <| sku0 rfl <| sku0 rfl <| sku0 rfl <| sku0 rfl <| sku0 rfl <| sku0 rfl <| sku0 rfl <| sku0 rfl <| sku0 rfl <| sku0 rfl <| sku0 rfl <| sku0 rfl <| sku0 rfl <| sku0 rfl <| sku0 rfl <| sku0 rfl <| sku0 rfl <| sku0 rfl <| sku0 rfl <| sku0 rfl <| sk0 rfl rfl <| pkt1 rfl h67 rfl rfl <| pkt0 rfl h67 <| done ?_
  refine Wp.condT rfl rfl <| Wp.seq <| reg <| asg0 rfl <| done ?_
  refine Wp.ret ?_
  refine Ends.ret (.cons (.tmp rfl (Fz.pure rfl)) <|  .nil) ?_
  · exact f_stays_k1
  have nh80 := Nz h80
  have hy2 := hy.2.1
  refine faA1 rfl h80 rfl ?_
  refine faA1 rfl h80 rfl ?_
  refine ldA1 rfl h80 rfl ?_
  refine faA1 rfl h80 rfl ?_
  refine faA1 rfl h80 rfl ?_
  refine ldA1 rfl h80 rfl ?_
  first | refine lnM1 rfl h80 rfl ?_ | refine lns1 rfl h80 rfl ?_ | refine ln1 rfl h80 rfl ?_
  refine cmp1 rfl h80 rfl <| pkf1 rfl h67 rfl h80 <| mv1 rfl h67 rfl ?_
  refine bcase 90 rfl (fun h90 => ?_) (fun h90 => ?_)
  have nh90 := Nz h90
  refine sk0 rfl h90 <| sk0 rfl h90 <| sk0 rfl h90 <| sk0 rfl h90 <| sku0 rfl <| sku0 rfl <| sku0 rfl <| sku0 rfl <| sku0 rfl <| sku0 rfl <| sku0 rfl <| sku0 rfl <| sku0 rfl <| sku0 rfl <| sku0 rfl <| sku0 rfl <| sku0 rfl <| sku0 rfl <| sku0 rfl <| sku0 rfl <| sku0 rfl <| sku0 rfl <| sku0 rfl <| sku0 rfl <| sk0 rfl h90 <| pkt1 rfl h67 rfl h90 <| pkt0 rfl h67 <| done ?_
  refine Wp.condT rfl rfl <| Wp.seq <| reg <| asg0 rfl <| done ?_
  refine Wp.ret ?_
  refine Ends.ret (.cons (.tmp rfl (Fz.pure rfl)) <|  .nil) ?_
  · exact f_stays_k1
  have nh90 := Nz h90
  refine mv1 rfl h90 rfl ?_
  first | refine lnM1 rfl h90 rfl ?_ | refine lns1 rfl h90 rfl ?_ | refine ln1 rfl h90 rfl ?_
  refine cmp1 rfl h90 rfl <| mv1 rfl h90 rfl ?_
  refine bcase 94 rfl (fun h94 => ?_) (fun h94 => ?_)
  have nh94 := Nz h94
  have hy3 := hy.2.2 (by omega); have hbl := pastIs_iff.1 hk.rt.p
  refine faA1 rfl h94 rfl ?_
  refine faA1 rfl h94 rfl ?_
  refine ldA1 rfl h94 rfl ?_
  first | refine lnM1 rfl h94 rfl ?_ | refine lns1 rfl h94 rfl ?_ | refine ln1 rfl h94 rfl ?_
  refine cmp1 rfl h94 rfl <| mv1 rfl h94 rfl ?_
  refine bcase 100 rfl (fun h100 => ?_) (fun h100 => ?_)
  have nh100 := Nz h100
  refine sk0 rfl h100 <| sk0 rfl h100 <| sk0 rfl h100 <| sk0 rfl h100 <| sk0 rfl h100 <| sk0 rfl h100 <| sk0 rfl h100 <| sk0 rfl h100 <| sk0 rfl h100 <| sk0 rfl h100 <| sk0 rfl h100 <| sk0 rfl h100 <| sk0 rfl h100 <| pkt1 rfl h94 rfl h100 <| pkt1 rfl h90 rfl h94 <| pkf1 rfl h67 rfl h90 <| pkt0 rfl h67 <| done ?_
  refine Wp.condT rfl rfl <| Wp.seq <| reg <| asg0 rfl <| done ?_
  refine Wp.ret ?_
  refine Ends.ret (.cons (.tmp rfl (Fz.pure rfl)) <|  .nil) ?_
  · exact f_stays_k1
  have nh100 := Nz h100
  have hy4 := hy3.1
  refine faA1 rfl h100 rfl ?_
  refine faA1 rfl h100 rfl ?_
  refine ldA1 rfl h100 rfl ?_
  refine faA1 rfl h100 rfl ?_
  refine faA1 rfl h100 rfl ?_
  refine ldA1 rfl h100 rfl ?_
  first | refine lnM1 rfl h100 rfl ?_ | refine lns1 rfl h100 rfl ?_ | refine ln1 rfl h100 rfl ?_
  refine ar1 rfl h100 rfl (wrapI Bd) <| iaD ([]) ((keyS (stK d l x) l[x].1 l[x].2).ed.p.l.length - 1) Bd rfl rfl Eq' rfl (.want rfl rfl h100) ?_
  refine ldA1 rfl h100 rfl ?_
  refine mv1 rfl h100 rfl <| clw1 rfl h100 rfl (f_same01e hy3.2) rfl ?_
  refine nt1 rfl h100 rfl <| pkf1 rfl h94 rfl h100 <| pkt1 rfl h90 rfl h94 <| pkf1 rfl h67 rfl h90 <| pkt0 rfl h67 <| done ?_
  refine Wp.cond rfl (fun c4 => ?_) (fun c4 => ?_)
  have nc4 := Nz c4
  refine Wp.seq <| reg <| asg0 rfl <| done ?_
  refine Wp.ret ?_
  refine Ends.ret (.cons (.tmp rfl (Fz.pure rfl)) <|  .nil) ?_
  · exact f_stays_k1
  have nc4 := Nz c4
  refine Wp.skip <| Wp.seq <| Wp.seq <| reg <| mv0 rfl <| nt0 rfl <| mv0 rfl ?_
  refine bcase 120 rfl (fun h120 => ?_) (fun h120 => ?_)
  have nh120 := Nz h120
  refine faA1 rfl h120 rfl ?_
  refine ldA1 rfl h120 rfl ?_
  refine faA1 rfl h120 rfl ?_
  refine ldA1 rfl h120 rfl ?_
  refine clw1 rfl h120 rfl (f_same19e (hk.no (by assumption))) rfl ?_
  refine nt1 rfl h120 rfl <| pkt0 rfl h120 <| done ?_
  refine Wp.cond rfl (fun c5 => ?_) (fun c5 => ?_)
  have nc5 := Nz c5
  refine Wp.seq <| reg <| asg0 rfl <| done ?_
  refine Wp.ret ?_
  refine Ends.ret (.cons (.tmp rfl (Fz.pure rfl)) <|  .nil) ?_
  · exact f_stays_k1
  have nc5 := Nz c5
  refine Wp.skip <| reg <| ldA0 rfl ?_
  refine stw0 rfl ?_
  refine done ?_
  refine reg <| mv0 rfl <| ar0 rfl (wrapI Bd) <| asg0 rfl <| done ?_
  exact ⟨x + 1, ⟨by omega, (stK_succ d (l := l) (i := x) (by omega)) ▸ hki⟩, by omega, Rp, ⟨congrArg (fun z => some (Blk.cells 46 (edC z))) (stK_succ d (l := l) (i := x) (by omega)), trivial⟩, rfl⟩
  have nh120 := Nz h120
  refine sk0 rfl h120 <| sk0 rfl h120 <| sk0 rfl h120 <| sk0 rfl h120 <| sk0 rfl h120 <| sk0 rfl h120 <| pkf0 rfl h120 <| done ?_
  refine Wp.condF rfl rfl <| Wp.skip <| reg <| ldA0 rfl ?_
  refine stw0 rfl ?_
  refine done ?_
  refine reg <| mv0 rfl <| ar0 rfl (wrapI Bd) <| asg0 rfl <| done ?_
  exact ⟨x + 1, ⟨by omega, (stK_succ d (l := l) (i := x) (by omega)) ▸ hki⟩, by omega, Rp, ⟨congrArg (fun z => some (Blk.cells 46 (edC z))) (stK_succ d (l := l) (i := x) (by omega)), trivial⟩, rfl⟩
  have nh94 := Nz h94
  refine sk0 rfl h94 <| sk0 rfl h94 <| sk0 rfl h94 <| sk0 rfl h94 <| sk0 rfl h94 <| sk0 rfl h94 <| sku0 rfl <| sku0 rfl <| sku0 rfl <| sku0 rfl <| sku0 rfl <| sku0 rfl <| sku0 rfl <| sku0 rfl <| sku0 rfl <| sku0 rfl <| sku0 rfl <| sku0 rfl <| sku0 rfl <| sk0 rfl h94 <| pkf1 rfl h90 rfl h94 <| pkf1 rfl h67 rfl h90 <| pkt0 rfl h67 <| done ?_
  refine Wp.condF rfl rfl <| Wp.skip <| Wp.seq <| Wp.seq <| reg <| mv0 rfl <| nt0 rfl <| mv0 rfl ?_
  refine bcase 120 rfl (fun h120 => ?_) (fun h120 => ?_)
  have nh120 := Nz h120
  refine faA1 rfl h120 rfl ?_
  refine ldA1 rfl h120 rfl ?_
  refine faA1 rfl h120 rfl ?_
  refine ldA1 rfl h120 rfl ?_
  refine clw1 rfl h120 rfl (f_same19e (hk.no (by assumption))) rfl ?_
  refine nt1 rfl h120 rfl <| pkt0 rfl h120 <| done ?_
  refine Wp.cond rfl (fun c6 => ?_) (fun c6 => ?_)
  have nc6 := Nz c6
  refine Wp.seq <| reg <| asg0 rfl <| done ?_
  refine Wp.ret ?_
  refine Ends.ret (.cons (.tmp rfl (Fz.pure rfl)) <|  .nil) ?_
  · exact f_stays_k1
  have nc6 := Nz c6
  refine Wp.skip <| reg <| ldA0 rfl ?_
  refine stw0 rfl ?_
  refine done ?_
  refine reg <| mv0 rfl <| ar0 rfl (wrapI Bd) <| asg0 rfl <| done ?_
  exact ⟨x + 1, ⟨by omega, (stK_succ d (l := l) (i := x) (by omega)) ▸ hki⟩, by omega, Rp, ⟨congrArg (fun z => some (Blk.cells 46 (edC z))) (stK_succ d (l := l) (i := x) (by omega)), trivial⟩, rfl⟩
  have nh120 := Nz h120
  refine sk0 rfl h120 <| sk0 rfl h120 <| sk0 rfl h120 <| sk0 rfl h120 <| sk0 rfl h120 <| sk0 rfl h120 <| pkf0 rfl h120 <| done ?_
  refine Wp.condF rfl rfl <| Wp.skip <| reg <| ldA0 rfl ?_
  refine stw0 rfl ?_
  refine done ?_
  refine reg <| mv0 rfl <| ar0 rfl (wrapI Bd) <| asg0 rfl <| done ?_
  exact ⟨x + 1, ⟨by omega, (stK_succ d (l := l) (i := x) (by omega)) ▸ hki⟩, by omega, Rp, ⟨congrArg (fun z => some (Blk.cells 46 (edC z))) (stK_succ d (l := l) (i := x) (by omega)), trivial⟩, rfl⟩
  have nh67 := Nz h67
  refine sk0 rfl h67 <| sk0 rfl h67 <| sk0 rfl h67 <| sk0 rfl h67 <| sk0 rfl h67 <| sk0 rfl h67 <| sk0 rfl h67 <| sk0 rfl h67 <| sk0 rfl h67 <| sk0 rfl h67 <| sk0 rfl h67 <| sk0 rfl h67 <| sk0 rfl h67 <| sku0 rfl <| sku0 rfl <| sku0 rfl <| sku0 rfl <| sku0 rfl <| sku0 rfl <| sku0 rfl <| sku0 rfl <| sk0 rfl h67 <| sk0 rfl h67 <| sku0 rfl <| sku0 rfl <| sku0 rfl <| sku0 rfl <| sku0 rfl <| sku0 rfl <| sku0 rfl <| sku0 rfl <| sku0 rfl <| sku0 rfl <| sku0 rfl <| sku0 rfl <| sku0 rfl <| sku0 rfl <| sku0 rfl <| sku0 rfl <| sku0 rfl <| sku0 rfl <| sku0 rfl <| sku0 rfl <| sku0 rfl <| sku0 rfl <| sku0 rfl <| sku0 rfl <| sku0 rfl <| sk0 rfl h67 <| pkf0 rfl h67 <| done ?_
  refine Wp.condF rfl rfl <| Wp.skip <| Wp.seq <| Wp.seq <| reg <| mv0 rfl <| nt0 rfl <| mv0 rfl ?_
  refine bcase 120 rfl (fun h120 => ?_) (fun h120 => ?_)
  have nh120 := Nz h120
  refine faA1 rfl h120 rfl ?_
  refine ldA1 rfl h120 rfl ?_
  refine faA1 rfl h120 rfl ?_
  refine ldA1 rfl h120 rfl ?_
  refine clw1 rfl h120 rfl (f_same19e (hk.no (by assumption))) rfl ?_
  refine nt1 rfl h120 rfl <| pkt0 rfl h120 <| done ?_
  refine Wp.cond rfl (fun c7 => ?_) (fun c7 => ?_)
  have nc7 := Nz c7
  refine Wp.seq <| reg <| asg0 rfl <| done ?_
  refine Wp.ret ?_
  refine Ends.ret (.cons (.tmp rfl (Fz.pure rfl)) <|  .nil) ?_
  · exact f_stays_k1
  have nc7 := Nz c7
  refine Wp.skip <| reg <| ldA0 rfl ?_
  refine stw0 rfl ?_
  refine done ?_
  refine reg <| mv0 rfl <| ar0 rfl (wrapI Bd) <| asg0 rfl <| done ?_
  exact ⟨x + 1, ⟨by omega, (stK_succ d (l := l) (i := x) (by omega)) ▸ hki⟩, by omega, Rp, ⟨congrArg (fun z => some (Blk.cells 46 (edC z))) (stK_succ d (l := l) (i := x) (by omega)), trivial⟩, rfl⟩
  have nh120 := Nz h120
  refine sk0 rfl h120 <| sk0 rfl h120 <| sk0 rfl h120 <| sk0 rfl h120 <| sk0 rfl h120 <| sk0 rfl h120 <| pkf0 rfl h120 <| done ?_
  refine Wp.condF rfl rfl <| Wp.skip <| reg <| ldA0 rfl ?_
  refine stw0 rfl ?_
  refine done ?_
  refine reg <| mv0 rfl <| ar0 rfl (wrapI Bd) <| asg0 rfl <| done ?_
  exact ⟨x + 1, ⟨by omega, (stK_succ d (l := l) (i := x) (by omega)) ▸ hki⟩, by omega, Rp, ⟨congrArg (fun z => some (Blk.cells 46 (edC z))) (stK_succ d (l := l) (i := x) (by omega)), trivial⟩, rfl⟩
  have nc2 := Nz c2
  refine Wp.exit <| Wp.seq <| reg <| clw0 rfl f_typed rfl ?_
  refine asg0 rfl <| done ?_
  refine Wp.ret ?_
  refine Ends.ret (.cons (.tmp rfl (Fz.pure rfl)) <|  .nil) ?_
  · exact f_stays_k1

end Go.Proofs.YtkcdmmafkpplhaaGreat
/- EditorSeeks: the plain law, and the walk. -/
namespace Go.Proofs.YtkcdmmafkpplhaaGreat
open Go.Eng
/-- Behind signs of a search that began at d. -/
structure Sq (d a : Ed) : Prop where
  is_ : edIs a = true
  on : a.f.on = true
  e : a.e = (offS d).e
  p : a.p = d.p
  s : a.s = d.s
theorem sq_quote {d a : Ed} (h : Sq d a) : a.quote = false := ((edIs_rt h.is_).2.1 h.on).1
theorem sq_start {d : Ed} (hd : edIs d = true) (ho : d.f.on = false) (hq : d.quote = false) (hm : d.map = 0) : Sq d (keyS d 1 18).ed := by
  have e : keyS d 1 18 = ⟨setC (searchS d false) noCount, [], false⟩ := by
    rw [key_e6 hd hq ho]
    unfold keyEd
    rw [if_neg (by show ¬ d.map = 1; omega)]
    rfl
  have hi := key_is hd 1 18
  rw [e] at hi ⊢
  exact ⟨hi, rfl, rfl, rfl, rfl⟩
def sgn (r : Int) : Prop := r = 8 ∨ r = 18 ∨ r = 19 ∨ (32 ≤ r ∧ signB r = true)
theorem sgn_seek {r : Int} (h : sgn r) (a : Ed) : (seekEd a r).2 = true ∧ (seekEd a r).1.f.on = a.f.on := by
  unfold seekEd
  by_cases h1 : r = 7
  · exfalso; rcases h with h | h | h | h <;> omega
  rw [if_neg h1]
  by_cases h2 : r = 18 ∨ r = 19
  · rw [if_pos h2]; exact ⟨rfl, (look_f (setF a (foreF a.f (r == 19))) a.f.pat (turnFrom a.f (r == 19))).1⟩
  rw [if_neg h2]
  by_cases h3 : r = 8 ∨ r = 127
  · rw [if_pos h3]; exact ⟨rfl, (look_f (setF a (lessF a.f)) (lessF a.f).pat a.f.from_).1⟩
  rw [if_neg h3]
  have h4 : 32 ≤ r ∧ signB r = true := by rcases h with h | h | h | h; omega; omega; omega; exact h
  rw [if_neg (by rw [h4.2]; simp; omega)]
  by_cases h5 : a.f.pat.length < 200
  · rw [if_pos h5]
    generalize (if a.f.hit = true then a.f.i else a.f.from_) = fr
    have g := look_f a (a.f.pat ++ [r]) fr
    refine ⟨rfl, ?_⟩
    show (if (lookS a (a.f.pat ++ [r]) fr).2 = true then setF (lookS a (a.f.pat ++ [r]) fr).1 (patF (lookS a (a.f.pat ++ [r]) fr).1.f (a.f.pat ++ [r])) else (lookS a (a.f.pat ++ [r]) fr).1).f.on = _
    split
    · exact g.1
    · exact g.1
  · rw [if_neg h5]; exact ⟨rfl, rfl⟩
theorem sq_key {d a : Ed} {r : Int} (h : Sq d a) (hr : sgn r) : keyS a 1 r = ⟨(seekEd a r).1, [], false⟩ := key_e3 h.is_ (sq_quote h) h.on rfl (sgn_seek hr a).1
theorem sq_step {d a : Ed} {r : Int} (h : Sq d a) (hr : sgn r) : Sq d (keyS a 1 r).ed ∧ (keyS a 1 r).is_ = false := by
  have e := sq_key h hr
  have hi := key_is h.is_ 1 r
  have hs := ((edIs_rt h.is_).2.1 h.on).2
  have k := seek_keeps h.on hs (sgn_seek hr a).1
  rw [e] at hi ⊢
  exact ⟨⟨hi, (sgn_seek hr a).2.trans h.on, k.ee.trans h.e, k.p.trans h.p, k.s.trans h.s⟩, rfl⟩
theorem place_at {pat : List Int} : ∀ {l : List Int} {i : Int}, 0 ≤ i → 0 ≤ placeS pat l i → i ≤ placeS pat l i ∧ placeS pat l i - i ≤ l.length ∧ standsS (l.drop (placeS pat l i - i).toNat) pat = true
  | [], i, _, h => by simp [placeS] at h
  | a :: r, i, hi, h => by
    unfold placeS at h ⊢
    split
    · rename_i hs
      refine ⟨by omega, by omega, ?_⟩
      rw [show (i - i).toNat = 0 by omega]; exact hs
    · rename_i hs
      rw [if_neg hs] at h
      obtain ⟨h1, h2, h3⟩ := place_at (by omega) h
      refine ⟨by omega, by simp only [List.length_cons]; omega, ?_⟩
      rw [show (placeS pat r (i + 1) - i).toNat = (placeS pat r (i + 1) - (i + 1)).toNat + 1 by omega]
      exact h3
/-- What is found stands at the point of what is shown. -/
theorem sq_hit {d a : Ed} (h : Sq d a) (hh : a.f.hit = true) : a.f.pat.length ≤ (shownS a).2.b.length ∧ (shownS a).2.b.take a.f.pat.length = a.f.pat := by
  have hs := ((edIs_rt h.is_).2.1 h.on).2
  obtain ⟨h1, h2, h3, h4, h5, h6⟩ := seeks_parts hs
  obtain ⟨h7, h8, h9⟩ := h6 hh
  obtain ⟨p1, p2, p3, p4⟩ := past_one h7
  have ho := oneS_iff.1 p1
  rw [p4] at ho h9
  have e : shownS a = ([if a.f.fore = true then 47 else 63] ++ a.f.pat ++ [58, 32], (ofS (a.p.l.getD a.f.i.toNat []) a.f.at_).1) := by
    unfold shownS
    rw [if_neg (by rw [h.is_]; simp), if_neg (by rw [h.on]; simp), if_neg (by rw [h.on]; simp), if_neg (by rw [hh]; simp)]
  rw [e]
  generalize a.p.l.getD a.f.i.toNat [] = l at ho h9
  have hp : a.f.pat.length ≠ 0 := fun h0 => by unfold placeOf at h9; rw [if_pos h0] at h9; omega
  unfold placeOf at h9
  rw [if_neg hp] at h9
  obtain ⟨q1, q2, q3⟩ := place_at (pat := a.f.pat) (l := l) (i := 0) (by omega) (by omega)
  rw [h9, Int.sub_zero] at q2 q3
  have e2 : (ofS l a.f.at_).1 = ⟨l.take a.f.at_.toNat, l.drop a.f.at_.toNat⟩ := by
    unfold ofS
    rw [if_neg (by rw [ho.1]; simp; omega), if_neg (by omega)]
    rfl
  rw [e2]
  simp only [standsS, decide_eq_true_eq] at q3
  exact q3
theorem sq_no {d a : Ed} (h : Sq d a) (hh : a.f.hit = false) : (shownS a).2 = d.e.g := by
  have e : shownS a = ([if a.f.fore = true then 47 else 63] ++ a.f.pat ++ [58, 32], a.e.g) := by
    unfold shownS
    rw [if_neg (by rw [h.is_]; simp), if_neg (by rw [h.on]; simp), if_neg (by rw [h.on]; simp), if_pos hh]
  rw [e, h.e]; rfl
theorem sq_end {d a : Ed} (h : Sq d a) : keyS a 1 7 = ⟨setC (setF a noSearch) noCount, [], false⟩ := by
  have e : seekEd a 7 = (setC (setF a noSearch) noCount, true) := by unfold seekEd; rw [if_pos rfl]
  rw [key_e3 h.is_ (sq_quote h) h.on rfl (by rw [e]), e]
/-- The editor behind the first i of these signs; those that are none of a search are passed over. -/
def sqK (d : Ed) (l : List Int) (i : Nat) : Ed := (l.take i).foldl (fun a r => if r = 8 ∨ r = 18 ∨ r = 19 ∨ (32 ≤ r ∧ signB r = true) then (keyS a 1 r).ed else a) (keyS d 1 18).ed
theorem sqK_succ (d : Ed) {l : List Int} {i : Nat} (h : i < l.length) : sqK d l (i + 1) = if l[i] = 8 ∨ l[i] = 18 ∨ l[i] = 19 ∨ (32 ≤ l[i] ∧ signB l[i] = true) then (keyS (sqK d l i) 1 l[i]).ed else sqK d l i := by
  unfold sqK; rw [List.take_succ_eq_append_getElem h, List.foldl_append]; rfl
theorem sqK_yes (d : Ed) {l : List Int} {i : Nat} (h : i < l.length) (hr : sgn l[i]) : (keyS (sqK d l i) 1 l[i]).ed = sqK d l (i + 1) := (sqK_succ d h ▸ (if_pos hr).symm)
theorem sqK_no (d : Ed) {l : List Int} {i : Nat} (h : i < l.length) (hr : ¬ sgn l[i]) : sqK d l i = sqK d l (i + 1) := (sqK_succ d h ▸ (if_neg hr).symm)
theorem f_same10e {a b : Gap} (h : a = b) : FnP PP 21 [gapD a, gapD b] (.bool true) := by subst h; exact f_same10
theorem f_same12e {a b : List (List Int)} (h : a = b) : FnP PP 22 [killsD a, killsD b] (.bool true) := by subst h; exact f_same12
theorem f_same13e {a b : List Gap} (h : a = b) : FnP PP 23 [undoD a, undoD b] (.bool true) := by subst h; exact f_same13
theorem f_same20e {a b : Stash} (h : a = b) : FnP PP 24 [stashD a, stashD b] (.bool true) := by subst h; exact f_same20
theorem sq_g {d a : Ed} (h : Sq d a) : (setC (setF a noSearch) noCount).e.g = d.e.g := (congrArg Edit.g h.e :)
theorem sq_k {d a : Ed} (h : Sq d a) : (setC (setF a noSearch) noCount).e.k = d.e.k := (congrArg Edit.k h.e :)
theorem sq_u {d a : Ed} (h : Sq d a) : (setC (setF a noSearch) noCount).e.u = d.e.u := (congrArg Edit.u h.e :)
theorem f_sqEnd {d a : Ed} (h : Sq d a) : FnP PP 9 [edD a, .agg [.int .i64 1, .int .i32 7]] (.tup [edD (setC (setF a noSearch) noCount), rl [], .bool false]) := c_key h.is_ (sq_end h)
theorem f_sqKey {d a : Ed} {r : Int} (h : Sq d a) (hr : sgn r) : FnP PP 9 [edD a, .agg [.int .i64 1, .int .i32 r]] (.tup [edD (keyS a 1 r).ed, rl [], .bool false]) := c_key h.is_ (by rw [sq_key h hr])

theorem f_seeksLaw_k1 {p : Prop} (h : p := by
    first | rfl | (exfalso; omega) | contradiction | (exfalso; have h9 := hs1.on; simp_all; done)) : p := h
set_option maxHeartbeats 4000000 in
set_option maxRecDepth 20000 in
theorem f_seeksLaw {d : Ed} {l : List Int} : FnP PP 6 [edD d, rl l] (.bool true) := by
  refine FnP.of_body Tryz.func6 rfl (by kernel_rfl) rfl ?_
  refine Wp.bound 1 rfl (fun hb1 => ?_)
  simp only [D.bd, D.bdL, List.length_map, and_true] at hb1
  refine Wp.seq <| reg <| bx0 66 rfl ?_
  refine asg0 rfl <| done ?_
  refine Wp.seq <| Wp.seq <| reg <| ldA0 rfl ?_
  refine clw0 rfl f_big24 rfl ?_
  refine mv0 rfl ?_
  refine bcase 21 rfl (fun h21 => ?_) (fun h21 => ?_)
  have nh21 := Nz h21
  refine sk0 rfl h21 <| sk0 rfl h21 <| sk0 rfl h21 <| pkt0 rfl h21 <| mv0 rfl <| sk0 rfl rfl <| sk0 rfl rfl <| sk0 rfl rfl <| pkt0 rfl rfl <| mv0 rfl <| sk0 rfl rfl <| sk0 rfl rfl <| sk0 rfl rfl <| pkt0 rfl rfl <| mv0 rfl <| sk0 rfl rfl <| sk0 rfl rfl <| pkt0 rfl rfl <| mv0 rfl <| sk0 rfl rfl <| sk0 rfl rfl <| sk0 rfl rfl <| pkt0 rfl rfl <| done ?_
  refine Wp.condT rfl rfl <| Wp.seq <| reg <| clw0 rfl f_typed rfl ?_
  refine asg0 rfl <| done ?_
  refine Wp.ret ?_
  refine Ends.ret (.cons (.tmp rfl (Fz.pure rfl)) <|  .nil) ?_
  · exact f_seeksLaw_k1
  have nh21 := Nz h21
  refine mv1 rfl h21 rfl ?_
  first | refine lnM1 rfl h21 rfl ?_ | refine lns1 rfl h21 rfl ?_ | refine ln1 rfl h21 rfl ?_
  refine cmp1 rfl h21 rfl <| pkf0 rfl h21 <| mv0 rfl ?_
  refine bcase 26 rfl (fun h26 => ?_) (fun h26 => ?_)
  have nh26 := Nz h26
  refine sk0 rfl h26 <| sk0 rfl h26 <| sk0 rfl h26 <| pkt0 rfl h26 <| mv0 rfl <| sk0 rfl rfl <| sk0 rfl rfl <| sk0 rfl rfl <| pkt0 rfl rfl <| mv0 rfl <| sk0 rfl rfl <| sk0 rfl rfl <| pkt0 rfl rfl <| mv0 rfl <| sk0 rfl rfl <| sk0 rfl rfl <| sk0 rfl rfl <| pkt0 rfl rfl <| done ?_
  refine Wp.condT rfl rfl <| Wp.seq <| reg <| clw0 rfl f_typed rfl ?_
  refine asg0 rfl <| done ?_
  refine Wp.ret ?_
  refine Ends.ret (.cons (.tmp rfl (Fz.pure rfl)) <|  .nil) ?_
  · exact f_seeksLaw_k1
  have nh26 := Nz h26
  refine ldA1 rfl h26 rfl ?_
  refine clw1 rfl h26 rfl (f_edIs (big_ok (by assumption))) rfl ?_
  refine nt1 rfl h26 rfl <| pkf0 rfl h26 <| mv0 rfl ?_
  refine bcase 31 rfl (fun h31 => ?_) (fun h31 => ?_)
  have nh31 := Nz h31
  refine sk0 rfl h31 <| sk0 rfl h31 <| sk0 rfl h31 <| pkt0 rfl h31 <| mv0 rfl <| sk0 rfl rfl <| sk0 rfl rfl <| pkt0 rfl rfl <| mv0 rfl <| sk0 rfl rfl <| sk0 rfl rfl <| sk0 rfl rfl <| pkt0 rfl rfl <| done ?_
  refine Wp.condT rfl rfl <| Wp.seq <| reg <| clw0 rfl f_typed rfl ?_
  refine asg0 rfl <| done ?_
  refine Wp.ret ?_
  refine Ends.ret (.cons (.tmp rfl (Fz.pure rfl)) <|  .nil) ?_
  · exact f_seeksLaw_k1
  have nh31 := Nz h31
  refine faA1 rfl h31 rfl ?_
  refine faA1 rfl h31 rfl ?_
  refine ldA1 rfl h31 rfl ?_
  refine pkf0 rfl h31 <| mv0 rfl ?_
  refine bcase 36 rfl (fun h36 => ?_) (fun h36 => ?_)
  have nh36 := Nz h36
  refine sk0 rfl h36 <| sk0 rfl h36 <| pkt0 rfl h36 <| mv0 rfl <| sk0 rfl rfl <| sk0 rfl rfl <| sk0 rfl rfl <| pkt0 rfl rfl <| done ?_
  refine Wp.condT rfl rfl <| Wp.seq <| reg <| clw0 rfl f_typed rfl ?_
  refine asg0 rfl <| done ?_
  refine Wp.ret ?_
  refine Ends.ret (.cons (.tmp rfl (Fz.pure rfl)) <|  .nil) ?_
  · exact f_seeksLaw_k1
  have nh36 := Nz h36
  refine faA1 rfl h36 rfl ?_
  refine ldA1 rfl h36 rfl ?_
  refine pkf0 rfl h36 <| mv0 rfl ?_
  refine bcase 40 rfl (fun h40 => ?_) (fun h40 => ?_)
  have nh40 := Nz h40
  refine sk0 rfl h40 <| sk0 rfl h40 <| sk0 rfl h40 <| pkt0 rfl h40 <| done ?_
  refine Wp.condT rfl rfl <| Wp.seq <| reg <| clw0 rfl f_typed rfl ?_
  refine asg0 rfl <| done ?_
  refine Wp.ret ?_
  refine Ends.ret (.cons (.tmp rfl (Fz.pure rfl)) <|  .nil) ?_
  · exact f_seeksLaw_k1
  have nh40 := Nz h40
  refine faA1 rfl h40 rfl ?_
  refine ldA1 rfl h40 rfl ?_
  refine cmp1 rfl h40 rfl <| pkf0 rfl h40 <| done ?_
  refine Wp.cond rfl (fun c1 => ?_) (fun c1 => ?_)
  have nc1 := Nz c1
  refine Wp.seq <| reg <| clw0 rfl f_typed rfl ?_
  refine asg0 rfl <| done ?_
  refine Wp.ret ?_
  refine Ends.ret (.cons (.tmp rfl (Fz.pure rfl)) <|  .nil) ?_
  · exact f_seeksLaw_k1
  have nc1 := Nz c1
  refine Wp.skip <| Wp.seq <| regd mixed ?_
  refine ldA0 rfl ?_
  refine clw0 rfl f_lawSign rfl ?_
  refine clw0 rfl (f_edKey (d := d) (k := 1) (r := 18) (t_ok (by assumption))) rfl ?_
  refine mv0 rfl <| xt0 rfl <| xt0 rfl <| xt0 rfl <| al0 69 rfl ?_
  refine stw0 rfl ?_
  refine asg0 rfl <| asg0 rfl ?_
  refine done ⟨by kernel_rfl, by kernel_rfl, ?_⟩
  refine Wp.seq <| Wp.seq <| reg <| asg0 rfl <| done ?_
  refine Wp.block ?_
  refine Wp.loopK (α := Nat) [1, 2, 5] [66] (fun x tl => (8, .int .i64 (x : Nat)) :: tl) (fun x tl => (69, some (.cells 46 (edC (sqK d l x)))) :: tl) (fun x => x ≤ l.length ∧ Sq d (sqK d l x)) (fun x => l.length - x) (0) rfl rfl (⟨by omega, sq_start (by assumption) (by assumption) (by assumption) (by assumption)⟩) (Rp) (Rp) ?_
  intro x hx
  obtain ⟨hx1, hx2⟩ := hx
  refine Wp.seq <| Wp.seq <| reg <| mv0 rfl <| mv0 rfl ?_
  first | refine lnM0 rfl ?_ | refine lns0 rfl ?_ | refine ln0 rfl ?_
  refine cmp0 rfl <| done ?_
  refine Wp.cond rfl (fun c2 => ?_) (fun c2 => ?_)
  have nc2 := Nz c2
  refine Wp.skip <| Wp.seq <| Wp.block <| Wp.seq <| reg <| mv0 rfl <| mv0 rfl <| iaE0 (x) Bd rfl Eq' ?_
  refine ldA0 rfl ?_
  refine asg0 rfl <| done ?_
  refine Wp.seq <| Wp.seq <| reg <| mv0 rfl <| cmp0 rfl <| mv0 rfl ?_
  refine bcase 65 rfl (fun h65 => ?_) (fun h65 => ?_)
  have nh65 := Nz h65
  refine mv1 rfl h65 rfl <| cmp1 rfl h65 rfl <| pkt0 rfl h65 <| mv0 rfl ?_
  refine bcase 69 rfl (fun h69 => ?_) (fun h69 => ?_)
  have nh69 := Nz h69
  refine mv1 rfl h69 rfl <| cmp1 rfl h69 rfl <| pkt0 rfl h69 <| mv0 rfl ?_
  refine bcase 73 rfl (fun h73 => ?_) (fun h73 => ?_)
  have nh73 := Nz h73
  refine mv1 rfl h73 rfl <| cmp1 rfl h73 rfl <| mv1 rfl h73 rfl ?_
  refine bcase 76 rfl (fun h76 => ?_) (fun h76 => ?_)
  have nh76 := Nz h76
  refine sk0 rfl h76 <| sk0 rfl h76 <| sk0 rfl h76 <| pkt1 rfl h73 rfl h76 <| pkt0 rfl h73 <| done ?_
  refine Wp.condT rfl rfl <| Wp.exit <| reg <| mv0 rfl <| ar0 rfl (wrapI Bd) <| asg0 rfl <| done ?_
  first | exact ⟨x + 1, ⟨by omega, (sqK_yes d (l := l) (i := x) (by omega) hsg) ▸ hs1⟩, by omega, Rp, ⟨congrArg (fun z => some (Blk.cells 46 (edC z))) (sqK_yes d (l := l) (i := x) (by omega) hsg), Rp⟩, rfl⟩ | exact ⟨x + 1, ⟨by omega, (sqK_no d (l := l) (i := x) (by omega) (by rintro (h | h | h | ⟨h1, h2⟩) <;> first | omega | (simp_all; done))) ▸ hx2⟩, by omega, Rp, ⟨congrArg (fun z => some (Blk.cells 46 (edC z))) (sqK_no d (l := l) (i := x) (by omega) (by rintro (h | h | h | ⟨h1, h2⟩) <;> first | omega | (simp_all; done))), Rp⟩, rfl⟩
  have nh76 := Nz h76
  refine mv1 rfl h76 rfl <| clw1 rfl h76 rfl f_glyphIs rfl ?_
  refine nt1 rfl h76 rfl <| pkf1 rfl h73 rfl h76 <| pkt0 rfl h73 <| done ?_
  refine Wp.cond rfl (fun c3 => ?_) (fun c3 => ?_)
  have nc3 := Nz c3
  refine Wp.exit <| reg <| mv0 rfl <| ar0 rfl (wrapI Bd) <| asg0 rfl <| done ?_
  first | exact ⟨x + 1, ⟨by omega, (sqK_yes d (l := l) (i := x) (by omega) hsg) ▸ hs1⟩, by omega, Rp, ⟨congrArg (fun z => some (Blk.cells 46 (edC z))) (sqK_yes d (l := l) (i := x) (by omega) hsg), Rp⟩, rfl⟩ | exact ⟨x + 1, ⟨by omega, (sqK_no d (l := l) (i := x) (by omega) (by rintro (h | h | h | ⟨h1, h2⟩) <;> first | omega | (simp_all; done))) ▸ hx2⟩, by omega, Rp, ⟨congrArg (fun z => some (Blk.cells 46 (edC z))) (sqK_no d (l := l) (i := x) (by omega) (by rintro (h | h | h | ⟨h1, h2⟩) <;> first | omega | (simp_all; done))), Rp⟩, rfl⟩
  have nc3 := Nz c3
  refine Wp.skip <| Wp.seq <| regd mixed ?_
  have hsg : sgn l[x] := by first | exact .inl (by omega) | exact .inr (.inl (by omega)) | exact .inr (.inr (.inl (by omega))) | exact .inr (.inr (.inr ⟨by omega, by assumption⟩))
  refine ldA0 rfl ?_
  refine mv0 rfl <| clw0 rfl f_lawSign rfl ?_
  refine clw0 rfl (f_sqKey hx2 hsg) rfl ?_
  refine mv0 rfl <| xt0 rfl <| xt0 rfl <| xt0 rfl <| al0 74 rfl ?_
  refine stw0 rfl ?_
  refine asg0 rfl <| asg0 rfl ?_
  refine done ⟨by kernel_rfl, by kernel_rfl, ?_⟩
  refine Wp.seq <| reg ?_
  have hs1 := (sq_step hx2 hsg).1
  refine ldA0 rfl ?_
  refine clw0 rfl (f_edShown (d := (keyS (sqK d l x) 1 l[x]).ed) (t_ok hs1.is_)) rfl ?_
  refine mv0 rfl <| xt0 rfl <| xt0 rfl <| al0 78 rfl ?_
  refine asg0 rfl <| stw0 rfl ?_
  refine done ?_
  refine Wp.seq <| reg <| faA0 rfl ?_
  refine faA0 rfl ?_
  refine ldA0 rfl ?_
  first | refine lnM0 rfl ?_ | refine lns0 rfl ?_ | refine ln0 rfl ?_
  refine asg0 rfl <| done ?_
  refine Wp.seq <| Wp.seq <| regd mixed ?_
  refine mv0 rfl <| mv0 rfl ?_
  refine bcase 100 rfl (fun h100 => ?_) (fun h100 => ?_)
  have nh100 := Nz h100
  refine sk0 rfl h100 <| sk0 rfl h100 <| sk0 rfl h100 <| sk0 rfl h100 <| pkt0 rfl h100 <| mv0 rfl <| sk0 rfl rfl <| sk0 rfl rfl <| sk0 rfl rfl <| sk0 rfl rfl <| sku0 rfl <| sku0 rfl <| sku0 rfl <| sku0 rfl <| sku0 rfl <| sku0 rfl <| sku0 rfl <| sku0 rfl <| sku0 rfl <| sku0 rfl <| sku0 rfl <| sku0 rfl <| sku0 rfl <| sku0 rfl <| sku0 rfl <| sku0 rfl <| sk0 rfl rfl <| pkt0 rfl rfl <| mv0 rfl <| sk0 rfl rfl <| sk0 rfl rfl <| sk0 rfl rfl <| sk0 rfl rfl <| sk0 rfl rfl <| sku0 rfl <| sku0 rfl <| sku0 rfl <| sku0 rfl <| sku0 rfl <| sku0 rfl <| sk0 rfl rfl <| pkt0 rfl rfl ?_
  refine done ⟨by kernel_rfl, by kernel_rfl, ?_⟩
  refine Wp.condT rfl rfl <| Wp.seq <| reg <| asg0 rfl <| done ?_
  refine Wp.ret ?_
  refine Ends.ret (.cons (.tmp rfl (Fz.pure rfl)) <|  .nil) ?_
  · exact f_seeksLaw_k1
  have nh100 := Nz h100
  refine faA1 rfl h100 rfl ?_
  refine faA1 rfl h100 rfl ?_
  refine ldA1 rfl h100 rfl ?_
  refine nt1 rfl h100 rfl <| pkf0 rfl h100 <| mv0 rfl ?_
  refine bcase 106 rfl (fun h106 => ?_) (fun h106 => ?_)
  have nh106 := Nz h106
  refine sk0 rfl h106 <| sk0 rfl h106 <| sk0 rfl h106 <| sk0 rfl h106 <| sku0 rfl <| sku0 rfl <| sku0 rfl <| sku0 rfl <| sku0 rfl <| sku0 rfl <| sku0 rfl <| sku0 rfl <| sku0 rfl <| sku0 rfl <| sku0 rfl <| sku0 rfl <| sku0 rfl <| sku0 rfl <| sku0 rfl <| sku0 rfl <| sk0 rfl h106 <| pkt0 rfl h106 <| mv0 rfl <| sk0 rfl rfl <| sk0 rfl rfl <| sk0 rfl rfl <| sk0 rfl rfl <| sk0 rfl rfl <| sku0 rfl <| sku0 rfl <| sku0 rfl <| sku0 rfl <| sku0 rfl <| sku0 rfl <| sk0 rfl rfl <| pkt0 rfl rfl ?_
  refine done ⟨by kernel_rfl, by kernel_rfl, ?_⟩
  refine Wp.condT rfl rfl <| Wp.seq <| reg <| asg0 rfl <| done ?_
  refine Wp.ret ?_
  refine Ends.ret (.cons (.tmp rfl (Fz.pure rfl)) <|  .nil) ?_
  · exact f_seeksLaw_k1
  have nh106 := Nz h106
  refine faA1 rfl h106 rfl ?_
  refine faA1 rfl h106 rfl ?_
  refine ldA1 rfl h106 rfl ?_
  refine mv1 rfl h106 rfl ?_
  refine bcase 110 rfl (fun h110 => ?_) (fun h110 => ?_)
  have nh110 := Nz h110
  have hsh := (sq_hit hs1 (by assumption)).1
  refine faA1 rfl h110 rfl ?_
  refine ldA1 rfl h110 rfl ?_
  first | refine lnM1 rfl h110 rfl ?_ | refine lns1 rfl h110 rfl ?_ | refine ln1 rfl h110 rfl ?_
  refine mv1 rfl h110 rfl <| cmp1 rfl h110 rfl <| mv1 rfl h110 rfl ?_
  refine bcase 116 rfl (fun h116 => ?_) (fun h116 => ?_)
  have nh116 := Nz h116
  refine sk0 rfl h116 <| sk0 rfl h116 <| sk0 rfl h116 <| sk0 rfl h116 <| sk0 rfl h116 <| sk0 rfl h116 <| sk0 rfl h116 <| sk0 rfl h116 <| sk0 rfl h116 <| pkt1 rfl h110 rfl h116 <| pkt1 rfl h106 rfl h110 <| pkf0 rfl h106 <| mv0 rfl <| sk0 rfl rfl <| sk0 rfl rfl <| sk0 rfl rfl <| sk0 rfl rfl <| sk0 rfl rfl <| sku0 rfl <| sku0 rfl <| sku0 rfl <| sku0 rfl <| sku0 rfl <| sku0 rfl <| sk0 rfl rfl <| pkt0 rfl rfl ?_
  refine done ⟨by kernel_rfl, by kernel_rfl, ?_⟩
  refine Wp.condT rfl rfl <| Wp.seq <| reg <| asg0 rfl <| done ?_
  refine Wp.ret ?_
  refine Ends.ret (.cons (.tmp rfl (Fz.pure rfl)) <|  .nil) ?_
  · exact f_seeksLaw_k1
  have nh116 := Nz h116
  refine faA1 rfl h116 rfl ?_
  refine ldA1 rfl h116 rfl ?_
  refine mv1 rfl h116 rfl <| sl2M (0) ((keyS (sqK d l x) 1 l[x]).ed.f.pat.length) ((shownS (keyS (sqK d l x) 1 l[x]).ed).2.b.take (keyS (sqK d l x) 1 l[x]).ed.f.pat.length) rfl rfl rfl Og Og ⟨Bd, Bd⟩ (by simp) rfl (.want rfl rfl h116) ?_
  refine faA1 rfl h116 rfl ?_
  refine faA1 rfl h116 rfl ?_
  refine ldA1 rfl h116 rfl ?_
  refine clw1 rfl h116 rfl (f_same01e (sq_hit hs1 (by assumption)).2) rfl ?_
  refine nt1 rfl h116 rfl <| pkf1 rfl h110 rfl h116 <| pkt1 rfl h106 rfl h110 <| pkf0 rfl h106 <| mv0 rfl ?_
  refine bcase 129 rfl (fun h129 => ?_) (fun h129 => ?_)
  have nh129 := Nz h129
  refine sk0 rfl h129 <| sk0 rfl h129 <| sk0 rfl h129 <| sk0 rfl h129 <| sk0 rfl h129 <| sku0 rfl <| sku0 rfl <| sku0 rfl <| sku0 rfl <| sku0 rfl <| sku0 rfl <| sk0 rfl h129 <| pkt0 rfl h129 ?_
  refine done ⟨by kernel_rfl, by kernel_rfl, ?_⟩
  refine Wp.condT rfl rfl <| Wp.seq <| reg <| asg0 rfl <| done ?_
  refine Wp.ret ?_
  refine Ends.ret (.cons (.tmp rfl (Fz.pure rfl)) <|  .nil) ?_
  · exact f_seeksLaw_k1
  have nh129 := Nz h129
  refine faA1 rfl h129 rfl ?_
  refine faA1 rfl h129 rfl ?_
  refine ldA1 rfl h129 rfl ?_
  refine nt1 rfl h129 rfl <| mv1 rfl h129 rfl ?_
  refine bcase 134 rfl (fun h134 => ?_) (fun h134 => ?_)
  have nh134 := Nz h134
  refine ldA1 rfl h134 rfl ?_
  refine faA1 rfl h134 rfl ?_
  refine faA1 rfl h134 rfl ?_
  refine ldA1 rfl h134 rfl ?_
  refine clw1 rfl h134 rfl (f_same10e (sq_no hs1 (by assumption))) rfl ?_
  refine nt1 rfl h134 rfl <| pkt1 rfl h129 rfl h134 <| pkf0 rfl h129 ?_
  refine done ⟨by kernel_rfl, by kernel_rfl, ?_⟩
  refine Wp.cond rfl (fun c4 => ?_) (fun c4 => ?_)
  have nc4 := Nz c4
  refine Wp.seq <| reg <| asg0 rfl <| done ?_
  refine Wp.ret ?_
  refine Ends.ret (.cons (.tmp rfl (Fz.pure rfl)) <|  .nil) ?_
  · exact f_seeksLaw_k1
  have nc4 := Nz c4
  refine Wp.skip <| reg <| ldA0 rfl ?_
  refine stw0 rfl ?_
  refine done ?_
  refine reg <| mv0 rfl <| ar0 rfl (wrapI Bd) <| asg0 rfl <| done ?_
  first | exact ⟨x + 1, ⟨by omega, (sqK_yes d (l := l) (i := x) (by omega) hsg) ▸ hs1⟩, by omega, Rp, ⟨congrArg (fun z => some (Blk.cells 46 (edC z))) (sqK_yes d (l := l) (i := x) (by omega) hsg), Rp⟩, rfl⟩ | exact ⟨x + 1, ⟨by omega, (sqK_no d (l := l) (i := x) (by omega) (by rintro (h | h | h | ⟨h1, h2⟩) <;> first | omega | (simp_all; done))) ▸ hx2⟩, by omega, Rp, ⟨congrArg (fun z => some (Blk.cells 46 (edC z))) (sqK_no d (l := l) (i := x) (by omega) (by rintro (h | h | h | ⟨h1, h2⟩) <;> first | omega | (simp_all; done))), Rp⟩, rfl⟩
  have nh134 := Nz h134
  refine sk0 rfl h134 <| sk0 rfl h134 <| sk0 rfl h134 <| sk0 rfl h134 <| sk0 rfl h134 <| sk0 rfl h134 <| pkf1 rfl h129 rfl h134 <| pkf0 rfl h129 ?_
  refine done ⟨by kernel_rfl, by kernel_rfl, ?_⟩
  refine Wp.condF rfl rfl <| Wp.skip <| reg <| ldA0 rfl ?_
  refine stw0 rfl ?_
  refine done ?_
  refine reg <| mv0 rfl <| ar0 rfl (wrapI Bd) <| asg0 rfl <| done ?_
  first | exact ⟨x + 1, ⟨by omega, (sqK_yes d (l := l) (i := x) (by omega) hsg) ▸ hs1⟩, by omega, Rp, ⟨congrArg (fun z => some (Blk.cells 46 (edC z))) (sqK_yes d (l := l) (i := x) (by omega) hsg), Rp⟩, rfl⟩ | exact ⟨x + 1, ⟨by omega, (sqK_no d (l := l) (i := x) (by omega) (by rintro (h | h | h | ⟨h1, h2⟩) <;> first | omega | (simp_all; done))) ▸ hx2⟩, by omega, Rp, ⟨congrArg (fun z => some (Blk.cells 46 (edC z))) (sqK_no d (l := l) (i := x) (by omega) (by rintro (h | h | h | ⟨h1, h2⟩) <;> first | omega | (simp_all; done))), Rp⟩, rfl⟩
  have nh110 := Nz h110
  refine sk0 rfl h110 <| sk0 rfl h110 <| sk0 rfl h110 <| sk0 rfl h110 <| sk0 rfl h110 <| sk0 rfl h110 <| sku0 rfl <| sku0 rfl <| sku0 rfl <| sku0 rfl <| sku0 rfl <| sku0 rfl <| sku0 rfl <| sku0 rfl <| sku0 rfl <| sk0 rfl h110 <| pkf1 rfl h106 rfl h110 <| pkf0 rfl h106 <| mv0 rfl <| faA1 rfl rfl rfl ?_
  refine faA1 rfl rfl rfl ?_
  refine ldA1 rfl rfl rfl ?_
  refine nt1 rfl rfl rfl <| mv1 rfl rfl rfl ?_
  refine bcase 134 rfl (fun h134 => ?_) (fun h134 => ?_)
  have nh134 := Nz h134
  refine ldA1 rfl h134 rfl ?_
  refine faA1 rfl h134 rfl ?_
  refine faA1 rfl h134 rfl ?_
  refine ldA1 rfl h134 rfl ?_
  refine clw1 rfl h134 rfl (f_same10e (sq_no hs1 (by assumption))) rfl ?_
  refine nt1 rfl h134 rfl <| pkt1 rfl rfl rfl h134 <| pkf0 rfl rfl ?_
  refine done ⟨by kernel_rfl, by kernel_rfl, ?_⟩
  refine Wp.cond rfl (fun c5 => ?_) (fun c5 => ?_)
  have nc5 := Nz c5
  refine Wp.seq <| reg <| asg0 rfl <| done ?_
  refine Wp.ret ?_
  refine Ends.ret (.cons (.tmp rfl (Fz.pure rfl)) <|  .nil) ?_
  · exact f_seeksLaw_k1
  have nc5 := Nz c5
  refine Wp.skip <| reg <| ldA0 rfl ?_
  refine stw0 rfl ?_
  refine done ?_
  refine reg <| mv0 rfl <| ar0 rfl (wrapI Bd) <| asg0 rfl <| done ?_
  first | exact ⟨x + 1, ⟨by omega, (sqK_yes d (l := l) (i := x) (by omega) hsg) ▸ hs1⟩, by omega, Rp, ⟨congrArg (fun z => some (Blk.cells 46 (edC z))) (sqK_yes d (l := l) (i := x) (by omega) hsg), Rp⟩, rfl⟩ | exact ⟨x + 1, ⟨by omega, (sqK_no d (l := l) (i := x) (by omega) (by rintro (h | h | h | ⟨h1, h2⟩) <;> first | omega | (simp_all; done))) ▸ hx2⟩, by omega, Rp, ⟨congrArg (fun z => some (Blk.cells 46 (edC z))) (sqK_no d (l := l) (i := x) (by omega) (by rintro (h | h | h | ⟨h1, h2⟩) <;> first | omega | (simp_all; done))), Rp⟩, rfl⟩
  have nh134 := Nz h134
  refine sk0 rfl h134 <| sk0 rfl h134 <| sk0 rfl h134 <| sk0 rfl h134 <| sk0 rfl h134 <| sk0 rfl h134 <| pkf1 rfl rfl rfl h134 <| pkf0 rfl rfl ?_
  refine done ⟨by kernel_rfl, by kernel_rfl, ?_⟩
  refine Wp.condF rfl rfl <| Wp.skip <| reg <| ldA0 rfl ?_
  refine stw0 rfl ?_
  refine done ?_
  refine reg <| mv0 rfl <| ar0 rfl (wrapI Bd) <| asg0 rfl <| done ?_
  first | exact ⟨x + 1, ⟨by omega, (sqK_yes d (l := l) (i := x) (by omega) hsg) ▸ hs1⟩, by omega, Rp, ⟨congrArg (fun z => some (Blk.cells 46 (edC z))) (sqK_yes d (l := l) (i := x) (by omega) hsg), Rp⟩, rfl⟩ | exact ⟨x + 1, ⟨by omega, (sqK_no d (l := l) (i := x) (by omega) (by rintro (h | h | h | ⟨h1, h2⟩) <;> first | omega | (simp_all; done))) ▸ hx2⟩, by omega, Rp, ⟨congrArg (fun z => some (Blk.cells 46 (edC z))) (sqK_no d (l := l) (i := x) (by omega) (by rintro (h | h | h | ⟨h1, h2⟩) <;> first | omega | (simp_all; done))), Rp⟩, rfl⟩
  have nh73 := Nz h73
  refine sk0 rfl h73 <| sk0 rfl h73 <| sk0 rfl h73 <| sku0 rfl <| sku0 rfl <| sku0 rfl <| sk0 rfl h73 <| pkf0 rfl h73 <| done ?_
  refine Wp.condF rfl rfl <| Wp.skip <| Wp.seq <| regd mixed ?_
  have hsg : sgn l[x] := by first | exact .inl (by omega) | exact .inr (.inl (by omega)) | exact .inr (.inr (.inl (by omega))) | exact .inr (.inr (.inr ⟨by omega, by assumption⟩))
  refine ldA0 rfl ?_
  refine mv0 rfl <| clw0 rfl f_lawSign rfl ?_
  refine clw0 rfl (f_sqKey hx2 hsg) rfl ?_
  refine mv0 rfl <| xt0 rfl <| xt0 rfl <| xt0 rfl <| al0 74 rfl ?_
  refine stw0 rfl ?_
  refine asg0 rfl <| asg0 rfl ?_
  refine done ⟨by kernel_rfl, by kernel_rfl, ?_⟩
  refine Wp.seq <| reg ?_
  have hs1 := (sq_step hx2 hsg).1
  refine ldA0 rfl ?_
  refine clw0 rfl (f_edShown (d := (keyS (sqK d l x) 1 l[x]).ed) (t_ok hs1.is_)) rfl ?_
  refine mv0 rfl <| xt0 rfl <| xt0 rfl <| al0 78 rfl ?_
  refine asg0 rfl <| stw0 rfl ?_
  refine done ?_
  refine Wp.seq <| reg <| faA0 rfl ?_
  refine faA0 rfl ?_
  refine ldA0 rfl ?_
  first | refine lnM0 rfl ?_ | refine lns0 rfl ?_ | refine ln0 rfl ?_
  refine asg0 rfl <| done ?_
  refine Wp.seq <| Wp.seq <| regd mixed ?_
  refine mv0 rfl <| mv0 rfl ?_
  refine bcase 100 rfl (fun h100 => ?_) (fun h100 => ?_)
  have nh100 := Nz h100
  refine sk0 rfl h100 <| sk0 rfl h100 <| sk0 rfl h100 <| sk0 rfl h100 <| pkt0 rfl h100 <| mv0 rfl <| sk0 rfl rfl <| sk0 rfl rfl <| sk0 rfl rfl <| sk0 rfl rfl <| sku0 rfl <| sku0 rfl <| sku0 rfl <| sku0 rfl <| sku0 rfl <| sku0 rfl <| sku0 rfl <| sku0 rfl <| sku0 rfl <| sku0 rfl <| sku0 rfl <| sku0 rfl <| sku0 rfl <| sku0 rfl <| sku0 rfl <| sku0 rfl <| sk0 rfl rfl <| pkt0 rfl rfl <| mv0 rfl <| sk0 rfl rfl <| sk0 rfl rfl <| sk0 rfl rfl <| sk0 rfl rfl <| sk0 rfl rfl <| sku0 rfl <| sku0 rfl <| sku0 rfl <| sku0 rfl <| sku0 rfl <| sku0 rfl <| sk0 rfl rfl <| pkt0 rfl rfl ?_
  refine done ⟨by kernel_rfl, by kernel_rfl, ?_⟩
  refine Wp.condT rfl rfl <| Wp.seq <| reg <| asg0 rfl <| done ?_
  refine Wp.ret ?_
  refine Ends.ret (.cons (.tmp rfl (Fz.pure rfl)) <|  .nil) ?_
  · exact f_seeksLaw_k1
  have nh100 := Nz h100
  refine faA1 rfl h100 rfl ?_
  refine faA1 rfl h100 rfl ?_
  refine ldA1 rfl h100 rfl ?_
  refine nt1 rfl h100 rfl <| pkf0 rfl h100 <| mv0 rfl ?_
  refine bcase 106 rfl (fun h106 => ?_) (fun h106 => ?_)
  have nh106 := Nz h106
  refine sk0 rfl h106 <| sk0 rfl h106 <| sk0 rfl h106 <| sk0 rfl h106 <| sku0 rfl <| sku0 rfl <| sku0 rfl <| sku0 rfl <| sku0 rfl <| sku0 rfl <| sku0 rfl <| sku0 rfl <| sku0 rfl <| sku0 rfl <| sku0 rfl <| sku0 rfl <| sku0 rfl <| sku0 rfl <| sku0 rfl <| sku0 rfl <| sk0 rfl h106 <| pkt0 rfl h106 <| mv0 rfl <| sk0 rfl rfl <| sk0 rfl rfl <| sk0 rfl rfl <| sk0 rfl rfl <| sk0 rfl rfl <| sku0 rfl <| sku0 rfl <| sku0 rfl <| sku0 rfl <| sku0 rfl <| sku0 rfl <| sk0 rfl rfl <| pkt0 rfl rfl ?_
  refine done ⟨by kernel_rfl, by kernel_rfl, ?_⟩
  refine Wp.condT rfl rfl <| Wp.seq <| reg <| asg0 rfl <| done ?_
  refine Wp.ret ?_
  refine Ends.ret (.cons (.tmp rfl (Fz.pure rfl)) <|  .nil) ?_
  · exact f_seeksLaw_k1
  have nh106 := Nz h106
  refine faA1 rfl h106 rfl ?_
  refine faA1 rfl h106 rfl ?_
  refine ldA1 rfl h106 rfl ?_
  refine mv1 rfl h106 rfl ?_
  refine bcase 110 rfl (fun h110 => ?_) (fun h110 => ?_)
  have nh110 := Nz h110
  have hsh := (sq_hit hs1 (by assumption)).1
  refine faA1 rfl h110 rfl ?_
  refine ldA1 rfl h110 rfl ?_
  first | refine lnM1 rfl h110 rfl ?_ | refine lns1 rfl h110 rfl ?_ | refine ln1 rfl h110 rfl ?_
  refine mv1 rfl h110 rfl <| cmp1 rfl h110 rfl <| mv1 rfl h110 rfl ?_
  refine bcase 116 rfl (fun h116 => ?_) (fun h116 => ?_)
  have nh116 := Nz h116
  refine sk0 rfl h116 <| sk0 rfl h116 <| sk0 rfl h116 <| sk0 rfl h116 <| sk0 rfl h116 <| sk0 rfl h116 <| sk0 rfl h116 <| sk0 rfl h116 <| sk0 rfl h116 <| pkt1 rfl h110 rfl h116 <| pkt1 rfl h106 rfl h110 <| pkf0 rfl h106 <| mv0 rfl <| sk0 rfl rfl <| sk0 rfl rfl <| sk0 rfl rfl <| sk0 rfl rfl <| sk0 rfl rfl <| sku0 rfl <| sku0 rfl <| sku0 rfl <| sku0 rfl <| sku0 rfl <| sku0 rfl <| sk0 rfl rfl <| pkt0 rfl rfl ?_
  refine done ⟨by kernel_rfl, by kernel_rfl, ?_⟩
  refine Wp.condT rfl rfl <| Wp.seq <| reg <| asg0 rfl <| done ?_
  refine Wp.ret ?_
  refine Ends.ret (.cons (.tmp rfl (Fz.pure rfl)) <|  .nil) ?_
  · exact f_seeksLaw_k1
  have nh116 := Nz h116
  refine faA1 rfl h116 rfl ?_
  refine ldA1 rfl h116 rfl ?_
  refine mv1 rfl h116 rfl <| sl2M (0) ((keyS (sqK d l x) 1 l[x]).ed.f.pat.length) ((shownS (keyS (sqK d l x) 1 l[x]).ed).2.b.take (keyS (sqK d l x) 1 l[x]).ed.f.pat.length) rfl rfl rfl Og Og ⟨Bd, Bd⟩ (by simp) rfl (.want rfl rfl h116) ?_
  refine faA1 rfl h116 rfl ?_
  refine faA1 rfl h116 rfl ?_
  refine ldA1 rfl h116 rfl ?_
  refine clw1 rfl h116 rfl (f_same01e (sq_hit hs1 (by assumption)).2) rfl ?_
  refine nt1 rfl h116 rfl <| pkf1 rfl h110 rfl h116 <| pkt1 rfl h106 rfl h110 <| pkf0 rfl h106 <| mv0 rfl ?_
  refine bcase 129 rfl (fun h129 => ?_) (fun h129 => ?_)
  have nh129 := Nz h129
  refine sk0 rfl h129 <| sk0 rfl h129 <| sk0 rfl h129 <| sk0 rfl h129 <| sk0 rfl h129 <| sku0 rfl <| sku0 rfl <| sku0 rfl <| sku0 rfl <| sku0 rfl <| sku0 rfl <| sk0 rfl h129 <| pkt0 rfl h129 ?_
  refine done ⟨by kernel_rfl, by kernel_rfl, ?_⟩
  refine Wp.condT rfl rfl <| Wp.seq <| reg <| asg0 rfl <| done ?_
  refine Wp.ret ?_
  refine Ends.ret (.cons (.tmp rfl (Fz.pure rfl)) <|  .nil) ?_
  · exact f_seeksLaw_k1
  have nh129 := Nz h129
  refine faA1 rfl h129 rfl ?_
  refine faA1 rfl h129 rfl ?_
  refine ldA1 rfl h129 rfl ?_
  refine nt1 rfl h129 rfl <| mv1 rfl h129 rfl ?_
  refine bcase 134 rfl (fun h134 => ?_) (fun h134 => ?_)
  have nh134 := Nz h134
  refine ldA1 rfl h134 rfl ?_
  refine faA1 rfl h134 rfl ?_
  refine faA1 rfl h134 rfl ?_
  refine ldA1 rfl h134 rfl ?_
  refine clw1 rfl h134 rfl (f_same10e (sq_no hs1 (by assumption))) rfl ?_
  refine nt1 rfl h134 rfl <| pkt1 rfl h129 rfl h134 <| pkf0 rfl h129 ?_
  refine done ⟨by kernel_rfl, by kernel_rfl, ?_⟩
  refine Wp.cond rfl (fun c6 => ?_) (fun c6 => ?_)
  have nc6 := Nz c6
  refine Wp.seq <| reg <| asg0 rfl <| done ?_
  refine Wp.ret ?_
  refine Ends.ret (.cons (.tmp rfl (Fz.pure rfl)) <|  .nil) ?_
  · exact f_seeksLaw_k1
  have nc6 := Nz c6
  refine Wp.skip <| reg <| ldA0 rfl ?_
  refine stw0 rfl ?_
  refine done ?_
  refine reg <| mv0 rfl <| ar0 rfl (wrapI Bd) <| asg0 rfl <| done ?_
  first | exact ⟨x + 1, ⟨by omega, (sqK_yes d (l := l) (i := x) (by omega) hsg) ▸ hs1⟩, by omega, Rp, ⟨congrArg (fun z => some (Blk.cells 46 (edC z))) (sqK_yes d (l := l) (i := x) (by omega) hsg), Rp⟩, rfl⟩ | exact ⟨x + 1, ⟨by omega, (sqK_no d (l := l) (i := x) (by omega) (by rintro (h | h | h | ⟨h1, h2⟩) <;> first | omega | (simp_all; done))) ▸ hx2⟩, by omega, Rp, ⟨congrArg (fun z => some (Blk.cells 46 (edC z))) (sqK_no d (l := l) (i := x) (by omega) (by rintro (h | h | h | ⟨h1, h2⟩) <;> first | omega | (simp_all; done))), Rp⟩, rfl⟩
  have nh134 := Nz h134
  refine sk0 rfl h134 <| sk0 rfl h134 <| sk0 rfl h134 <| sk0 rfl h134 <| sk0 rfl h134 <| sk0 rfl h134 <| pkf1 rfl h129 rfl h134 <| pkf0 rfl h129 ?_
  refine done ⟨by kernel_rfl, by kernel_rfl, ?_⟩
  refine Wp.condF rfl rfl <| Wp.skip <| reg <| ldA0 rfl ?_
  refine stw0 rfl ?_
  refine done ?_
  refine reg <| mv0 rfl <| ar0 rfl (wrapI Bd) <| asg0 rfl <| done ?_
  first | exact ⟨x + 1, ⟨by omega, (sqK_yes d (l := l) (i := x) (by omega) hsg) ▸ hs1⟩, by omega, Rp, ⟨congrArg (fun z => some (Blk.cells 46 (edC z))) (sqK_yes d (l := l) (i := x) (by omega) hsg), Rp⟩, rfl⟩ | exact ⟨x + 1, ⟨by omega, (sqK_no d (l := l) (i := x) (by omega) (by rintro (h | h | h | ⟨h1, h2⟩) <;> first | omega | (simp_all; done))) ▸ hx2⟩, by omega, Rp, ⟨congrArg (fun z => some (Blk.cells 46 (edC z))) (sqK_no d (l := l) (i := x) (by omega) (by rintro (h | h | h | ⟨h1, h2⟩) <;> first | omega | (simp_all; done))), Rp⟩, rfl⟩
  have nh110 := Nz h110
  refine sk0 rfl h110 <| sk0 rfl h110 <| sk0 rfl h110 <| sk0 rfl h110 <| sk0 rfl h110 <| sk0 rfl h110 <| sku0 rfl <| sku0 rfl <| sku0 rfl <| sku0 rfl <| sku0 rfl <| sku0 rfl <| sku0 rfl <| sku0 rfl <| sku0 rfl <| sk0 rfl h110 <| pkf1 rfl h106 rfl h110 <| pkf0 rfl h106 <| mv0 rfl <| faA1 rfl rfl rfl ?_
  refine faA1 rfl rfl rfl ?_
  refine ldA1 rfl rfl rfl ?_
  refine nt1 rfl rfl rfl <| mv1 rfl rfl rfl ?_
  refine bcase 134 rfl (fun h134 => ?_) (fun h134 => ?_)
  have nh134 := Nz h134
  refine ldA1 rfl h134 rfl ?_
  refine faA1 rfl h134 rfl ?_
  refine faA1 rfl h134 rfl ?_
  refine ldA1 rfl h134 rfl ?_
  refine clw1 rfl h134 rfl (f_same10e (sq_no hs1 (by assumption))) rfl ?_
  refine nt1 rfl h134 rfl <| pkt1 rfl rfl rfl h134 <| pkf0 rfl rfl ?_
  refine done ⟨by kernel_rfl, by kernel_rfl, ?_⟩
  refine Wp.cond rfl (fun c7 => ?_) (fun c7 => ?_)
  have nc7 := Nz c7
  refine Wp.seq <| reg <| asg0 rfl <| done ?_
  refine Wp.ret ?_
  refine Ends.ret (.cons (.tmp rfl (Fz.pure rfl)) <|  .nil) ?_
  · exact f_seeksLaw_k1
  have nc7 := Nz c7
  refine Wp.skip <| reg <| ldA0 rfl ?_
  refine stw0 rfl ?_
  refine done ?_
  refine reg <| mv0 rfl <| ar0 rfl (wrapI Bd) <| asg0 rfl <| done ?_
  first | exact ⟨x + 1, ⟨by omega, (sqK_yes d (l := l) (i := x) (by omega) hsg) ▸ hs1⟩, by omega, Rp, ⟨congrArg (fun z => some (Blk.cells 46 (edC z))) (sqK_yes d (l := l) (i := x) (by omega) hsg), Rp⟩, rfl⟩ | exact ⟨x + 1, ⟨by omega, (sqK_no d (l := l) (i := x) (by omega) (by rintro (h | h | h | ⟨h1, h2⟩) <;> first | omega | (simp_all; done))) ▸ hx2⟩, by omega, Rp, ⟨congrArg (fun z => some (Blk.cells 46 (edC z))) (sqK_no d (l := l) (i := x) (by omega) (by rintro (h | h | h | ⟨h1, h2⟩) <;> first | omega | (simp_all; done))), Rp⟩, rfl⟩
  have nh134 := Nz h134
  refine sk0 rfl h134 <| sk0 rfl h134 <| sk0 rfl h134 <| sk0 rfl h134 <| sk0 rfl h134 <| sk0 rfl h134 <| pkf1 rfl rfl rfl h134 <| pkf0 rfl rfl ?_
  refine done ⟨by kernel_rfl, by kernel_rfl, ?_⟩
  refine Wp.condF rfl rfl <| Wp.skip <| reg <| ldA0 rfl ?_
  refine stw0 rfl ?_
  refine done ?_
  refine reg <| mv0 rfl <| ar0 rfl (wrapI Bd) <| asg0 rfl <| done ?_
  first | exact ⟨x + 1, ⟨by omega, (sqK_yes d (l := l) (i := x) (by omega) hsg) ▸ hs1⟩, by omega, Rp, ⟨congrArg (fun z => some (Blk.cells 46 (edC z))) (sqK_yes d (l := l) (i := x) (by omega) hsg), Rp⟩, rfl⟩ | exact ⟨x + 1, ⟨by omega, (sqK_no d (l := l) (i := x) (by omega) (by rintro (h | h | h | ⟨h1, h2⟩) <;> first | omega | (simp_all; done))) ▸ hx2⟩, by omega, Rp, ⟨congrArg (fun z => some (Blk.cells 46 (edC z))) (sqK_no d (l := l) (i := x) (by omega) (by rintro (h | h | h | ⟨h1, h2⟩) <;> first | omega | (simp_all; done))), Rp⟩, rfl⟩
  have nh69 := Nz h69
  refine sk0 rfl h69 <| sk0 rfl h69 <| pkf0 rfl h69 <| mv0 rfl <| sk0 rfl rfl <| sk0 rfl rfl <| sk0 rfl rfl <| sku0 rfl <| sku0 rfl <| sku0 rfl <| sk0 rfl rfl <| pkf0 rfl rfl <| done ?_
  refine Wp.condF rfl rfl <| Wp.skip <| Wp.seq <| regd mixed ?_
  have hsg : sgn l[x] := by first | exact .inl (by omega) | exact .inr (.inl (by omega)) | exact .inr (.inr (.inl (by omega))) | exact .inr (.inr (.inr ⟨by omega, by assumption⟩))
  refine ldA0 rfl ?_
  refine mv0 rfl <| clw0 rfl f_lawSign rfl ?_
  refine clw0 rfl (f_sqKey hx2 hsg) rfl ?_
  refine mv0 rfl <| xt0 rfl <| xt0 rfl <| xt0 rfl <| al0 74 rfl ?_
  refine stw0 rfl ?_
  refine asg0 rfl <| asg0 rfl ?_
  refine done ⟨by kernel_rfl, by kernel_rfl, ?_⟩
  refine Wp.seq <| reg ?_
  have hs1 := (sq_step hx2 hsg).1
  refine ldA0 rfl ?_
  refine clw0 rfl (f_edShown (d := (keyS (sqK d l x) 1 l[x]).ed) (t_ok hs1.is_)) rfl ?_
  refine mv0 rfl <| xt0 rfl <| xt0 rfl <| al0 78 rfl ?_
  refine asg0 rfl <| stw0 rfl ?_
  refine done ?_
  refine Wp.seq <| reg <| faA0 rfl ?_
  refine faA0 rfl ?_
  refine ldA0 rfl ?_
  first | refine lnM0 rfl ?_ | refine lns0 rfl ?_ | refine ln0 rfl ?_
  refine asg0 rfl <| done ?_
  refine Wp.seq <| Wp.seq <| regd mixed ?_
  refine mv0 rfl <| mv0 rfl ?_
  refine bcase 100 rfl (fun h100 => ?_) (fun h100 => ?_)
  have nh100 := Nz h100
  refine sk0 rfl h100 <| sk0 rfl h100 <| sk0 rfl h100 <| sk0 rfl h100 <| pkt0 rfl h100 <| mv0 rfl <| sk0 rfl rfl <| sk0 rfl rfl <| sk0 rfl rfl <| sk0 rfl rfl <| sku0 rfl <| sku0 rfl <| sku0 rfl <| sku0 rfl <| sku0 rfl <| sku0 rfl <| sku0 rfl <| sku0 rfl <| sku0 rfl <| sku0 rfl <| sku0 rfl <| sku0 rfl <| sku0 rfl <| sku0 rfl <| sku0 rfl <| sku0 rfl <| sk0 rfl rfl <| pkt0 rfl rfl <| mv0 rfl <| sk0 rfl rfl <| sk0 rfl rfl <| sk0 rfl rfl <| sk0 rfl rfl <| sk0 rfl rfl <| sku0 rfl <| sku0 rfl <| sku0 rfl <| sku0 rfl <| sku0 rfl <| sku0 rfl <| sk0 rfl rfl <| pkt0 rfl rfl ?_
  refine done ⟨by kernel_rfl, by kernel_rfl, ?_⟩
  refine Wp.condT rfl rfl <| Wp.seq <| reg <| asg0 rfl <| done ?_
  refine Wp.ret ?_
  refine Ends.ret (.cons (.tmp rfl (Fz.pure rfl)) <|  .nil) ?_
  · exact f_seeksLaw_k1
  have nh100 := Nz h100
  refine faA1 rfl h100 rfl ?_
  refine faA1 rfl h100 rfl ?_
  refine ldA1 rfl h100 rfl ?_
  refine nt1 rfl h100 rfl <| pkf0 rfl h100 <| mv0 rfl ?_
  refine bcase 106 rfl (fun h106 => ?_) (fun h106 => ?_)
  have nh106 := Nz h106
  refine sk0 rfl h106 <| sk0 rfl h106 <| sk0 rfl h106 <| sk0 rfl h106 <| sku0 rfl <| sku0 rfl <| sku0 rfl <| sku0 rfl <| sku0 rfl <| sku0 rfl <| sku0 rfl <| sku0 rfl <| sku0 rfl <| sku0 rfl <| sku0 rfl <| sku0 rfl <| sku0 rfl <| sku0 rfl <| sku0 rfl <| sku0 rfl <| sk0 rfl h106 <| pkt0 rfl h106 <| mv0 rfl <| sk0 rfl rfl <| sk0 rfl rfl <| sk0 rfl rfl <| sk0 rfl rfl <| sk0 rfl rfl <| sku0 rfl <| sku0 rfl <| sku0 rfl <| sku0 rfl <| sku0 rfl <| sku0 rfl <| sk0 rfl rfl <| pkt0 rfl rfl ?_
  refine done ⟨by kernel_rfl, by kernel_rfl, ?_⟩
  refine Wp.condT rfl rfl <| Wp.seq <| reg <| asg0 rfl <| done ?_
  refine Wp.ret ?_
  refine Ends.ret (.cons (.tmp rfl (Fz.pure rfl)) <|  .nil) ?_
  · exact f_seeksLaw_k1
  have nh106 := Nz h106
  refine faA1 rfl h106 rfl ?_
  refine faA1 rfl h106 rfl ?_
  refine ldA1 rfl h106 rfl ?_
  refine mv1 rfl h106 rfl ?_
  refine bcase 110 rfl (fun h110 => ?_) (fun h110 => ?_)
  have nh110 := Nz h110
  have hsh := (sq_hit hs1 (by assumption)).1
  refine faA1 rfl h110 rfl ?_
  refine ldA1 rfl h110 rfl ?_
  first | refine lnM1 rfl h110 rfl ?_ | refine lns1 rfl h110 rfl ?_ | refine ln1 rfl h110 rfl ?_
  refine mv1 rfl h110 rfl <| cmp1 rfl h110 rfl <| mv1 rfl h110 rfl ?_
  refine bcase 116 rfl (fun h116 => ?_) (fun h116 => ?_)
  have nh116 := Nz h116
  refine sk0 rfl h116 <| sk0 rfl h116 <| sk0 rfl h116 <| sk0 rfl h116 <| sk0 rfl h116 <| sk0 rfl h116 <| sk0 rfl h116 <| sk0 rfl h116 <| sk0 rfl h116 <| pkt1 rfl h110 rfl h116 <| pkt1 rfl h106 rfl h110 <| pkf0 rfl h106 <| mv0 rfl <| sk0 rfl rfl <| sk0 rfl rfl <| sk0 rfl rfl <| sk0 rfl rfl <| sk0 rfl rfl <| sku0 rfl <| sku0 rfl <| sku0 rfl <| sku0 rfl <| sku0 rfl <| sku0 rfl <| sk0 rfl rfl <| pkt0 rfl rfl ?_
  refine done ⟨by kernel_rfl, by kernel_rfl, ?_⟩
  refine Wp.condT rfl rfl <| Wp.seq <| reg <| asg0 rfl <| done ?_
  refine Wp.ret ?_
  refine Ends.ret (.cons (.tmp rfl (Fz.pure rfl)) <|  .nil) ?_
  · exact f_seeksLaw_k1
  have nh116 := Nz h116
  refine faA1 rfl h116 rfl ?_
  refine ldA1 rfl h116 rfl ?_
  refine mv1 rfl h116 rfl <| sl2M (0) ((keyS (sqK d l x) 1 l[x]).ed.f.pat.length) ((shownS (keyS (sqK d l x) 1 l[x]).ed).2.b.take (keyS (sqK d l x) 1 l[x]).ed.f.pat.length) rfl rfl rfl Og Og ⟨Bd, Bd⟩ (by simp) rfl (.want rfl rfl h116) ?_
  refine faA1 rfl h116 rfl ?_
  refine faA1 rfl h116 rfl ?_
  refine ldA1 rfl h116 rfl ?_
  refine clw1 rfl h116 rfl (f_same01e (sq_hit hs1 (by assumption)).2) rfl ?_
  refine nt1 rfl h116 rfl <| pkf1 rfl h110 rfl h116 <| pkt1 rfl h106 rfl h110 <| pkf0 rfl h106 <| mv0 rfl ?_
  refine bcase 129 rfl (fun h129 => ?_) (fun h129 => ?_)
  have nh129 := Nz h129
  refine sk0 rfl h129 <| sk0 rfl h129 <| sk0 rfl h129 <| sk0 rfl h129 <| sk0 rfl h129 <| sku0 rfl <| sku0 rfl <| sku0 rfl <| sku0 rfl <| sku0 rfl <| sku0 rfl <| sk0 rfl h129 <| pkt0 rfl h129 ?_
  refine done ⟨by kernel_rfl, by kernel_rfl, ?_⟩
  refine Wp.condT rfl rfl <| Wp.seq <| reg <| asg0 rfl <| done ?_
  refine Wp.ret ?_
  refine Ends.ret (.cons (.tmp rfl (Fz.pure rfl)) <|  .nil) ?_
  · exact f_seeksLaw_k1
  have nh129 := Nz h129
  refine faA1 rfl h129 rfl ?_
  refine faA1 rfl h129 rfl ?_
  refine ldA1 rfl h129 rfl ?_
  refine nt1 rfl h129 rfl <| mv1 rfl h129 rfl ?_
  refine bcase 134 rfl (fun h134 => ?_) (fun h134 => ?_)
  have nh134 := Nz h134
  refine ldA1 rfl h134 rfl ?_
  refine faA1 rfl h134 rfl ?_
  refine faA1 rfl h134 rfl ?_
  refine ldA1 rfl h134 rfl ?_
  refine clw1 rfl h134 rfl (f_same10e (sq_no hs1 (by assumption))) rfl ?_
  refine nt1 rfl h134 rfl <| pkt1 rfl h129 rfl h134 <| pkf0 rfl h129 ?_
  refine done ⟨by kernel_rfl, by kernel_rfl, ?_⟩
  refine Wp.cond rfl (fun c8 => ?_) (fun c8 => ?_)
  have nc8 := Nz c8
  refine Wp.seq <| reg <| asg0 rfl <| done ?_
  refine Wp.ret ?_
  refine Ends.ret (.cons (.tmp rfl (Fz.pure rfl)) <|  .nil) ?_
  · exact f_seeksLaw_k1
  have nc8 := Nz c8
  refine Wp.skip <| reg <| ldA0 rfl ?_
  refine stw0 rfl ?_
  refine done ?_
  refine reg <| mv0 rfl <| ar0 rfl (wrapI Bd) <| asg0 rfl <| done ?_
  first | exact ⟨x + 1, ⟨by omega, (sqK_yes d (l := l) (i := x) (by omega) hsg) ▸ hs1⟩, by omega, Rp, ⟨congrArg (fun z => some (Blk.cells 46 (edC z))) (sqK_yes d (l := l) (i := x) (by omega) hsg), Rp⟩, rfl⟩ | exact ⟨x + 1, ⟨by omega, (sqK_no d (l := l) (i := x) (by omega) (by rintro (h | h | h | ⟨h1, h2⟩) <;> first | omega | (simp_all; done))) ▸ hx2⟩, by omega, Rp, ⟨congrArg (fun z => some (Blk.cells 46 (edC z))) (sqK_no d (l := l) (i := x) (by omega) (by rintro (h | h | h | ⟨h1, h2⟩) <;> first | omega | (simp_all; done))), Rp⟩, rfl⟩
  have nh134 := Nz h134
  refine sk0 rfl h134 <| sk0 rfl h134 <| sk0 rfl h134 <| sk0 rfl h134 <| sk0 rfl h134 <| sk0 rfl h134 <| pkf1 rfl h129 rfl h134 <| pkf0 rfl h129 ?_
  refine done ⟨by kernel_rfl, by kernel_rfl, ?_⟩
  refine Wp.condF rfl rfl <| Wp.skip <| reg <| ldA0 rfl ?_
  refine stw0 rfl ?_
  refine done ?_
  refine reg <| mv0 rfl <| ar0 rfl (wrapI Bd) <| asg0 rfl <| done ?_
  first | exact ⟨x + 1, ⟨by omega, (sqK_yes d (l := l) (i := x) (by omega) hsg) ▸ hs1⟩, by omega, Rp, ⟨congrArg (fun z => some (Blk.cells 46 (edC z))) (sqK_yes d (l := l) (i := x) (by omega) hsg), Rp⟩, rfl⟩ | exact ⟨x + 1, ⟨by omega, (sqK_no d (l := l) (i := x) (by omega) (by rintro (h | h | h | ⟨h1, h2⟩) <;> first | omega | (simp_all; done))) ▸ hx2⟩, by omega, Rp, ⟨congrArg (fun z => some (Blk.cells 46 (edC z))) (sqK_no d (l := l) (i := x) (by omega) (by rintro (h | h | h | ⟨h1, h2⟩) <;> first | omega | (simp_all; done))), Rp⟩, rfl⟩
  have nh110 := Nz h110
  refine sk0 rfl h110 <| sk0 rfl h110 <| sk0 rfl h110 <| sk0 rfl h110 <| sk0 rfl h110 <| sk0 rfl h110 <| sku0 rfl <| sku0 rfl <| sku0 rfl <| sku0 rfl <| sku0 rfl <| sku0 rfl <| sku0 rfl <| sku0 rfl <| sku0 rfl <| sk0 rfl h110 <| pkf1 rfl h106 rfl h110 <| pkf0 rfl h106 <| mv0 rfl <| faA1 rfl rfl rfl ?_
  refine faA1 rfl rfl rfl ?_
  refine ldA1 rfl rfl rfl ?_
  refine nt1 rfl rfl rfl <| mv1 rfl rfl rfl ?_
  refine bcase 134 rfl (fun h134 => ?_) (fun h134 => ?_)
  have nh134 := Nz h134
  refine ldA1 rfl h134 rfl ?_
  refine faA1 rfl h134 rfl ?_
  refine faA1 rfl h134 rfl ?_
  refine ldA1 rfl h134 rfl ?_
  refine clw1 rfl h134 rfl (f_same10e (sq_no hs1 (by assumption))) rfl ?_
  refine nt1 rfl h134 rfl <| pkt1 rfl rfl rfl h134 <| pkf0 rfl rfl ?_
  refine done ⟨by kernel_rfl, by kernel_rfl, ?_⟩
  refine Wp.cond rfl (fun c9 => ?_) (fun c9 => ?_)
  have nc9 := Nz c9
  refine Wp.seq <| reg <| asg0 rfl <| done ?_
  refine Wp.ret ?_
  refine Ends.ret (.cons (.tmp rfl (Fz.pure rfl)) <|  .nil) ?_
  · exact f_seeksLaw_k1
  have nc9 := Nz c9
  refine Wp.skip <| reg <| ldA0 rfl ?_
  refine stw0 rfl ?_
  refine done ?_
  refine reg <| mv0 rfl <| ar0 rfl (wrapI Bd) <| asg0 rfl <| done ?_
  first | exact ⟨x + 1, ⟨by omega, (sqK_yes d (l := l) (i := x) (by omega) hsg) ▸ hs1⟩, by omega, Rp, ⟨congrArg (fun z => some (Blk.cells 46 (edC z))) (sqK_yes d (l := l) (i := x) (by omega) hsg), Rp⟩, rfl⟩ | exact ⟨x + 1, ⟨by omega, (sqK_no d (l := l) (i := x) (by omega) (by rintro (h | h | h | ⟨h1, h2⟩) <;> first | omega | (simp_all; done))) ▸ hx2⟩, by omega, Rp, ⟨congrArg (fun z => some (Blk.cells 46 (edC z))) (sqK_no d (l := l) (i := x) (by omega) (by rintro (h | h | h | ⟨h1, h2⟩) <;> first | omega | (simp_all; done))), Rp⟩, rfl⟩
  have nh134 := Nz h134
  refine sk0 rfl h134 <| sk0 rfl h134 <| sk0 rfl h134 <| sk0 rfl h134 <| sk0 rfl h134 <| sk0 rfl h134 <| pkf1 rfl rfl rfl h134 <| pkf0 rfl rfl ?_
  refine done ⟨by kernel_rfl, by kernel_rfl, ?_⟩
  refine Wp.condF rfl rfl <| Wp.skip <| reg <| ldA0 rfl ?_
  refine stw0 rfl ?_
  refine done ?_
  refine reg <| mv0 rfl <| ar0 rfl (wrapI Bd) <| asg0 rfl <| done ?_
  first | exact ⟨x + 1, ⟨by omega, (sqK_yes d (l := l) (i := x) (by omega) hsg) ▸ hs1⟩, by omega, Rp, ⟨congrArg (fun z => some (Blk.cells 46 (edC z))) (sqK_yes d (l := l) (i := x) (by omega) hsg), Rp⟩, rfl⟩ | exact ⟨x + 1, ⟨by omega, (sqK_no d (l := l) (i := x) (by omega) (by rintro (h | h | h | ⟨h1, h2⟩) <;> first | omega | (simp_all; done))) ▸ hx2⟩, by omega, Rp, ⟨congrArg (fun z => some (Blk.cells 46 (edC z))) (sqK_no d (l := l) (i := x) (by omega) (by rintro (h | h | h | ⟨h1, h2⟩) <;> first | omega | (simp_all; done))), Rp⟩, rfl⟩
  have nh65 := Nz h65
  refine sk0 rfl h65 <| sk0 rfl h65 <| pkf0 rfl h65 <| mv0 rfl <| sk0 rfl rfl <| sk0 rfl rfl <| pkf0 rfl rfl <| mv0 rfl <| sk0 rfl rfl <| sk0 rfl rfl <| sk0 rfl rfl <| sku0 rfl <| sku0 rfl <| sku0 rfl <| sk0 rfl rfl <| pkf0 rfl rfl <| done ?_
  refine Wp.condF rfl rfl <| Wp.skip <| Wp.seq <| regd mixed ?_
  have hsg : sgn l[x] := by first | exact .inl (by omega) | exact .inr (.inl (by omega)) | exact .inr (.inr (.inl (by omega))) | exact .inr (.inr (.inr ⟨by omega, by assumption⟩))
  refine ldA0 rfl ?_
  refine mv0 rfl <| clw0 rfl f_lawSign rfl ?_
  refine clw0 rfl (f_sqKey hx2 hsg) rfl ?_
  refine mv0 rfl <| xt0 rfl <| xt0 rfl <| xt0 rfl <| al0 74 rfl ?_
  refine stw0 rfl ?_
  refine asg0 rfl <| asg0 rfl ?_
  refine done ⟨by kernel_rfl, by kernel_rfl, ?_⟩
  refine Wp.seq <| reg ?_
  have hs1 := (sq_step hx2 hsg).1
  refine ldA0 rfl ?_
  refine clw0 rfl (f_edShown (d := (keyS (sqK d l x) 1 l[x]).ed) (t_ok hs1.is_)) rfl ?_
  refine mv0 rfl <| xt0 rfl <| xt0 rfl <| al0 78 rfl ?_
  refine asg0 rfl <| stw0 rfl ?_
  refine done ?_
  refine Wp.seq <| reg <| faA0 rfl ?_
  refine faA0 rfl ?_
  refine ldA0 rfl ?_
  first | refine lnM0 rfl ?_ | refine lns0 rfl ?_ | refine ln0 rfl ?_
  refine asg0 rfl <| done ?_
  refine Wp.seq <| Wp.seq <| regd mixed ?_
  refine mv0 rfl <| mv0 rfl ?_
  refine bcase 100 rfl (fun h100 => ?_) (fun h100 => ?_)
  have nh100 := Nz h100
  refine sk0 rfl h100 <| sk0 rfl h100 <| sk0 rfl h100 <| sk0 rfl h100 <| pkt0 rfl h100 <| mv0 rfl <| sk0 rfl rfl <| sk0 rfl rfl <| sk0 rfl rfl <| sk0 rfl rfl <| sku0 rfl <| sku0 rfl <| sku0 rfl <| sku0 rfl <| sku0 rfl <| sku0 rfl <| sku0 rfl <| sku0 rfl <| sku0 rfl <| sku0 rfl <| sku0 rfl <| sku0 rfl <| sku0 rfl <| sku0 rfl <| sku0 rfl <| sku0 rfl <| sk0 rfl rfl <| pkt0 rfl rfl <| mv0 rfl <| sk0 rfl rfl <| sk0 rfl rfl <| sk0 rfl rfl <| sk0 rfl rfl <| sk0 rfl rfl <| sku0 rfl <| sku0 rfl <| sku0 rfl <| sku0 rfl <| sku0 rfl <| sku0 rfl <| sk0 rfl rfl <| pkt0 rfl rfl ?_
  refine done ⟨by kernel_rfl, by kernel_rfl, ?_⟩
  refine Wp.condT rfl rfl <| Wp.seq <| reg <| asg0 rfl <| done ?_
  refine Wp.ret ?_
  refine Ends.ret (.cons (.tmp rfl (Fz.pure rfl)) <|  .nil) ?_
  · exact f_seeksLaw_k1
  have nh100 := Nz h100
  refine faA1 rfl h100 rfl ?_
  refine faA1 rfl h100 rfl ?_
  refine ldA1 rfl h100 rfl ?_
  refine nt1 rfl h100 rfl <| pkf0 rfl h100 <| mv0 rfl ?_
  refine bcase 106 rfl (fun h106 => ?_) (fun h106 => ?_)
  have nh106 := Nz h106
  refine sk0 rfl h106 <| sk0 rfl h106 <| sk0 rfl h106 <| sk0 rfl h106 <| sku0 rfl <| sku0 rfl <| sku0 rfl <| sku0 rfl <| sku0 rfl <| sku0 rfl <| sku0 rfl <| sku0 rfl <| sku0 rfl <| sku0 rfl <| sku0 rfl <| sku0 rfl <| sku0 rfl <| sku0 rfl <| sku0 rfl <| sku0 rfl <| sk0 rfl h106 <| pkt0 rfl h106 <| mv0 rfl <| sk0 rfl rfl <| sk0 rfl rfl <| sk0 rfl rfl <| sk0 rfl rfl <| sk0 rfl rfl <| sku0 rfl <| sku0 rfl <| sku0 rfl <| sku0 rfl <| sku0 rfl <| sku0 rfl <| sk0 rfl rfl <| pkt0 rfl rfl ?_
  refine done ⟨by kernel_rfl, by kernel_rfl, ?_⟩
  refine Wp.condT rfl rfl <| Wp.seq <| reg <| asg0 rfl <| done ?_
  refine Wp.ret ?_
  refine Ends.ret (.cons (.tmp rfl (Fz.pure rfl)) <|  .nil) ?_
  · exact f_seeksLaw_k1
  have nh106 := Nz h106
  refine faA1 rfl h106 rfl ?_
  refine faA1 rfl h106 rfl ?_
  refine ldA1 rfl h106 rfl ?_
  refine mv1 rfl h106 rfl ?_
  refine bcase 110 rfl (fun h110 => ?_) (fun h110 => ?_)
  have nh110 := Nz h110
  have hsh := (sq_hit hs1 (by assumption)).1
  refine faA1 rfl h110 rfl ?_
  refine ldA1 rfl h110 rfl ?_
  first | refine lnM1 rfl h110 rfl ?_ | refine lns1 rfl h110 rfl ?_ | refine ln1 rfl h110 rfl ?_
  refine mv1 rfl h110 rfl <| cmp1 rfl h110 rfl <| mv1 rfl h110 rfl ?_
  refine bcase 116 rfl (fun h116 => ?_) (fun h116 => ?_)
  have nh116 := Nz h116
  refine sk0 rfl h116 <| sk0 rfl h116 <| sk0 rfl h116 <| sk0 rfl h116 <| sk0 rfl h116 <| sk0 rfl h116 <| sk0 rfl h116 <| sk0 rfl h116 <| sk0 rfl h116 <| pkt1 rfl h110 rfl h116 <| pkt1 rfl h106 rfl h110 <| pkf0 rfl h106 <| mv0 rfl <| sk0 rfl rfl <| sk0 rfl rfl <| sk0 rfl rfl <| sk0 rfl rfl <| sk0 rfl rfl <| sku0 rfl <| sku0 rfl <| sku0 rfl <| sku0 rfl <| sku0 rfl <| sku0 rfl <| sk0 rfl rfl <| pkt0 rfl rfl ?_
  refine done ⟨by kernel_rfl, by kernel_rfl, ?_⟩
  refine Wp.condT rfl rfl <| Wp.seq <| reg <| asg0 rfl <| done ?_
  refine Wp.ret ?_
  refine Ends.ret (.cons (.tmp rfl (Fz.pure rfl)) <|  .nil) ?_
  · exact f_seeksLaw_k1
  have nh116 := Nz h116
  refine faA1 rfl h116 rfl ?_
  refine ldA1 rfl h116 rfl ?_
  refine mv1 rfl h116 rfl <| sl2M (0) ((keyS (sqK d l x) 1 l[x]).ed.f.pat.length) ((shownS (keyS (sqK d l x) 1 l[x]).ed).2.b.take (keyS (sqK d l x) 1 l[x]).ed.f.pat.length) rfl rfl rfl Og Og ⟨Bd, Bd⟩ (by simp) rfl (.want rfl rfl h116) ?_
  refine faA1 rfl h116 rfl ?_
  refine faA1 rfl h116 rfl ?_
  refine ldA1 rfl h116 rfl ?_
  refine clw1 rfl h116 rfl (f_same01e (sq_hit hs1 (by assumption)).2) rfl ?_
  refine nt1 rfl h116 rfl <| pkf1 rfl h110 rfl h116 <| pkt1 rfl h106 rfl h110 <| pkf0 rfl h106 <| mv0 rfl ?_
  refine bcase 129 rfl (fun h129 => ?_) (fun h129 => ?_)
  have nh129 := Nz h129
  refine sk0 rfl h129 <| sk0 rfl h129 <| sk0 rfl h129 <| sk0 rfl h129 <| sk0 rfl h129 <| sku0 rfl <| sku0 rfl <| sku0 rfl <| sku0 rfl <| sku0 rfl <| sku0 rfl <| sk0 rfl h129 <| pkt0 rfl h129 ?_
  refine done ⟨by kernel_rfl, by kernel_rfl, ?_⟩
  refine Wp.condT rfl rfl <| Wp.seq <| reg <| asg0 rfl <| done ?_
  refine Wp.ret ?_
  refine Ends.ret (.cons (.tmp rfl (Fz.pure rfl)) <|  .nil) ?_
  · exact f_seeksLaw_k1
  have nh129 := Nz h129
  refine faA1 rfl h129 rfl ?_
  refine faA1 rfl h129 rfl ?_
  refine ldA1 rfl h129 rfl ?_
  refine nt1 rfl h129 rfl <| mv1 rfl h129 rfl ?_
  refine bcase 134 rfl (fun h134 => ?_) (fun h134 => ?_)
  have nh134 := Nz h134
  refine ldA1 rfl h134 rfl ?_
  refine faA1 rfl h134 rfl ?_
  refine faA1 rfl h134 rfl ?_
  refine ldA1 rfl h134 rfl ?_
  refine clw1 rfl h134 rfl (f_same10e (sq_no hs1 (by assumption))) rfl ?_
  refine nt1 rfl h134 rfl <| pkt1 rfl h129 rfl h134 <| pkf0 rfl h129 ?_
  refine done ⟨by kernel_rfl, by kernel_rfl, ?_⟩
  refine Wp.cond rfl (fun c10 => ?_) (fun c10 => ?_)
  have nc10 := Nz c10
  refine Wp.seq <| reg <| asg0 rfl <| done ?_
  refine Wp.ret ?_
  refine Ends.ret (.cons (.tmp rfl (Fz.pure rfl)) <|  .nil) ?_
  · exact f_seeksLaw_k1
  have nc10 := Nz c10
  refine Wp.skip <| reg <| ldA0 rfl ?_
  refine stw0 rfl ?_
  refine done ?_
  refine reg <| mv0 rfl <| ar0 rfl (wrapI Bd) <| asg0 rfl <| done ?_
  first | exact ⟨x + 1, ⟨by omega, (sqK_yes d (l := l) (i := x) (by omega) hsg) ▸ hs1⟩, by omega, Rp, ⟨congrArg (fun z => some (Blk.cells 46 (edC z))) (sqK_yes d (l := l) (i := x) (by omega) hsg), Rp⟩, rfl⟩ | exact ⟨x + 1, ⟨by omega, (sqK_no d (l := l) (i := x) (by omega) (by rintro (h | h | h | ⟨h1, h2⟩) <;> first | omega | (simp_all; done))) ▸ hx2⟩, by omega, Rp, ⟨congrArg (fun z => some (Blk.cells 46 (edC z))) (sqK_no d (l := l) (i := x) (by omega) (by rintro (h | h | h | ⟨h1, h2⟩) <;> first | omega | (simp_all; done))), Rp⟩, rfl⟩
  have nh134 := Nz h134
  refine sk0 rfl h134 <| sk0 rfl h134 <| sk0 rfl h134 <| sk0 rfl h134 <| sk0 rfl h134 <| sk0 rfl h134 <| pkf1 rfl h129 rfl h134 <| pkf0 rfl h129 ?_
  refine done ⟨by kernel_rfl, by kernel_rfl, ?_⟩
  refine Wp.condF rfl rfl <| Wp.skip <| reg <| ldA0 rfl ?_
  refine stw0 rfl ?_
  refine done ?_
  refine reg <| mv0 rfl <| ar0 rfl (wrapI Bd) <| asg0 rfl <| done ?_
  first | exact ⟨x + 1, ⟨by omega, (sqK_yes d (l := l) (i := x) (by omega) hsg) ▸ hs1⟩, by omega, Rp, ⟨congrArg (fun z => some (Blk.cells 46 (edC z))) (sqK_yes d (l := l) (i := x) (by omega) hsg), Rp⟩, rfl⟩ | exact ⟨x + 1, ⟨by omega, (sqK_no d (l := l) (i := x) (by omega) (by rintro (h | h | h | ⟨h1, h2⟩) <;> first | omega | (simp_all; done))) ▸ hx2⟩, by omega, Rp, ⟨congrArg (fun z => some (Blk.cells 46 (edC z))) (sqK_no d (l := l) (i := x) (by omega) (by rintro (h | h | h | ⟨h1, h2⟩) <;> first | omega | (simp_all; done))), Rp⟩, rfl⟩
  have nh110 := Nz h110
  refine sk0 rfl h110 <| sk0 rfl h110 <| sk0 rfl h110 <| sk0 rfl h110 <| sk0 rfl h110 <| sk0 rfl h110 <| sku0 rfl <| sku0 rfl <| sku0 rfl <| sku0 rfl <| sku0 rfl <| sku0 rfl <| sku0 rfl <| sku0 rfl <| sku0 rfl <| sk0 rfl h110 <| pkf1 rfl h106 rfl h110 <| pkf0 rfl h106 <| mv0 rfl <| faA1 rfl rfl rfl ?_
  refine faA1 rfl rfl rfl ?_
  refine ldA1 rfl rfl rfl ?_
  refine nt1 rfl rfl rfl <| mv1 rfl rfl rfl ?_
  refine bcase 134 rfl (fun h134 => ?_) (fun h134 => ?_)
  have nh134 := Nz h134
  refine ldA1 rfl h134 rfl ?_
  refine faA1 rfl h134 rfl ?_
  refine faA1 rfl h134 rfl ?_
  refine ldA1 rfl h134 rfl ?_
  refine clw1 rfl h134 rfl (f_same10e (sq_no hs1 (by assumption))) rfl ?_
  refine nt1 rfl h134 rfl <| pkt1 rfl rfl rfl h134 <| pkf0 rfl rfl ?_
  refine done ⟨by kernel_rfl, by kernel_rfl, ?_⟩
  refine Wp.cond rfl (fun c11 => ?_) (fun c11 => ?_)
  have nc11 := Nz c11
  refine Wp.seq <| reg <| asg0 rfl <| done ?_
  refine Wp.ret ?_
  refine Ends.ret (.cons (.tmp rfl (Fz.pure rfl)) <|  .nil) ?_
  · exact f_seeksLaw_k1
  have nc11 := Nz c11
  refine Wp.skip <| reg <| ldA0 rfl ?_
  refine stw0 rfl ?_
  refine done ?_
  refine reg <| mv0 rfl <| ar0 rfl (wrapI Bd) <| asg0 rfl <| done ?_
  first | exact ⟨x + 1, ⟨by omega, (sqK_yes d (l := l) (i := x) (by omega) hsg) ▸ hs1⟩, by omega, Rp, ⟨congrArg (fun z => some (Blk.cells 46 (edC z))) (sqK_yes d (l := l) (i := x) (by omega) hsg), Rp⟩, rfl⟩ | exact ⟨x + 1, ⟨by omega, (sqK_no d (l := l) (i := x) (by omega) (by rintro (h | h | h | ⟨h1, h2⟩) <;> first | omega | (simp_all; done))) ▸ hx2⟩, by omega, Rp, ⟨congrArg (fun z => some (Blk.cells 46 (edC z))) (sqK_no d (l := l) (i := x) (by omega) (by rintro (h | h | h | ⟨h1, h2⟩) <;> first | omega | (simp_all; done))), Rp⟩, rfl⟩
  have nh134 := Nz h134
  refine sk0 rfl h134 <| sk0 rfl h134 <| sk0 rfl h134 <| sk0 rfl h134 <| sk0 rfl h134 <| sk0 rfl h134 <| pkf1 rfl rfl rfl h134 <| pkf0 rfl rfl ?_
  refine done ⟨by kernel_rfl, by kernel_rfl, ?_⟩
  refine Wp.condF rfl rfl <| Wp.skip <| reg <| ldA0 rfl ?_
  refine stw0 rfl ?_
  refine done ?_
  refine reg <| mv0 rfl <| ar0 rfl (wrapI Bd) <| asg0 rfl <| done ?_
  first | exact ⟨x + 1, ⟨by omega, (sqK_yes d (l := l) (i := x) (by omega) hsg) ▸ hs1⟩, by omega, Rp, ⟨congrArg (fun z => some (Blk.cells 46 (edC z))) (sqK_yes d (l := l) (i := x) (by omega) hsg), Rp⟩, rfl⟩ | exact ⟨x + 1, ⟨by omega, (sqK_no d (l := l) (i := x) (by omega) (by rintro (h | h | h | ⟨h1, h2⟩) <;> first | omega | (simp_all; done))) ▸ hx2⟩, by omega, Rp, ⟨congrArg (fun z => some (Blk.cells 46 (edC z))) (sqK_no d (l := l) (i := x) (by omega) (by rintro (h | h | h | ⟨h1, h2⟩) <;> first | omega | (simp_all; done))), Rp⟩, rfl⟩
  have nc2 := Nz c2
  refine Wp.exit <| Wp.seq <| regd mixed ?_
  refine ldA0 rfl ?_
  refine clw0 rfl f_lawSign rfl ?_
  refine clw0 rfl (f_sqEnd hx2) rfl ?_
  refine mv0 rfl <| xt0 rfl <| xt0 rfl <| xt0 rfl <| al0 80 rfl ?_
  refine stw0 rfl ?_
  refine asg0 rfl <| asg0 rfl ?_
  refine done ⟨by kernel_rfl, by kernel_rfl, ?_⟩
  refine Wp.seq <| reg <| clw0 rfl f_typed rfl ?_
  refine mv0 rfl ?_
  refine bcase 152 rfl (fun h152 => ?_) (fun h152 => ?_)
  have nh152 := Nz h152
  refine mv1 rfl h152 rfl <| nt1 rfl h152 rfl <| pkt0 rfl h152 <| mv0 rfl ?_
  refine bcase 156 rfl (fun h156 => ?_) (fun h156 => ?_)
  have nh156 := Nz h156
  refine faA1 rfl h156 rfl ?_
  refine faA1 rfl h156 rfl ?_
  refine ldA1 rfl h156 rfl ?_
  refine nt1 rfl h156 rfl <| pkt0 rfl h156 <| mv0 rfl ?_
  refine bcase 162 rfl (fun h162 => ?_) (fun h162 => ?_)
  have nh162 := Nz h162
  refine faA1 rfl h162 rfl ?_
  refine faA1 rfl h162 rfl ?_
  refine ldA1 rfl h162 rfl ?_
  refine faA1 rfl h162 rfl ?_
  refine faA1 rfl h162 rfl ?_
  refine ldA1 rfl h162 rfl ?_
  refine clw1 rfl h162 rfl (f_same10e (sq_g hx2)) rfl ?_
  refine pkt0 rfl h162 <| mv0 rfl ?_
  refine bcase 171 rfl (fun h171 => ?_) (fun h171 => ?_)
  have nh171 := Nz h171
  refine faA1 rfl h171 rfl ?_
  refine faA1 rfl h171 rfl ?_
  refine ldA1 rfl h171 rfl ?_
  refine faA1 rfl h171 rfl ?_
  refine faA1 rfl h171 rfl ?_
  refine ldA1 rfl h171 rfl ?_
  refine clw1 rfl h171 rfl (f_same12e (sq_k hx2)) rfl ?_
  refine pkt0 rfl h171 <| mv0 rfl ?_
  refine bcase 180 rfl (fun h180 => ?_) (fun h180 => ?_)
  have nh180 := Nz h180
  refine faA1 rfl h180 rfl ?_
  refine faA1 rfl h180 rfl ?_
  refine ldA1 rfl h180 rfl ?_
  refine faA1 rfl h180 rfl ?_
  refine faA1 rfl h180 rfl ?_
  refine ldA1 rfl h180 rfl ?_
  refine clw1 rfl h180 rfl (f_same13e (sq_u hx2)) rfl ?_
  refine pkt0 rfl h180 <| mv0 rfl ?_
  refine bcase 189 rfl (fun h189 => ?_) (fun h189 => ?_)
  have nh189 := Nz h189
  refine faA1 rfl h189 rfl ?_
  refine ldA1 rfl h189 rfl ?_
  refine faA1 rfl h189 rfl ?_
  refine ldA1 rfl h189 rfl ?_
  refine clw1 rfl h189 rfl (f_same19e hx2.p) rfl ?_
  refine pkt0 rfl h189 <| mv0 rfl ?_
  refine bcase 196 rfl (fun h196 => ?_) (fun h196 => ?_)
  have nh196 := Nz h196
  refine faA1 rfl h196 rfl ?_
  refine ldA1 rfl h196 rfl ?_
  refine faA1 rfl h196 rfl ?_
  refine ldA1 rfl h196 rfl ?_
  refine clw1 rfl h196 rfl (f_same20e hx2.s) rfl ?_
  refine pkt0 rfl h196 <| mv0 rfl ?_
  refine bcase 203 rfl (fun h203 => ?_) (fun h203 => ?_)
  have nh203 := Nz h203
  refine faA1 rfl h203 rfl ?_
  refine ldA1 rfl h203 rfl ?_
  refine bdw1 rfl h203 rfl ?_
  refine cms1 rfl h203 rfl ?_
  refine pkt0 rfl h203 <| asg0 rfl <| done ?_
  refine Wp.ret ?_
  refine Ends.ret (.cons (.tmp rfl (Fz.pure rfl)) <|  .nil) ?_
  · exact f_seeksLaw_k1
  have nh203 := Nz h203
  refine sk0 rfl h203 <| sk0 rfl h203 <| sk0 rfl h203 <| sk0 rfl h203 <| pkf0 rfl h203 <| asg0 rfl <| done ?_
  refine Wp.ret ?_
  refine Ends.ret (.cons (.tmp rfl (Fz.pure rfl)) <|  .nil) ?_
  · exact f_seeksLaw_k1
  have nh196 := Nz h196
  refine sk0 rfl h196 <| sk0 rfl h196 <| sk0 rfl h196 <| sk0 rfl h196 <| sk0 rfl h196 <| pkf0 rfl h196 <| mv0 rfl <| sk0 rfl rfl <| sk0 rfl rfl <| sk0 rfl rfl <| sk0 rfl rfl <| pkf0 rfl rfl <| asg0 rfl <| done ?_
  refine Wp.ret ?_
  refine Ends.ret (.cons (.tmp rfl (Fz.pure rfl)) <|  .nil) ?_
  · exact f_seeksLaw_k1
  have nh189 := Nz h189
  refine sk0 rfl h189 <| sk0 rfl h189 <| sk0 rfl h189 <| sk0 rfl h189 <| sk0 rfl h189 <| pkf0 rfl h189 <| mv0 rfl <| sk0 rfl rfl <| sk0 rfl rfl <| sk0 rfl rfl <| sk0 rfl rfl <| sk0 rfl rfl <| pkf0 rfl rfl <| mv0 rfl <| sk0 rfl rfl <| sk0 rfl rfl <| sk0 rfl rfl <| sk0 rfl rfl <| pkf0 rfl rfl <| asg0 rfl <| done ?_
  refine Wp.ret ?_
  refine Ends.ret (.cons (.tmp rfl (Fz.pure rfl)) <|  .nil) ?_
  · exact f_seeksLaw_k1
  have nh180 := Nz h180
  refine sk0 rfl h180 <| sk0 rfl h180 <| sk0 rfl h180 <| sk0 rfl h180 <| sk0 rfl h180 <| sk0 rfl h180 <| sk0 rfl h180 <| pkf0 rfl h180 <| mv0 rfl <| sk0 rfl rfl <| sk0 rfl rfl <| sk0 rfl rfl <| sk0 rfl rfl <| sk0 rfl rfl <| pkf0 rfl rfl <| mv0 rfl <| sk0 rfl rfl <| sk0 rfl rfl <| sk0 rfl rfl <| sk0 rfl rfl <| sk0 rfl rfl <| pkf0 rfl rfl <| mv0 rfl <| sk0 rfl rfl <| sk0 rfl rfl <| sk0 rfl rfl <| sk0 rfl rfl <| pkf0 rfl rfl <| asg0 rfl <| done ?_
  refine Wp.ret ?_
  refine Ends.ret (.cons (.tmp rfl (Fz.pure rfl)) <|  .nil) ?_
  · exact f_seeksLaw_k1
  have nh171 := Nz h171
  refine sk0 rfl h171 <| sk0 rfl h171 <| sk0 rfl h171 <| sk0 rfl h171 <| sk0 rfl h171 <| sk0 rfl h171 <| sk0 rfl h171 <| pkf0 rfl h171 <| mv0 rfl <| sk0 rfl rfl <| sk0 rfl rfl <| sk0 rfl rfl <| sk0 rfl rfl <| sk0 rfl rfl <| sk0 rfl rfl <| sk0 rfl rfl <| pkf0 rfl rfl <| mv0 rfl <| sk0 rfl rfl <| sk0 rfl rfl <| sk0 rfl rfl <| sk0 rfl rfl <| sk0 rfl rfl <| pkf0 rfl rfl <| mv0 rfl <| sk0 rfl rfl <| sk0 rfl rfl <| sk0 rfl rfl <| sk0 rfl rfl <| sk0 rfl rfl <| pkf0 rfl rfl <| mv0 rfl <| sk0 rfl rfl <| sk0 rfl rfl <| sk0 rfl rfl <| sk0 rfl rfl <| pkf0 rfl rfl <| asg0 rfl <| done ?_
  refine Wp.ret ?_
  refine Ends.ret (.cons (.tmp rfl (Fz.pure rfl)) <|  .nil) ?_
  · exact f_seeksLaw_k1
  have nh162 := Nz h162
  refine sk0 rfl h162 <| sk0 rfl h162 <| sk0 rfl h162 <| sk0 rfl h162 <| sk0 rfl h162 <| sk0 rfl h162 <| sk0 rfl h162 <| pkf0 rfl h162 <| mv0 rfl <| sk0 rfl rfl <| sk0 rfl rfl <| sk0 rfl rfl <| sk0 rfl rfl <| sk0 rfl rfl <| sk0 rfl rfl <| sk0 rfl rfl <| pkf0 rfl rfl <| mv0 rfl <| sk0 rfl rfl <| sk0 rfl rfl <| sk0 rfl rfl <| sk0 rfl rfl <| sk0 rfl rfl <| sk0 rfl rfl <| sk0 rfl rfl <| pkf0 rfl rfl <| mv0 rfl <| sk0 rfl rfl <| sk0 rfl rfl <| sk0 rfl rfl <| sk0 rfl rfl <| sk0 rfl rfl <| pkf0 rfl rfl <| mv0 rfl <| sk0 rfl rfl <| sk0 rfl rfl <| sk0 rfl rfl <| sk0 rfl rfl <| sk0 rfl rfl <| pkf0 rfl rfl <| mv0 rfl <| sk0 rfl rfl <| sk0 rfl rfl <| sk0 rfl rfl <| sk0 rfl rfl <| pkf0 rfl rfl <| asg0 rfl <| done ?_
  refine Wp.ret ?_
  refine Ends.ret (.cons (.tmp rfl (Fz.pure rfl)) <|  .nil) ?_
  · exact f_seeksLaw_k1
  have nh156 := Nz h156
  refine sk0 rfl h156 <| sk0 rfl h156 <| sk0 rfl h156 <| sk0 rfl h156 <| pkf0 rfl h156 <| mv0 rfl <| sk0 rfl rfl <| sk0 rfl rfl <| sk0 rfl rfl <| sk0 rfl rfl <| sk0 rfl rfl <| sk0 rfl rfl <| sk0 rfl rfl <| pkf0 rfl rfl <| mv0 rfl <| sk0 rfl rfl <| sk0 rfl rfl <| sk0 rfl rfl <| sk0 rfl rfl <| sk0 rfl rfl <| sk0 rfl rfl <| sk0 rfl rfl <| pkf0 rfl rfl <| mv0 rfl <| sk0 rfl rfl <| sk0 rfl rfl <| sk0 rfl rfl <| sk0 rfl rfl <| sk0 rfl rfl <| sk0 rfl rfl <| sk0 rfl rfl <| pkf0 rfl rfl <| mv0 rfl <| sk0 rfl rfl <| sk0 rfl rfl <| sk0 rfl rfl <| sk0 rfl rfl <| sk0 rfl rfl <| pkf0 rfl rfl <| mv0 rfl <| sk0 rfl rfl <| sk0 rfl rfl <| sk0 rfl rfl <| sk0 rfl rfl <| sk0 rfl rfl <| pkf0 rfl rfl <| mv0 rfl <| sk0 rfl rfl <| sk0 rfl rfl <| sk0 rfl rfl <| sk0 rfl rfl <| pkf0 rfl rfl <| asg0 rfl <| done ?_
  refine Wp.ret ?_
  refine Ends.ret (.cons (.tmp rfl (Fz.pure rfl)) <|  .nil) ?_
  · exact f_seeksLaw_k1
  have nh152 := Nz h152
  refine sk0 rfl h152 <| sk0 rfl h152 <| pkf0 rfl h152 <| mv0 rfl <| sk0 rfl rfl <| sk0 rfl rfl <| sk0 rfl rfl <| sk0 rfl rfl <| pkf0 rfl rfl <| mv0 rfl <| sk0 rfl rfl <| sk0 rfl rfl <| sk0 rfl rfl <| sk0 rfl rfl <| sk0 rfl rfl <| sk0 rfl rfl <| sk0 rfl rfl <| pkf0 rfl rfl <| mv0 rfl <| sk0 rfl rfl <| sk0 rfl rfl <| sk0 rfl rfl <| sk0 rfl rfl <| sk0 rfl rfl <| sk0 rfl rfl <| sk0 rfl rfl <| pkf0 rfl rfl <| mv0 rfl <| sk0 rfl rfl <| sk0 rfl rfl <| sk0 rfl rfl <| sk0 rfl rfl <| sk0 rfl rfl <| sk0 rfl rfl <| sk0 rfl rfl <| pkf0 rfl rfl <| mv0 rfl <| sk0 rfl rfl <| sk0 rfl rfl <| sk0 rfl rfl <| sk0 rfl rfl <| sk0 rfl rfl <| pkf0 rfl rfl <| mv0 rfl <| sk0 rfl rfl <| sk0 rfl rfl <| sk0 rfl rfl <| sk0 rfl rfl <| sk0 rfl rfl <| pkf0 rfl rfl <| mv0 rfl <| sk0 rfl rfl <| sk0 rfl rfl <| sk0 rfl rfl <| sk0 rfl rfl <| pkf0 rfl rfl <| asg0 rfl <| done ?_
  refine Wp.ret ?_
  refine Ends.ret (.cons (.tmp rfl (Fz.pure rfl)) <|  .nil) ?_
  · exact f_seeksLaw_k1

end Go.Proofs.YtkcdmmafkpplhaaGreat