/- Own texts of this claim, laid together: EngAF, ES, E24, E26. -/
import Derived.OpenShut
import Derived.Deep.Slices
import Derived.Test.YtkcdmmafkpplhaaGreatEditorTypesB5
set_option linter.unusedVariables false
set_option linter.unusedSimpArgs false
/- The engine, part AF: what a row hands over reads as abstract data. No program in sight. -/
namespace Go.Eng
open Go

/-- How a cell is laid out. -/
inductive Sh where
  | int (k : IntKind)
  | bool
  | str
  | slice (l : List Sh)

/-- How a type's cells are laid out. -/
def layFs (lay : TypeId → Option (List Sh)) (size : TypeId → Nat) : List Field → Nat → Option (List Sh)
  | [], _ => some []
  | f :: fs, off => if f.offset = off then
      match lay f.type with
      | some l => if size f.type = l.length then (layFs lay size fs (off + l.length)).map (l ++ ·) else none
      | none => none
    else none
def lay (P : Program) : Nat → TypeId → Option (List Sh)
  | 0, _ => none
  | n + 1, t =>
    match P.underlying t with
    | some .bool => some [.bool]
    | some (.int k) => some [.int k]
    | some .string => some [.str]
    | some (.slice e) => match lay P n e with
      | some l => if P.cellsOf e = l.length ∧ 0 < l.length then some [.slice l] else none
      | none => none
    | some (.struct fs) => match layFs (lay P n) P.cellsOf fs.toList 0 with
      | some l => if P.cellsOf t = l.length then some l else none
      | none => none
    | _ => none

/-- A datum of a layout. -/
inductive Fits : Sh → D → Prop
  | int (k : IntKind) (n : Int) (h : (Lit.int k n).wf = true) : Fits (.int k) (.int k n)
  | bool (b : Bool) : Fits .bool (.bool b)
  | str (s : ByteArray) (h : s.size ≤ maxLen) : Fits .str (.str s)
  | slice (l : List Sh) (rows : List (List D)) (hm : rows.length ≤ maxLen) (hl : ∀ r ∈ rows, r.length = l.length)
      (h : ∀ r ∈ rows, ∀ (i : Nat) (s : Sh) (d : D), l[i]? = some s → r[i]? = some d → Fits s d) : Fits (.slice l) (.rows false rows)
structure FitsL (l : List Sh) (ds : List D) : Prop where
  len : ds.length = l.length
  fit : ∀ (i : Nat) (s : Sh) (d : D), l[i]? = some s → ds[i]? = some d → Fits s d
structure AllDen (H : GH) (ds : List D) (cs : List Value) : Prop where
  len : cs.length = ds.length
  den : ∀ (i : Nat) (d : D) (v : Value), ds[i]? = some d → cs[i]? = some v → DenP H d v
theorem FitsL.one {s : Sh} {d : D} (h : Fits s d) : FitsL [s] [d] := ⟨rfl, fun i s' d' h1 h2 => by
  match i, h1, h2 with
  | 0, h1, h2 => simp at h1 h2; subst h1 h2; exact h
  | i + 1, h1, _ => simp at h1⟩
theorem AllDen.one {H : GH} {d : D} {v : Value} (h : DenP H d v) : AllDen H [d] [v] := ⟨rfl, fun i d' v' h1 h2 => by
  match i, h1, h2 with
  | 0, h1, h2 => simp at h1 h2; subst h1 h2; exact h
  | i + 1, h1, _ => simp at h1⟩
theorem FitsL.app {l1 l2 : List Sh} {d1 d2 : List D} (h1 : FitsL l1 d1) (h2 : FitsL l2 d2) : FitsL (l1 ++ l2) (d1 ++ d2) := ⟨by rw [List.length_append, List.length_append, h1.len, h2.len], fun i s d a b => by
  by_cases hi : i < l1.length
  · rw [List.getElem?_append_left hi] at a; rw [List.getElem?_append_left (by rw [h1.len]; exact hi)] at b; exact h1.fit i s d a b
  · rw [List.getElem?_append_right (by omega)] at a; rw [List.getElem?_append_right (by rw [h1.len]; omega), h1.len] at b; exact h2.fit _ s d a b⟩
theorem AllDen.app {H : GH} {d1 d2 : List D} {c1 c2 : List Value} (h1 : AllDen H d1 c1) (h2 : AllDen H d2 c2) : AllDen H (d1 ++ d2) (c1 ++ c2) := ⟨by rw [List.length_append, List.length_append, h1.len, h2.len], fun i s d a b => by
  by_cases hi : i < d1.length
  · rw [List.getElem?_append_left hi] at a; rw [List.getElem?_append_left (by rw [h1.len]; exact hi)] at b; exact h1.den i s d a b
  · rw [List.getElem?_append_right (by omega)] at a; rw [List.getElem?_append_right (by rw [h1.len]; omega), h1.len] at b; exact h2.den _ s d a b⟩

section
variable {H : Type} {enc : TypeId × Value → H} {P : Program} {w : World} {base : Nat} {spare : Nat → Bool} {held : Bool}
/-- All that there is. -/
def allH (w : World) : GH := fun b => w.heap[b]?
/-- What opening a type's cells gives. -/
def Opens (P : Program) (enc : TypeId × Value → H) (w : World) (base : Nat) (spare : Nat → Bool) (held : Bool) (t : TypeId) (shs : List Sh) : Prop :=
  ∀ fuel cs x, DataW.trod enc P w base spare held fuel t cs = some x → ∃ ds, FitsL shs ds ∧ AllDen (allH w) ds cs

theorem layFs_opens {lay : TypeId → Option (List Sh)} (ih : ∀ t shs, lay t = some shs → Opens P enc w base spare held t shs) {cs : List Value} :
    ∀ (fl : List Field) (off : Nat) (shs : List Sh), layFs lay P.cellsOf fl off = some shs → cs.length = off + shs.length →
      (∀ f ∈ fl, ∃ n x, DataW.trod enc P w base spare held n f.type ((cs.drop f.offset).take (P.cellsOf f.type)) = some x) →
      ∃ ds, FitsL shs ds ∧ AllDen (allH w) ds (cs.drop off)
  | [], off, shs, h, hc, _ => by
    simp only [layFs, Option.some.injEq] at h
    subst h
    refine ⟨[], ⟨rfl, by simp⟩, ⟨by rw [List.length_drop]; simp only [List.length_nil] at hc ⊢; omega, by simp⟩⟩
  | f :: fl, off, shs, h, hc, hf => by
    unfold layFs at h
    split at h
    case isFalse => cases h
    rename_i ho
    split at h
    case h_2 => cases h
    rename_i l hl
    split at h
    case isFalse => cases h
    rename_i hs
    obtain ⟨r, hr, rfl⟩ := Option.map_eq_some_iff.1 h
    rw [List.length_append] at hc
    obtain ⟨n, x, hx⟩ := hf f (List.mem_cons_self ..)
    obtain ⟨d1, f1, a1⟩ := ih f.type l hl n _ x hx
    obtain ⟨d2, f2, a2⟩ := layFs_opens ih fl (off + l.length) r hr (by omega) fun g hg => hf g (List.mem_cons_of_mem _ hg)
    refine ⟨d1 ++ d2, f1.app f2, ?_⟩
    rw [ho, hs] at a1
    have := a1.app a2
    rwa [← List.drop_drop, List.take_append_drop] at this

theorem opens_slice {t e : TypeId} {l : List Sh} (ht : P.underlying t = some (.slice e)) (hs : P.cellsOf e = l.length) (hp : 0 < l.length) (ih : Opens P enc w base spare held e l) : Opens P enc w base spare held t [.slice l] := by
  intro fuel cs x hx
  rcases Deep.open_slice ht hx with ⟨rfl, _⟩ | ⟨a, len, cap, m, n, Dd, Pl, rfl, hb, hl, hm, hmm, _, hel⟩
  · exact ⟨[.rows false []], .one (.slice l [] (by simp) (by simp) (by simp)), .one (.rowsE false none 0 (by simp))⟩
  by_cases h0 : len = 0
  · subst h0
    exact ⟨[.rows false []], .one (.slice l [] (by simp) (by simp) (by simp)), .one (.rowsE false _ cap (by simp))⟩
  have hlm : len ≤ m := by rw [hmm]; split <;> omega
  -- every element's data
  have hrow : ∀ i, i < len → ∃ ds cs', w.cells? base (a.add (i * l.length)) l.length = some cs' ∧ FitsL l ds ∧ AllDen (allH w) ds cs' := fun i hi => by
    obtain ⟨cs', h1, h2⟩ := hel i (by omega)
    obtain ⟨ds, h3, h4⟩ := ih _ _ _ h2
    rw [hs] at h1
    exact ⟨ds, cs', h1, h3, h4⟩
  obtain ⟨R, hR⟩ : ∃ R : Nat → List D, ∀ i, i < len → ∃ cs', w.cells? base (a.add (i * l.length)) l.length = some cs' ∧ FitsL l (R i) ∧ AllDen (allH w) (R i) cs' := by
    refine ⟨fun i => if h : i < len then (hrow i h).choose else [], fun i hi => ?_⟩
    simp only [dif_pos hi]
    exact (hrow i hi).choose_spec
  -- single cells
  have hcell : ∀ i, i < len → ∀ k, k < l.length → ∃ v, w.cell? (a.add (i * l.length + k)) = some v ∧ ∀ d, (R i)[k]? = some d → DenP (allH w) d v := fun i hi k hk => by
    obtain ⟨cs', h1, h2, h3⟩ := hR i hi
    unfold World.cells? at h1
    split at h1
    case isFalse => cases h1
    have hlen : cs'.length = l.length := by simpa using mapM_some_length h1
    have := mapM_some_get h1 k k (by simp [hk])
    rw [Deep.add_add] at this
    rw [List.getElem?_eq_getElem (by omega)] at this
    exact ⟨_, this, fun d hd => h3.den k d _ hd (List.getElem?_eq_getElem (by omega))⟩
  obtain ⟨b, off, spot⟩ := a
  have hsp : spot = none := by
    obtain ⟨v, hv, _⟩ := hcell 0 (by omega) 0 hp
    rw [Nat.zero_mul] at hv
    unfold World.cell? Addr.add at hv
    cases spot with
    | none => rfl
    | some s => exfalso; simp at hv; split at hv <;> simp_all
  subst hsp
  have hadd : ∀ i, (⟨b, off, none⟩ : Addr).add i = ⟨b, off + i, none⟩ := fun i => by unfold Addr.add; split <;> simp_all
  obtain ⟨arr, ty, fz, hbk⟩ : ∃ arr ty fz, w.heap[b]? = some (.cells arr ty fz) := by
    obtain ⟨v, hv, _⟩ := hcell 0 (by omega) 0 hp
    rw [hadd] at hv
    unfold World.cell? at hv
    split at hv
    · rename_i c e f h; exact ⟨c, e, f, h⟩
    · cases hv
  have harr : ∀ i, i < len → ∀ k, k < l.length → ∃ v, arr[off + i * l.length + k]? = some v ∧ ∀ d, (R i)[k]? = some d → DenP (allH w) d v := fun i hi k hk => by
    obtain ⟨v, hv, hd⟩ := hcell i hi k hk
    rw [hadd] at hv
    rw [← Nat.add_assoc] at hv
    exact ⟨v, by simpa [World.cell?, hbk] using hv, hd⟩
  have hin : off + len * l.length ≤ arr.size := by
    obtain ⟨v, hv, _⟩ := harr (len - 1) (by omega) (l.length - 1) (by omega)
    have h1 := (Array.getElem?_eq_some_iff.1 hv).1
    have h2 : (len - 1) * l.length + l.length = len * l.length := by
      have : len = (len - 1) + 1 := by omega
      conv => rhs; rw [this, Nat.add_mul, Nat.one_mul]
    omega
  refine ⟨[.rows false ((List.range len).map R)], .one (.slice l _ (by simp; omega) (fun r hr => ?_) (fun r hr i s d h1 h2 => ?_)), .one ?_⟩
  · obtain ⟨i, hi, rfl⟩ := List.mem_map.1 hr
    obtain ⟨_, _, h2, _⟩ := hR i (List.mem_range.1 hi)
    exact h2.len
  · obtain ⟨q, hq, rfl⟩ := List.mem_map.1 hr
    obtain ⟨_, _, h3, _⟩ := hR q (List.mem_range.1 hq)
    exact h3.fit i s d h1 h2
  · have hll : ((List.range len).map R).length = len := by simp
    have := DenP.rowsS (H := allH w) false ((List.range len).map R) b off cap l.length arr ty fz hbk (by intro h; rw [h] at hll; simp at hll; omega) (by rw [hll]; exact hl) (by simp)
      (fun row hr => by
        obtain ⟨i, hi, rfl⟩ := List.mem_map.1 hr
        obtain ⟨_, _, h2, _⟩ := hR i (List.mem_range.1 hi)
        exact h2.len) (by rw [hll]; exact hin) (fun i k row d v hi hk hv => by
        have hil : i < len := by rw [← hll]; exact (List.getElem?_eq_some_iff.1 hi).1
        have he : row = R i := by
          rw [List.getElem?_map, List.getElem?_range hil] at hi
          simpa using hi.symm
        subst he
        obtain ⟨_, _, h2, _⟩ := hR i hil
        have hkl : k < l.length := by rw [← h2.len]; exact (List.getElem?_eq_some_iff.1 hk).1
        obtain ⟨v', hv', hd⟩ := harr i hil k hkl
        rw [hv] at hv'; cases hv'
        exact hd d hk) (by rw [hll]; have : maxLen = 9223372036854775807 := rfl; omega)
    rwa [hll] at this

theorem lay_opens : ∀ (n : Nat) (t : TypeId) (shs : List Sh), lay P n t = some shs → Opens P enc w base spare held t shs
  | 0, _, _, h => by cases h
  | n + 1, t, shs, h => by
    have ih := lay_opens n
    unfold lay at h
    split at h
    · rename_i ht; cases h
      intro fuel cs x hx
      obtain ⟨b, rfl, _⟩ := DataW.trod_bool ht hx
      exact ⟨[.bool b], .one (.bool b), .one (.bool b)⟩
    · rename_i k ht; cases h
      intro fuel cs x hx
      obtain ⟨q, rfl, _, hw⟩ := DataW.trod_int ht hx
      exact ⟨[.int k q], .one (.int k q hw), .one (.int k q)⟩
    · rename_i ht; cases h
      intro fuel cs x hx
      obtain ⟨s, rfl, _, hs⟩ := DataW.trod_string ht hx
      exact ⟨[.str s], .one (.str s hs), .one (.str s)⟩
    · rename_i e ht
      split at h
      case h_2 => cases h
      rename_i l hl
      split at h
      case isFalse => cases h
      rename_i hs
      cases h
      exact opens_slice ht hs.1 hs.2 (ih e l hl)
    · rename_i fs ht
      split at h
      case h_2 => cases h
      rename_i l hl
      split at h
      case isFalse => cases h
      rename_i hs
      cases h
      intro fuel cs x hx
      obtain ⟨xs, q, _, _, hlen, hxl, hf⟩ := DataW.trod_struct ht hx
      have := layFs_opens (P := P) (enc := enc) (w := w) (base := base) (spare := spare) (held := held) (lay := lay P n) ih (cs := cs) fs.toList 0 shs hl (by omega) fun f hfm => by
        obtain ⟨i, hi, rfl⟩ := List.getElem_of_mem hfm
        have h1 := hf i fs.toList[i] (by simp at hi ⊢)
        exact ⟨q, _, h1.trans (List.getElem?_eq_getElem (by simp at hi; omega))⟩
      simpa using this
    · cases h
end

/-- An encoding reaches all data of a layout. -/
class Sur {α : Type} (C : α → List D) (l : outParam (List Sh)) : Prop where
  ex : ∀ ds, FitsL l ds → ∃ x, ds = C x
theorem Sur.rows {α : Type} {C : α → List D} {l : List Sh} [h : Sur C l] {d : D} (hf : Fits (.slice l) d) : ∃ xs : List α, d = .rows false (xs.map C) ∧ xs.length ≤ maxLen := by
  cases hf with
  | slice _ rows hm hl hr =>
    have : ∀ rows : List (List D), (∀ r ∈ rows, FitsL l r) → ∃ xs : List α, rows = xs.map C := by
      intro rows
      induction rows with
      | nil => exact fun _ => ⟨[], rfl⟩
      | cons r rs ih =>
        intro hall
        obtain ⟨x, hx⟩ := h.ex r (hall r (List.mem_cons_self ..))
        obtain ⟨xs, hxs⟩ := ih fun q hq => hall q (List.mem_cons_of_mem _ hq)
        exact ⟨x :: xs, by rw [hx, hxs]; rfl⟩
    obtain ⟨xs, rfl⟩ := this rows fun r hr' => ⟨hl r hr', hr r hr'⟩
    exact ⟨xs, rfl, by simpa using hm⟩
theorem Fits.int_inv {k : IntKind} {d : D} (h : Fits (.int k) d) : ∃ n, d = .int k n := by cases h; exact ⟨_, rfl⟩
theorem Fits.bool_inv {d : D} (h : Fits .bool d) : ∃ b, d = .bool b := by cases h; exact ⟨_, rfl⟩
theorem FitsL.nil_inv {ds : List D} (h : FitsL [] ds) : ds = [] := List.length_eq_zero_iff.1 h.len
theorem FitsL.cons_inv {s : Sh} {l : List Sh} {ds : List D} (h : FitsL (s :: l) ds) : ∃ d r, ds = d :: r ∧ Fits s d ∧ FitsL l r := by
  match ds, h with
  | [], h => have := h.len; simp at this
  | d :: r, h => exact ⟨d, r, rfl, h.fit 0 s d rfl rfl, ⟨by have := h.len; simpa using this, fun i s' d' h1 h2 => h.fit (i + 1) s' d' (by simpa using h1) (by simpa using h2)⟩⟩

/-- A struct that came in. -/
theorem came_agg {H : Type} {enc : TypeId × Value → H} {P : Program} {w : World} {base b0 : Nat} {spare : Nat → Bool} {held : Bool} {r : Reach} {t : TypeId} {v : Value} {x : DataW H} {ps : List MemPlace} {fs : Array Field} {n : Nat} {shs : List Sh}
    (ht : P.underlying t = some (.struct fs)) (hl : lay P n t = some shs) (hw : Value.okWide P w r b0 t v) (h : DataW.Trod enc P w base spare held t v x ps) : ∃ ds, FitsL shs ds ∧ DenP (allH w) (.agg ds) v := by
  obtain ⟨cs, rfl, _⟩ := WideShapes.okWide_struct ht hw
  obtain ⟨fuel, hf⟩ := h
  obtain ⟨ds, h1, h2⟩ := lay_opens n t shs hl _ _ _ hf
  have hlen : cs.size = ds.length := by simpa [Value.cells] using h2.len
  exact ⟨ds, h1, .agg ds cs hlen fun k d v a b => h2.den k d v a (by simpa [Value.cells] using b)⟩
/-- A slice that came in. -/
theorem came_slice {H : Type} {enc : TypeId × Value → H} {P : Program} {w : World} {base b0 : Nat} {spare : Nat → Bool} {held : Bool} {r : Reach} {t e : TypeId} {v : Value} {x : DataW H} {ps : List MemPlace} {n : Nat} {s : Sh}
    (ht : P.underlying t = some (.slice e)) (hl : lay P n t = some [s]) (hw : Value.okWide P w r b0 t v) (h : DataW.Trod enc P w base spare held t v x ps) : ∃ d, Fits s d ∧ DenP (allH w) d v := by
  obtain ⟨a, len, cap, rfl⟩ := WideShapes.okWide_slice ht hw
  obtain ⟨fuel, hf⟩ := h
  obtain ⟨ds, h1, h2⟩ := lay_opens n t _ hl _ _ _ hf
  obtain ⟨d, r, rfl, h3, h4⟩ := h1.cons_inv
  exact ⟨d, h3, h2.den 0 d _ rfl (by simp [Value.cells])⟩
end Go.Eng

/- What a row hands over reads as an editor, keys, signs. -/
namespace Go.Proofs.YtkcdmmafkpplhaaGreat
open Go.Eng
instance : Sur runR [.int .i32] := ⟨fun ds h => by
  obtain ⟨d, r, rfl, h1, h2⟩ := h.cons_inv
  obtain ⟨n, rfl⟩ := h1.int_inv
  rw [h2.nil_inv]; exact ⟨n, rfl⟩⟩
instance : Sur rowC [.slice [.int .i32]] := ⟨fun ds h => by
  obtain ⟨d, r, rfl, h1, h2⟩ := h.cons_inv
  obtain ⟨x, rfl, _⟩ := Sur.rows (C := runR) h1
  rw [h2.nil_inv]; exact ⟨x, rfl⟩⟩
instance : Sur gapC [.slice [.int .i32], .slice [.int .i32]] := ⟨fun ds h => by
  obtain ⟨d, r, rfl, h1, h2⟩ := h.cons_inv
  obtain ⟨d2, r2, rfl, h3, h4⟩ := h2.cons_inv
  obtain ⟨x, rfl, _⟩ := Sur.rows (C := runR) h1
  obtain ⟨y, rfl, _⟩ := Sur.rows (C := runR) h3
  rw [h4.nil_inv]; exact ⟨⟨x, y⟩, rfl⟩⟩
instance : Sur slotC [.int .i64, .slice [.int .i32], .slice [.int .i32]] := ⟨fun ds h => by
  obtain ⟨d, r, rfl, h1, h2⟩ := h.cons_inv
  obtain ⟨d2, r2, rfl, h3, h4⟩ := h2.cons_inv
  obtain ⟨d3, r3, rfl, h5, h6⟩ := h4.cons_inv
  obtain ⟨n, rfl⟩ := h1.int_inv
  obtain ⟨x, rfl, _⟩ := Sur.rows (C := runR) h3
  obtain ⟨y, rfl, _⟩ := Sur.rows (C := runR) h5
  rw [h6.nil_inv]; exact ⟨⟨n, ⟨x, y⟩⟩, rfl⟩⟩
def keyR (k : Int × Int) : List D := [.int .i64 k.1, .int .i32 k.2]
instance : Enc keyR 2 := ⟨fun _ => ⟨rfl, rfl⟩⟩
instance : Sur keyR [.int .i64, .int .i32] := ⟨fun ds h => by
  obtain ⟨d, r, rfl, h1, h2⟩ := h.cons_inv
  obtain ⟨d2, r2, rfl, h3, h4⟩ := h2.cons_inv
  obtain ⟨n, rfl⟩ := h1.int_inv
  obtain ⟨m, rfl⟩ := h3.int_inv
  rw [h4.nil_inv]; exact ⟨(n, m), rfl⟩⟩
abbrev edShs : List Sh := [.slice [.int .i32], .slice [.int .i32], .slice [.slice [.int .i32]], .slice [.slice [.int .i32], .slice [.int .i32]], .int .i64, .int .i64, .int .i64, .bool, .bool, .int .i64, .int .i64, .int .i64, .int .i64, .bool, .int .i64, .int .i64, .slice [.slice [.int .i32]], .int .i64, .slice [.int .i64, .slice [.int .i32], .slice [.int .i32]], .bool, .bool, .slice [.int .i32], .int .i64, .bool, .int .i64, .int .i64, .int .i64]
theorem ed_sur {ds : List D} (h : FitsL edShs ds) : ∃ d : Ed, ds = edC d := by
  obtain ⟨d0, r0, rfl, h0, g0⟩ := h.cons_inv
  obtain ⟨d1, r1, rfl, h1, g1⟩ := g0.cons_inv
  obtain ⟨d2, r2, rfl, h2, g2⟩ := g1.cons_inv
  obtain ⟨d3, r3, rfl, h3, g3⟩ := g2.cons_inv
  obtain ⟨d4, r4, rfl, h4, g4⟩ := g3.cons_inv
  obtain ⟨d5, r5, rfl, h5, g5⟩ := g4.cons_inv
  obtain ⟨d6, r6, rfl, h6, g6⟩ := g5.cons_inv
  obtain ⟨d7, r7, rfl, h7, g7⟩ := g6.cons_inv
  obtain ⟨d8, r8, rfl, h8, g8⟩ := g7.cons_inv
  obtain ⟨d9, r9, rfl, h9, g9⟩ := g8.cons_inv
  obtain ⟨d10, r10, rfl, h10, g10⟩ := g9.cons_inv
  obtain ⟨d11, r11, rfl, h11, g11⟩ := g10.cons_inv
  obtain ⟨d12, r12, rfl, h12, g12⟩ := g11.cons_inv
  obtain ⟨d13, r13, rfl, h13, g13⟩ := g12.cons_inv
  obtain ⟨d14, r14, rfl, h14, g14⟩ := g13.cons_inv
  obtain ⟨d15, r15, rfl, h15, g15⟩ := g14.cons_inv
  obtain ⟨d16, r16, rfl, h16, g16⟩ := g15.cons_inv
  obtain ⟨d17, r17, rfl, h17, g17⟩ := g16.cons_inv
  obtain ⟨d18, r18, rfl, h18, g18⟩ := g17.cons_inv
  obtain ⟨d19, r19, rfl, h19, g19⟩ := g18.cons_inv
  obtain ⟨d20, r20, rfl, h20, g20⟩ := g19.cons_inv
  obtain ⟨d21, r21, rfl, h21, g21⟩ := g20.cons_inv
  obtain ⟨d22, r22, rfl, h22, g22⟩ := g21.cons_inv
  obtain ⟨d23, r23, rfl, h23, g23⟩ := g22.cons_inv
  obtain ⟨d24, r24, rfl, h24, g24⟩ := g23.cons_inv
  obtain ⟨d25, r25, rfl, h25, g25⟩ := g24.cons_inv
  obtain ⟨d26, r26, rfl, h26, g26⟩ := g25.cons_inv
  obtain ⟨x0, rfl, _⟩ := Sur.rows (C := runR) h0
  obtain ⟨x1, rfl, _⟩ := Sur.rows (C := runR) h1
  obtain ⟨x2, rfl, _⟩ := Sur.rows (C := rowC) h2
  obtain ⟨x3, rfl, _⟩ := Sur.rows (C := gapC) h3
  obtain ⟨x4, rfl⟩ := h4.int_inv
  obtain ⟨x5, rfl⟩ := h5.int_inv
  obtain ⟨x6, rfl⟩ := h6.int_inv
  obtain ⟨x7, rfl⟩ := h7.bool_inv
  obtain ⟨x8, rfl⟩ := h8.bool_inv
  obtain ⟨x9, rfl⟩ := h9.int_inv
  obtain ⟨x10, rfl⟩ := h10.int_inv
  obtain ⟨x11, rfl⟩ := h11.int_inv
  obtain ⟨x12, rfl⟩ := h12.int_inv
  obtain ⟨x13, rfl⟩ := h13.bool_inv
  obtain ⟨x14, rfl⟩ := h14.int_inv
  obtain ⟨x15, rfl⟩ := h15.int_inv
  obtain ⟨x16, rfl, _⟩ := Sur.rows (C := rowC) h16
  obtain ⟨x17, rfl⟩ := h17.int_inv
  obtain ⟨x18, rfl, _⟩ := Sur.rows (C := slotC) h18
  obtain ⟨x19, rfl⟩ := h19.bool_inv
  obtain ⟨x20, rfl⟩ := h20.bool_inv
  obtain ⟨x21, rfl, _⟩ := Sur.rows (C := runR) h21
  obtain ⟨x22, rfl⟩ := h22.int_inv
  obtain ⟨x23, rfl⟩ := h23.bool_inv
  obtain ⟨x24, rfl⟩ := h24.int_inv
  obtain ⟨x25, rfl⟩ := h25.int_inv
  obtain ⟨x26, rfl⟩ := h26.int_inv
  rw [g26.nil_inv]
  exact ⟨⟨⟨⟨x0, x1⟩, x2, x3, x4, x5, x6⟩, ⟨x7, x8, x9⟩, (x10, x11), x12, x13, ⟨x14, x15, x16⟩, ⟨x17, x18⟩, ⟨x19, x20, x21, x22, x23, x24, x25⟩, x26⟩, rfl⟩

end Go.Proofs.YtkcdmmafkpplhaaGreat
/- EditorStays walked. -/
namespace Go.Proofs.YtkcdmmafkpplhaaGreat
open Go.Eng
theorem f_isT {d : Ed} (h : edIs d = true) : FnP PP 15 [edD d] (.bool true) := by have := f_edIs (t_ok h); rw [h] at this; exact this
theorem f_same01e {a b : List Int} (h : a = b) : FnP PP 11 [rl a, rl b] (.bool true) := by subst h; exact f_same01
theorem f_same19e {a b : Past} (h : a = b) : FnP PP 16 [pastD a, pastD b] (.bool true) := by subst h; exact f_same19
/-- The editor behind the first i keys. -/
def stK (d : Ed) (l : List (Int × Int)) (i : Nat) : Ed := (l.take i).foldl (fun d k => (keyS d k.1 k.2).ed) d
theorem stK_succ (d : Ed) {l : List (Int × Int)} {i : Nat} (h : i < l.length) : (keyS (stK d l i) l[i].1 l[i].2).ed = stK d l (i + 1) := by
  unfold stK; rw [List.take_succ_eq_append_getElem h, List.foldl_append]; rfl

theorem f_stays_k1 {p : Prop} (h : p := by
    first | rfl | (exfalso; omega) | contradiction | (exfalso; simp_all; done)) : p := h
set_option maxRecDepth 20000 in
theorem f_stays {d : Ed} {l : List (Int × Int)} : FnP PP 4 [edD d, .rows false (l.map keyR)] (.bool true) := by
  refine FnP.of_body Tryz.func4 rfl (by kernel_rfl) rfl ?_
  refine Wp.bound 1 rfl (fun hb1 => ?_)
  simp only [D.bd, D.bdL, List.length_map, and_true] at hb1
  refine Wp.seq <| reg <| bx0 66 rfl ?_
  refine asg0 rfl <| done ?_
  refine Wp.seq <| Wp.seq <| reg <| ldA0 rfl ?_
  refine clw0 rfl f_big24 rfl ?_
  refine mv0 rfl ?_
  refine bcase 11 rfl (fun h11 => ?_) (fun h11 => ?_)
  have nh11 := Nz h11
  refine sk0 rfl h11 <| sk0 rfl h11 <| sk0 rfl h11 <| pkt0 rfl h11 <| mv0 rfl <| sk0 rfl rfl <| sk0 rfl rfl <| sk0 rfl rfl <| pkt0 rfl rfl <| done ?_
  refine Wp.condT rfl rfl <| Wp.seq <| reg <| clw0 rfl f_typed rfl ?_
  refine asg0 rfl <| done ?_
  refine Wp.ret ?_
  refine Ends.ret (.cons (.tmp rfl (Fz.pure rfl)) <|  .nil) ?_
  · exact f_stays_k1
  have nh11 := Nz h11
  refine mv1 rfl h11 rfl ?_
  first | refine lnM1 rfl h11 rfl ?_ | refine lns1 rfl h11 rfl ?_ | refine ln1 rfl h11 rfl ?_
  refine cmp1 rfl h11 rfl <| pkf0 rfl h11 <| mv0 rfl ?_
  refine bcase 16 rfl (fun h16 => ?_) (fun h16 => ?_)
  have nh16 := Nz h16
  refine sk0 rfl h16 <| sk0 rfl h16 <| sk0 rfl h16 <| pkt0 rfl h16 <| done ?_
  refine Wp.condT rfl rfl <| Wp.seq <| reg <| clw0 rfl f_typed rfl ?_
  refine asg0 rfl <| done ?_
  refine Wp.ret ?_
  refine Ends.ret (.cons (.tmp rfl (Fz.pure rfl)) <|  .nil) ?_
  · exact f_stays_k1
  have nh16 := Nz h16
  refine ldA1 rfl h16 rfl ?_
  refine clw1 rfl h16 rfl (f_edIs (big_ok (by assumption))) rfl ?_
  refine nt1 rfl h16 rfl <| pkf0 rfl h16 <| done ?_
  refine Wp.cond rfl (fun c1 => ?_) (fun c1 => ?_)
  have nc1 := Nz c1
  refine Wp.seq <| reg <| clw0 rfl f_typed rfl ?_
  refine asg0 rfl <| done ?_
  refine Wp.ret ?_
  refine Ends.ret (.cons (.tmp rfl (Fz.pure rfl)) <|  .nil) ?_
  · exact f_stays_k1
  have nc1 := Nz c1
  refine Wp.skip <| Wp.seq <| Wp.seq <| reg <| asg0 rfl <| done ?_
  refine Wp.block ?_
  refine Wp.loopK (α := Nat) [1, 2] [] (fun x tl => (5, .int .i64 (x : Nat)) :: tl) (fun x tl => (66, some (.cells 46 (edC (stK d l x)))) :: tl) (fun x => x ≤ l.length ∧ edIs (stK d l x) = true) (fun x => l.length - x) (0) rfl rfl (⟨by omega, by assumption⟩) (Rp) (Rp) ?_
  intro x hx
  obtain ⟨hx1, hx2⟩ := hx
  refine Wp.seq <| Wp.seq <| reg <| mv0 rfl <| mv0 rfl ?_
  first | refine lnM0 rfl ?_ | refine lns0 rfl ?_ | refine ln0 rfl ?_
  refine cmp0 rfl <| done ?_
  refine Wp.cond rfl (fun c2 => ?_) (fun c2 => ?_)
  have nc2 := Nz c2
  refine Wp.skip <| Wp.seq <| Wp.block <| Wp.seq <| regd mixed ?_
  have hki := key_is hx2 l[x].1 l[x].2; have hk := key_stays hx2 l[x].1 l[x].2; have hkm := hk.map; have hkr := hk.room; have hkd := hk.dup
  refine ldA0 rfl ?_
  refine mv0 rfl <| mv0 rfl <| iaE0 (x) Bd rfl Eq' ?_
  refine ldA0 rfl ?_
  refine clw0 rfl (f_edKey (d := stK d l x) (k := l[x].1) (r := l[x].2) (t_ok hx2)) rfl ?_
  refine mv0 rfl <| xt0 rfl <| xt0 rfl <| xt0 rfl <| al0 70 rfl ?_
  refine stw0 rfl ?_
  refine asg0 rfl <| asg0 rfl ?_
  refine done ⟨by kernel_rfl, by kernel_rfl, ?_⟩
  refine Wp.seq <| Wp.seq <| reg <| ldA0 rfl ?_
  refine clw0 rfl (f_isT hki) rfl ?_
  refine nt0 rfl <| mv0 rfl ?_
  refine bcase 41 rfl (fun h41 => ?_) (fun h41 => ?_)
  have nh41 := Nz h41
  refine sk0 rfl h41 <| sk0 rfl h41 <| sk0 rfl h41 <| sk0 rfl h41 <| sk0 rfl h41 <| pkt0 rfl h41 <| mv0 rfl <| sk0 rfl rfl <| sk0 rfl rfl <| sk0 rfl rfl <| sk0 rfl rfl <| sk0 rfl rfl <| sk0 rfl rfl <| sk0 rfl rfl <| pkt0 rfl rfl <| mv0 rfl <| sk0 rfl rfl <| sk0 rfl rfl <| sk0 rfl rfl <| sk0 rfl rfl <| sk0 rfl rfl <| sk0 rfl rfl <| sk0 rfl rfl <| pkt0 rfl rfl <| done ?_
  refine Wp.condT rfl rfl <| Wp.seq <| reg <| asg0 rfl <| done ?_
  refine Wp.ret ?_
  refine Ends.ret (.cons (.tmp rfl (Fz.pure rfl)) <|  .nil) ?_
  · exact f_stays_k1
  have nh41 := Nz h41
  refine faA1 rfl h41 rfl ?_
  refine ldA1 rfl h41 rfl ?_
  refine faA1 rfl h41 rfl ?_
  refine ldA1 rfl h41 rfl ?_
  refine cmp1 rfl h41 rfl <| pkf0 rfl h41 <| mv0 rfl ?_
  refine bcase 48 rfl (fun h48 => ?_) (fun h48 => ?_)
  have nh48 := Nz h48
  refine sk0 rfl h48 <| sk0 rfl h48 <| sk0 rfl h48 <| sk0 rfl h48 <| sk0 rfl h48 <| sk0 rfl h48 <| sk0 rfl h48 <| pkt0 rfl h48 <| mv0 rfl <| sk0 rfl rfl <| sk0 rfl rfl <| sk0 rfl rfl <| sk0 rfl rfl <| sk0 rfl rfl <| sk0 rfl rfl <| sk0 rfl rfl <| pkt0 rfl rfl <| done ?_
  refine Wp.condT rfl rfl <| Wp.seq <| reg <| asg0 rfl <| done ?_
  refine Wp.ret ?_
  refine Ends.ret (.cons (.tmp rfl (Fz.pure rfl)) <|  .nil) ?_
  · exact f_stays_k1
  have nh48 := Nz h48
  refine faA1 rfl h48 rfl ?_
  refine faA1 rfl h48 rfl ?_
  refine ldA1 rfl h48 rfl ?_
  refine faA1 rfl h48 rfl ?_
  refine faA1 rfl h48 rfl ?_
  refine ldA1 rfl h48 rfl ?_
  refine cmp1 rfl h48 rfl <| pkf0 rfl h48 <| mv0 rfl ?_
  refine bcase 57 rfl (fun h57 => ?_) (fun h57 => ?_)
  have nh57 := Nz h57
  refine sk0 rfl h57 <| sk0 rfl h57 <| sk0 rfl h57 <| sk0 rfl h57 <| sk0 rfl h57 <| sk0 rfl h57 <| sk0 rfl h57 <| pkt0 rfl h57 <| done ?_
  refine Wp.condT rfl rfl <| Wp.seq <| reg <| asg0 rfl <| done ?_
  refine Wp.ret ?_
  refine Ends.ret (.cons (.tmp rfl (Fz.pure rfl)) <|  .nil) ?_
  · exact f_stays_k1
  have nh57 := Nz h57
  refine faA1 rfl h57 rfl ?_
  refine faA1 rfl h57 rfl ?_
  refine ldA1 rfl h57 rfl ?_
  refine faA1 rfl h57 rfl ?_
  refine faA1 rfl h57 rfl ?_
  refine ldA1 rfl h57 rfl ?_
  refine cmp1 rfl h57 rfl <| pkf0 rfl h57 <| done ?_
  refine Wp.cond rfl (fun c3 => ?_) (fun c3 => ?_)
  have nc3 := Nz c3
  refine Wp.seq <| reg <| asg0 rfl <| done ?_
  refine Wp.ret ?_
  refine Ends.ret (.cons (.tmp rfl (Fz.pure rfl)) <|  .nil) ?_
  · exact f_stays_k1
  have nc3 := Nz c3
  refine Wp.skip <| Wp.seq <| Wp.seq <| reg <| mv0 rfl <| mv0 rfl ?_
  refine bcase 67 rfl (fun h67 => ?_) (fun h67 => ?_)
  have nh67 := Nz h67
  have hy := hk.yes (by assumption); have hya : (keyS (stK d l x) l[x].1 l[x].2).ed.e.g.a.length = 0 ∧ (keyS (stK d l x) l[x].1 l[x].2).ed.e.g.b.length = 0 := by rw [hy.1]; exact ⟨rfl, rfl⟩
  refine faA1 rfl h67 rfl ?_
  refine faA1 rfl h67 rfl ?_
  refine faA1 rfl h67 rfl ?_
  refine ldA1 rfl h67 rfl ?_
  first | refine lnM1 rfl h67 rfl ?_ | refine lns1 rfl h67 rfl ?_ | refine ln1 rfl h67 rfl ?_
  refine faA1 rfl h67 rfl ?_
  refine faA1 rfl h67 rfl ?_
  refine faA1 rfl h67 rfl ?_
  refine ldA1 rfl h67 rfl ?_
  first | refine lnM1 rfl h67 rfl ?_ | refine lns1 rfl h67 rfl ?_ | refine ln1 rfl h67 rfl ?_
  refine ar1 rfl h67 rfl (wrapI Bd) <| cmp1 rfl h67 rfl <| mv1 rfl h67 rfl ?_
  refine bcase 80 rfl (fun h80 => ?_) (fun h80 => ?_)
  have nh80 := Nz h80
  refine sk0 rfl h80 <| sk0 rfl h80 <| sk0 rfl h80 <| sk0 rfl h80 <| sk0 rfl h80 <| sk0 rfl h80 <| sk0 rfl h80 <| sk0 rfl h80 <| pkt1 rfl h67 rfl h80 <| mv1 rfl h67 rfl <| sk0 rfl rfl <| sk0 rfl rfl <| sk0 rfl rfl <| sk0 rfl rfl <| sku0 rfl <| sku0 rfl <| sku0 rfl <| sku0 rfl <| sku0 rfl <| sku0 rfl <| sku0 rfl <| sku0 rfl <| sku0 rfl <| sku0 rfl <| sku0 rfl <| sku0 rfl <| sku0 rfl <| sku0 rfl <| sku0 rfl <| sku0 rfl <| sku0 rfl <| sku0 rfl <| sku0 rfl <| sku0 rfl <| sk0 rfl rfl <| pkt1 rfl h67 rfl rfl <| pkt0 rfl h67 <| done ?_
  refine Wp.condT rfl rfl <| Wp.seq <| reg <| asg0 rfl <| done ?_
  refine Wp.ret ?_
  refine Ends.ret (.cons (.tmp rfl (Fz.pure rfl)) <|  .nil) ?_
  · exact f_stays_k1
  have nh80 := Nz h80
  have hy2 := hy.2.1
  refine faA1 rfl h80 rfl ?_
  refine faA1 rfl h80 rfl ?_
  refine ldA1 rfl h80 rfl ?_
  refine faA1 rfl h80 rfl ?_
  refine faA1 rfl h80 rfl ?_
  refine ldA1 rfl h80 rfl ?_
  first | refine lnM1 rfl h80 rfl ?_ | refine lns1 rfl h80 rfl ?_ | refine ln1 rfl h80 rfl ?_
  refine cmp1 rfl h80 rfl <| pkf1 rfl h67 rfl h80 <| mv1 rfl h67 rfl ?_
  refine bcase 90 rfl (fun h90 => ?_) (fun h90 => ?_)
  have nh90 := Nz h90
  refine sk0 rfl h90 <| sk0 rfl h90 <| sk0 rfl h90 <| sk0 rfl h90 <| sku0 rfl <| sku0 rfl <| sku0 rfl <| sku0 rfl <| sku0 rfl <| sku0 rfl <| sku0 rfl <| sku0 rfl <| sku0 rfl <| sku0 rfl <| sku0 rfl <| sku0 rfl <| sku0 rfl <| sku0 rfl <| sku0 rfl <| sku0 rfl <| sku0 rfl <| sku0 rfl <| sku0 rfl <| sku0 rfl <| sk0 rfl h90 <| pkt1 rfl h67 rfl h90 <| pkt0 rfl h67 <| done ?_
  refine Wp.condT rfl rfl <| Wp.seq <| reg <| asg0 rfl <| done ?_
  refine Wp.ret ?_
  refine Ends.ret (.cons (.tmp rfl (Fz.pure rfl)) <|  .nil) ?_
  · exact f_stays_k1
  have nh90 := Nz h90
  refine mv1 rfl h90 rfl ?_
  first | refine lnM1 rfl h90 rfl ?_ | refine lns1 rfl h90 rfl ?_ | refine ln1 rfl h90 rfl ?_
  refine cmp1 rfl h90 rfl <| mv1 rfl h90 rfl ?_
  refine bcase 94 rfl (fun h94 => ?_) (fun h94 => ?_)
  have nh94 := Nz h94
  have hy3 := hy.2.2 (by omega); have hbl := pastIs_iff.1 hk.rt.p
  refine faA1 rfl h94 rfl ?_
  refine faA1 rfl h94 rfl ?_
  refine ldA1 rfl h94 rfl ?_
  first | refine lnM1 rfl h94 rfl ?_ | refine lns1 rfl h94 rfl ?_ | refine ln1 rfl h94 rfl ?_
  refine cmp1 rfl h94 rfl <| mv1 rfl h94 rfl ?_
  refine bcase 100 rfl (fun h100 => ?_) (fun h100 => ?_)
  have nh100 := Nz h100
  refine sk0 rfl h100 <| sk0 rfl h100 <| sk0 rfl h100 <| sk0 rfl h100 <| sk0 rfl h100 <| sk0 rfl h100 <| sk0 rfl h100 <| sk0 rfl h100 <| sk0 rfl h100 <| sk0 rfl h100 <| sk0 rfl h100 <| sk0 rfl h100 <| sk0 rfl h100 <| pkt1 rfl h94 rfl h100 <| pkt1 rfl h90 rfl h94 <| pkf1 rfl h67 rfl h90 <| pkt0 rfl h67 <| done ?_
  refine Wp.condT rfl rfl <| Wp.seq <| reg <| asg0 rfl <| done ?_
  refine Wp.ret ?_
  refine Ends.ret (.cons (.tmp rfl (Fz.pure rfl)) <|  .nil) ?_
  · exact f_stays_k1
  have nh100 := Nz h100
  have hy4 := hy3.1
  refine faA1 rfl h100 rfl ?_
  refine faA1 rfl h100 rfl ?_
  refine ldA1 rfl h100 rfl ?_
  refine faA1 rfl h100 rfl ?_
  refine faA1 rfl h100 rfl ?_
  refine ldA1 rfl h100 rfl ?_
  first | refine lnM1 rfl h100 rfl ?_ | refine lns1 rfl h100 rfl ?_ | refine ln1 rfl h100 rfl ?_
  refine ar1 rfl h100 rfl (wrapI Bd) <| iaD ([]) ((keyS (stK d l x) l[x].1 l[x].2).ed.p.l.length - 1) Bd rfl rfl Eq' rfl (.want rfl rfl h100) ?_
  refine ldA1 rfl h100 rfl ?_
  refine mv1 rfl h100 rfl <| clw1 rfl h100 rfl (f_same01e hy3.2) rfl ?_
  refine nt1 rfl h100 rfl <| pkf1 rfl h94 rfl h100 <| pkt1 rfl h90 rfl h94 <| pkf1 rfl h67 rfl h90 <| pkt0 rfl h67 <| done ?_
  refine Wp.cond rfl (fun c4 => ?_) (fun c4 => ?_)
  have nc4 := Nz c4
  refine Wp.seq <| reg <| asg0 rfl <| done ?_
  refine Wp.ret ?_
  refine Ends.ret (.cons (.tmp rfl (Fz.pure rfl)) <|  .nil) ?_
  · exact f_stays_k1
  have nc4 := Nz c4
  refine Wp.skip <| Wp.seq <| Wp.seq <| reg <| mv0 rfl <| nt0 rfl <| mv0 rfl ?_
  refine bcase 120 rfl (fun h120 => ?_) (fun h120 => ?_)
  have nh120 := Nz h120
  refine faA1 rfl h120 rfl ?_
  refine ldA1 rfl h120 rfl ?_
  refine faA1 rfl h120 rfl ?_
  refine ldA1 rfl h120 rfl ?_
  refine clw1 rfl h120 rfl (f_same19e (hk.no (by assumption))) rfl ?_
  refine nt1 rfl h120 rfl <| pkt0 rfl h120 <| done ?_
  refine Wp.cond rfl (fun c5 => ?_) (fun c5 => ?_)
  have nc5 := Nz c5
  refine Wp.seq <| reg <| asg0 rfl <| done ?_
  refine Wp.ret ?_
  refine Ends.ret (.cons (.tmp rfl (Fz.pure rfl)) <|  .nil) ?_
  · exact f_stays_k1
  have nc5 := Nz c5
  refine Wp.skip <| reg <| ldA0 rfl ?_
  refine stw0 rfl ?_
  refine done ?_
  refine reg <| mv0 rfl <| ar0 rfl (wrapI Bd) <| asg0 rfl <| done ?_
  exact ⟨x + 1, ⟨by omega, (stK_succ d (l := l) (i := x) (by omega)) ▸ hki⟩, by omega, Rp, ⟨congrArg (fun z => some (Blk.cells 46 (edC z))) (stK_succ d (l := l) (i := x) (by omega)), trivial⟩, rfl⟩
  have nh120 := Nz h120
  refine sk0 rfl h120 <| sk0 rfl h120 <| sk0 rfl h120 <| sk0 rfl h120 <| sk0 rfl h120 <| sk0 rfl h120 <| pkf0 rfl h120 <| done ?_
  refine Wp.condF rfl rfl <| Wp.skip <| reg <| ldA0 rfl ?_
  refine stw0 rfl ?_
  refine done ?_
  refine reg <| mv0 rfl <| ar0 rfl (wrapI Bd) <| asg0 rfl <| done ?_
  exact ⟨x + 1, ⟨by omega, (stK_succ d (l := l) (i := x) (by omega)) ▸ hki⟩, by omega, Rp, ⟨congrArg (fun z => some (Blk.cells 46 (edC z))) (stK_succ d (l := l) (i := x) (by omega)), trivial⟩, rfl⟩
  have nh94 := Nz h94
  refine sk0 rfl h94 <| sk0 rfl h94 <| sk0 rfl h94 <| sk0 rfl h94 <| sk0 rfl h94 <| sk0 rfl h94 <| sku0 rfl <| sku0 rfl <| sku0 rfl <| sku0 rfl <| sku0 rfl <| sku0 rfl <| sku0 rfl <| sku0 rfl <| sku0 rfl <| sku0 rfl <| sku0 rfl <| sku0 rfl <| sku0 rfl <| sk0 rfl h94 <| pkf1 rfl h90 rfl h94 <| pkf1 rfl h67 rfl h90 <| pkt0 rfl h67 <| done ?_
  refine Wp.condF rfl rfl <| Wp.skip <| Wp.seq <| Wp.seq <| reg <| mv0 rfl <| nt0 rfl <| mv0 rfl ?_
  refine bcase 120 rfl (fun h120 => ?_) (fun h120 => ?_)
  have nh120 := Nz h120
  refine faA1 rfl h120 rfl ?_
  refine ldA1 rfl h120 rfl ?_
  refine faA1 rfl h120 rfl ?_
  refine ldA1 rfl h120 rfl ?_
  refine clw1 rfl h120 rfl (f_same19e (hk.no (by assumption))) rfl ?_
  refine nt1 rfl h120 rfl <| pkt0 rfl h120 <| done ?_
  refine Wp.cond rfl (fun c6 => ?_) (fun c6 => ?_)
  have nc6 := Nz c6
  refine Wp.seq <| reg <| asg0 rfl <| done ?_
  refine Wp.ret ?_
  refine Ends.ret (.cons (.tmp rfl (Fz.pure rfl)) <|  .nil) ?_
  · exact f_stays_k1
  have nc6 := Nz c6
  refine Wp.skip <| reg <| ldA0 rfl ?_
  refine stw0 rfl ?_
  refine done ?_
  refine reg <| mv0 rfl <| ar0 rfl (wrapI Bd) <| asg0 rfl <| done ?_
  exact ⟨x + 1, ⟨by omega, (stK_succ d (l := l) (i := x) (by omega)) ▸ hki⟩, by omega, Rp, ⟨congrArg (fun z => some (Blk.cells 46 (edC z))) (stK_succ d (l := l) (i := x) (by omega)), trivial⟩, rfl⟩
  have nh120 := Nz h120
  refine sk0 rfl h120 <| sk0 rfl h120 <| sk0 rfl h120 <| sk0 rfl h120 <| sk0 rfl h120 <| sk0 rfl h120 <| pkf0 rfl h120 <| done ?_
  refine Wp.condF rfl rfl <| Wp.skip <| reg <| ldA0 rfl ?_
  refine stw0 rfl ?_
  refine done ?_
  refine reg <| mv0 rfl <| ar0 rfl (wrapI Bd) <| asg0 rfl <| done ?_
  exact ⟨x + 1, ⟨by omega, (stK_succ d (l := l) (i := x) (by omega)) ▸ hki⟩, by omega, Rp, ⟨congrArg (fun z => some (Blk.cells 46 (edC z))) (stK_succ d (l := l) (i := x) (by omega)), trivial⟩, rfl⟩
  have nh67 := Nz h67
  refine sk0 rfl h67 <| sk0 rfl h67 <| sk0 rfl h67 <| sk0 rfl h67 <| sk0 rfl h67 <| sk0 rfl h67 <| sk0 rfl h67 <| sk0 rfl h67 <| sk0 rfl h67 <| sk0 rfl h67 <| sk0 rfl h67 <| sk0 rfl h67 <| sk0 rfl h67 <| sku0 rfl <| sku0 rfl <| sku0 rfl <| sku0 rfl <| sku0 rfl <| sku0 rfl <| sku0 rfl <| sku0 rfl <| sk0 rfl h67 <| sk0 rfl h67 <| sku0 rfl <| sku0 rfl <| sku0 rfl <| sku0 rfl <| sku0 rfl <| sku0 rfl <| sku0 rfl <| sku0 rfl <| sku0 rfl <| sku0 rfl <| sku0 rfl <| sku0 rfl <| sku0 rfl <| sku0 rfl <| sku0 rfl <| sku0 rfl <| sku0 rfl <| sku0 rfl <| sku0 rfl <| sku0 rfl <| sku0 rfl <| sku0 rfl <| sku0 rfl <| sku0 rfl <| sku0 rfl <| sk0 rfl h67 <| pkf0 rfl h67 <| done ?_
  refine Wp.condF rfl rfl <| Wp.skip <| Wp.seq <| Wp.seq <| reg <| mv0 rfl <| nt0 rfl <| mv0 rfl ?_
  refine bcase 120 rfl (fun h120 => ?_) (fun h120 => ?_)
  have nh120 := Nz h120
  refine faA1 rfl h120 rfl ?_
  refine ldA1 rfl h120 rfl ?_
  refine faA1 rfl h120 rfl ?_
  refine ldA1 rfl h120 rfl ?_
  refine clw1 rfl h120 rfl (f_same19e (hk.no (by assumption))) rfl ?_
  refine nt1 rfl h120 rfl <| pkt0 rfl h120 <| done ?_
  refine Wp.cond rfl (fun c7 => ?_) (fun c7 => ?_)
  have nc7 := Nz c7
  refine Wp.seq <| reg <| asg0 rfl <| done ?_
  refine Wp.ret ?_
  refine Ends.ret (.cons (.tmp rfl (Fz.pure rfl)) <|  .nil) ?_
  · exact f_stays_k1
  have nc7 := Nz c7
  refine Wp.skip <| reg <| ldA0 rfl ?_
  refine stw0 rfl ?_
  refine done ?_
  refine reg <| mv0 rfl <| ar0 rfl (wrapI Bd) <| asg0 rfl <| done ?_
  exact ⟨x + 1, ⟨by omega, (stK_succ d (l := l) (i := x) (by omega)) ▸ hki⟩, by omega, Rp, ⟨congrArg (fun z => some (Blk.cells 46 (edC z))) (stK_succ d (l := l) (i := x) (by omega)), trivial⟩, rfl⟩
  have nh120 := Nz h120
  refine sk0 rfl h120 <| sk0 rfl h120 <| sk0 rfl h120 <| sk0 rfl h120 <| sk0 rfl h120 <| sk0 rfl h120 <| pkf0 rfl h120 <| done ?_
  refine Wp.condF rfl rfl <| Wp.skip <| reg <| ldA0 rfl ?_
  refine stw0 rfl ?_
  refine done ?_
  refine reg <| mv0 rfl <| ar0 rfl (wrapI Bd) <| asg0 rfl <| done ?_
  exact ⟨x + 1, ⟨by omega, (stK_succ d (l := l) (i := x) (by omega)) ▸ hki⟩, by omega, Rp, ⟨congrArg (fun z => some (Blk.cells 46 (edC z))) (stK_succ d (l := l) (i := x) (by omega)), trivial⟩, rfl⟩
  have nc2 := Nz c2
  refine Wp.exit <| Wp.seq <| reg <| clw0 rfl f_typed rfl ?_
  refine asg0 rfl <| done ?_
  refine Wp.ret ?_
  refine Ends.ret (.cons (.tmp rfl (Fz.pure rfl)) <|  .nil) ?_
  · exact f_stays_k1

end Go.Proofs.YtkcdmmafkpplhaaGreat
/- EditorTypes: the plain law. -/
namespace Go.Proofs.YtkcdmmafkpplhaaGreat
open Go.Eng
def typU (l : List Int) : List Gap := if l.length = 0 then [] else [⟨[], []⟩]
def typL (l : List Int) : Int := if l.length = 0 then 0 else 1
/-- The editor behind these signs. -/
def tyEd (m room dup : Int) (l : List Int) : Ed := ⟨⟨⟨l, []⟩, [], typU l, typL l, 0, 0⟩, noCount, (0, 0), m, false, ⟨room, dup, []⟩, ⟨0, []⟩, noSearch, 0⟩
theorem ty_new {m room dup : Int} (h : (newEd m room dup).2 = 0) : (newEd m room dup).1 = tyEd m room dup [] ∧ okRD room dup = true ∧ (m = 0 ∨ m = 1) := by
  unfold newEd at h ⊢
  by_cases h1 : m ≠ 0 ∧ m ≠ 1
  · rw [if_pos h1] at h; cases h
  rw [if_neg h1] at h ⊢
  by_cases h2 : (pastNew room dup).2 ≠ 0
  · rw [if_pos h2] at h; exact absurd h h2
  rw [if_neg h2]
  have h3 : okRD room dup = true := (pastNew_ok room dup).1 (by omega)
  have e : pastNew room dup = (⟨room, dup, []⟩, 0) := by unfold pastNew; rw [if_neg (by rw [h3]; simp)]
  rw [e]
  exact ⟨rfl, h3, by omega⟩
/-- What may be typed. -/
def typR (r : Int) : Prop := (r = 9 ∨ 32 ≤ r) ∧ r ≠ 127 ∧ signB r = true
theorem ty_past {room dup : Int} (h : okRD room dup = true) : pastIs ⟨room, dup, []⟩ = true := by
  have h1 : 1 ≤ room ∧ room ≤ 16 ∧ 0 ≤ dup ∧ dup ≤ 2 := of_decide_eq_true h
  exact pastIs_iff.2 ⟨h1, by simp only [List.length_nil]; omega, fun l hl => by cases hl⟩
theorem ty_rt {m room dup : Int} {l : List Int} (h : okRD room dup = true) (hm : m = 0 ∨ m = 1) (hl : signs l = true) (hn : l.length ≤ 200) : Rt (tyEd m room dup l) := by
  have hu : undoIs (typU l) = true := by unfold typU; split <;> rfl
  refine ⟨.plain (gapIs_iff.2 ⟨by simp only [List.length_nil]; omega, hl, rfl⟩) rfl hu (typL l) (by unfold typL; split <;> omega), rfl, rfl, ty_past h, stashIs_iff.1 (open_is (ty_past h)), ?_, by show (0 : Int) ≤ 0 ∧ (0 : Int) ≤ 999; omega⟩
  show ¬ (m ≠ 1 ∧ (m ≠ 0 ∨ (0 : Int) ≠ 0 ∨ (0 : Int) ≠ 0))
  omega
theorem ty_is {m room dup : Int} {l : List Int} (h : okRD room dup = true) (hm : m = 0 ∨ m = 1) (hl : signs l = true) (hn : l.length ≤ 200) : edIs (tyEd m room dup l) = true :=
  rt_edIs (ty_rt h hm hl hn) (fun h => by cases h) (fun _ => rfl)
theorem em_typ {r : Int} (h : typR r) : emMap 1 r = (2, 0, 0, r) := by
  have hn : lookL boundL (1, r) = none := by
    cases hv : lookL boundL (1, r) with
    | none => rfl
    | some v =>
      have h1 := lookL_mem hv
      have h2 : (boundL.all fun p => p.1.1 != 1 || (decide (p.1.2 < 32) && (p.1.2 != 9)) || p.1.2 == 127) = true := by decide
      have h3 := (List.all_eq_true.1 h2) _ h1
      exfalso
      obtain ⟨h4, h5, _⟩ := h
      simp at h3
      omega
  unfold emMap
  dsimp only
  rw [if_neg (show ¬ ((1 : Int) ≠ 1 ∧ (1 : Int) ≠ 2) by omega), hn, if_neg (by simp), if_pos ⟨rfl, h.2.2, by have := h.1; omega⟩]
theorem ins_typ {r : Int} (h : typR r) : insK 1 r = ((0, 0), [(2, 0, 0, r)]) := by
  unfold insK
  have h1 := h.1; have h2 := h.2.1
  rw [em_typ h, if_neg (by omega), if_neg (by omega), if_neg (by omega), if_neg (by omega), if_neg (by simp)]
theorem ty_run {m room dup : Int} {l : List Int} {k r : Int} {a : Act4} (h : okRD room dup = true) (hm : m = 0 ∨ m = 1) (hl : signs l = true) (hn : l.length ≤ 200) (h1 : emMap k r = a) (h2 : mapV 0 0 k r false = ((0, 0), [a])) :
    keyS (tyEd m room dup l) k r = actEd ⟨tyEd m room dup l, [], false⟩ (toAct a) := by
  rw [key_e6 (ty_is h hm hl hn) rfl rfl]
  unfold keyEd
  by_cases hm1 : m = 1
  · subst hm1
    refine (if_pos (c := (1 : Int) = 1) rfl).trans ?_
    show runA (vDesk ⟨tyEd 1 room dup l, [], false⟩ k r) (mapV 0 0 k r false).2 = _
    have e : vDesk ⟨tyEd 1 room dup l, [], false⟩ k r = ⟨tyEd 1 room dup l, [], false⟩ := by
      show (⟨setV (tyEd 1 room dup l) (mapV 0 0 k r false).1, [], false⟩ : Desk) = _
      rw [h2]; rfl
    rw [e, h2]; rfl
  · rw [if_neg (by show ¬ m = 1; exact hm1), h1]; rfl
theorem mapV_ins {k r : Int} (h : k ≠ 2) : mapV 0 0 k r false = insK k r := by unfold mapV; rw [if_pos rfl, if_pos h]
theorem acts_ins {e : Edit} {r : Int} : actsS e ⟨2, 0, 0, r⟩ 1 = insertS e ⟨e.g, e.k, e.u, 0, 0, 0⟩ r 1 := rfl
theorem insert_one {e x : Edit} {r : Int} : insertS e x r 1 = putS (lastI (if e.last ≠ 1 then remS e x else x)) e.g [r] := rfl
theorem ty_do {m room dup : Int} {l : List Int} {r : Int} (h : okRD room dup = true) (hm : m = 0 ∨ m = 1) (hl : signs l = true) (hn : l.length < 200) (hr : signB r = true) :
    doS (tyEd m room dup l).e ⟨2, 0, 0, r⟩ 1 = ((tyEd m room dup (l ++ [r])).e, 0) := by
  have hi : editIs (tyEd m room dup l).e = true := editIs_iff.2 (ty_rt h hm hl (by omega)).e
  have hk : knownB ⟨2, 0, 0, r⟩ = true := by
    show (decide ((1 : Int) ≤ 2 ∧ (2 : Int) ≤ 6) && (if (2 : Int) = 1 then _ else if (2 : Int) = 2 then signB r else true)) = true
    rw [if_neg (by omega), if_pos rfl, hr]; rfl
  have hg : gapIs ⟨l, []⟩ = true := gapIs_iff.2 ⟨by simp only [List.length_nil]; omega, hl, rfl⟩
  have hins : insS ⟨l, []⟩ [r] = (⟨l ++ [r], []⟩, 0) := by
    unfold insS
    rw [if_neg (by rw [hg]; simp [signs, hr]), if_neg (by simp only [List.length_cons, List.length_nil]; omega)]
  have hacts : actsS (tyEd m room dup l).e ⟨2, 0, 0, r⟩ 1 = ((tyEd m room dup (l ++ [r])).e, 0) := by
    rw [acts_ins, insert_one]
    by_cases h0 : l.length = 0
    · have : l = [] := List.length_eq_zero_iff.1 h0
      subst this
      show ((⟨(insS ⟨[], []⟩ [r]).1, [], [⟨[], []⟩], 1, 0, 0⟩ : Edit), (insS ⟨[], []⟩ [r]).2) = _
      rw [show insS ⟨[], []⟩ [r] = (⟨[] ++ [r], []⟩, 0) from hins]; rfl
    · have e : (tyEd m room dup l).e = ⟨⟨l, []⟩, [], [⟨[], []⟩], 1, 0, 0⟩ := by unfold tyEd typU typL; rw [if_neg h0, if_neg h0]
      have e2 : (tyEd m room dup (l ++ [r])).e = ⟨⟨l ++ [r], []⟩, [], [⟨[], []⟩], 1, 0, 0⟩ := by unfold tyEd typU typL; rw [if_neg (by simp), if_neg (by simp)]
      rw [e, e2]
      show ((⟨(insS ⟨l, []⟩ [r]).1, [], [⟨[], []⟩], 1, 0, 0⟩ : Edit), (insS ⟨l, []⟩ [r]).2) = _
      rw [hins]
  unfold doS
  rw [if_neg (by rw [hi, hk]; decide), if_neg (by rw [hacts]; simp), hacts]
theorem ty_key {m room dup : Int} {l : List Int} {r : Int} (h : okRD room dup = true) (hm : m = 0 ∨ m = 1) (hl : signs l = true) (hn : l.length < 200) (hr : typR r) :
    keyS (tyEd m room dup l) 1 r = ⟨tyEd m room dup (l ++ [r]), [], false⟩ := by
  rw [ty_run h hm hl (by omega) (em_typ hr) ((mapV_ins (by omega)).trans (ins_typ hr))]
  have hd : doEd (tyEd m room dup l) ⟨2, 0, 0, r⟩ = tyEd m room dup (l ++ [r]) := by
    unfold doEd
    have hv : valueS (tyEd m room dup l).c = 1 := rfl
    rw [hv, if_neg (by rw [ty_do h hm hl hn hr.2.2]; simp), ty_do h hm hl hn hr.2.2]; rfl
  show (⟨setC (doEd (tyEd m room dup l) ⟨2, 0, 0, r⟩) noCount, [], false⟩ : Desk) = _
  rw [hd]; rfl
theorem ty_accept {m room dup : Int} {l : List Int} (h : okRD room dup = true) (hm : m = 0 ∨ m = 1) (hl : signs l = true) (hn : l.length ≤ 200) :
    keyS (tyEd m room dup l) 1 13 = ⟨setC (acceptEd (tyEd m room dup l)) noCount, l ++ [], true⟩ := by
  rw [ty_run (a := (7, 0, 0, 0)) h hm hl hn (by decide) (by decide)]; rfl
/-- What was accepted. -/
def tyAcc (m room dup : Int) (l : List Int) : Ed := setC (acceptEd (tyEd m room dup l)) noCount
theorem ty_acc_is {m room dup : Int} {l : List Int} (h : okRD room dup = true) (hm : m = 0 ∨ m = 1) (hl : signs l = true) (hn : l.length ≤ 200) : edIs (tyAcc m room dup l) = true := by
  have := key_is (ty_is h hm hl hn) 1 13
  rw [ty_accept h hm hl hn] at this; exact this
theorem acc_form (m room dup : Int) (l : List Int) : tyAcc m room dup l = ⟨⟨⟨[], []⟩, [], [], 0, 0, 0⟩, noCount, (0, 0), m, false, pastAdd ⟨room, dup, []⟩ (l ++ []), stashOpen (pastAdd ⟨room, dup, []⟩ (l ++ [])), noSearch, 0⟩ := rfl
theorem ty_past_add {room dup : Int} {l : List Int} (h : okRD room dup = true) (hl : signs l = true) (hn : l.length ≤ 200) : pastAdd ⟨room, dup, []⟩ (l ++ []) = if l.length = 0 then ⟨room, dup, []⟩ else ⟨room, dup, [l]⟩ := by
  have h1 : 1 ≤ room ∧ room ≤ 16 ∧ 0 ≤ dup ∧ dup ≤ 2 := of_decide_eq_true h
  rw [List.append_nil]
  unfold pastAdd
  by_cases h0 : l.length = 0
  · rw [if_pos h0, if_pos (.inr (by unfold oneS; rw [decide_eq_false (by omega)]; simp))]
  · rw [if_neg h0, if_neg (by rw [ty_past h]; unfold oneS; rw [decide_eq_true (by omega), hl]; simp), if_neg (by simp)]
    have e : ([l] : List (List Int)).drop (1 - room.toNat) = [l] := by rw [show 1 - room.toNat = 0 by omega]; rfl
    split
    · show (⟨room, dup, ([l] : List (List Int)).drop (1 - room.toNat)⟩ : Past) = _; rw [e]
    · show (⟨room, dup, ([l] : List (List Int)).drop (1 - room.toNat)⟩ : Past) = _; rw [e]
/-- Going back. -/
theorem ty_up {m room dup : Int} {l : List Int} (h : okRD room dup = true) (hm : m = 0 ∨ m = 1) (hl : signs l = true) (hn : l.length ≤ 200) :
    (keyS (tyAcc m room dup l) 3 0).ed.e.g = ⟨l, []⟩ := by
  have hi := ty_acc_is h hm hl hn
  have hr : ∀ x : Desk, x.ed = tyAcc m room dup l → (actEd x (toAct (8, 0, 0, 0))).ed.e.g = ⟨l, []⟩ := fun x hx => by
    have e : (actEd x (toAct (8, 0, 0, 0))).ed = setC (goesS x.ed (x.ed.s.at_ - valueS x.ed.c)) noCount := rfl
    rw [e, hx, acc_form, ty_past_add h hl hn]
    by_cases h0 : l.length = 0
    · have : l = [] := List.length_eq_zero_iff.1 h0
      subst this
      rw [if_pos h0]
      unfold goesS
      rw [if_neg]
      · rfl
      · unfold goStash
        split
        · decide
        · rw [if_pos (.inl (by show (0 : Int) - 1 < 0; omega))]; decide
    · rw [if_neg h0]
      have hp : pastIs ⟨room, dup, [l]⟩ = true := by
        have h1 : 1 ≤ room ∧ room ≤ 16 ∧ 0 ≤ dup ∧ dup ≤ 2 := of_decide_eq_true h
        exact pastIs_iff.2 ⟨h1, by simp only [List.length_cons, List.length_nil]; omega, fun x hx => by rw [List.mem_singleton.1 hx]; exact oneS_iff.2 ⟨hl, by omega, hn⟩⟩
      have hg : pastGet ⟨room, dup, [l]⟩ 0 = (l, 0) := by unfold pastGet; rw [if_neg (by rw [hp]; simp), if_neg (by simp)]; rfl
      have hs : goStash ⟨1, []⟩ ⟨room, dup, [l]⟩ ⟨[], []⟩ 0 = (⟨0, intoS ⟨1, ⟨[], []⟩⟩ []⟩, ⟨l, []⟩, 0) := by
        unfold goStash
        rw [if_neg (by rw [show (⟨1, []⟩ : Stash) = stashOpen ⟨room, dup, [l]⟩ from rfl, open_is hp]; decide), if_neg (by simp), hg]
        rfl
      show (goesS (⟨⟨⟨[], []⟩, [], [], 0, 0, 0⟩, noCount, (0, 0), m, false, ⟨room, dup, [l]⟩, ⟨1, []⟩, noSearch, 0⟩ : Ed) 0).e.g = _
      unfold goesS
      rw [show goStash (⟨⟨⟨[], []⟩, [], [], 0, 0, 0⟩, noCount, (0, 0), m, false, ⟨room, dup, [l]⟩, ⟨1, []⟩, noSearch, 0⟩ : Ed).s (⟨⟨⟨[], []⟩, [], [], 0, 0, 0⟩, noCount, (0, 0), m, false, ⟨room, dup, [l]⟩, ⟨1, []⟩, noSearch, 0⟩ : Ed).p (⟨⟨⟨[], []⟩, [], [], 0, 0, 0⟩, noCount, (0, 0), m, false, ⟨room, dup, [l]⟩, ⟨1, []⟩, noSearch, 0⟩ : Ed).e.g 0 = _ from hs, if_pos rfl]
      rfl
  rw [key_e6 hi rfl rfl]
  unfold keyEd
  by_cases hm1 : m = 1
  · subst hm1
    have hv : mapV 0 0 3 0 false = ((0, 0), [(8, 0, 0, 0)]) := by decide
    have e1 : mapV (tyAcc 1 room dup l).v.1 (tyAcc 1 room dup l).v.2 3 0 (tyAcc 1 room dup l).c.has = ((0, 0), [(8, 0, 0, 0)]) := hv
    refine (congrArg (fun z : Desk => z.ed.e.g) (if_pos (c := (1 : Int) = 1) rfl)).trans ?_
    show (runA ⟨setV (tyAcc 1 room dup l) (mapV (tyAcc 1 room dup l).v.1 (tyAcc 1 room dup l).v.2 3 0 (tyAcc 1 room dup l).c.has).1, [], false⟩ (mapV (tyAcc 1 room dup l).v.1 (tyAcc 1 room dup l).v.2 3 0 (tyAcc 1 room dup l).c.has).2).ed.e.g = _
    rw [e1]
    exact hr _ rfl
  · rw [if_neg (by show ¬ m = 1; exact hm1), show emMap 3 0 = (8, 0, 0, 0) by decide]
    exact hr _ rfl
theorem signs_succ {l : List Int} {i : Nat} (h : i < l.length) (h1 : signs (l.take i) = true) (h2 : signB l[i] = true) : signs (l.take (i + 1)) = true := by
  rw [List.take_succ_eq_append_getElem h]
  exact signs_app.2 ⟨h1, by simp [signs, h2]⟩
theorem f_tyKey {m room dup : Int} {l : List Int} {r : Int} (h : okRD room dup = true) (hm : m = 0 ∨ m = 1) (hl : signs l = true) (hn : l.length < 200) (hr : typR r) :
    FnP PP 9 [edD (tyEd m room dup l), .agg [.int .i64 1, .int .i32 r]] (.tup [edD (tyEd m room dup (l ++ [r])), rl [], .bool false]) := c_key (ty_is h hm hl (by omega)) (ty_key h hm hl hn hr)
theorem f_tyAcc {m room dup : Int} {l : List Int} (h : okRD room dup = true) (hm : m = 0 ∨ m = 1) (hl : signs l = true) (hn : l.length ≤ 200) :
    FnP PP 9 [edD (tyEd m room dup l), .agg [.int .i64 1, .int .i32 13]] (.tup [edD (tyAcc m room dup l), rl (l ++ []), .bool true]) := c_key (ty_is h hm hl hn) (ty_accept h hm hl hn)
theorem up_text {m room dup : Int} {l : List Int} (h : okRD room dup = true) (hm : m = 0 ∨ m = 1) (hl : signs l = true) (hn : l.length ≤ 200) : (keyS (tyAcc m room dup l) 3 0).ed.e.g.a ++ (keyS (tyAcc m room dup l) 3 0).ed.e.g.b = l := by
  rw [ty_up h hm hl hn]; exact List.append_nil l

theorem f_typesLaw_k1 {p : Prop} (h : p := by
    first | rfl | (exfalso; omega) | contradiction | (exfalso; simp_all; done) | (have h9 := ty_up hx3 hx4 hx2 htl; rw [h9]; rfl)) : p := h
set_option maxHeartbeats 2000000 in
set_option maxRecDepth 20000 in
theorem f_typesLaw {m room dup : Int} {l : List Int} : FnP PP 5 [.int .i64 m, .int .i64 room, .int .i64 dup, rl l] (.bool true) := by
  refine FnP.of_body Tryz.func5 rfl (by kernel_rfl) rfl ?_
  refine Wp.bound 3 rfl (fun hb3 => ?_)
  simp only [D.bd, D.bdL, List.length_map, and_true] at hb3
  refine Wp.seq <| reg <| asg0 rfl <| done ?_
  refine Wp.seq <| reg <| mv0 rfl <| mv0 rfl <| mv0 rfl <| clw0 rfl f_edNew rfl ?_
  refine mv0 rfl <| xt0 rfl <| xt0 rfl <| al0 73 rfl ?_
  refine stw0 rfl ?_
  refine asg0 rfl <| done ?_
  refine Wp.seq <| Wp.seq <| reg <| mv0 rfl <| cmp0 rfl <| mv0 rfl ?_
  refine bcase 30 rfl (fun h30 => ?_) (fun h30 => ?_)
  have nh30 := Nz h30
  refine sk0 rfl h30 <| sk0 rfl h30 <| sk0 rfl h30 <| pkt0 rfl h30 <| done ?_
  refine Wp.condT rfl rfl <| Wp.seq <| reg <| clw0 rfl f_typed rfl ?_
  refine asg0 rfl <| done ?_
  refine Wp.ret ?_
  refine Ends.ret (.cons (.tmp rfl (Fz.pure rfl)) <|  .nil) ?_
  · exact f_typesLaw_k1
  have nh30 := Nz h30
  refine mv1 rfl h30 rfl ?_
  first | refine lnM1 rfl h30 rfl ?_ | refine lns1 rfl h30 rfl ?_ | refine ln1 rfl h30 rfl ?_
  refine cmp1 rfl h30 rfl <| pkf0 rfl h30 <| done ?_
  refine Wp.cond rfl (fun c1 => ?_) (fun c1 => ?_)
  have nc1 := Nz c1
  refine Wp.seq <| reg <| clw0 rfl f_typed rfl ?_
  refine asg0 rfl <| done ?_
  refine Wp.ret ?_
  refine Ends.ret (.cons (.tmp rfl (Fz.pure rfl)) <|  .nil) ?_
  · exact f_typesLaw_k1
  have nc1 := Nz c1
  refine Wp.skip <| Wp.seq <| Wp.seq <| reg <| asg0 rfl <| done ?_
  refine Wp.block ?_
  refine Wp.loopK (α := Nat) [3, 9] [] (fun x tl => (11, .int .i64 (x : Nat)) :: tl) (fun x tl => (73, some (.cells 46 (edC (tyEd m room dup (l.take x))))) :: tl) (fun x => x ≤ l.length ∧ signs (l.take x) = true ∧ okRD room dup = true ∧ (m = 0 ∨ m = 1) ∧ l.length ≤ 200) (fun x => l.length - x) (0) rfl rfl (⟨by omega, rfl, (ty_new (by assumption)).2.1, (ty_new (by assumption)).2.2, by omega⟩) (Rp) (⟨congrArg (fun z => some (Blk.cells 46 (edC z))) (ty_new (by assumption)).1, trivial⟩) ?_
  intro x hx
  obtain ⟨hx1, hx2, hx3, hx4, hx5⟩ := hx
  refine Wp.seq <| Wp.seq <| reg <| mv0 rfl <| mv0 rfl ?_
  first | refine lnM0 rfl ?_ | refine lns0 rfl ?_ | refine ln0 rfl ?_
  refine cmp0 rfl <| done ?_
  refine Wp.cond rfl (fun c2 => ?_) (fun c2 => ?_)
  have nc2 := Nz c2
  refine Wp.skip <| Wp.seq <| Wp.block <| Wp.seq <| Wp.seq <| reg <| mv0 rfl <| mv0 rfl <| iaE0 (x) Bd rfl Eq' ?_
  refine ldA0 rfl ?_
  refine cmp0 rfl <| mv0 rfl ?_
  refine bcase 47 rfl (fun h47 => ?_) (fun h47 => ?_)
  have nh47 := Nz h47
  refine mv1 rfl h47 rfl <| mv1 rfl h47 rfl <| iaE1 rfl h47 (x) Bd rfl Eq' ?_
  refine ldA1 rfl h47 rfl ?_
  refine cmp1 rfl h47 rfl <| pkt0 rfl h47 <| mv0 rfl ?_
  refine bcase 54 rfl (fun h54 => ?_) (fun h54 => ?_)
  have nh54 := Nz h54
  refine sk0 rfl h54 <| sk0 rfl h54 <| sk0 rfl h54 <| sk0 rfl h54 <| sk0 rfl h54 <| pkt0 rfl h54 <| mv0 rfl <| sk0 rfl rfl <| sk0 rfl rfl <| sk0 rfl rfl <| sk0 rfl rfl <| sk0 rfl rfl <| sk0 rfl rfl <| pkt0 rfl rfl <| done ?_
  refine Wp.condT rfl rfl <| Wp.seq <| reg <| clw0 rfl f_typed rfl ?_
  refine asg0 rfl <| done ?_
  refine Wp.ret ?_
  refine Ends.ret (.cons (.tmp rfl (Fz.pure rfl)) <|  .nil) ?_
  · exact f_typesLaw_k1
  have nh54 := Nz h54
  refine mv1 rfl h54 rfl <| mv1 rfl h54 rfl <| iaE1 rfl h54 (x) Bd rfl Eq' ?_
  refine ldA1 rfl h54 rfl ?_
  refine cmp1 rfl h54 rfl <| pkf0 rfl h54 <| mv0 rfl ?_
  refine bcase 61 rfl (fun h61 => ?_) (fun h61 => ?_)
  have nh61 := Nz h61
  refine sk0 rfl h61 <| sk0 rfl h61 <| sk0 rfl h61 <| sk0 rfl h61 <| sk0 rfl h61 <| sk0 rfl h61 <| pkt0 rfl h61 <| done ?_
  refine Wp.condT rfl rfl <| Wp.seq <| reg <| clw0 rfl f_typed rfl ?_
  refine asg0 rfl <| done ?_
  refine Wp.ret ?_
  refine Ends.ret (.cons (.tmp rfl (Fz.pure rfl)) <|  .nil) ?_
  · exact f_typesLaw_k1
  have nh61 := Nz h61
  refine mv1 rfl h61 rfl <| mv1 rfl h61 rfl <| iaE1 rfl h61 (x) Bd rfl Eq' ?_
  refine ldA1 rfl h61 rfl ?_
  refine clw1 rfl h61 rfl f_glyphIs rfl ?_
  refine nt1 rfl h61 rfl <| pkf0 rfl h61 <| done ?_
  refine Wp.cond rfl (fun c3 => ?_) (fun c3 => ?_)
  have nc3 := Nz c3
  refine Wp.seq <| reg <| clw0 rfl f_typed rfl ?_
  refine asg0 rfl <| done ?_
  refine Wp.ret ?_
  refine Ends.ret (.cons (.tmp rfl (Fz.pure rfl)) <|  .nil) ?_
  · exact f_typesLaw_k1
  have nc3 := Nz c3
  refine Wp.skip <| Wp.seq <| regd mixed ?_
  have htr : typR l[x] := ⟨by omega, by omega, by assumption⟩
  refine ldA0 rfl ?_
  refine mv0 rfl <| mv0 rfl <| iaE0 (x) Bd rfl Eq' ?_
  refine ldA0 rfl ?_
  refine clw0 rfl f_lawSign rfl ?_
  refine clw0 rfl (f_tyKey hx3 hx4 hx2 (by rw [List.length_take]; omega) htr) rfl ?_
  refine mv0 rfl <| xt0 rfl <| xt0 rfl <| xt0 rfl <| al0 76 rfl ?_
  refine stw0 rfl ?_
  refine asg0 rfl <| asg0 rfl ?_
  refine done ⟨by kernel_rfl, by kernel_rfl, ?_⟩
  refine Wp.seq <| Wp.seq <| reg <| mv0 rfl <| done ?_
  refine Wp.cond rfl (fun c4 => ?_) (fun c4 => ?_)
  have nc4 := Nz c4
  refine Wp.seq <| reg <| asg0 rfl <| done ?_
  refine Wp.ret ?_
  refine Ends.ret (.cons (.tmp rfl (Fz.pure rfl)) <|  .nil) ?_
  · exact f_typesLaw_k1
  have nc4 := Nz c4
  refine Wp.skip <| reg <| ldA0 rfl ?_
  refine stw0 rfl ?_
  refine done ?_
  refine reg <| mv0 rfl <| ar0 rfl (wrapI Bd) <| asg0 rfl <| done ?_
  exact ⟨x + 1, ⟨by omega, signs_succ (by omega) hx2 htr.2.2, hx3, hx4, hx5⟩, by omega, Rp, ⟨congrArg (fun z => some (Blk.cells 46 (edC (tyEd m room dup z)))) (List.take_succ_eq_append_getElem (l := l) (i := x) (by omega)).symm, trivial⟩, rfl⟩
  have nh47 := Nz h47
  refine sk0 rfl h47 <| sk0 rfl h47 <| sk0 rfl h47 <| sk0 rfl h47 <| sk0 rfl h47 <| pkf0 rfl h47 <| mv0 rfl <| mv1 rfl rfl rfl <| mv1 rfl rfl rfl <| iaE1 rfl rfl (x) Bd rfl Eq' ?_
  refine ldA1 rfl rfl rfl ?_
  refine cmp1 rfl rfl rfl <| pkf0 rfl rfl <| mv0 rfl ?_
  refine bcase 61 rfl (fun h61 => ?_) (fun h61 => ?_)
  have nh61 := Nz h61
  refine sk0 rfl h61 <| sk0 rfl h61 <| sk0 rfl h61 <| sk0 rfl h61 <| sk0 rfl h61 <| sk0 rfl h61 <| pkt0 rfl h61 <| done ?_
  refine Wp.condT rfl rfl <| Wp.seq <| reg <| clw0 rfl f_typed rfl ?_
  refine asg0 rfl <| done ?_
  refine Wp.ret ?_
  refine Ends.ret (.cons (.tmp rfl (Fz.pure rfl)) <|  .nil) ?_
  · exact f_typesLaw_k1
  have nh61 := Nz h61
  refine mv1 rfl h61 rfl <| mv1 rfl h61 rfl <| iaE1 rfl h61 (x) Bd rfl Eq' ?_
  refine ldA1 rfl h61 rfl ?_
  refine clw1 rfl h61 rfl f_glyphIs rfl ?_
  refine nt1 rfl h61 rfl <| pkf0 rfl h61 <| done ?_
  refine Wp.cond rfl (fun c5 => ?_) (fun c5 => ?_)
  have nc5 := Nz c5
  refine Wp.seq <| reg <| clw0 rfl f_typed rfl ?_
  refine asg0 rfl <| done ?_
  refine Wp.ret ?_
  refine Ends.ret (.cons (.tmp rfl (Fz.pure rfl)) <|  .nil) ?_
  · exact f_typesLaw_k1
  have nc5 := Nz c5
  refine Wp.skip <| Wp.seq <| regd mixed ?_
  have htr : typR l[x] := ⟨by omega, by omega, by assumption⟩
  refine ldA0 rfl ?_
  refine mv0 rfl <| mv0 rfl <| iaE0 (x) Bd rfl Eq' ?_
  refine ldA0 rfl ?_
  refine clw0 rfl f_lawSign rfl ?_
  refine clw0 rfl (f_tyKey hx3 hx4 hx2 (by rw [List.length_take]; omega) htr) rfl ?_
  refine mv0 rfl <| xt0 rfl <| xt0 rfl <| xt0 rfl <| al0 76 rfl ?_
  refine stw0 rfl ?_
  refine asg0 rfl <| asg0 rfl ?_
  refine done ⟨by kernel_rfl, by kernel_rfl, ?_⟩
  refine Wp.seq <| Wp.seq <| reg <| mv0 rfl <| done ?_
  refine Wp.cond rfl (fun c6 => ?_) (fun c6 => ?_)
  have nc6 := Nz c6
  refine Wp.seq <| reg <| asg0 rfl <| done ?_
  refine Wp.ret ?_
  refine Ends.ret (.cons (.tmp rfl (Fz.pure rfl)) <|  .nil) ?_
  · exact f_typesLaw_k1
  have nc6 := Nz c6
  refine Wp.skip <| reg <| ldA0 rfl ?_
  refine stw0 rfl ?_
  refine done ?_
  refine reg <| mv0 rfl <| ar0 rfl (wrapI Bd) <| asg0 rfl <| done ?_
  exact ⟨x + 1, ⟨by omega, signs_succ (by omega) hx2 htr.2.2, hx3, hx4, hx5⟩, by omega, Rp, ⟨congrArg (fun z => some (Blk.cells 46 (edC (tyEd m room dup z)))) (List.take_succ_eq_append_getElem (l := l) (i := x) (by omega)).symm, trivial⟩, rfl⟩
  have nc2 := Nz c2
  refine Wp.exit <| Wp.seq <| regd mixed ?_
  have htk : l.take x = l := List.take_of_length_le (by omega); have htl : (l.take x).length ≤ 200 := by rw [htk]; exact hx5
  refine ldA0 rfl ?_
  refine clw0 rfl f_lawSign rfl ?_
  refine clw0 rfl (f_tyAcc hx3 hx4 hx2 htl) rfl ?_
  refine mv0 rfl <| xt0 rfl <| xt0 rfl <| xt0 rfl <| al0 79 rfl ?_
  refine stw0 rfl ?_
  refine asg0 rfl <| asg0 rfl ?_
  refine done ⟨by kernel_rfl, by kernel_rfl, ?_⟩
  refine Wp.seq <| Wp.seq <| reg <| mv0 rfl <| nt0 rfl <| mv0 rfl ?_
  refine bcase 92 rfl (fun h92 => ?_) (fun h92 => ?_)
  have nh92 := Nz h92
  refine sk0 rfl h92 <| sk0 rfl h92 <| sk0 rfl h92 <| sk0 rfl h92 <| pkt0 rfl h92 <| done ?_
  refine Wp.condT rfl rfl <| Wp.seq <| reg <| asg0 rfl <| done ?_
  refine Wp.ret ?_
  refine Ends.ret (.cons (.tmp rfl (Fz.pure rfl)) <|  .nil) ?_
  · exact f_typesLaw_k1
  have nh92 := Nz h92
  refine mv1 rfl h92 rfl <| mv1 rfl h92 rfl <| clw1 rfl h92 rfl (f_same01e (by rw [List.append_nil, htk])) rfl ?_
  refine nt1 rfl h92 rfl <| pkf0 rfl h92 <| done ?_
  refine Wp.cond rfl (fun c7 => ?_) (fun c7 => ?_)
  have nc7 := Nz c7
  refine Wp.seq <| reg <| asg0 rfl <| done ?_
  refine Wp.ret ?_
  refine Ends.ret (.cons (.tmp rfl (Fz.pure rfl)) <|  .nil) ?_
  · exact f_typesLaw_k1
  have nc7 := Nz c7
  refine Wp.skip <| Wp.seq <| reg <| ldA0 rfl ?_
  refine bdw0 rfl ?_
  refine clw0 rfl (f_edKey (d := tyAcc m room dup (l.take x)) (k := 3) (r := 0) (t_ok (ty_acc_is hx3 hx4 hx2 htl))) rfl ?_
  refine mv0 rfl <| xt0 rfl <| xt0 rfl <| xt0 rfl <| al0 82 rfl ?_
  refine stw0 rfl ?_
  refine asg0 rfl <| asg0 rfl <| done ?_
  refine Wp.seq <| reg <| clw0 rfl f_typed rfl ?_
  refine mv0 rfl ?_
  refine bcase 106 rfl (fun h106 => ?_) (fun h106 => ?_)
  have nh106 := Nz h106
  refine faA1 rfl h106 rfl ?_
  refine faA1 rfl h106 rfl ?_
  have hua : (keyS (tyAcc m room dup (l.take x)) 3 0).ed.e.g.a.length = (l.take x).length := by rw [ty_up hx3 hx4 hx2 htl]
  have hub : (keyS (tyAcc m room dup (l.take x)) 3 0).ed.e.g.b.length = 0 := by rw [ty_up hx3 hx4 hx2 htl]; rfl
  refine ldA1 rfl h106 rfl ?_
  refine clw1 rfl h106 rfl (FnO.toP (f_textO Dis Dis)) rfl ?_
  refine mv1 rfl h106 rfl <| clw1 rfl h106 rfl (f_same01e ((up_text hx3 hx4 hx2 htl).trans htk)) rfl ?_
  refine pkt0 rfl h106 <| mv0 rfl ?_
  refine bcase 114 rfl (fun h114 => ?_) (fun h114 => ?_)
  have nh114 := Nz h114
  refine faA1 rfl h114 rfl ?_
  refine faA1 rfl h114 rfl ?_
  refine faA1 rfl h114 rfl ?_
  refine ldA1 rfl h114 rfl ?_
  first | refine lnM1 rfl h114 rfl ?_ | refine lns1 rfl h114 rfl ?_ | refine ln1 rfl h114 rfl ?_
  refine cmp1 rfl h114 rfl <| pkt0 rfl h114 <| asg0 rfl <| done ?_
  refine Wp.ret ?_
  refine Ends.ret (.cons (.tmp rfl (Fz.pure rfl)) <|  .nil) ?_
  · exact f_typesLaw_k1
  have nh114 := Nz h114
  refine sk0 rfl h114 <| sk0 rfl h114 <| sk0 rfl h114 <| sk0 rfl h114 <| sk0 rfl h114 <| sk0 rfl h114 <| pkf0 rfl h114 <| asg0 rfl <| done ?_
  refine Wp.ret ?_
  refine Ends.ret (.cons (.tmp rfl (Fz.pure rfl)) <|  .nil) ?_
  · exact f_typesLaw_k1
  have nh106 := Nz h106
  refine sk0 rfl h106 <| sk0 rfl h106 <| sk0 rfl h106 <| sk0 rfl h106 <| sk0 rfl h106 <| sk0 rfl h106 <| pkf0 rfl h106 <| mv0 rfl <| sk0 rfl rfl <| sk0 rfl rfl <| sk0 rfl rfl <| sk0 rfl rfl <| sk0 rfl rfl <| sk0 rfl rfl <| pkf0 rfl rfl <| asg0 rfl <| done ?_
  refine Wp.ret ?_
  refine Ends.ret (.cons (.tmp rfl (Fz.pure rfl)) <|  .nil) ?_
  · exact f_typesLaw_k1

end Go.Proofs.YtkcdmmafkpplhaaGreat