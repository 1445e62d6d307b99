/- The engine, part J: from contracts to what a row asks. No program in sight. -/
import Derived.Test.YtoleablcjdbeiaaEngI
import Derived.Below
namespace Go.Eng
open Go

theorem Behind.below {W : World} {H H' : GH} {w' : World} (h : Behind W H H' w') : Go.RowKit.Below W.heap.size W w' := ⟨h.os, h.tape, h.output, h.size, h.frame⟩

/-- What is known of one block. -/
def oneH (w : World) (b : Nat) : GH := fun q => if q = b then w.heap[b]? else none
theorem oneH_pers {w : World} {b : Nat} : ∀ q o, oneH w b q = some o → w.heap[q]? = some o := by
  intro q o h
  unfold oneH at h
  split at h
  · rename_i hq; subst hq; exact h
  · cases h

/-- A slice of integers that came in. -/
theorem ints_den {k : IntKind} {w : World} {x : Addr} {len cap : Nat} {zs : List Int} (hl : len ≤ cap) (hz : zs.length = cap) (hc : ∀ i, i < zs.length → w.cell? (x.add i) = some (.int k (zs.getD i 0))) :
    ∃ H : GH, (∀ b o, H b = some o → w.heap[b]? = some o) ∧ DenP H (.rows false ((zs.take len).map fun r => [.int k r])) (.slice (some x) len cap) := by
  obtain ⟨b, off, spot⟩ := x
  refine ⟨oneH w b, oneH_pers, ?_⟩
  by_cases h0 : len = 0
  · subst h0; exact .rowsE false _ cap (by simp)
  · have c0 := hc 0 (by omega)
    have hsp : spot = none := by
      unfold World.cell? Addr.add at c0
      cases spot with
      | none => rfl
      | some s => exfalso; simp at c0; split at c0 <;> simp_all
    subst hsp
    have hadd : ∀ i, (⟨b, off, none⟩ : Addr).add i = ⟨b, off + i, none⟩ := fun i => by unfold Addr.add; split <;> simp_all
    obtain ⟨arr, ty, fz, hb⟩ : ∃ arr ty fz, w.heap[b]? = some (.cells arr ty fz) := by
      rw [hadd] at c0
      unfold World.cell? at c0
      split at c0
      · rename_i c e f h; exact ⟨c, e, f, h⟩
      · cases c0
    have hcell : ∀ i, i < zs.length → arr[off + i]? = some (.int k (zs.getD i 0)) := fun i hi => by
      have := hc i hi
      rw [hadd] at this
      simpa [World.cell?, hb] using this
    have hlen : ((zs.take len).map fun r => [D.int k r]).length = len := by simp; omega
    have hin : off + len ≤ arr.size := by
      have := (Array.getElem?_eq_some_iff.1 (hcell (len - 1) (by omega))).1
      omega
    have := DenP.rowsS (H := oneH w b) false ((zs.take len).map fun r => [D.int k r]) b off cap 1 arr ty fz (by simp [oneH, hb]) (by intro h; rw [h] at hlen; simp at hlen; omega) (by rw [hlen]; exact hl) (by simp)
      (fun row hr => by obtain ⟨r, _, rfl⟩ := List.mem_map.1 hr; rfl) (by rw [hlen]; omega) (fun i q row d v hi hq hv => by
        have hil : i < len := by rw [← hlen]; exact (List.getElem?_eq_some_iff.1 hi).1
        simp only [List.getElem?_map, List.getElem?_take, if_pos hil] at hi
        obtain ⟨r, hr, rfl⟩ := map_some hi
        have hq0 : q = 0 := by
          have := (List.getElem?_eq_some_iff.1 hq).1; simp at this; exact this
        subst hq0
        simp at hq; subst hq
        rw [Nat.mul_one, Nat.add_zero, hcell i (by omega)] at hv
        cases hv
        have : zs.getD i 0 = r := by simp [List.getD, hr]
        rw [this]; exact .int k r)
    rwa [hlen] at this
end Go.Eng
