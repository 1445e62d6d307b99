/- Own texts of this claim, laid together: EngA, EngB, EngC, EngD, EngE, EngF, EngG, EngH, EngI, EngJ. -/
import Derived.WalkKit
import Derived.Deep.LoopGhost
import Derived.LoopN
import Derived.Below
set_option linter.unusedVariables false
set_option linter.unusedSimpArgs false
/- The engine, part A: abstract data, what a value is in a ghost heap, blocks of the call's own, the relation of an abstract state to a frame and a world. No program in sight. -/
namespace Go.Eng
open Go

/-- What is known of memory that nobody writes any more: block by block. -/
abbrev GH := Nat → Option Obj

/-- Abstract data. 'rows': an immutable slice, each element as its cells; 'full': no spare capacity. 'ptr', 'sl', 'bp', 'omap' name blocks of the call's own. -/
inductive D where
  | any
  | int (k : IntKind) (n : Int)
  | bool (b : Bool)
  | str (s : ByteArray)
  | rows (full : Bool) (l : List (List D))
  | pp (l : List D)
  | ptr (j off : Nat)
  | sl (j lo n : Nat)
  | bp (j i off : Nat)
  | agg (l : List D)
  | tup (l : List D)
  | fn (f : FuncId) (l : List D)
  | bfn (f : FuncId) (l : List D)
  | iface (t : TypeId) (d : D)
  | nilIface
  | nilPtr
  | nilFn
  | nilMap
  | omap (j : Nat)
  | pmap (l : List (D × D))

instance : Inhabited D := ⟨.any⟩

/-- Where a block of the call's own lies: its number; for a buffer, how many rows it has room for, and how many cells a row has; is there a block at all? -/
structure Loc where
  blk : Nat
  cap : Nat
  sz : Nat
  here : Bool

mutual
/-- Does a datum name the own block j? (Immutable slices and maps name none.) -/
def D.has (j : Nat) : D → Bool
  | .ptr k _ => Nat.beq k j
  | .sl k _ _ => Nat.beq k j
  | .bp k _ _ => Nat.beq k j
  | .omap k => Nat.beq k j
  | .agg l => D.hasL j l
  | .tup l => D.hasL j l
  | .fn _ l => D.hasL j l
  | .bfn _ l => D.hasL j l
  | .iface _ d => D.has j d
  | _ => false
def D.hasL (j : Nat) : List D → Bool
  | [] => false
  | d :: r => D.has j d || D.hasL j r
end

theorem D.hasL_mem {j : Nat} : ∀ {l : List D} {d : D}, d ∈ l → D.has j d = true → D.hasL j l = true
  | _ :: _, _, .head _, h => by simp [D.hasL, h]
  | _ :: r, _, .tail _ hm, h => by simp [D.hasL, D.hasL_mem hm h]

/-- Immutable data: what a value is in a ghost heap. -/
inductive DenP (H : GH) : D → Value → Prop
  | any (v : Value) : DenP H .any v
  | int (k : IntKind) (n : Int) : DenP H (.int k n) (.int k n)
  | bool (b : Bool) : DenP H (.bool b) (.bool b)
  | str (s : ByteArray) : DenP H (.str s) (.string s)
  | rowsE (full : Bool) (a : Option Addr) (cap : Nat) (hf : full = true → cap = 0) : DenP H (.rows full []) (.slice a 0 cap)
  | rowsS (full : Bool) (l : List (List D)) (b off cap sz : Nat) (arr : Array Value) (ty : TypeId) (fz : Nat × Nat)
      (hb : H b = some (.cells arr ty fz)) (hne : l ≠ []) (hlen : l.length ≤ cap) (hf : full = true → cap = l.length)
      (hsz : ∀ row ∈ l, row.length = sz) (hin : off + l.length * sz ≤ arr.size)
      (he : ∀ (i k : Nat) (row : List D) (d : D) (v : Value), l[i]? = some row → row[k]? = some d → arr[off + i * sz + k]? = some v → DenP H d v) (hbig : l.length ≤ 9223372036854775807) :
      DenP H (.rows full l) (.slice (some ⟨b, off, none⟩) l.length cap)
  | pp (l : List D) (b off : Nat) (arr : Array Value) (ty : TypeId) (fz : Nat × Nat) (hb : H b = some (.cells arr ty fz))
      (hin : off + l.length ≤ arr.size) (he : ∀ (k : Nat) (d : D) (v : Value), l[k]? = some d → arr[off + k]? = some v → DenP H d v) :
      DenP H (.pp l) (.pointer (some ⟨b, off, none⟩))
  | agg (l : List D) (cs : Array Value) (hs : cs.size = l.length) (he : ∀ (k : Nat) (d : D) (v : Value), l[k]? = some d → cs[k]? = some v → DenP H d v) :
      DenP H (.agg l) (.agg cs)
  | tup (l : List D) (cs : Array Value) (hs : cs.size = l.length) (he : ∀ (k : Nat) (d : D) (v : Value), l[k]? = some d → cs[k]? = some v → DenP H d v) :
      DenP H (.tup l) (.tuple cs)
  | fn (f : FuncId) (l : List D) (cs : Array Value) (hs : cs.size = l.length) (he : ∀ (k : Nat) (d : D) (v : Value), l[k]? = some d → cs[k]? = some v → DenP H d v) :
      DenP H (.fn f l) (.func (.func f) #[] cs)
  | iface (t : TypeId) (d : D) (v : Value) (h : DenP H d v) : DenP H (.iface t d) (.iface t v)
  | nilIface : DenP H .nilIface .nilIface
  | nilPtr : DenP H .nilPtr (.pointer none)
  | nilFn : DenP H .nilFn .nilFunc
  | nilMap : DenP H .nilMap (.map none)
  | pmap (l l' : List (D × D)) (b : Nat) (es : Array MapEntry) (clock : Nat) (hb : H b = some (.map es clock)) (hp : l'.Perm l) (hs : es.size = l'.length)
      (hk : ∀ (i : Nat) (kd vd : D) (e : MapEntry), l'[i]? = some (kd, vd) → es[i]? = some e → DenP H kd e.key)
      (he : ∀ (i : Nat) (kd vd : D) (e : MapEntry), l'[i]? = some (kd, vd) → es[i]? = some e → DenP H vd e.val) :
      DenP H (.pmap l) (.map (some b))

/-- All data: with names of the call's own blocks. -/
inductive Den (ρ : Nat → Loc) (H : GH) : D → Value → Prop
  | pure {d : D} {v : Value} (h : DenP H d v) : Den ρ H d v
  | ptr (j off : Nat) (hh : (ρ j).here = true) : Den ρ H (.ptr j off) (.pointer (some ⟨(ρ j).blk, off, none⟩))
  | sl (j lo n : Nat) (a : Option Addr) (c : Nat) (hc : c = (ρ j).cap - lo) (hn : lo + n ≤ (ρ j).cap)
      (ha : c = 0 ∨ ((ρ j).here = true ∧ a = some ⟨(ρ j).blk, lo * (ρ j).sz, none⟩)) : Den ρ H (.sl j lo n) (.slice a n c)
  | bp (j i off : Nat) (hh : (ρ j).here = true) : Den ρ H (.bp j i off) (.pointer (some ⟨(ρ j).blk, i * (ρ j).sz + off, none⟩))
  | omap (j : Nat) (hh : (ρ j).here = true) : Den ρ H (.omap j) (.map (some (ρ j).blk))
  | agg (l : List D) (cs : Array Value) (hs : cs.size = l.length) (he : ∀ (k : Nat) (d : D) (v : Value), l[k]? = some d → cs[k]? = some v → Den ρ H d v) :
      Den ρ H (.agg l) (.agg cs)
  | tup (l : List D) (cs : Array Value) (hs : cs.size = l.length) (he : ∀ (k : Nat) (d : D) (v : Value), l[k]? = some d → cs[k]? = some v → Den ρ H d v) :
      Den ρ H (.tup l) (.tuple cs)
  | fn (f : FuncId) (l : List D) (cs : Array Value) (hs : cs.size = l.length) (he : ∀ (k : Nat) (d : D) (v : Value), l[k]? = some d → cs[k]? = some v → Den ρ H d v) :
      Den ρ H (.fn f l) (.func (.func f) #[] cs)
  | bfn (f : FuncId) (l : List D) (cs : Array Value) (hs : cs.size = l.length) (he : ∀ (k : Nat) (d : D) (v : Value), l[k]? = some d → cs[k]? = some v → Den ρ H d v) :
      Den ρ H (.bfn f l) (.func (.func f) cs #[])
  | iface (t : TypeId) (d : D) (v : Value) (h : Den ρ H d v) : Den ρ H (.iface t d) (.iface t v)

def GH.le (H H' : GH) : Prop := ∀ b o, H b = some o → H' b = some o
theorem GH.le_refl (H : GH) : H.le H := fun _ _ h => h
theorem GH.le_trans {H H' H'' : GH} (h : H.le H') (h' : H'.le H'') : H.le H'' := fun b o x => h' b o (h b o x)

theorem DenP.mono {H H' : GH} (hle : H.le H') {d : D} {v : Value} (h : DenP H d v) : DenP H' d v := by
  induction h with
  | any v => exact .any v
  | int k n => exact .int k n
  | bool b => exact .bool b
  | str s => exact .str s
  | rowsE full a cap hf => exact .rowsE full a cap hf
  | rowsS full l b off cap sz arr ty fz hb hne hlen hf hsz hin _ hbig ih => exact .rowsS full l b off cap sz arr ty fz (hle _ _ hb) hne hlen hf hsz hin ih hbig
  | pp l b off arr ty fz hb hin _ ih => exact .pp l b off arr ty fz (hle _ _ hb) hin ih
  | agg l cs hs _ ih => exact .agg l cs hs ih
  | tup l cs hs _ ih => exact .tup l cs hs ih
  | fn f l cs hs _ ih => exact .fn f l cs hs ih
  | iface t d v _ ih => exact .iface t d v ih
  | nilIface => exact .nilIface
  | nilPtr => exact .nilPtr
  | nilFn => exact .nilFn
  | nilMap => exact .nilMap
  | pmap l l' b es clock hb hp hs _ _ ihk ih => exact .pmap l l' b es clock (hle _ _ hb) hp hs ihk ih

theorem Den.mono {ρ ρ' : Nat → Loc} {H H' : GH} (hle : H.le H') {d : D} {v : Value} (h : Den ρ H d v) : (∀ j, d.has j = true → ρ' j = ρ j) → Den ρ' H' d v := by
  induction h with
  | pure h => exact fun _ => .pure (h.mono hle)
  | ptr j off hh => intro hj; have e := hj j (by simp [D.has]); rw [← e]; exact .ptr j off (by rw [e]; exact hh)
  | sl j lo n a c hc hn ha => intro hj; have e := hj j (by simp [D.has]); exact .sl j lo n a c (by rw [e]; exact hc) (by rw [e]; exact hn) (by rw [e]; exact ha)
  | bp j i off hh => intro hj; have e := hj j (by simp [D.has]); rw [← e]; exact .bp j i off (by rw [e]; exact hh)
  | omap j hh => intro hj; have e := hj j (by simp [D.has]); rw [← e]; exact .omap j (by rw [e]; exact hh)
  | agg l cs hs _ ih => exact fun hj => .agg l cs hs fun k d v h1 h2 => ih k d v h1 h2 fun j hd => hj j (by simp only [D.has]; exact D.hasL_mem (List.mem_of_getElem? h1) hd)
  | tup l cs hs _ ih => exact fun hj => .tup l cs hs fun k d v h1 h2 => ih k d v h1 h2 fun j hd => hj j (by simp only [D.has]; exact D.hasL_mem (List.mem_of_getElem? h1) hd)
  | fn f l cs hs _ ih => exact fun hj => .fn f l cs hs fun k d v h1 h2 => ih k d v h1 h2 fun j hd => hj j (by simp only [D.has]; exact D.hasL_mem (List.mem_of_getElem? h1) hd)
  | bfn f l cs hs _ ih => exact fun hj => .bfn f l cs hs fun k d v h1 h2 => ih k d v h1 h2 fun j hd => hj j (by simp only [D.has]; exact D.hasL_mem (List.mem_of_getElem? h1) hd)
  | iface t d v _ ih => exact fun hj => .iface t d v (ih fun j hd => hj j (by simp only [D.has]; exact hd))

section inv
variable {ρ : Nat → Loc} {H : GH} {v : Value}
theorem Den.int_inv {k : IntKind} {n : Int} (h : Den ρ H (.int k n) v) : v = .int k n := by cases h with | pure h => cases h; rfl
theorem Den.bool_inv {b : Bool} (h : Den ρ H (.bool b) v) : v = .bool b := by cases h with | pure h => cases h; rfl
theorem Den.str_inv {s : ByteArray} (h : Den ρ H (.str s) v) : v = .string s := by cases h with | pure h => cases h; rfl
theorem Den.ptr_inv {j off : Nat} (h : Den ρ H (.ptr j off) v) : (ρ j).here = true ∧ v = .pointer (some ⟨(ρ j).blk, off, none⟩) := by
  cases h with
  | pure h => cases h
  | ptr _ _ hh => exact ⟨hh, rfl⟩
theorem Den.agg_inv {l : List D} (h : Den ρ H (.agg l) v) : ∃ cs : Array Value, v = .agg cs ∧ cs.size = l.length ∧ ∀ (k : Nat) (d : D) (v : Value), l[k]? = some d → cs[k]? = some v → Den ρ H d v := by
  cases h with
  | pure h => cases h with | agg _ cs hs he => exact ⟨cs, rfl, hs, fun k d v h1 h2 => .pure (he k d v h1 h2)⟩
  | agg _ cs hs he => exact ⟨cs, rfl, hs, he⟩
theorem Den.tup_inv {l : List D} (h : Den ρ H (.tup l) v) : ∃ cs : Array Value, v = .tuple cs ∧ cs.size = l.length ∧ ∀ (k : Nat) (d : D) (v : Value), l[k]? = some d → cs[k]? = some v → Den ρ H d v := by
  cases h with
  | pure h => cases h with | tup _ cs hs he => exact ⟨cs, rfl, hs, fun k d v h1 h2 => .pure (he k d v h1 h2)⟩
  | tup _ cs hs he => exact ⟨cs, rfl, hs, he⟩
theorem Den.fn_inv {f : FuncId} {l : List D} (h : Den ρ H (.fn f l) v) : ∃ cs : Array Value, v = .func (.func f) #[] cs ∧ cs.size = l.length ∧ ∀ (k : Nat) (d : D) (v : Value), l[k]? = some d → cs[k]? = some v → Den ρ H d v := by
  cases h with
  | pure h => cases h with | fn _ _ cs hs he => exact ⟨cs, rfl, hs, fun k d v h1 h2 => .pure (he k d v h1 h2)⟩
  | fn _ _ cs hs he => exact ⟨cs, rfl, hs, he⟩
theorem Den.bfn_inv {f : FuncId} {l : List D} (h : Den ρ H (.bfn f l) v) : ∃ cs : Array Value, v = .func (.func f) cs #[] ∧ cs.size = l.length ∧ ∀ (k : Nat) (d : D) (v : Value), l[k]? = some d → cs[k]? = some v → Den ρ H d v := by
  cases h with
  | pure h => cases h
  | bfn _ _ cs hs he => exact ⟨cs, rfl, hs, he⟩
theorem Den.iface_inv {t : TypeId} {d : D} (h : Den ρ H (.iface t d) v) : ∃ u, v = .iface t u ∧ Den ρ H d u := by
  cases h with
  | pure h => cases h with | iface _ _ u h => exact ⟨u, rfl, .pure h⟩
  | iface _ _ u h => exact ⟨u, rfl, h⟩
theorem Den.pp_inv {l : List D} (h : Den ρ H (.pp l) v) : ∃ b off arr ty fz, v = .pointer (some ⟨b, off, none⟩) ∧ H b = some (.cells arr ty fz) ∧ off + l.length ≤ arr.size ∧
    ∀ (k : Nat) (d : D) (v : Value), l[k]? = some d → arr[off + k]? = some v → DenP H d v := by
  cases h with | pure h => cases h with | pp _ b off arr ty fz hb hin he => exact ⟨b, off, arr, ty, fz, rfl, hb, hin, he⟩
theorem Den.rows_inv {full : Bool} {l : List (List D)} (h : Den ρ H (.rows full l) v) : ∃ a cap, v = .slice a l.length cap ∧ l.length ≤ cap ∧ (full = true → cap = l.length) ∧
    (l ≠ [] → ∃ b off sz arr ty fz, a = some ⟨b, off, none⟩ ∧ H b = some (.cells arr ty fz) ∧ (∀ row ∈ l, row.length = sz) ∧ off + l.length * sz ≤ arr.size ∧
      ∀ (i k : Nat) (row : List D) (d : D) (v : Value), l[i]? = some row → row[k]? = some d → arr[off + i * sz + k]? = some v → DenP H d v) := by
  cases h with
  | pure h => cases h with
    | rowsE _ a cap hf => exact ⟨a, cap, rfl, by simp, by simpa using hf, fun h => absurd rfl h⟩
    | rowsS _ _ b off cap sz arr ty fz hb hne hlen hf hsz hin he _ => exact ⟨_, cap, rfl, hlen, hf, fun _ => ⟨b, off, sz, arr, ty, fz, rfl, hb, hsz, hin, he⟩⟩
theorem Den.sl_inv {j lo n : Nat} (h : Den ρ H (.sl j lo n) v) : ∃ a c, v = .slice a n c ∧ c = (ρ j).cap - lo ∧ lo + n ≤ (ρ j).cap ∧ (c = 0 ∨ ((ρ j).here = true ∧ a = some ⟨(ρ j).blk, lo * (ρ j).sz, none⟩)) := by
  cases h with
  | pure h => cases h
  | sl _ _ _ a c hc hn ha => exact ⟨a, c, rfl, hc, hn, ha⟩
theorem Den.bp_inv {j i off : Nat} (h : Den ρ H (.bp j i off) v) : (ρ j).here = true ∧ v = .pointer (some ⟨(ρ j).blk, i * (ρ j).sz + off, none⟩) := by
  cases h with
  | pure h => cases h
  | bp _ _ _ hh => exact ⟨hh, rfl⟩
theorem Den.omap_inv {j : Nat} (h : Den ρ H (.omap j) v) : (ρ j).here = true ∧ v = .map (some (ρ j).blk) := by
  cases h with
  | pure h => cases h
  | omap _ hh => exact ⟨hh, rfl⟩
end inv

/-- A datum of one cell (no struct, no tuple, not unknown). -/
def D.cell : D → Bool
  | .agg _ | .tup _ | .any => false
  | _ => true
/-- The cells of a datum. -/
def D.flat : D → List D
  | .agg l => l
  | d => [d]
theorem Den.cell {ρ : Nat → Loc} {H : GH} {d : D} {v : Value} (h : Den ρ H d v) (hc : d.cell = true) : (∀ l, v ≠ .agg l) ∧ (∀ l, v ≠ .tuple l) := by
  cases h with
  | pure h => cases h <;> simp_all [D.cell]
  | agg => simp [D.cell] at hc
  | tup => simp [D.cell] at hc
  | _ => simp
theorem Den.flat {ρ : Nat → Loc} {H : GH} {d : D} {v : Value} (h : Den ρ H d v) (hd : d ≠ .any) : v.cells.size = d.flat.length ∧
    ∀ (k : Nat) (d' : D) (v' : Value), d.flat[k]? = some d' → v.cells[k]? = some v' → Den ρ H d' v' := by
  have one : ∀ {d : D} {v : Value}, Den ρ H d v → d.flat = [d] → v.cells = #[v] → v.cells.size = d.flat.length ∧
      ∀ (k : Nat) (d' : D) (v' : Value), d.flat[k]? = some d' → v.cells[k]? = some v' → Den ρ H d' v' := by
    intro d v h h1 h2
    rw [h1, h2]
    refine ⟨rfl, fun k d' v' hk hk' => ?_⟩
    cases k with
    | zero => simp at hk hk'; subst hk; subst hk'; exact h
    | succ k => simp at hk
  cases h with
  | pure h =>
    cases h with
    | agg l cs hs he => exact ⟨hs, fun k d v h1 h2 => .pure (he k d v h1 h2)⟩
    | any v => exact absurd rfl hd
    | int k n => exact one (.pure (.int k n)) rfl rfl
    | bool b => exact one (.pure (.bool b)) rfl rfl
    | str s => exact one (.pure (.str s)) rfl rfl
    | rowsE full a cap hf => exact one (.pure (.rowsE full a cap hf)) rfl rfl
    | rowsS full l b off cap sz arr ty fz hb hne hlen hf hsz hin he hbig => exact one (.pure (.rowsS full l b off cap sz arr ty fz hb hne hlen hf hsz hin he hbig)) rfl rfl
    | pp l b off arr ty fz hb hin he => exact one (.pure (.pp l b off arr ty fz hb hin he)) rfl rfl
    | tup l cs hs he => exact one (.pure (.tup l cs hs he)) rfl rfl
    | fn f l cs hs he => exact one (.pure (.fn f l cs hs he)) rfl rfl
    | iface t d v h => exact one (.pure (.iface t d v h)) rfl rfl
    | nilIface => exact one (.pure .nilIface) rfl rfl
    | nilPtr => exact one (.pure .nilPtr) rfl rfl
    | nilFn => exact one (.pure .nilFn) rfl rfl
    | nilMap => exact one (.pure .nilMap) rfl rfl
    | pmap l l' b es clock hb hp hs hk he => exact one (.pure (.pmap l l' b es clock hb hp hs hk he)) rfl rfl
  | ptr j off hh => exact one (.ptr j off hh) rfl rfl
  | sl j lo n a c hc hn ha => exact one (.sl j lo n a c hc hn ha) rfl rfl
  | bp j i off hh => exact one (.bp j i off hh) rfl rfl
  | omap j hh => exact one (.omap j hh) rfl rfl
  | agg l cs hs he => exact ⟨hs, he⟩
  | tup l cs hs he => exact one (.tup l cs hs he) rfl rfl
  | fn f l cs hs he => exact one (.fn f l cs hs he) rfl rfl
  | bfn f l cs hs he => exact one (.bfn f l cs hs he) rfl rfl
  | iface t d v h => exact one (.iface t d v h) rfl rfl

/-- A block of the call's own. -/
inductive Blk where
  | cells (ty : TypeId) (l : List D)
  | buf (sz : Nat) (l : List (List D))
  | bufc (sz : Nat) (l : List (List D)) (c : Nat)
  | map (l : List (D × D))
  | plus (o : Option (List Nat)) (kd vd : D)

/-- Are two structs of plain fields one? (the fields' kinds: 0: an integer, 1: a bool, 2: a string) -/
def eqDs : List Nat → List D → List D → Option Bool
  | [], [], [] => some true
  | 0 :: ks, .int k a :: xs, .int k' b :: ys => if k = k' then (match eqDs ks xs ys with | some r => some ((a == b) && r) | none => none) else none
  | 1 :: ks, .bool a :: xs, .bool b :: ys => match eqDs ks xs ys with | some r => some ((a == b) && r) | none => none
  | 2 :: ks, .str a :: xs, .str b :: ys => match eqDs ks xs ys with | some r => some ((a == b) && r) | none => none
  | _, _, _ => none
/-- When are two keys one? (none: integers; some ks: structs of plain fields) -/
def eqKD : Option (List Nat) → D → D → Option Bool
  | none, .int k a, .int k' b => if k = k' then some (a == b) else none
  | some ks, .agg l, .agg m => eqDs ks l m
  | _, _, _ => none

mutual
/-- Does a datum name no block of the call's own? -/
def D.pureB : D → Bool
  | .ptr _ _ => false
  | .sl _ _ _ => false
  | .bp _ _ _ => false
  | .omap _ => false
  | .bfn _ _ => false
  | .agg l => D.pureL l
  | .tup l => D.pureL l
  | .fn _ l => D.pureL l
  | .iface _ d => D.pureB d
  | _ => true
def D.pureL : List D → Bool
  | [] => true
  | d :: r => D.pureB d && D.pureL r
end
theorem D.pureL_mem : ∀ {l : List D}, D.pureL l = true → ∀ d ∈ l, d.pureB = true
  | _ :: _, h, _, .head _ => by simp only [D.pureL, Bool.and_eq_true] at h; exact h.1
  | _ :: _, h, _, .tail _ hm => by simp only [D.pureL, Bool.and_eq_true] at h; exact D.pureL_mem h.2 _ hm
mutual
theorem D.pure_has (j : Nat) : ∀ d : D, d.pureB = true → d.has j = false
  | .any, _ => rfl
  | .int _ _, _ => rfl
  | .bool _, _ => rfl
  | .str _, _ => rfl
  | .rows _ _, _ => rfl
  | .pp _, _ => rfl
  | .ptr _ _, h => by simp [D.pureB] at h
  | .sl _ _ _, h => by simp [D.pureB] at h
  | .bp _ _ _, h => by simp [D.pureB] at h
  | .bfn _ _, h => by simp [D.pureB] at h
  | .agg l, h => by simp only [D.has]; exact D.pureL_has j l (by simpa only [D.pureB] using h)
  | .tup l, h => by simp only [D.has]; exact D.pureL_has j l (by simpa only [D.pureB] using h)
  | .fn _ l, h => by simp only [D.has]; exact D.pureL_has j l (by simpa only [D.pureB] using h)
  | .iface _ d, h => by simp only [D.has]; exact D.pure_has j d (by simpa only [D.pureB] using h)
  | .nilIface, _ => rfl
  | .nilPtr, _ => rfl
  | .nilFn, _ => rfl
  | .nilMap, _ => rfl
  | .omap _, h => by simp [D.pureB] at h
  | .pmap _, _ => rfl
theorem D.pureL_has (j : Nat) : ∀ l : List D, D.pureL l = true → D.hasL j l = false
  | [], _ => rfl
  | d :: r, h => by
    simp only [D.pureL, Bool.and_eq_true] at h
    simp only [D.hasL, D.pure_has j d h.1, D.pureL_has j r h.2, Bool.or_self]
end
def Blk.has (j : Nat) : Blk → Bool
  | .cells _ l => D.hasL j l
  | .buf _ _ => false
  | .bufc _ _ _ => false
  | .map l => l.any fun e => D.has j e.1 || D.has j e.2
  | .plus _ kd vd => D.has j kd || D.has j vd

def OwnOk (ρ : Nat → Loc) (H : GH) (w : World) (j : Nat) : Blk → Prop
  | .cells ty l => (ρ j).here = true ∧ ∃ arr, w.heap[(ρ j).blk]? = some (.cells arr ty (0, 0)) ∧ arr.size = l.length ∧
      ∀ (k : Nat) (d : D) (v : Value), l[k]? = some d → arr[k]? = some v → Den ρ H d v
  | .buf sz l => (ρ j).sz = sz ∧ l.length ≤ (ρ j).cap ∧ (∀ row ∈ l, row.length = (ρ j).sz) ∧ ((ρ j).here = false → (ρ j).cap = 0) ∧
      ((ρ j).here = true → ∃ arr ty, w.heap[(ρ j).blk]? = some (.cells arr ty (0, 0)) ∧ arr.size = (ρ j).cap * (ρ j).sz ∧
        ∀ (i k : Nat) (row : List D) (d : D) (v : Value), l[i]? = some row → row[k]? = some d → arr[i * (ρ j).sz + k]? = some v → Den ρ H d v) ∧ l.length ≤ 9223372036854775807 ∧ (l.all D.pureL) = true
  | .bufc sz l c => ((ρ j).sz = sz ∧ l.length ≤ (ρ j).cap ∧ (∀ row ∈ l, row.length = (ρ j).sz) ∧ ((ρ j).here = false → (ρ j).cap = 0) ∧
      ((ρ j).here = true → ∃ arr ty, w.heap[(ρ j).blk]? = some (.cells arr ty (0, 0)) ∧ arr.size = (ρ j).cap * (ρ j).sz ∧
        ∀ (i k : Nat) (row : List D) (d : D) (v : Value), l[i]? = some row → row[k]? = some d → arr[i * (ρ j).sz + k]? = some v → Den ρ H d v) ∧ l.length ≤ 9223372036854775807 ∧ (l.all D.pureL) = true) ∧ (ρ j).cap = c
  | .map l => (ρ j).here = true ∧ ∃ es clock, ∃ l' : List (D × D), w.heap[(ρ j).blk]? = some (.map es clock) ∧ l'.Perm l ∧ es.size = l'.length ∧
      ∀ (i : Nat) (kd vd : D) (e : MapEntry), l'[i]? = some (kd, vd) → es[i]? = some e → Den ρ H kd e.key ∧ Den ρ H vd e.val
  | .plus _ _ _ => False

theorem OwnOk.mono {ρ ρ' : Nat → Loc} {H H' : GH} {w w' : World} {j : Nat} {b : Blk} (hle : H.le H') (hj : ρ' j = ρ j) (hn : ∀ k, b.has k = true → ρ' k = ρ k)
    (hw : (ρ j).here = true → w'.heap[(ρ j).blk]? = w.heap[(ρ j).blk]?) (h : OwnOk ρ H w j b) : OwnOk ρ' H' w' j b := by
  cases b with
  | cells ty l =>
    obtain ⟨hh, arr, h1, h2, h3⟩ := h
    exact ⟨by rw [hj]; exact hh, arr, by rw [hj, hw hh]; exact h1, h2, fun k d v hk hv => (h3 k d v hk hv).mono hle fun i hi => hn i (by simp only [Blk.has]; exact D.hasL_mem (List.mem_of_getElem? hk) hi)⟩
  | buf sz l =>
    obtain ⟨h0, h1, h2, h3, h4, hB, hP⟩ := h
    refine ⟨by rw [hj]; exact h0, by rw [hj]; exact h1, by rw [hj]; exact h2, by rw [hj]; exact h3, fun hh => ?_, hB, hP⟩
    rw [hj] at hh
    obtain ⟨arr, ty, h5, h6, h7⟩ := h4 hh
    refine ⟨arr, ty, by rw [hj, hw hh]; exact h5, by rw [hj]; exact h6, fun i k row d v hi hk hv => ?_⟩
    rw [hj] at hv
    exact (h7 i k row d v hi hk hv).mono hle fun q hq => by rw [D.pure_has q d (D.pureL_mem ((List.all_eq_true.1 hP) _ (List.mem_of_getElem? hi)) _ (List.mem_of_getElem? hk))] at hq; cases hq
  | bufc sz l c =>
    obtain ⟨⟨h0, h1, h2, h3, h4, hB, hP⟩, hC⟩ := h
    refine ⟨⟨by rw [hj]; exact h0, by rw [hj]; exact h1, by rw [hj]; exact h2, by rw [hj]; exact h3, fun hh => ?_, hB, hP⟩, by rw [hj]; exact hC⟩
    rw [hj] at hh
    obtain ⟨arr, ty, h5, h6, h7⟩ := h4 hh
    refine ⟨arr, ty, by rw [hj, hw hh]; exact h5, by rw [hj]; exact h6, fun i k row d v hi hk hv => ?_⟩
    rw [hj] at hv
    exact (h7 i k row d v hi hk hv).mono hle fun q hq => by rw [D.pure_has q d (D.pureL_mem ((List.all_eq_true.1 hP) _ (List.mem_of_getElem? hi)) _ (List.mem_of_getElem? hk))] at hq; cases hq
  | map l =>
    obtain ⟨hh, es, clock, l', h1, hp, h2, h3⟩ := h
    refine ⟨by rw [hj]; exact hh, es, clock, l', by rw [hj, hw hh]; exact h1, hp, h2, fun i kd vd e hi he => ?_⟩
    have h4 := h3 i kd vd e hi he
    exact ⟨h4.1.mono hle fun q hq => hn q (by simp only [Blk.has, List.any_eq_true]; exact ⟨_, hp.mem_iff.1 (List.mem_of_getElem? hi), by simp [hq]⟩),
      h4.2.mono hle fun q hq => hn q (by simp only [Blk.has, List.any_eq_true]; exact ⟨_, hp.mem_iff.1 (List.mem_of_getElem? hi), by simp [hq]⟩)⟩
  | plus o kd vd => exact h.elim

/-- The same block, or a map's entries in another order. -/
def BlkPerm (b b' : Blk) : Prop := b = b' ∨ ∃ l l', b = .map l ∧ b' = .map l' ∧ l.Perm l'
theorem OwnOk.perm {ρ : Nat → Loc} {H : GH} {w : World} {j : Nat} {b b' : Blk} (hp : BlkPerm b b') (h : OwnOk ρ H w j b) : OwnOk ρ H w j b' := by
  rcases hp with rfl | ⟨l, l', rfl, rfl, hp⟩
  · exact h
  · obtain ⟨hh, es, clock, l0, h1, h2, h3⟩ := h
    exact ⟨hh, es, clock, l0, h1, h2.trans hp, h3⟩

/-- Where a call began: its world, what was known to be immutable, and which blocks it may write. -/
structure Base where
  W : World
  H : GH
  pass : List Nat
  keep : Nat → Option Loc

/-- The world's part of the relation. -/
structure WRel (B : Base) (bl : Nat → Option Blk) (ρ : Nat → Loc) (H : GH) (w : World) : Prop where
  own : ∀ j b, bl j = some b → OwnOk ρ H w j b
  sep : ∀ j k b c, bl j = some b → bl k = some c → j ≠ k → (ρ j).here = true → (ρ k).here = true → (ρ j).blk ≠ (ρ k).blk
  new : ∀ j b, bl j = some b → (ρ j).here = true → B.W.heap.size ≤ (ρ j).blk ∨ (ρ j).blk ∈ B.pass
  np : ∀ j b, bl j = some b → (ρ j).here = true → H (ρ j).blk = none
  pers : ∀ b o, H b = some o → w.heap[b]? = some o
  hext : B.H.le H
  hnew : ∀ b o, H b = some o → B.H b = some o ∨ B.W.heap.size ≤ b ∨ b ∈ B.pass
  size : B.W.heap.size ≤ w.heap.size
  frame : ∀ k, k < B.W.heap.size → k ∉ B.pass → w.heap[k]? = B.W.heap[k]?
  os : w.os = B.W.os
  tape : w.tape = B.W.tape
  output : w.output = B.W.output
  kp : ∀ j l, B.keep j = some l → ρ j = l

/-- The first of a list that bears the number. -/
def alook {α : Type} : List (Nat × α) → Nat → Option α
  | [], _ => none
  | (s, x) :: r, t => cond (Nat.beq s t) (some x) (alook r t)

structure St where
  n : Nat
  tmps : List (Nat × D)
  own : List (Nat × Option Blk)
  lm : Nat

def St.get (st : St) (t : Nat) : Option D := alook st.tmps t
/-- A map with one entry more. -/
def addP : Option Blk → D → D → Option Blk
  | some (.map l), kd, vd => some (.map (l ++ [(kd, vd)]))
  | _, _, _ => none
def plusOn : Option Blk → Option Blk → Option Blk
  | some (.plus _ kd vd), b => addP b kd vd
  | x, _ => x
/-- What the entries say of j, on top of b. -/
def blkOn (b : Option Blk) : List (Nat × Option Blk) → Nat → Option Blk
  | [], _ => b
  | (s, x) :: r, j => cond (Nat.beq s j) (plusOn x (blkOn b r j)) (blkOn b r j)
def St.blk (st : St) (j : Nat) : Option Blk := blkOn none st.own j

/-- A constant, as a datum. -/
def D.ofConst : Value → Option D
  | .int k n => some (.int k n)
  | .bool b => some (.bool b)
  | .string s => some (.str s)
  | .slice none 0 0 => some (.rows true [])
  | .pointer none => some .nilPtr
  | .nilIface => some .nilIface
  | .nilFunc => some .nilFn
  | .map none => some .nilMap
  | _ => none
theorem D.ofConst_den {H : GH} {v : Value} {d : D} (h : D.ofConst v = some d) : DenP H d v := by
  unfold D.ofConst at h
  split at h <;> simp at h <;> subst h
  · exact .int _ _
  · exact .bool _
  · exact .str _
  · exact .rowsE _ _ _ fun _ => rfl
  · exact .nilPtr
  · exact .nilIface
  · exact .nilFn
  · exact .nilMap

def St.val (st : St) : Operand → Option D
  | .tmp t => st.get t
  | .const v => D.ofConst v
  | .global _ => none
  | .func f => some (.fn f [])

structure Rel (B : Base) (st : St) (ρ : Nat → Loc) (H : GH) (a : Act) (w : World) : Prop where
  sz : a.tmps.size = st.n
  df : a.defers = []
  tm : ∀ t d, st.get t = some d → ∃ v, a.tmps[t]? = some v ∧ Den ρ H d v
  wr : WRel B st.blk ρ H w
  lm : ∀ j l, B.keep j = some l → j < st.lm

theorem Rel.val {B : Base} {st : St} {ρ : Nat → Loc} {H : GH} {a : Act} {w : World} (h : Rel B st ρ H a w) {x : Operand} {d : D} (hx : st.val x = some d) : Den ρ H d (a.eval x) := by
  cases x with
  | tmp t =>
    obtain ⟨v, hv, hd⟩ := h.tm t d hx
    simp only [Act.eval, Array.getD_eq_getD_getElem?, hv, Option.getD_some]
    exact hd
  | const v => exact .pure (D.ofConst_den hx)
  | global g => simp [St.val] at hx
  | func f => simp [St.val] at hx; subst hx; exact .pure (.fn f [] #[] rfl (by simp))

/-- Nothing in the state names j, and it is no kept name. -/
structure St.Fresh (st : St) (j : Nat) : Prop where
  tm : ∀ t d, st.get t = some d → d.has j = false
  bl : ∀ k b, st.blk k = some b → b.has j = false
  lm : st.lm ≤ j

theorem Rel.nokeep {B : Base} {st : St} {ρ : Nat → Loc} {H : GH} {a : Act} {w : World} (h : Rel B st ρ H a w) {j : Nat} (hf : st.Fresh j) : B.keep j = none := by
  cases hk : B.keep j with
  | none => rfl
  | some l => have := h.lm j l hk; have := hf.lm; omega

theorem alook_cons {α : Type} (s : Nat) (x : α) (r : List (Nat × α)) (t : Nat) : alook ((s, x) :: r) t = if s = t then some x else alook r t := by
  simp only [alook]
  by_cases h : s = t
  · subst h; simp
  · have : Nat.beq s t = false := by rw [← Bool.not_eq_true, Nat.beq_eq]; exact h
    simp [this, h]
theorem alook_append {α : Type} (l r : List (Nat × α)) (t : Nat) : alook (l ++ r) t = (alook l t).or (alook r t) := by
  induction l with
  | nil => simp [alook]
  | cons p l ih => obtain ⟨s, x⟩ := p; simp only [List.cons_append, alook_cons]; split <;> simp [ih]
theorem alook_mem {α : Type} {l : List (Nat × α)} {t : Nat} {x : α} (h : alook l t = some x) : (t, x) ∈ l := by
  induction l with
  | nil => simp [alook] at h
  | cons p l ih =>
    obtain ⟨s, y⟩ := p
    rw [alook_cons] at h
    split at h
    · rename_i hs; simp at h; subst hs; subst h; exact .head _
    · exact .tail _ (ih h)

theorem blkOn_cons (b : Option Blk) (s : Nat) (x : Option Blk) (r : List (Nat × Option Blk)) (j : Nat) : blkOn b ((s, x) :: r) j = if s = j then plusOn x (blkOn b r j) else blkOn b r j := by
  simp only [blkOn]
  by_cases h : s = j
  · subst h; simp
  · have : Nat.beq s j = false := by rw [← Bool.not_eq_true, Nat.beq_eq]; exact h
    simp [this, h]
theorem blkOn_append (b : Option Blk) (l r : List (Nat × Option Blk)) (j : Nat) : blkOn b (l ++ r) j = blkOn (blkOn b r j) l j := by
  induction l with
  | nil => rfl
  | cons p l ih => obtain ⟨s, x⟩ := p; simp only [List.cons_append, blkOn_cons, ih]
theorem blkOn_none {b : Option Blk} {l : List (Nat × Option Blk)} {j : Nat} (h : alook l j = none) : blkOn b l j = b := by
  induction l with
  | nil => rfl
  | cons p l ih =>
    obtain ⟨s, x⟩ := p
    rw [alook_cons] at h
    split at h
    · cases h
    · rename_i hs; rw [blkOn_cons, if_neg hs]; exact ih h

def optHas (j : Nat) : Option Blk → Bool
  | some b => b.has j
  | none => false
theorem plusOn_has {x b : Option Blk} {j : Nat} (h : optHas j (plusOn x b) = true) : optHas j x = true ∨ optHas j b = true := by
  unfold plusOn at h
  split at h
  · rename_i o kd vd
    unfold addP at h
    split at h
    · simp only [optHas, Blk.has, List.any_append, List.any_cons, List.any_nil, Bool.or_false, Bool.or_eq_true] at h ⊢
      rcases h with h | h
      · exact .inr h
      · exact .inl h
    · simp [optHas] at h
  · exact .inl h
theorem blkOn_has {b : Option Blk} {l : List (Nat × Option Blk)} {k j : Nat} (h : optHas j (blkOn b l k) = true) : (∃ p ∈ l, p.1 = k ∧ optHas j p.2 = true) ∨ optHas j b = true := by
  induction l with
  | nil => exact .inr h
  | cons p l ih =>
    obtain ⟨s, x⟩ := p
    rw [blkOn_cons] at h
    split at h
    · rename_i hs
      rcases plusOn_has h with h | h
      · exact .inl ⟨_, .head _, hs, h⟩
      · rcases ih h with ⟨p, hp, h⟩ | h
        · exact .inl ⟨p, .tail _ hp, h⟩
        · exact .inr h
    · rcases ih h with ⟨p, hp, h⟩ | h
      · exact .inl ⟨p, .tail _ hp, h⟩
      · exact .inr h
/-- 'Fresh', to be reckoned: over all entries, seen or not. -/
def St.freshB (st : St) (j : Nat) : Bool := (st.tmps.all fun e => !D.has j e.2) && (st.own.all fun e => !optHas j e.2) && Nat.ble st.lm j
theorem St.fresh_of {st : St} {j : Nat} (h : st.freshB j = true) : st.Fresh j := by
  simp only [St.freshB, Bool.and_eq_true, List.all_eq_true] at h
  refine ⟨fun t d hd => by simpa using h.1.1 _ (alook_mem hd), fun k b hb => ?_, Nat.le_of_ble_eq_true h.2⟩
  cases hh : b.has j with
  | false => rfl
  | true =>
    have : optHas j (blkOn none st.own k) = true := by
      have h0 : blkOn none st.own k = some b := hb
      rw [h0]; exact hh
    rcases blkOn_has this with ⟨p, hp, _, h1⟩ | h1
    · have := h.1.2 p hp; rw [h1] at this; cases this
    · cases h1

end Go.Eng

/- The engine, part B: what one operation does to the abstract state; a region, in whatever order its edges allow. No program in sight. -/
namespace Go.Eng
open Go

/-- What an operation does: which own blocks it looks at, which names it gives to new ones, what its slot holds, what becomes of own blocks. -/
structure Eff where
  touch : List Nat
  new : List Nat
  dst : D
  wr : List (Nat × Option Blk)

def St.app (st : St) (dst : Option Tmp) (e : Eff) : St :=
  { n := st.n, tmps := match dst with | some t => (t, e.dst) :: st.tmps | none => st.tmps, own := e.wr ++ st.own, lm := st.lm }

/-- An entry that is laid into a map of the call's own, whatever else is laid into it. -/
def Eff.plus? (e : Eff) : Option (Nat × Option (List Nat) × D × D) := match e.wr with
  | [(j, some (.plus o kd vd))] => some (j, o, kd, vd)
  | _ => none
/-- One map is the other's, and else has keys that are not this one. -/
def PlusRel (o : Option (List Nat)) (kd : D) (b b2 : Option Blk) : Prop := ∀ l, b = some (.map l) → ∃ l2, b2 = some (.map l2) ∧ ∀ q ∈ l2, q ∈ l ∨ eqKD o kd q.1 = some false

structure Agree (o : Oper) (e : Eff) (st st2 : St) : Prop where
  n : st2.n = st.n
  val : ∀ x ∈ o.op.operands.toList, st2.val x = st.val x
  blk : ∀ j ∈ e.touch, st2.blk j = st.blk j
  fresh : ∀ j ∈ e.new, st2.Fresh j
  plus : ∀ j q kd vd, e.plus? = some (j, q, kd, vd) → PlusRel q kd (st.blk j) (st2.blk j)

theorem PlusRel.refl (o : Option (List Nat)) (kd : D) (b : Option Blk) : PlusRel o kd b b := fun l h => ⟨l, h, fun _ hq => .inl hq⟩
theorem PlusRel.both {o : Option (List Nat)} {kd k v : D} {b b2 : Option Blk} (h : PlusRel o kd b b2) : PlusRel o kd (addP b k v) (addP b2 k v) := by
  intro l hl
  unfold addP at hl
  split at hl
  · cases hl
    rename_i l0
    obtain ⟨l2, rfl, h2⟩ := h l0 rfl
    refine ⟨l2 ++ [(k, v)], rfl, fun q hq => ?_⟩
    rcases List.mem_append.1 hq with hq | hq
    · rcases h2 q hq with h3 | h3
      · exact .inl (List.mem_append_left _ h3)
      · exact .inr h3
    · exact .inl (List.mem_append_right _ hq)
  · cases hl
theorem PlusRel.left {o : Option (List Nat)} {kd k v : D} {b b2 : Option Blk} (h : PlusRel o kd b b2) : PlusRel o kd (addP b k v) b2 := by
  intro l hl
  unfold addP at hl
  split at hl
  · cases hl
    rename_i l0
    obtain ⟨l2, h1, h2⟩ := h l0 rfl
    refine ⟨l2, h1, fun q hq => ?_⟩
    rcases h2 q hq with h3 | h3
    · exact .inl (List.mem_append_left _ h3)
    · exact .inr h3
  · cases hl
theorem PlusRel.right {o : Option (List Nat)} {kd k v : D} {b b2 : Option Blk} (h : PlusRel o kd b b2) (hk : eqKD o kd k = some false) : PlusRel o kd b (addP b2 k v) := by
  intro l hl
  obtain ⟨l2, rfl, h2⟩ := h l hl
  refine ⟨l2 ++ [(k, v)], rfl, fun q hq => ?_⟩
  rcases List.mem_append.1 hq with hq | hq
  · exact h2 q hq
  · simp only [List.mem_singleton] at hq; subst hq; exact .inr hk
theorem PlusRel.blkOn {o : Option (List Nat)} {kd : D} {b b2 : Option Blk} (h : PlusRel o kd b b2) (l : List (Nat × Option Blk)) (j : Nat) : PlusRel o kd (blkOn b l j) (blkOn b2 l j) := by
  induction l with
  | nil => exact h
  | cons p l ih =>
    obtain ⟨s, x⟩ := p
    simp only [blkOn_cons]
    split
    · unfold plusOn
      split
      · exact ih.both
      · exact .refl _ _ _
    · exact ih

/-- Blocks that are the same, but for the order of maps' entries. -/
def OPerm (b b' : Option Blk) : Prop := b = b' ∨ ∃ l l', b = some (.map l) ∧ b' = some (.map l') ∧ l.Perm l'
theorem OPerm.refl (b : Option Blk) : OPerm b b := .inl rfl
theorem OPerm.trans {a b c : Option Blk} (h : OPerm a b) (h' : OPerm b c) : OPerm a c := by
  rcases h with rfl | ⟨l, l', rfl, rfl, hp⟩
  · exact h'
  · rcases h' with rfl | ⟨m, m', h1, rfl, hq⟩
    · exact .inr ⟨l, l', rfl, rfl, hp⟩
    · cases h1; exact .inr ⟨l, m', rfl, rfl, hp.trans hq⟩
theorem OPerm.addP {b b' : Option Blk} {k v : D} (h : OPerm b b') : OPerm (addP b k v) (addP b' k v) := by
  rcases h with rfl | ⟨l, l', rfl, rfl, hp⟩
  · exact .refl _
  · exact .inr ⟨_, _, rfl, rfl, hp.append_right _⟩
theorem OPerm.swap (b : Option Blk) (k v k' v' : D) : OPerm (Eng.addP (Eng.addP b k v) k' v') (Eng.addP (Eng.addP b k' v') k v) := by
  match b with
  | some (.map l) =>
    refine .inr ⟨_, _, rfl, rfl, ?_⟩
    simp only [List.append_assoc, List.cons_append, List.nil_append]
    exact List.Perm.append_left _ (List.Perm.swap _ _ _)
  | some (.cells _ _) => exact .refl _
  | some (.buf _ _) => exact .refl _
  | some (.bufc _ _ _) => exact .refl _
  | some (.plus _ _ _) => exact .refl _
  | none => exact .refl _

def OpOk (P : Program) (B : Base) (o : Oper) (st : St) (e : Eff) : Prop :=
  ∀ ρ H a w, Rel B st ρ H a w → ∀ (K : Act → World → Prop) (Q : Exit → Act → World → Prop),
    (∀ v ρ' H' w', Rel B (st.app o.dst e) ρ' H' (a.put o.dst v) w' → K (a.put o.dst v) w') → o.wp P a w K Q

/-- The operation does so in every state that agrees with this one on what it looks at. -/
def LOk (P : Program) (o : Oper) (st : St) (e : Eff) : Prop := ∀ B st2, Agree o e st st2 → OpOk P B o st2 e

def skipEff : Eff := ⟨[], [], .tup [], []⟩

inductive GOk (P : Program) (ops : Array Oper) (o : Oper) (st : St) (e : Eff) : Prop
  | plain (hg : o.guard = none) (h : LOk P o st e)
  | wanted (g : Nat) (want : Bool) (s : Nat) (hg : o.guard = some (g, want)) (hs : (ops[g]?).bind (·.dst) = some s) (hb : st.get s = some (.bool want)) (h : LOk P o st e)
  | passed (g : Nat) (want : Bool) (s : Nat) (hg : o.guard = some (g, want)) (hs : (ops[g]?).bind (·.dst) = some s)
      (hb : st.get s = some (.bool (!want)) ∨ st.get s = some (.tup [])) (hd : ∀ t, o.dst = some t → t < st.n) (he : e = skipEff)

def WpD (P : Program) (ops : Array Oper) : List Oper → List Eff → St → (List Eff → St → Prop) → Prop
  | [], acc, st, F => F acc.reverse st
  | o :: r, acc, st, F => ∃ e, GOk P ops o st e ∧ e.new.all st.freshB = true ∧ WpD P ops r (e :: acc) (st.app o.dst e) F

def Wp (P : Program) (c : Code) (Q : Exit → St → Prop) (st : St) : Prop :=
  ∀ B ρ H a w, Rel B st ρ H a w → c.wp P (fun e a' w' => ∃ st' ρ' H', Rel B st' ρ' H' a' w' ∧ Q e st') a w

theorem Rel.congr {B : Base} {st st' : St} {ρ : Nat → Loc} {H : GH} {a : Act} {w : World} (h : Rel B st ρ H a w) (hn : (st'.n, st'.lm) = (st.n, st.lm))
    (hg : ∀ t d, st'.get t = some d → st.get t = some d) (hb : ∀ j b, st'.blk j = some b → st.blk j = some b) : Rel B st' ρ H a w :=
  ⟨by rw [(Prod.mk.inj hn).1]; exact h.sz, h.df, fun t d ht => h.tm t d (hg t d ht),
   ⟨fun j b hj => h.wr.own j b (hb j b hj), fun j k b c hj hk => h.wr.sep j k b c (hb j b hj) (hb k c hk), fun j b hj => h.wr.new j b (hb j b hj),
    fun j b hj => h.wr.np j b (hb j b hj), h.wr.pers, h.wr.hext, h.wr.hnew, h.wr.size, h.wr.frame, h.wr.os, h.wr.tape, h.wr.output, h.wr.kp⟩, by rw [(Prod.mk.inj hn).2]; exact h.lm⟩
theorem Rel.congrP {B : Base} {st st' : St} {ρ : Nat → Loc} {H : GH} {a : Act} {w : World} (h : Rel B st ρ H a w) (hn : (st'.n, st'.lm) = (st.n, st.lm))
    (hg : ∀ t, st'.get t = st.get t) (hb : ∀ j, OPerm (st.blk j) (st'.blk j)) : Rel B st' ρ H a w := by
  have key : ∀ j b, st'.blk j = some b → ∃ b0, st.blk j = some b0 ∧ BlkPerm b0 b := fun j b hj => by
    rcases hb j with h1 | ⟨l, l', h1, h2, hp⟩
    · exact ⟨b, by rw [h1]; exact hj, .inl rfl⟩
    · rw [h2] at hj; cases hj; exact ⟨_, h1, .inr ⟨l, l', rfl, rfl, hp⟩⟩
  refine ⟨by rw [(Prod.mk.inj hn).1]; exact h.sz, h.df, fun t d ht => h.tm t d (by rw [← hg]; exact ht), ⟨fun j b hj => ?_, fun j k b c hj hk => ?_, fun j b hj => ?_, fun j b hj => ?_, h.wr.pers, h.wr.hext, h.wr.hnew, h.wr.size, h.wr.frame, h.wr.os, h.wr.tape, h.wr.output, h.wr.kp⟩, by rw [(Prod.mk.inj hn).2]; exact h.lm⟩
  · obtain ⟨b0, h1, h2⟩ := key j b hj; exact (h.wr.own j b0 h1).perm h2
  · obtain ⟨b0, h1, _⟩ := key j b hj; obtain ⟨c0, h2, _⟩ := key k c hk; exact h.wr.sep j k b0 c0 h1 h2
  · obtain ⟨b0, h1, _⟩ := key j b hj; exact h.wr.new j b0 h1
  · obtain ⟨b0, h1, _⟩ := key j b hj; exact h.wr.np j b0 h1

theorem Rel.drawn {B : Base} {st : St} {ρ : Nat → Loc} {H : GH} {a : Act} {w w' : World} (h : Rel B st ρ H a w) (hh : w'.heap = w.heap) (ho : w'.os = w.os) (ht : w'.tape = w.tape)
    (hp : w'.output = w.output) : Rel B st ρ H a w' := by
  refine ⟨h.sz, h.df, h.tm, ?_, h.lm⟩
  have k := h.wr
  refine ⟨fun j b hj => ?_, k.sep, k.new, k.np, by rw [hh]; exact k.pers, k.hext, k.hnew, by rw [hh]; exact k.size, by rw [hh]; exact k.frame, by rw [ho]; exact k.os, by rw [ht]; exact k.tape, by rw [hp]; exact k.output, k.kp⟩
  exact (k.own j b hj).mono (GH.le_refl _) rfl (fun _ _ => rfl) (fun _ => by rw [hh])

theorem St.app_get (st : St) (dst : Option Tmp) (e : Eff) (t : Nat) : (st.app dst e).get t = if dst = some t then some e.dst else st.get t := by
  cases dst with
  | none => simp [St.app, St.get]
  | some s => simp only [St.app, St.get, alook_cons, Option.some.injEq]
theorem St.app_blk (st : St) (dst : Option Tmp) (e : Eff) (j : Nat) : (st.app dst e).blk j = blkOn (st.blk j) e.wr j := by
  simp only [St.app, St.blk, blkOn_append]

/-- The guard's word, on a frame that the state describes. -/
theorem wanted_of {B : Base} {st : St} {ρ : Nat → Loc} {H : GH} {a : Act} {w : World} (h : Rel B st ρ H a w) {ops : Array Oper} {o : Oper} {g s : Nat} {want : Bool}
    (hg : o.guard = some (g, want)) (hs : (ops[g]?).bind (·.dst) = some s) :
    (st.get s = some (.bool want) → Region.wanted o (yielded ops a.tmps) = true) ∧
    (st.get s = some (.bool (!want)) ∨ st.get s = some (.tup []) → Region.wanted o (yielded ops a.tmps) = false) := by
  simp only [Region.wanted, hg, yielded, hs, Option.bind_some]
  constructor
  · intro hb
    obtain ⟨v, hv, hd⟩ := h.tm _ _ hb
    rw [hv, hd.bool_inv]; simp
  · rintro (hb | hb)
    · obtain ⟨v, hv, hd⟩ := h.tm _ _ hb
      rw [hv, hd.bool_inv]; cases want <;> simp
    · obtain ⟨v, hv, hd⟩ := h.tm _ _ hb
      obtain ⟨cs, rfl, _, _⟩ := hd.tup_inv
      rw [hv]; simp

theorem rel_put {B : Base} {st : St} {ρ : Nat → Loc} {H : GH} {a : Act} {w : World} (h : Rel B st ρ H a w) {dst : Option Tmp} {v : Value} {d : D} (hd : ∀ t, dst = some t → t < st.n)
    (hv : Den ρ H d v) : Rel B (st.app dst ⟨[], [], d, []⟩) ρ H (a.put dst v) w := by
  refine ⟨?_, ?_, fun t d' ht => ?_, ?_, h.lm⟩
  · cases dst <;> simp [Act.put, St.app, h.sz]
  · cases dst <;> simp [Act.put, h.df]
  · rw [St.app_get] at ht
    cases dst with
    | none => simp at ht; exact h.tm t d' ht
    | some s =>
      by_cases hst : s = t
      · subst hst; simp at ht; subst ht
        exact ⟨v, by simp [Act.put, h.sz, hd s rfl], hv⟩
      · simp [hst] at ht
        obtain ⟨v', h1, h2⟩ := h.tm t d' ht
        exact ⟨v', by simp [Act.put, Array.getElem?_setIfInBounds_ne hst, h1], h2⟩
  · have : (st.app dst ⟨[], [], d, []⟩).blk = st.blk := by funext j; rw [St.app_blk]; rfl
    rw [this]; exact h.wr

section order
variable {P : Program} {ops : Array Oper} {effs : List Eff} {st0 : St}

def stX (ops : Array Oper) (effs : List Eff) (st0 : St) (X : Nat → Bool) : Nat → St
  | 0 => st0
  | m + 1 => if X m then (match ops[m]?, effs[m]? with | some o, some e => (stX ops effs st0 X m).app o.dst e | _, _ => stX ops effs st0 X m) else stX ops effs st0 X m

def wT (ops : Array Oper) (effs : List Eff) (k t : Nat) : Prop := ∃ o e, ops[k]? = some o ∧ effs[k]? = some e ∧ o.dst = some t
def wB (ops : Array Oper) (effs : List Eff) (k j : Nat) : Prop := ∃ o e, ops[k]? = some o ∧ effs[k]? = some e ∧ (alook e.wr j).isSome = true

theorem stX_n (X : Nat → Bool) (m : Nat) : (stX ops effs st0 X m).n = st0.n := by
  induction m with
  | zero => rfl
  | succ m ih => simp only [stX]; split; (split <;> simp [St.app, ih]); exact ih

theorem stX_lm (X : Nat → Bool) (m : Nat) : (stX ops effs st0 X m).lm = st0.lm := by
  induction m with
  | zero => rfl
  | succ m ih => simp only [stX]; split; (split <;> simp [St.app, ih]); exact ih

theorem stX_get_congr {X Y : Nat → Bool} {t : Nat} : ∀ m, (∀ k, k < m → wT ops effs k t → X k = Y k) → (stX ops effs st0 X m).get t = (stX ops effs st0 Y m).get t := by
  intro m
  induction m with
  | zero => intro _; rfl
  | succ m ih =>
    intro h
    have ih' := ih fun k hk => h k (by omega)
    simp only [stX]
    cases ho : ops[m]? with
    | none => simp [ih']
    | some o =>
      cases he : effs[m]? with
      | none => simp [ih']
      | some e =>
        by_cases hd : o.dst = some t
        · rw [h m (by omega) ⟨o, e, ho, he, hd⟩]
          split
          · simp [St.app_get, hd]
          · exact ih'
        · have key : ∀ (s : St) (b : Bool), (if b = true then s.app o.dst e else s).get t = s.get t := by intro s b; split <;> simp [St.app_get, hd]
          simp only [key]; exact ih'

theorem stX_blk_congr {X Y : Nat → Bool} {j : Nat} : ∀ m, (∀ k, k < m → wB ops effs k j → X k = Y k) → (stX ops effs st0 X m).blk j = (stX ops effs st0 Y m).blk j := by
  intro m
  induction m with
  | zero => intro _; rfl
  | succ m ih =>
    intro h
    have ih' := ih fun k hk => h k (by omega)
    simp only [stX]
    cases ho : ops[m]? with
    | none => simp [ih']
    | some o =>
      cases he : effs[m]? with
      | none => simp [ih']
      | some e =>
        cases hw : alook e.wr j with
        | some b =>
          rw [h m (by omega) ⟨o, e, ho, he, by simp [hw]⟩]
          split
          · simp [St.app_blk, ih']
          · exact ih'
        | none =>
          have key : ∀ (s : St) (b : Bool), (if b = true then s.app o.dst e else s).blk j = s.blk j := by intro s b; split <;> simp [St.app_blk, blkOn_none hw]
          simp only [key]; exact ih'

theorem stX_prefix {i : Nat} : ∀ m, i ≤ m → stX ops effs st0 (fun k => decide (k < i)) m = stX ops effs st0 (fun _ => true) i := by
  have low : ∀ m, m ≤ i → stX ops effs st0 (fun k => decide (k < i)) m = stX ops effs st0 (fun _ => true) m := by
    intro m
    induction m with
    | zero => intro _; rfl
    | succ m ih => intro h; simp only [stX, ih (by omega)]; simp [show m < i by omega]
  intro m
  induction m with
  | zero => intro h; obtain rfl : i = 0 := by omega
            exact low 0 (Nat.le_refl _)
  | succ m ih =>
    intro h
    by_cases hi : i ≤ m
    · simp only [stX]; rw [if_neg (by simp; omega)]; exact ih hi
    · exact low _ (by omega) |>.trans (by rw [show m + 1 = i by omega])

theorem stX_get_from {X : Nat → Bool} {t : Nat} {d : D} : ∀ m, (stX ops effs st0 X m).get t = some d → st0.get t = some d ∨ ∃ k e, k < m ∧ X k = true ∧ effs[k]? = some e ∧ e.dst = d := by
  intro m
  induction m with
  | zero => intro h; exact .inl h
  | succ m ih =>
    intro h
    simp only [stX] at h
    split at h
    · rename_i hx
      split at h
      · rename_i o e ho he
        rw [St.app_get] at h
        split at h
        · simp at h; exact .inr ⟨m, e, by omega, hx, he, h⟩
        · rcases ih h with h | ⟨k, e, h1, h2⟩
          · exact .inl h
          · exact .inr ⟨k, e, by omega, h2⟩
      · rcases ih h with h | ⟨k, e, h1, h2⟩
        · exact .inl h
        · exact .inr ⟨k, e, by omega, h2⟩
    · rcases ih h with h | ⟨k, e, h1, h2⟩
      · exact .inl h
      · exact .inr ⟨k, e, by omega, h2⟩

theorem stX_blk_from {X : Nat → Bool} {k j : Nat} : ∀ m, optHas j ((stX ops effs st0 X m).blk k) = true → optHas j (st0.blk k) = true ∨ ∃ q e, q < m ∧ X q = true ∧ effs[q]? = some e ∧ (e.wr.any fun p => optHas j p.2) = true := by
  intro m
  induction m with
  | zero => intro h; exact .inl h
  | succ m ih =>
    intro h
    have lift : (optHas j (st0.blk k) = true ∨ ∃ q e, q < m ∧ X q = true ∧ effs[q]? = some e ∧ (e.wr.any fun p => optHas j p.2) = true) →
        optHas j (st0.blk k) = true ∨ ∃ q e, q < m + 1 ∧ X q = true ∧ effs[q]? = some e ∧ (e.wr.any fun p => optHas j p.2) = true := by
      rintro (h | ⟨q, e, h1, h2⟩)
      · exact .inl h
      · exact .inr ⟨q, e, by omega, h2⟩
    simp only [stX] at h
    split at h
    · rename_i hx
      split at h
      · rename_i o e ho he
        rw [St.app_blk] at h
        rcases blkOn_has h with ⟨p, hp, _, h1⟩ | h1
        · exact .inr ⟨m, e, by omega, hx, he, List.any_eq_true.2 ⟨p, hp, h1⟩⟩
        · exact lift (ih h1)
      · exact lift (ih h)
    · exact lift (ih h)

def Eff.mention (e : Eff) (j : Nat) : Bool := D.has j e.dst || e.touch.contains j || e.wr.any fun p => Nat.beq p.1 j || optHas j p.2
def Eff.writes (e : Eff) (j : Nat) : Bool := (alook e.wr j).isSome
/-- Two entries of one map, with keys that are not one. -/
def Eff.commute (x y : Eff) : Bool := match x.plus?, y.plus? with
  | some (j, o, kd, _), some (j', o', kd', _) => Nat.beq j j' && eqKD o kd kd' == some false && eqKD o' kd' kd == some false
  | _, _ => false
def Eff.clash (x y : Eff) : Bool := x.wr.any (fun p => y.touch.contains p.1 || (y.writes p.1 && !x.commute y)) || y.wr.any (fun p => x.touch.contains p.1) || x.new.any y.mention
def pairOk (bs : Array Nat) (ops : Array Oper) (effs : List Eff) (i k : Nat) : Bool :=
  match ops[i]?, ops[k]?, effs[i]?, effs[k]? with
  | some oi, some ok, some ei, some ek => ((oi.apart ops ok && !ei.clash ek) || (bs.getD k 0).testBit i) && !ek.new.any ei.mention
  | _, _, _, _ => true
/-- Whatever the order: two operations that the edges leave open do not look at one another's work. -/
def okDraw (ops : Array Oper) (effs : List Eff) : Bool :=
  let bs := Region.before ops
  (List.range ops.size).all fun k => (List.range k).all fun i => pairOk bs ops effs i k

def edgesIn (ops : Array Oper) (X : Nat → Bool) (k : Nat) : Prop := ∀ o, ops[k]? = some o → ∀ e ∈ o.after, Region.binds .any e = true → X e.on = true
def Closed (ops : Array Oper) (X : Nat → Bool) : Prop := ∀ k, X k = true → edgesIn ops X k

theorem after_fold_bit (acc : Array Nat) (X : Nat → Bool) (i : Nat) : ∀ (l : List Edge) (s : Nat),
    (l.foldl (fun s e => if Region.binds .any e then s ||| 2 ^ e.on ||| acc.getD e.on 0 else s) s).testBit i = true →
      s.testBit i = true ∨ ∃ e ∈ l, Region.binds .any e = true ∧ (e.on = i ∨ (acc.getD e.on 0).testBit i = true)
  | [], s, h => .inl h
  | e :: l, s, h => by
    simp only [List.foldl_cons] at h
    rcases after_fold_bit acc X i l _ h with h1 | ⟨e', he', h2⟩
    · split at h1
      · rename_i hb
        simp only [Nat.testBit_or, Bool.or_eq_true, Nat.testBit_two_pow] at h1
        rcases h1 with (h1 | h1) | h1
        · exact .inl h1
        · exact .inr ⟨e, .head _, hb, .inl (by simpa using h1)⟩
        · exact .inr ⟨e, .head _, hb, .inr h1⟩
      · exact .inl h1
    · exact .inr ⟨e', .tail _ he', h2⟩

theorem before_spec (ops : Array Oper) : ∀ k i, ((Region.before ops).getD k 0).testBit i = true → ∀ X, Closed ops X → edgesIn ops X k → X i = true := by
  have key : ∀ (l : List Oper) (acc : Array Nat), (∀ k i, (acc.getD k 0).testBit i = true → ∀ X, Closed ops X → edgesIn ops X k → X i = true) →
      (∀ j, l[j]? = ops[acc.size + j]?) → ∀ k i, ((l.foldl (fun acc o => acc.push (o.after.foldl (fun s e => if Region.binds .any e then s ||| 2 ^ e.on ||| acc.getD e.on 0 else s) 0)) acc).getD k 0).testBit i = true →
        ∀ X, Closed ops X → edgesIn ops X k → X i = true := by
    intro l
    induction l with
    | nil => intro acc h _; exact h
    | cons o l ih =>
      intro acc h hl
      simp only [List.foldl_cons]
      refine ih _ ?_ (fun j => by have := hl (j + 1); simp only [List.getElem?_cons_succ] at this; rw [this, Array.size_push]; congr 1; omega)
      intro k i hb X hC hE
      by_cases hk : k = acc.size
      · subst hk
        have ho : ops[acc.size]? = some o := by simpa using (hl 0).symm
        rw [Array.getD_eq_getD_getElem?] at hb
        simp only [Array.getElem?_push_size, Option.getD_some] at hb
        rw [← Array.foldl_toList] at hb
        rcases after_fold_bit acc X i _ _ hb with h0 | ⟨e, he, hbind, h1⟩
        · simp at h0
        · have hon := hE o ho e (Array.mem_toList_iff.1 he) hbind
          rcases h1 with rfl | h1
          · exact hon
          · exact h _ _ h1 X hC (hC _ hon)
      · rw [Array.getD_eq_getD_getElem?, Array.getElem?_push, if_neg (by omega), ← Array.getD_eq_getD_getElem?] at hb
        exact h k i hb X hC hE
  intro k i hb
  have h0 := key ops.toList #[] (fun k i hb => by simp at hb) (by simp) k i
  apply h0
  rw [Region.before, ← Array.foldl_toList] at hb
  exact hb

theorem apart_symm {x y : Oper} (h : x.apart ops y = true) : y.apart ops x = true := by
  obtain ⟨h1, h2, h3⟩ := Oper.apart_spec h
  unfold Oper.apart
  cases hx : x.dst with
  | none => cases hy : y.dst with
    | none => simp
    | some e => simp; exact h3 e hy
  | some d => cases hy : y.dst with
    | none => simp; exact h1 d hx
    | some e => simp; exact ⟨⟨h3 e hy, fun h => h2 d hx (by rw [hy, h])⟩, h1 d hx⟩

theorem looksAt_val {o : Oper} {x : Operand} {t : Nat} (hx : x ∈ o.op.operands.toList) (ht : x = .tmp t) : t ∈ o.looksAt ops := by
  subst ht
  simp only [Oper.looksAt, List.mem_append, List.mem_filterMap]
  exact .inl ⟨_, hx, rfl⟩

theorem looksAt_guard {o : Oper} {g s : Nat} {want : Bool} (hg : o.guard = some (g, want)) (hs : (ops[g]?).bind (·.dst) = some s) : s ∈ o.looksAt ops := by
  simp only [Oper.looksAt, List.mem_append, hg]
  exact .inr (by simp [hs])

/-- The region's text-order proof, made a list. -/
theorem wpD_spec {F : List Eff → St → Prop} : ∀ (l : List Oper) (acc : List Eff) (st : St), WpD P ops l acc st F →
    ∃ es : List Eff, es.length = l.length ∧ F (acc.reverse ++ es) (stX l.toArray es st (fun _ => true) l.length) ∧
      ∀ (i : Nat) (o : Oper) (e : Eff), l[i]? = some o → es[i]? = some e → GOk P ops o (stX l.toArray es st (fun _ => true) i) e ∧ e.new.all (stX l.toArray es st (fun _ => true) i).freshB = true := by
  intro l
  induction l with
  | nil => intro acc st h; exact ⟨[], rfl, by simpa [WpD, stX] using h, by simp⟩
  | cons o l ih =>
    intro acc st h
    obtain ⟨e, hg, hf, hr⟩ := h
    obtain ⟨es, h1, h2, h3⟩ := ih _ _ hr
    have shift : ∀ m, stX (o :: l).toArray (e :: es) st (fun _ => true) (m + 1) = stX l.toArray es (st.app o.dst e) (fun _ => true) m := by
      intro m
      induction m with
      | zero => simp [stX]
      | succ m ihm => rw [stX, ihm]; simp [stX]
    refine ⟨e :: es, by simp [h1], ?_, fun i o' e' hi he => ?_⟩
    · rw [List.length_cons, shift]; simpa using h2
    · cases i with
      | zero => simp at hi he; subst hi; subst he; exact ⟨hg, hf⟩
      | succ i => simp at hi he; rw [shift]; exact h3 i o' e' hi he

theorem GOk.run {o : Oper} {st st2 : St} {e : Eff} (h : GOk P ops o st e) (hag : Agree o e st st2) (hgd : ∀ s, s ∈ o.looksAt ops → st2.get s = st.get s)
    {B : Base} {ρ : Nat → Loc} {H : GH} {a : Act} {w : World} (hR : Rel B st2 ρ H a w) {K : Act → World → Prop} {Q : Exit → Act → World → Prop}
    (hK : ∀ v ρ' H' w', Rel B (st2.app o.dst e) ρ' H' (a.put o.dst v) w' → K (a.put o.dst v) w') :
    if Region.wanted o (yielded ops a.tmps) then o.wp P a w K Q ∨ (o.asks P a w ∧ LetsOut Q) else K (a.put o.dst undef) w := by
  cases h with
  | plain hg h =>
    rw [if_pos (by simp [Region.wanted, hg])]
    exact .inl (h B st2 hag ρ H a w hR K Q hK)
  | wanted g want s hg hs hb h =>
    have hw := (wanted_of hR hg hs).1 (by rw [hgd s (looksAt_guard hg hs)]; exact hb)
    rw [if_pos hw]
    exact .inl (h B st2 hag ρ H a w hR K Q hK)
  | passed g want s hg hs hb hd he =>
    have hw := (wanted_of hR hg hs).2 (by rw [hgd s (looksAt_guard hg hs)]; exact hb)
    rw [if_neg (by simp [hw])]
    subst he
    exact hK undef ρ H w (rel_put hR (fun t ht => by rw [hag.n]; exact hd t ht) (.pure (.tup [] #[] rfl (by simp))))

theorem agree_refl {o : Oper} {st : St} {e : Eff} (hf : e.new.all st.freshB = true) : Agree o e st st :=
  ⟨rfl, fun _ _ => rfl, fun _ _ => rfl, fun j hj => St.fresh_of (by simpa using (List.all_eq_true.1 hf) j hj), fun _ _ _ _ _ => .refl _ _ _⟩

/-- A region in the order of its text. -/
theorem wpD_list {B : Base} {F : List Eff → St → Prop} {Q : Exit → Act → World → Prop} : ∀ (l : List Oper) (acc : List Eff) (st : St), WpD P ops l acc st F →
    (∀ es st' ρ H a w, F es st' → Rel B st' ρ H a w → Q .normal a w) → ∀ ρ H a w, Rel B st ρ H a w → wpList P ops Q l a w := by
  intro l
  induction l with
  | nil => intro acc st h hQ ρ H a w hR; exact hQ _ _ _ _ _ _ h hR
  | cons o l ih =>
    intro acc st h hQ ρ H a w hR
    obtain ⟨e, hg, hf, hr⟩ := h
    exact hg.run (agree_refl hf) (fun _ _ => rfl) hR (fun v ρ' H' w' hR' => ih _ _ hr hQ _ _ _ _ hR')

theorem Wp.region {id : Nat} {l : List Oper} {Q : Exit → St → Prop} {st : St} (h : WpD P l.toArray l [] st fun _ st' => Q .normal st') : Wp P (.region id l.toArray false) Q st :=
  fun _ _ _ _ _ hR => wp_region_lit (wpD_list l [] st h (fun _ st' ρ H _ _ hF hR' => ⟨st', ρ, H, hR', hF⟩) _ _ _ _ hR)

theorem freshB_sub {X : Nat → Bool} {j : Nat} : ∀ m, (stX ops effs st0 X m).freshB j = true → st0.freshB j = true := by
  intro m
  induction m with
  | zero => exact id
  | succ m ih =>
    intro h
    simp only [stX] at h
    split at h
    · split at h
      · refine ih ?_
        rename_i o e _ _
        simp only [St.freshB, St.app, Bool.and_eq_true, List.all_append] at h ⊢
        refine ⟨⟨?_, h.1.2.2⟩, h.2⟩
        cases hd : o.dst with
        | none => simpa [hd] using h.1.1
        | some t => have := h.1.1; simp [hd] at this; simpa using this.2
      · exact ih h
    · exact ih h

section any
variable {B : Base} {n : Nat} (hn : n = ops.size) (hlen : effs.length = n) (hok : okDraw ops effs = true)
  (hall : ∀ (i : Nat) (o : Oper) (e : Eff), ops[i]? = some o → effs[i]? = some e → GOk P ops o (stX ops effs st0 (fun _ => true) i) e ∧ e.new.all (stX ops effs st0 (fun _ => true) i).freshB = true)
include hok in
theorem pair_of {i k : Nat} {oi ok : Oper} {ei ek : Eff} (hik : i < k) (hi : ops[i]? = some oi) (hk : ops[k]? = some ok) (hei : effs[i]? = some ei) (hek : effs[k]? = some ek) :
    ((oi.apart ops ok = true ∧ ei.clash ek = false) ∨ ((Region.before ops).getD k 0).testBit i = true) ∧ ek.new.any ei.mention = false := by
  have hks : k < ops.size := by rcases Nat.lt_or_ge k ops.size with h | h; exact h; simp [Array.getElem?_eq_none h] at hk
  have h := List.all_eq_true.1 hok k (List.mem_range.2 hks)
  have h := List.all_eq_true.1 h i (List.mem_range.2 hik)
  simp only [pairOk, hi, hk, hei, hek, Bool.and_eq_true, Bool.or_eq_true, Bool.not_eq_true'] at h
  exact h

include hok in
/-- An operation that is ready: whoever may not be exchanged with it is listed just if it stands ahead of it. -/
theorem side {X : Nat → Bool} (hC : Closed ops X) {i k : Nat} (hE : edgesIn ops X i) (hXi : X i = false) {oi ok : Oper} {ei ek : Eff} (hi : ops[i]? = some oi) (hk : ops[k]? = some ok)
    (hei : effs[i]? = some ei) (hek : effs[k]? = some ek) (hne : k ≠ i)
    (hc : (k < i → oi.apart ops ok = false ∨ ok.apart ops oi = false ∨ ek.clash ei = true) ∧ (i < k → oi.apart ops ok = false ∨ ok.apart ops oi = false ∨ ei.clash ek = true)) : X k = decide (k < i) := by
  rcases Nat.lt_or_gt_of_ne hne with h | h
  · have hp := (pair_of hok h hk hi hek hei).1
    rw [decide_eq_true h]
    rcases hp with ⟨h1, h2⟩ | hb
    · rcases hc.1 h with h3 | h3 | h3
      · have := apart_symm h1; rw [h3] at this; cases this
      · rw [h3] at h1; cases h1
      · rw [h3] at h2; cases h2
    · exact before_spec ops i k hb X hC hE
  · have hp := (pair_of hok h hi hk hei hek).1
    rw [decide_eq_false (by omega)]
    rcases hp with ⟨h1, h2⟩ | hb
    · rcases hc.2 h with h3 | h3 | h3
      · rw [h3] at h1; cases h1
      · have := apart_symm h1; rw [h3] at this; cases this
      · rw [h3] at h2; cases h2
    · by_cases hx : X k = true
      · have := before_spec ops k i hb X hC (hC k hx); rw [hXi] at this; cases this
      · simpa using hx

theorem apart_looks {x y : Oper} {t : Nat} (hx : x.dst = some t) (hy : t ∈ y.looksAt ops) : x.apart ops y = false := by
  by_cases h : x.apart ops y = true
  · exact absurd hy ((Oper.apart_spec h).1 t hx)
  · simpa using h
theorem apart_dst {x y : Oper} {t : Nat} (hx : x.dst = some t) (hy : y.dst = some t) : x.apart ops y = false := by
  by_cases h : x.apart ops y = true
  · exact absurd hy ((Oper.apart_spec h).2.1 t hx)
  · simpa using h

theorem alook_isSome_mem {α : Type} {l : List (Nat × α)} {j : Nat} (h : (alook l j).isSome = true) : ∃ x, (j, x) ∈ l := by
  cases hx : alook l j with
  | none => simp [hx] at h
  | some x => exact ⟨x, alook_mem hx⟩

theorem clash_touch {x y : Eff} {j : Nat} (hx : (alook x.wr j).isSome = true) (hy : j ∈ y.touch) : x.clash y = true := by
  obtain ⟨b, hb⟩ := alook_isSome_mem hx
  simp only [Eff.clash, Bool.or_eq_true, List.any_eq_true]
  exact .inl (.inl ⟨_, hb, .inl (by simpa using hy)⟩)
theorem clash_touch' {x y : Eff} {j : Nat} (hx : (alook x.wr j).isSome = true) (hy : j ∈ y.touch) : y.clash x = true := by
  obtain ⟨b, hb⟩ := alook_isSome_mem hx
  simp only [Eff.clash, Bool.or_eq_true, List.any_eq_true]
  exact .inl (.inr ⟨_, hb, by simpa using hy⟩)
theorem clash_writes {x y : Eff} {j : Nat} (hx : (alook x.wr j).isSome = true) (hy : (alook y.wr j).isSome = true) : x.clash y = true ∨ x.commute y = true := by
  obtain ⟨b, hb⟩ := alook_isSome_mem hx
  cases hc : x.commute y with
  | true => exact .inr rfl
  | false =>
    refine .inl ?_
    simp only [Eff.clash, Bool.or_eq_true, List.any_eq_true]
    exact .inl (.inl ⟨_, hb, .inr (by simp [Eff.writes, hy, hc])⟩)
theorem plus_wr {e : Eff} {j : Nat} {o : Option (List Nat)} {kd vd : D} (h : e.plus? = some (j, o, kd, vd)) : e.wr = [(j, some (.plus o kd vd))] := by
  unfold Eff.plus? at h
  split at h
  · rename_i hw; cases h; exact hw
  · cases h
theorem commute_spec {x y : Eff} {j : Nat} (h : x.commute y = true) (hx : (alook x.wr j).isSome = true) : ∃ o kd vd o' kd' vd', x.plus? = some (j, o, kd, vd) ∧ y.plus? = some (j, o', kd', vd') ∧ eqKD o kd kd' = some false ∧ eqKD o' kd' kd = some false := by
  unfold Eff.commute at h
  split at h
  · rename_i j1 o kd vd j2 o' kd' vd' h1 h2
    simp only [Bool.and_eq_true, Nat.beq_eq, beq_iff_eq] at h
    obtain ⟨⟨rfl, h3⟩, h4⟩ := h
    have hw := plus_wr h1
    rw [hw, alook_cons] at hx
    split at hx
    · rename_i hj; subst hj; exact ⟨_, _, _, _, _, _, h1, h2, h3, h4⟩
    · simp [alook] at hx
  · cases h
theorem clash_new {x y : Eff} {j : Nat} (hx : j ∈ x.new) (hy : y.mention j = true) : x.clash y = true := by
  simp only [Eff.clash, Bool.or_eq_true, List.any_eq_true]
  exact .inr ⟨j, hx, hy⟩

section one
variable {X : Nat → Bool} (hC : Closed ops X) {i : Nat} (hE : edgesIn ops X i) (hXi : X i = false) {o : Oper} {e : Eff} (hi : ops[i]? = some o) (he : effs[i]? = some e) (hin : i < ops.size)
include hok hC hE hXi hi he hin

theorem get_at {t : Nat} (ht : t ∈ o.looksAt ops) : (stX ops effs st0 X ops.size).get t = (stX ops effs st0 (fun _ => true) i).get t := by
  rw [← stX_prefix ops.size (Nat.le_of_lt hin)]
  refine stX_get_congr _ fun k hk ⟨ok, ek, hok', hek, hd⟩ => ?_
  by_cases hne : k = i
  · subst hne; rw [hXi]; simp
  · exact side hok hC hE hXi hi hok' he hek hne ⟨fun _ => .inr (.inl (apart_looks hd ht)), fun _ => .inr (.inl (apart_looks hd ht))⟩

theorem blk_at {j : Nat} (hj : j ∈ e.touch) : (stX ops effs st0 X ops.size).blk j = (stX ops effs st0 (fun _ => true) i).blk j := by
  rw [← stX_prefix ops.size (Nat.le_of_lt hin)]
  refine stX_blk_congr _ fun k hk ⟨ok, ek, hok', hek, hd⟩ => ?_
  by_cases hne : k = i
  · subst hne; rw [hXi]; simp
  · exact side hok hC hE hXi hi hok' he hek hne ⟨fun _ => .inr (.inr (clash_touch hd hj)), fun _ => .inr (.inr (clash_touch' hd hj))⟩

theorem fresh_at (hf : e.new.all (stX ops effs st0 (fun _ => true) i).freshB = true) {j : Nat} (hj : j ∈ e.new) : (stX ops effs st0 X ops.size).Fresh j := by
  have h0 : st0.Fresh j := St.fresh_of (freshB_sub i ((List.all_eq_true.1 hf) j hj))
  have no : ∀ k ek, k < ops.size → X k = true → effs[k]? = some ek → ek.mention j = false := by
    intro k ek hk hx hek
    obtain ⟨ok, hok'⟩ : ∃ ok, ops[k]? = some ok := ⟨_, Array.getElem?_eq_getElem hk⟩
    rcases Nat.lt_trichotomy k i with h | h | h
    · have := (pair_of hok h hok' hi hek he).2
      rw [List.any_eq_false] at this
      simpa using this j hj
    · subst h; rw [hXi] at hx; cases hx
    · by_cases hm : ek.mention j = true
      · rcases (pair_of hok h hi hok' he hek).1 with ⟨_, h2⟩ | hb
        · rw [clash_new hj hm] at h2; cases h2
        · have := before_spec ops k i hb X hC (hC k hx); rw [hXi] at this; cases this
      · simpa using hm
  refine ⟨fun t d hd => ?_, fun k b hb => ?_, by rw [stX_lm]; exact h0.lm⟩
  · rcases stX_get_from _ hd with h | ⟨k, ek, hk, hx, hek, rfl⟩
    · exact h0.tm t d h
    · have := no k ek hk hx hek
      simp only [Eff.mention, Bool.or_eq_false_iff] at this
      exact this.1.1
  · cases hbj : b.has j with
    | false => rfl
    | true =>
      have hh : optHas j ((stX ops effs st0 X ops.size).blk k) = true := by rw [hb]; exact hbj
      rcases stX_blk_from _ hh with h | ⟨q, ek, hk, hx, hek, hw⟩
      · cases hs : st0.blk k with
        | none => rw [hs] at h; cases h
        | some b0 => rw [hs] at h; have := h0.bl k b0 hs; simp only [optHas] at h; rw [this] at h; cases h
      · have hm := no q ek hk hx hek
        simp only [Eff.mention, Bool.or_eq_false_iff, List.any_eq_false] at hm
        obtain ⟨p, hp, h1⟩ := List.any_eq_true.1 hw
        have := hm.2 p hp
        simp [h1] at this

omit hin in
/-- Who writes j beside an operation that is ready: on its own side, or an entry that may be exchanged with it. -/
theorem writer {j k : Nat} {ok : Oper} {ek : Eff} (hok' : ops[k]? = some ok) (hek : effs[k]? = some ek) (hne : k ≠ i) (hwk : (alook ek.wr j).isSome = true) (hwi : (alook e.wr j).isSome = true) :
    X k = decide (k < i) ∨ ∃ q kd vd q' kd' vd', e.plus? = some (j, q, kd, vd) ∧ ek.plus? = some (j, q', kd', vd') ∧ eqKD q kd kd' = some false := by
  by_cases h1 : ek.commute e = true
  · obtain ⟨o1, k1, v1, o2, k2, v2, h2, h3, h4, h5⟩ := commute_spec h1 hwk
    exact .inr ⟨_, _, _, _, _, _, h3, h2, h5⟩
  · by_cases h1' : e.commute ek = true
    · obtain ⟨o1, k1, v1, o2, k2, v2, h2, h3, h4, h5⟩ := commute_spec h1' hwi
      exact .inr ⟨_, _, _, _, _, _, h2, h3, h4⟩
    · refine .inl (side hok hC hE hXi hi hok' he hek hne ⟨fun _ => .inr (.inr ?_), fun _ => .inr (.inr ?_)⟩)
      · rcases clash_writes hwk hwi with h | h
        · exact h
        · exact absurd h h1
      · rcases clash_writes hwi hwk with h | h
        · exact h
        · exact absurd h h1'

theorem plus_at {j : Nat} {q : Option (List Nat)} {kd vd : D} (hp : e.plus? = some (j, q, kd, vd)) : PlusRel q kd ((stX ops effs st0 (fun _ => true) i).blk j) ((stX ops effs st0 X ops.size).blk j) := by
  rw [← stX_prefix ops.size (Nat.le_of_lt hin)]
  have hwi : (alook e.wr j).isSome = true := by rw [plus_wr hp, alook_cons, if_pos rfl]; rfl
  suffices key : ∀ m, PlusRel q kd ((stX ops effs st0 (fun k => decide (k < i)) m).blk j) ((stX ops effs st0 X m).blk j) from key _
  intro m
  induction m with
  | zero => exact .refl _ _ _
  | succ m ih =>
    simp only [stX]
    cases ho : ops[m]? with
    | none => simpa using ih
    | some om =>
      cases hem : effs[m]? with
      | none => simpa using ih
      | some em =>
        cases hw : alook em.wr j with
        | none =>
          have key : ∀ (s : St) (b : Bool), (if b = true then s.app om.dst em else s).blk j = s.blk j := by intro s b; split <;> simp [St.app_blk, blkOn_none hw]
          simp only [key]; exact ih
        | some b =>
          by_cases hmi : m = i
          · subst hmi
            rw [if_neg (by simp), if_neg (by simp [hXi])]; exact ih
          · rcases writer hok hC hE hXi hi he ho hem hmi (by simp [hw]) hwi with h1 | ⟨q1, kd1, vd1, q2, kd2, vd2, h1, h2, h3⟩
            · rw [h1]
              split
              · simp only [St.app_blk]; exact ih.blkOn _ _
              · exact ih
            · rw [hp] at h1; cases h1
              have hb : ∀ s : St, (s.app om.dst em).blk j = addP (s.blk j) kd2 vd2 := fun s => by rw [St.app_blk, plus_wr h2, blkOn_cons, if_pos rfl]; rfl
              have key : ∀ (s : St) (b : Bool), (if b = true then s.app om.dst em else s).blk j = if b = true then addP (s.blk j) kd2 vd2 else s.blk j := by intro s b; cases b <;> simp [hb]
              simp only [key]
              generalize decide (m < i) = b1
              generalize X m = b2
              cases b1 <;> cases b2
              · exact ih
              · exact ih.right h3
              · exact ih.left
              · exact ih.both

theorem next_get (t : Nat) : (stX ops effs st0 (fun k => X k || k == i) ops.size).get t = ((stX ops effs st0 X ops.size).app o.dst e).get t := by
  rw [St.app_get]
  by_cases hd : o.dst = some t
  · rw [if_pos hd]
    have h1 : (stX ops effs st0 (fun k => X k || k == i) ops.size).get t = (stX ops effs st0 (fun k => decide (k < i + 1)) ops.size).get t := by
      refine stX_get_congr _ fun k hk ⟨ok, ek, hok', hek, hdk⟩ => ?_
      by_cases hne : k = i
      · subst hne; simp
      · have hs := side hok hC hE hXi hi hok' he hek hne ⟨fun _ => .inr (.inl (apart_dst hdk hd)), fun _ => .inr (.inl (apart_dst hdk hd))⟩
        show (X k || k == i) = decide (k < i + 1)
        rw [hs, beq_eq_false_iff_ne.2 hne, Bool.or_false]
        exact decide_eq_decide.2 (by omega)
    rw [h1, stX_prefix ops.size (by omega)]
    simp [stX, hi, he, St.app_get, hd]
  · rw [if_neg hd]
    refine stX_get_congr _ fun k hk ⟨ok, ek, hok', hek, hdk⟩ => ?_
    have : k ≠ i := by rintro rfl; rw [hi] at hok'; cases hok'; exact hd hdk
    simp [this]

theorem next_blk (j : Nat) : OPerm ((stX ops effs st0 (fun k => X k || k == i) ops.size).blk j) (((stX ops effs st0 X ops.size).app o.dst e).blk j) := by
  rw [St.app_blk]
  cases hw : alook e.wr j with
  | none =>
    rw [blkOn_none hw]
    refine .inl (stX_blk_congr _ fun k hk ⟨ok, ek, hok', hek, hdk⟩ => ?_)
    have : k ≠ i := by rintro rfl; rw [he] at hek; cases hek; simp [hw] at hdk
    simp [this]
  | some b =>
    have hwi : (alook e.wr j).isSome = true := by simp [hw]
    by_cases hpl : ∃ q kd vd, e.plus? = some (j, q, kd, vd)
    · obtain ⟨q, kd, vd, hp⟩ := hpl
      rw [plus_wr hp, blkOn_cons, if_pos rfl]
      show OPerm _ (addP ((stX ops effs st0 X ops.size).blk j) kd vd)
      have low : ∀ m, m ≤ i → (stX ops effs st0 (fun k => X k || k == i) m).blk j = (stX ops effs st0 X m).blk j := fun m hm => stX_blk_congr m fun k hk _ => by simp [show k ≠ i by omega]
      suffices key : ∀ m, i < m → OPerm ((stX ops effs st0 (fun k => X k || k == i) m).blk j) (addP ((stX ops effs st0 X m).blk j) kd vd) from key _ hin
      intro m
      induction m with
      | zero => intro h; omega
      | succ m ih =>
        intro hm
        by_cases hmi : m = i
        · subst hmi
          simp only [stX]
          rw [if_pos (by simp), if_neg (by simp [hXi])]
          simp only [hi, he]
          rw [St.app_blk, low m (Nat.le_refl _), plus_wr hp, blkOn_cons, if_pos rfl]
          exact .refl _
        · have ih' := ih (by omega)
          simp only [stX]
          have hx : (X m || m == i) = X m := by simp [hmi]
          simp only [hx]
          cases ho : ops[m]? with
          | none => simpa using ih'
          | some om =>
            cases hem : effs[m]? with
            | none => simpa using ih'
            | some em =>
              cases hwm : alook em.wr j with
              | none =>
                have key : ∀ (s : St) (b : Bool), (if b = true then s.app om.dst em else s).blk j = s.blk j := by intro s b; split <;> simp [St.app_blk, blkOn_none hwm]
                simp only [key]; exact ih'
              | some b =>
                rcases writer hok hC hE hXi hi he ho hem hmi (by simp [hwm]) hwi with h1 | ⟨q1, kd1, vd1, q2, kd2, vd2, h1, h2, h3⟩
                · rw [h1, decide_eq_false (by omega)]
                  simpa using ih'
                · have hb : ∀ s : St, (s.app om.dst em).blk j = addP (s.blk j) kd2 vd2 := fun s => by rw [St.app_blk, plus_wr h2, blkOn_cons, if_pos rfl]; rfl
                  split
                  · simp only [hb]; exact ih'.addP.trans (OPerm.swap _ _ _ _ _)
                  · exact ih'
    · have hside : ∀ k ok ek, k ≠ i → ops[k]? = some ok → effs[k]? = some ek → (alook ek.wr j).isSome = true → X k = decide (k < i) := fun k ok ek hne hok' hek hdk => by
        rcases writer hok hC hE hXi hi he hok' hek hne hdk hwi with h1 | ⟨q1, kd1, vd1, q2, kd2, vd2, h1, _⟩
        · exact h1
        · exact absurd ⟨_, _, _, h1⟩ hpl
      have h1 : (stX ops effs st0 (fun k => X k || k == i) ops.size).blk j = (stX ops effs st0 (fun k => decide (k < i + 1)) ops.size).blk j := by
        refine stX_blk_congr _ fun k hk ⟨ok, ek, hok', hek, hdk⟩ => ?_
        by_cases hne : k = i
        · subst hne; simp
        · show (X k || k == i) = decide (k < i + 1)
          rw [hside k ok ek hne hok' hek hdk, beq_eq_false_iff_ne.2 hne, Bool.or_false]
          exact decide_eq_decide.2 (by omega)
      have h2 : (stX ops effs st0 X ops.size).blk j = (stX ops effs st0 (fun k => decide (k < i)) ops.size).blk j := by
        refine stX_blk_congr _ fun k hk ⟨ok, ek, hok', hek, hdk⟩ => ?_
        by_cases hne : k = i
        · subst hne; simp [hXi]
        · exact hside k ok ek hne hok' hek hdk
      rw [h1, h2, stX_prefix ops.size (by omega), stX_prefix ops.size (Nat.le_of_lt hin)]
      refine .inl ?_
      simp only [stX, hi, he, if_true]
      rw [St.app_blk]
end one

def cnt (f : Nat → Bool) : Nat → Nat
  | 0 => 0
  | n + 1 => cnt f n + (f n).toNat
theorem cnt_le {f g : Nat → Bool} (h : ∀ k, f k = true → g k = true) : ∀ n, cnt f n ≤ cnt g n
  | 0 => Nat.le_refl _
  | n + 1 => by
    have := cnt_le h n
    simp only [cnt]
    cases hf : f n with
    | false => simp; omega
    | true => rw [h n hf]; omega
theorem cnt_lt {f g : Nat → Bool} (h : ∀ k, f k = true → g k = true) {i : Nat} (hi : g i = true) (hi' : f i = false) : ∀ n, i < n → cnt f n < cnt g n
  | 0, h0 => by omega
  | n + 1, hn => by
    simp only [cnt]
    by_cases hin : i = n
    · subst hin; rw [hi, hi']; have := cnt_le h i; simp; omega
    · have h1 := cnt_lt h hi hi' n (by omega)
      cases hf : f n with
      | false => simp; omega
      | true => rw [h n hf]; omega
theorem cnt_pos {f : Nat → Bool} {i : Nat} (hi : f i = true) : ∀ n, i < n → 0 < cnt f n
  | 0, h0 => by omega
  | n + 1, hn => by
    simp only [cnt]
    by_cases hin : i = n
    · subst hin; rw [hi]; simp
    · have := cnt_pos hi n (by omega); omega

def edgesBack (ops : Array Oper) : Bool := (List.range ops.size).all fun k => match ops[k]? with | some o => o.after.all fun e => !Region.binds .any e || decide (e.on < k) | none => true

include hok hall hlen hn in
theorem wpAny_of (hback : edgesBack ops = true) {Q : Exit → Act → World → Prop} (hQ : ∀ ρ H a w, Rel B (stX ops effs st0 (fun _ => true) ops.size) ρ H a w → Q .normal a w) :
    ∀ (fuel : Nat) (listed : Array Bool) (a : Act) (w : World) (ρ : Nat → Loc) (H : GH), listed.size = ops.size → Closed ops (fun k => listed.getD k false) →
      Rel B (stX ops effs st0 (fun k => listed.getD k false) ops.size) ρ H a w → cnt (fun k => !listed.getD k false) ops.size ≤ fuel → wpAny P .any ops Q fuel listed a w := by
  have fin : ∀ (listed : Array Bool) (a : Act) (w : World) (ρ : Nat → Loc) (H : GH), listed.size = ops.size → Rel B (stX ops effs st0 (fun k => listed.getD k false) ops.size) ρ H a w →
      Region.ready .any ops listed = [] → Q .normal a w := by
    intro listed a w ρ H hsz hR hr
    have allin : ∀ k, k < ops.size → listed.getD k false = true := by
      intro k
      induction k using Nat.strongRecOn with
      | _ k ih =>
        intro hk
        by_cases hx : listed.getD k false = true
        · exact hx
        · exfalso
          obtain ⟨o, ho⟩ : ∃ o, ops[k]? = some o := ⟨_, Array.getElem?_eq_getElem hk⟩
          have hm : k ∈ Region.ready .any ops listed := by
            refine mem_ready.2 ⟨?_, o, ho, fun e he hb => ?_⟩
            · have hk' : k < listed.size := by omega
              simp [Array.getD, hk'] at hx ⊢; exact hx
            · have hb' := List.all_eq_true.1 hback k (List.mem_range.2 hk)
              simp only [ho, Array.all_eq_true_iff_forall_mem, Bool.or_eq_true, Bool.not_eq_true', decide_eq_true_eq] at hb'
              have := hb' e he
              rw [hb] at this; simp at this
              exact ih e.on this (by omega)
          rw [hr] at hm; cases hm
    refine hQ ρ H a w (hR.congr (by rw [stX_n, stX_n, stX_lm, stX_lm]) (fun t d h => ?_) (fun j b h => ?_))
    · rw [← h]; exact stX_get_congr _ fun k hk _ => by simp [allin k hk]
    · rw [← h]; exact stX_blk_congr _ fun k hk _ => by simp [allin k hk]
  intro fuel
  induction fuel with
  | zero =>
    intro listed a w ρ H hsz hC hR hc
    have hr : Region.ready .any ops listed = [] := by
      rw [List.eq_nil_iff_forall_not_mem]
      intro i hi
      obtain ⟨h1, o, ho, _⟩ := mem_ready.1 hi
      have hin : i < ops.size := by rcases Nat.lt_or_ge i ops.size with h | h; exact h; simp [Array.getElem?_eq_none h] at ho
      have hin' : i < listed.size := by omega
      have := cnt_pos (f := fun k => !listed.getD k false) (i := i) (by simp [Array.getD, hin'] at h1 ⊢; exact h1) ops.size hin
      omega
    exact ⟨hr, fin listed a w ρ H hsz hR hr⟩
  | succ fuel ih =>
    intro listed a w ρ H hsz hC hR hc
    refine ⟨fin listed a w ρ H hsz hR, fun i hi => ?_⟩
    obtain ⟨h1, o, ho, hE⟩ := mem_ready.1 hi
    have hin : i < ops.size := by rcases Nat.lt_or_ge i ops.size with h | h; exact h; simp [Array.getElem?_eq_none h] at ho
    have hin' : i < listed.size := by omega
    have hXi : listed.getD i false = false := by simp [Array.getD, hin'] at h1 ⊢; exact h1
    obtain ⟨e, he⟩ : ∃ e, effs[i]? = some e := ⟨_, List.getElem?_eq_getElem (by omega)⟩
    have hE' : edgesIn ops (fun k => listed.getD k false) i := fun o' ho' => by rw [ho] at ho'; cases ho'; exact hE
    have hg := hall i o e ho he
    unfold wpOp
    simp only [ho]
    have hag : Agree o e (stX ops effs st0 (fun _ => true) i) (stX ops effs st0 (fun k => listed.getD k false) ops.size) := by
      refine ⟨by rw [stX_n, stX_n], fun x hx => ?_, fun j hj => blk_at hok hC hE' hXi ho he hin hj, fun j hj => fresh_at hok hC hE' hXi ho he hin hg.2 hj, fun j q kd vd hp => plus_at hok hC hE' hXi ho he hin hp⟩
      cases x with
      | tmp t => exact get_at hok hC hE' hXi ho he hin (looksAt_val hx rfl)
      | _ => rfl
    refine hg.1.run hag (fun s hs => get_at hok hC hE' hXi ho he hin hs) hR fun v ρ' H' w' hR' => ?_
    have hX' : (fun k => (listed.setIfInBounds i true).getD k false) = fun k => listed.getD k false || k == i := by
      funext k
      by_cases hk : k = i
      · subst hk; simp [Array.getD, hin']
      · rw [getD_set_ne false (Ne.symm hk)]; simp [hk]
    refine ih _ _ _ ρ' H' (by simp [hsz]) ?_ ?_ ?_
    · intro k hk
      rw [hX'] at hk ⊢
      simp only [Bool.or_eq_true, beq_iff_eq] at hk
      rcases hk with hk | rfl
      · exact fun o' ho' e' he' hb => by simp [hC k hk o' ho' e' he' hb]
      · exact fun o' ho' e' he' hb => by simp [hE' o' ho' e' he' hb]
    · rw [hX']
      refine hR'.congrP (by simp [stX_n, stX_lm, St.app]) (fun t => next_get hok hC hE' hXi ho he hin t) (fun j => ?_)
      rcases next_blk hok hC hE' hXi ho he hin j with h | ⟨l, l', h1, h2, hp⟩
      · exact .inl h.symm
      · exact .inr ⟨l', l, h2, h1, hp.symm⟩
    · rw [show (fun k => !(listed.setIfInBounds i true).getD k false) = fun k => !(listed.getD k false || k == i) from funext fun k => congrArg Bool.not (congrFun hX' k)]
      have := cnt_lt (f := fun k => !(listed.getD k false || k == i)) (g := fun k => !listed.getD k false) (fun k hk => by simp at hk ⊢; exact hk.1) (i := i) (by simp [hXi]) (by simp) ops.size hin
      omega
end any

/-- A region that draws its order: walked once, in the order of its text. -/
theorem Wp.draw {id : Nat} {l : List Oper} {Q : Exit → St → Prop} {st : St} (hm : P.follows .mixedOrders = true)
    (h : WpD P l.toArray l [] st fun es st' => edgesBack l.toArray = true ∧ okDraw l.toArray es = true ∧ Q .normal st') : Wp P (.region id l.toArray true) Q st := by
  intro B ρ H a w hR
  obtain ⟨es, h1, h2, h3⟩ := wpD_spec l [] st h
  simp only [List.reverse_nil, List.nil_append] at h2
  obtain ⟨hb, hok, hQ⟩ := h2
  refine wp_region_any hm ?_
  refine wpAny_of (st0 := st) (effs := es) (B := B) (n := l.length) (by simp) h1 hok (fun i o e hi he => h3 i o e (by simpa using hi) he) hb
    (fun ρ' H' a' w' hR' => ⟨_, ρ', H', by simpa using hR', hQ⟩) _ _ _ _ ρ H (by simp) (fun k hk => by
      exfalso
      by_cases hkl : k < l.length
      · simp [Array.getD, hkl] at hk
      · simp [Array.getD, hkl] at hk) ?_ ?_
  · refine (hR.drawn (w' := { w with drawn := w.drawn + 1 }) rfl rfl rfl rfl).congr (by rw [stX_n, stX_lm]) (fun t d ht => ?_) (fun j b hj => ?_)
    · rw [stX_get_congr (Y := fun _ => false) _ (fun k hk _ => by simp [Array.getD])] at ht
      rwa [show stX l.toArray es st (fun _ => false) l.toArray.size = st from by
        generalize l.toArray.size = m
        induction m with
        | zero => rfl
        | succ m ih => simp [stX, ih]] at ht
    · rw [stX_blk_congr (Y := fun _ => false) _ (fun k hk _ => by simp [Array.getD])] at hj
      rwa [show stX l.toArray es st (fun _ => false) l.toArray.size = st from by
        generalize l.toArray.size = m
        induction m with
        | zero => rfl
        | succ m ih => simp [stX, ih]] at hj
  · have : ∀ (f : Nat → Bool) (n : Nat), cnt f n ≤ n := by
      intro f n
      induction n with
      | zero => simp [cnt]
      | succ n ih => simp only [cnt]; cases f n <;> simp <;> omega
    exact this _ _
end order

end Go.Eng

/- The engine, part C: what each operation does to the abstract state. No program in sight. -/
namespace Go.Eng
open Go

/-- What the operations ask of a type: is it a struct or an array, and how many cells has it? -/
class TyF (P : Program) (t : TypeId) (agg : outParam Bool) (n : outParam Nat) : Prop where
  und : (P.underlying t).map (fun u => match u with | .struct _ | .array _ _ => true | _ => false) = some agg
  info : (P.info? t).map (·.size) = some n
/-- Its zero value, cell by cell. -/
class TyZ (P : Program) (t : TypeId) (zs : outParam (List D)) : Prop where
  zero : ((P.info? t).bind (·.zero)).map (fun v => v.cells.toList.map D.ofConst) = some (zs.map some)
  form : ((P.info? t).bind (·.zero)).map (fun v => match v with | .agg _ => true | _ => false) = (P.underlying t).map (fun u => match u with | .struct _ | .array _ _ => true | _ => false)
  size : (P.info? t).map (·.size) = some zs.length
/-- A struct's fields: where each begins, and how many cells it has. -/
class TyS (P : Program) (t : TypeId) (fs : outParam (List (Nat × Nat))) : Prop where
  und : (P.underlying t).map (fun u => match u with | .struct fields => some (fields.toList.map fun f => (f.offset, (P.info? f.type).map (·.size))) | _ => none) = some (some (fs.map fun p => (p.1, some p.2)))
/-- A slice's elements: their type, how many cells and bytes each has. -/
class TySl (P : Program) (t : TypeId) (e : outParam TypeId) (sz bytes : outParam Nat) : Prop where
  und : P.underlying t = some (.slice e)
  info : (P.info? e).map (fun i => (i.size, i.bytes)) = some (sz, bytes)

class TyM (P : Program) (t : TypeId) (k e : outParam TypeId) : Prop where
  und : P.underlying t = some (.map k e)
class TyI (P : Program) (t : TypeId) (k : outParam IntKind) : Prop where
  und : P.underlying t = some (.int k)

theorem map_some {α β : Type} {o : Option α} {f : α → β} {b : β} (h : o.map f = some b) : ∃ a, o = some a ∧ f a = b := by
  cases o with
  | none => simp at h
  | some a => simp at h; exact ⟨a, rfl, h⟩

section upd
variable {B : Base} {bl bl' : Nat → Option Blk} {ρ : Nat → Loc} {H : GH} {w w' : World}

def setLoc (ρ : Nat → Loc) (j : Nat) (l : Loc) : Nat → Loc := fun k => if k = j then l else ρ k
theorem setLoc_ne {j k : Nat} {l : Loc} (h : k ≠ j) : setLoc ρ j l k = ρ k := by simp [setLoc, h]
theorem setLoc_eq {j : Nat} {l : Loc} : setLoc ρ j l j = l := by simp [setLoc]

theorem OwnOk.lt {j : Nat} {b : Blk} (h : OwnOk ρ H w j b) (hh : (ρ j).here = true) : (ρ j).blk < w.heap.size := by
  have : ∃ o, w.heap[(ρ j).blk]? = some o := by
    cases b with
    | cells ty l => obtain ⟨_, arr, h1, _⟩ := h; exact ⟨_, h1⟩
    | buf sz l => obtain ⟨_, _, _, _, h4⟩ := h; obtain ⟨arr, ty, h1, _⟩ := h4.1 hh; exact ⟨_, h1⟩
    | bufc sz l c => obtain ⟨⟨_, _, _, _, h4⟩, _⟩ := h; obtain ⟨arr, ty, h1, _⟩ := h4.1 hh; exact ⟨_, h1⟩
    | map l => obtain ⟨_, es, c, l', h1, _⟩ := h; exact ⟨_, h1⟩
    | plus o kd vd => exact h.elim
  obtain ⟨o, ho⟩ := this
  rcases Nat.lt_or_ge (ρ j).blk w.heap.size with h | h
  · exact h
  · simp [Array.getElem?_eq_none h] at ho

theorem alloc_heap {o : Obj} {k : Nat} (hk : k < w.heap.size) : (w.alloc o).heap[k]? = w.heap[k]? := by
  show (w.heap.push o)[k]? = _
  rw [Array.getElem?_push, if_neg (by omega)]
theorem alloc_new {o : Obj} : (w.alloc o).heap[w.heap.size]? = some o := by
  show (w.heap.push o)[w.heap.size]? = _
  rw [Array.getElem?_push, if_pos rfl]
theorem alloc_size {o : Obj} : (w.alloc o).heap.size = w.heap.size + 1 := Array.size_push ..

theorem WRel.lt (h : WRel B bl ρ H w) {b : Nat} {o : Obj} (hb : H b = some o) : b < w.heap.size := by
  have := h.pers b o hb
  rcases Nat.lt_or_ge b w.heap.size with h | h
  · exact h
  · simp [Array.getElem?_eq_none h] at this

/-- A new block of the call's own, under the name j. -/
theorem WRel.alloc_own (h : WRel B bl ρ H w) {j : Nat} {b : Blk} {o : Obj} {cap sz : Nat} (hkp : B.keep j = none) (hf : ∀ k b', bl k = some b' → b'.has j = false)
    (hok : OwnOk (setLoc ρ j ⟨w.heap.size, cap, sz, true⟩) H (w.alloc o) j b) (hbl : ∀ k, bl' k = if j = k then some b else bl k) :
    WRel B bl' (setLoc ρ j ⟨w.heap.size, cap, sz, true⟩) H (w.alloc o) := by
  have old : ∀ k b', bl' k = some b' → k ≠ j → bl k = some b' := fun k b' hk hne => by rw [hbl, if_neg (Ne.symm hne)] at hk; exact hk
  have new : ∀ b', bl' j = some b' → b' = b := fun b' hk => by rw [hbl, if_pos rfl] at hk; exact (Option.some.inj hk).symm
  refine ⟨fun k b' hk => ?_, fun k q b' c hk hq hne h1 h2 => ?_, fun k b' hk h1 => ?_, fun k b' hk h1 => ?_, fun k o' hk => ?_, h.hext, h.hnew, ?_, fun k hk hp => ?_, h.os, h.tape, h.output, fun k l hk => by rw [setLoc_ne (by rintro rfl; rw [hkp] at hk; cases hk)]; exact h.kp k l hk⟩
  · by_cases hkj : k = j
    · subst hkj; rw [new b' hk]; exact hok
    · have hb := old k b' hk hkj
      exact (h.own k b' hb).mono (GH.le_refl _) (setLoc_ne hkj) (fun q hq => setLoc_ne (by rintro rfl; rw [hf k b' hb] at hq; cases hq)) (fun hh => alloc_heap ((h.own k b' hb).lt hh))
  · by_cases hkj : k = j
    · subst hkj
      have hqj : q ≠ k := Ne.symm hne
      have hb := old q c hq hqj
      rw [setLoc_ne hqj] at h2 ⊢
      rw [setLoc_eq]
      have := (h.own q c hb).lt h2
      simp; omega
    · have hb := old k b' hk hkj
      rw [setLoc_ne hkj] at h1 ⊢
      by_cases hqj : q = j
      · subst hqj
        rw [setLoc_eq]
        have := (h.own k b' hb).lt h1
        simp; omega
      · rw [setLoc_ne hqj] at h2 ⊢
        exact h.sep k q b' c hb (old q c hq hqj) hne h1 h2
  · by_cases hkj : k = j
    · subst hkj; rw [setLoc_eq]; exact .inl h.size
    · rw [setLoc_ne hkj] at h1 ⊢; exact h.new k b' (old k b' hk hkj) h1
  · by_cases hkj : k = j
    · subst hkj; rw [setLoc_eq]
      cases hH : H w.heap.size with
      | none => rfl
      | some o' => have := h.lt hH; omega
    · rw [setLoc_ne hkj] at h1 ⊢; exact h.np k b' (old k b' hk hkj) h1
  · rw [alloc_heap (h.lt hk)]; exact h.pers k o' hk
  · rw [alloc_size]; have := h.size; omega
  · rw [alloc_heap (by have := h.size; omega)]; exact h.frame k hk hp

/-- A new block that is immutable from the first. -/
theorem WRel.alloc_pers (h : WRel B bl ρ H w) (o : Obj) : WRel B bl ρ (fun b => if b = w.heap.size then some o else H b) (w.alloc o) ∧ H.le (fun b => if b = w.heap.size then some o else H b) := by
  have hle : H.le (fun b => if b = w.heap.size then some o else H b) := fun b o' hb => by have := h.lt hb; show (if b = w.heap.size then some o else H b) = _; rw [if_neg (by omega)]; exact hb
  refine ⟨⟨fun k b' hk => ?_, h.sep, h.new, fun k b' hk h1 => ?_, fun k o' hk => ?_, GH.le_trans h.hext hle, fun k o' hk => ?_, ?_, fun k hk hp => ?_, h.os, h.tape, h.output, h.kp⟩, hle⟩
  · exact (h.own k b' hk).mono hle rfl (fun _ _ => rfl) (fun hh => alloc_heap ((h.own k b' hk).lt hh))
  · have := (h.own k b' hk).lt h1
    show (if (ρ k).blk = w.heap.size then some o else H (ρ k).blk) = _
    rw [if_neg (by omega)]; exact h.np k b' hk h1
  · replace hk : (if k = w.heap.size then some o else H k) = some o' := hk
    split at hk
    · rename_i he; subst he; simp at hk; subst hk; exact alloc_new
    · rw [alloc_heap (h.lt hk)]; exact h.pers k o' hk
  · replace hk : (if k = w.heap.size then some o else H k) = some o' := hk
    split at hk
    · rename_i he; subst he; exact .inr (.inl h.size)
    · exact h.hnew k o' hk
  · rw [alloc_size]; have := h.size; omega
  · rw [alloc_heap (by have := h.size; omega)]; exact h.frame k hk hp

/-- A write to the own block j. -/
theorem WRel.write (h : WRel B bl ρ H w) {j : Nat} {b b' : Blk} (hj : bl j = some b) (hh : (ρ j).here = true) (hs : w'.heap.size = w.heap.size) (ho : ∀ k, k ≠ (ρ j).blk → w'.heap[k]? = w.heap[k]?)
    (hos : w'.os = w.os) (ht : w'.tape = w.tape) (hp : w'.output = w.output) (hok : OwnOk ρ H w' j b') (hbl : ∀ k, bl' k = if j = k then some b' else bl k) : WRel B bl' ρ H w' := by
  have old : ∀ k c, bl' k = some c → k ≠ j → bl k = some c := fun k c hk hne => by rw [hbl, if_neg (Ne.symm hne)] at hk; exact hk
  have any : ∀ k c, bl' k = some c → ∃ c', bl k = some c' := fun k c hk => by
    by_cases hkj : k = j
    · subst hkj; exact ⟨b, hj⟩
    · exact ⟨c, old k c hk hkj⟩
  refine ⟨fun k c hk => ?_, fun k q c d hk hq => ?_, fun k c hk => ?_, fun k c hk => ?_, fun k o' hk => ?_, h.hext, h.hnew, by rw [hs]; exact h.size, fun k hk hn => ?_, by rw [hos]; exact h.os, by rw [ht]; exact h.tape, by rw [hp]; exact h.output, h.kp⟩
  · by_cases hkj : k = j
    · subst hkj; rw [hbl, if_pos rfl] at hk; cases hk; exact hok
    · have hb := old k c hk hkj
      exact (h.own k c hb).mono (GH.le_refl _) rfl (fun _ _ => rfl) (fun h1 => ho _ (h.sep k j c b hb hj hkj h1 hh))
  · obtain ⟨c', hc⟩ := any k c hk; obtain ⟨d', hd⟩ := any q d hq; exact h.sep k q c' d' hc hd
  · obtain ⟨c', hc⟩ := any k c hk; exact h.new k c' hc
  · obtain ⟨c', hc⟩ := any k c hk; exact h.np k c' hc
  · rw [ho k (by rintro rfl; rw [h.np j b hj hh] at hk; cases hk)]; exact h.pers k o' hk
  · rw [ho k (by rintro rfl; rcases h.new j b hj hh with h1 | h1; omega; exact hn h1)]; exact h.frame k hk hn

theorem WRel.bl_eq (h : WRel B bl ρ H w) (hb : ∀ k c, bl' k = some c → bl k = some c) : WRel B bl' ρ H w :=
  ⟨fun k c hk => h.own k c (hb k c hk), fun k q c d hk hq => h.sep k q c d (hb k c hk) (hb q d hq), fun k c hk => h.new k c (hb k c hk), fun k c hk => h.np k c (hb k c hk), h.pers, h.hext, h.hnew, h.size, h.frame, h.os, h.tape, h.output, h.kp⟩
end upd

section ops
variable {P : Program}

/-- From what an operation gives to the state behind it. -/
theorem opOk_value {B : Base} {o : Oper} {st : St} {e : Eff} (hd : ∀ t, o.dst = some t → t < st.n) (hfr : ∀ j ∈ e.new, st.Fresh j)
    (h : ∀ ρ H a w, Rel B st ρ H a w → ∃ v w' ρ' H', ((execOp a.eval o).run P w = .ok (.value v) w' ∨ ((execOp a.eval o).run P w = .ok .skip w' ∧ v = undef)) ∧ Den ρ' H' e.dst v ∧ H.le H' ∧
      (∀ k, k ∉ e.new → ρ' k = ρ k) ∧ WRel B (st.app o.dst e).blk ρ' H' w') : OpOk P B o st e := by
  intro ρ H a w hR K Q hK
  obtain ⟨v, w', ρ', H', hrun, hv, hle, hρ, hw⟩ := h ρ H a w hR
  have key : Rel B (st.app o.dst e) ρ' H' (a.put o.dst v) w' := by
    refine ⟨?_, ?_, fun t d ht => ?_, hw, hR.lm⟩
    · cases ho : o.dst <;> simp [Act.put, St.app, hR.sz]
    · cases ho : o.dst <;> simp [Act.put, hR.df]
    · rw [St.app_get] at ht
      by_cases hdt : o.dst = some t
      · rw [if_pos hdt] at ht
        cases ht
        exact ⟨v, by rw [hdt]; simp [Act.put, hR.sz, hd t hdt], hv⟩
      · rw [if_neg hdt] at ht
        obtain ⟨u, h1, h2⟩ := hR.tm t d ht
        refine ⟨u, ?_, h2.mono hle fun j hj => hρ j fun hn => by rw [(hfr j hn).tm t d ht] at hj; cases hj⟩
        cases ho : o.dst with
        | none => simpa [Act.put] using h1
        | some s => rw [ho] at hdt; simp only [Act.put, Option.some.injEq] at hdt ⊢; rw [Array.getElem?_setIfInBounds_ne hdt]; exact h1
  unfold Oper.wp
  rcases hrun with hrun | ⟨hrun, rfl⟩
  · rw [hrun]; exact hK v ρ' H' w' key
  · rw [hrun]; exact hK undef ρ' H' w' key

/-- An operation that only reckons. -/
theorem lok_pure {t : Nat} {op : Op} {ty : TypeId} {pos : String} {af : Array Edge} {g : Option (Nat × Bool)} {st : St} {d : D} (hd : t < st.n)
    (h : ∀ B st2 ρ H a w, Agree ⟨some t, op, ty, pos, af, g⟩ ⟨[], [], d, []⟩ st st2 → Rel B st2 ρ H a w → ∃ v, (execOp a.eval ⟨some t, op, ty, pos, af, g⟩).run P w = .ok (.value v) w ∧ Den ρ H d v) :
    LOk P ⟨some t, op, ty, pos, af, g⟩ st ⟨[], [], d, []⟩ := by
  intro B st2 ag
  refine opOk_value (fun s hs => by cases hs; rw [ag.n]; exact hd) (by simp) fun ρ H a w hR => ?_
  obtain ⟨v, h1, h2⟩ := h B st2 ρ H a w ag hR
  refine ⟨v, w, ρ, H, .inl h1, h2, GH.le_refl _, fun _ _ => rfl, hR.wr.bl_eq fun k c hk => ?_⟩
  rw [St.app_blk] at hk; exact hk

section
variable {t : Nat} {ty : TypeId} {pos : String} {af : Array Edge} {g : Option (Nat × Bool)} {st : St} {d : D}

theorem lok_move {x : Operand} (hx : st.val x = some d) (hd : t < st.n) : LOk P ⟨some t, .move x, ty, pos, af, g⟩ st ⟨[], [], d, []⟩ :=
  lok_pure hd fun _ st2 _ _ a _ ag hR => ⟨a.eval x, rfl, hR.val ((ag.val x (by simp [Op.operands])).trans hx)⟩
theorem lok_assign {x : Operand} (hx : st.val x = some d) (hd : t < st.n) : LOk P ⟨some t, .assign x, ty, pos, af, g⟩ st ⟨[], [], d, []⟩ :=
  lok_pure hd fun _ st2 _ _ a _ ag hR => ⟨a.eval x, rfl, hR.val ((ag.val x (by simp [Op.operands])).trans hx)⟩

theorem lok_pick_t {c x y : Operand} (hc : st.val c = some (.bool true)) (hx : st.val x = some d) (hd : t < st.n) : LOk P ⟨some t, .pick c x y, ty, pos, af, g⟩ st ⟨[], [], d, []⟩ :=
  lok_pure hd fun _ st2 _ _ a w ag hR => ⟨a.eval x, by
    have h := (hR.val ((ag.val c (by simp [Op.operands])).trans hc)).bool_inv
    simp [execOp, h, asBool], hR.val ((ag.val x (by simp [Op.operands])).trans hx)⟩
theorem lok_pick_f {c x y : Operand} (hc : st.val c = some (.bool false)) (hy : st.val y = some d) (hd : t < st.n) : LOk P ⟨some t, .pick c x y, ty, pos, af, g⟩ st ⟨[], [], d, []⟩ :=
  lok_pure hd fun _ st2 _ _ a w ag hR => ⟨a.eval y, by
    have h := (hR.val ((ag.val c (by simp [Op.operands])).trans hc)).bool_inv
    simp [execOp, h, asBool], hR.val ((ag.val y (by simp [Op.operands])).trans hy)⟩

/-- A comparison of two integers. -/
def cmpInt : BinOp → Int → Int → Option Bool
  | .eql, x, y => some (x == y)
  | .neq, x, y => some (x != y)
  | .lss, x, y => some (decide (x < y))
  | .leq, x, y => some (decide (x ≤ y))
  | .gtr, x, y => some (decide (y < x))
  | .geq, x, y => some (decide (y ≤ x))
  | _, _, _ => none
theorem lok_cmp {op : BinOp} {x y : Operand} {xt yt : TypeId} {k : IntKind} {m n : Int} {b : Bool} (hx : st.val x = some (.int k m)) (hy : st.val y = some (.int k n)) (hb : cmpInt op m n = some b) (hd : t < st.n) :
    LOk P ⟨some t, .binOp op xt x y yt, ty, pos, af, g⟩ st ⟨[], [], .bool b, []⟩ :=
  lok_pure hd fun _ st2 _ _ a w ag hR => ⟨.bool b, by
    have h1 := (hR.val ((ag.val x (by simp [Op.operands])).trans hx)).int_inv
    have h2 := (hR.val ((ag.val y (by simp [Op.operands])).trans hy)).int_inv
    cases op <;> simp [cmpInt] at hb <;> subst hb <;> simp [execOp, h1, h2, eqGuard, binOp, Op.intCmp], .pure (.bool b)⟩

def arInt : BinOp → Int → Int → Option Int
  | .add, x, y => some (x + y)
  | .sub, x, y => some (x - y)
  | .mul, x, y => some (x * y)
  | _, _, _ => none
theorem lok_ar {op : BinOp} {x y : Operand} {xt yt : TypeId} {k : IntKind} {m n r s : Int} (hx : st.val x = some (.int k m)) (hy : st.val y = some (.int k n)) (hb : arInt op m n = some r) (hw : k.wrap r = s) (hd : t < st.n) :
    LOk P ⟨some t, .binOp op xt x y yt, ty, pos, af, g⟩ st ⟨[], [], .int k s, []⟩ :=
  lok_pure hd fun _ st2 _ _ a w ag hR => ⟨.int k s, by
    have h1 := (hR.val ((ag.val x (by simp [Op.operands])).trans hx)).int_inv
    have h2 := (hR.val ((ag.val y (by simp [Op.operands])).trans hy)).int_inv
    cases op <;> simp [arInt] at hb <;> subst hb <;> simp [execOp, h1, h2, eqGuard, binOp, Op.intArith, hw], .pure (.int k s)⟩

theorem lok_not {x : Operand} {xt : TypeId} {b : Bool} (hx : st.val x = some (.bool b)) (hd : t < st.n) : LOk P ⟨some t, .unOp .not xt x, ty, pos, af, g⟩ st ⟨[], [], .bool (!b), []⟩ :=
  lok_pure hd fun _ st2 _ _ a w ag hR => ⟨.bool (!b), by
    have h1 := (hR.val ((ag.val x (by simp [Op.operands])).trans hx)).bool_inv
    simp [execOp, h1, Op.unary], .pure (.bool _)⟩

theorem lok_extract {x : Operand} {i : Nat} {l : List D} (hx : st.val x = some (.tup l)) (hi : l[i]? = some d) (hd : t < st.n) : LOk P ⟨some t, .extract x i, ty, pos, af, g⟩ st ⟨[], [], d, []⟩ :=
  lok_pure hd fun _ st2 _ _ a w ag hR => by
    obtain ⟨cs, h1, h2, h3⟩ := (hR.val ((ag.val x (by simp [Op.operands])).trans hx)).tup_inv
    have hlt : i < cs.size := by rw [h2]; exact (List.getElem?_eq_some_iff.1 hi).1
    exact ⟨cs[i], by simp [execOp, h1, Instr.extract, hlt], h3 i d _ hi (by simp [hlt])⟩

theorem lok_len {x : Operand} {xt e : TypeId} {sz by_ : Nat} {full : Bool} {l : List (List D)} [hT : TySl P xt e sz by_] (hx : st.val x = some (.rows full l)) (hd : t < st.n) :
    LOk P ⟨some t, .call ⟨.builtin .len, #[x], #[xt]⟩, ty, pos, af, g⟩ st ⟨[], [], .int .i64 l.length, []⟩ :=
  lok_pure hd fun _ st2 _ _ a w ag hR => by
    obtain ⟨b, cap, h1, _⟩ := (hR.val ((ag.val x (by simp [Op.operands, Call.operands])).trans hx)).rows_inv
    exact ⟨.int .i64 l.length, by simp [execOp, resolve, invoke, builtin, Builtin.len_, h1, run_underlying hT.und, goInt], .pure (.int _ _)⟩

theorem lok_fieldAddr_ptr {x : Operand} {xt : TypeId} {f j off fo fn : Nat} {fs : List (Nat × Nat)} [hT : TyS P xt fs] (hx : st.val x = some (.ptr j off)) (hf : fs[f]? = some (fo, fn + 1)) (hd : t < st.n) :
    LOk P ⟨some t, .fieldAddr xt x f, ty, pos, af, g⟩ st ⟨[], [], .ptr j (off + fo), []⟩ :=
  lok_pure hd fun _ st2 ρ H a w ag hR => by
    obtain ⟨hh, h1⟩ := (hR.val ((ag.val x (by simp [Op.operands])).trans hx)).ptr_inv
    obtain ⟨u, hu, hu2⟩ := map_some hT.und
    cases u with
    | struct fields =>
      simp only [Option.some.injEq] at hu2
      have h2 := congrArg (·[f]?) hu2
      simp only [List.getElem?_map, hf, Option.map_some] at h2
      obtain ⟨fd, hfd, h3⟩ := map_some h2
      simp only [Prod.mk.injEq] at h3
      obtain ⟨i, hi, hi2⟩ := map_some h3.2
      have hfd' : fields[f]? = some fd := by simpa using hfd
      refine ⟨.pointer (some ⟨(ρ j).blk, off + fo, none⟩), ?_, .ptr j (off + fo) hh⟩
      simp [execOp, h1, Instr.fieldAt, run_underlying hu, hfd', Instr.sureAddr, fieldPlace, sizeOf, typeInfo, hi, hi2, h3.1, Addr.add]
    | _ => simp at hu2

theorem drop_getElem? {l : List D} {k n : Nat} : (l.drop n)[k]? = l[n + k]? := by simp

theorem lok_fieldAddr_pp {x : Operand} {xt : TypeId} {f fo fn : Nat} {fs : List (Nat × Nat)} {l : List D} [hT : TyS P xt fs] (hx : st.val x = some (.pp l)) (hf : fs[f]? = some (fo, fn + 1)) (hl : fo ≤ l.length) (hd : t < st.n) :
    LOk P ⟨some t, .fieldAddr xt x f, ty, pos, af, g⟩ st ⟨[], [], .pp (l.drop fo), []⟩ :=
  lok_pure hd fun _ st2 ρ H a w ag hR => by
    obtain ⟨b, off, arr, aty, fz, h1, hb, hin, he⟩ := (hR.val ((ag.val x (by simp [Op.operands])).trans hx)).pp_inv
    obtain ⟨u, hu, hu2⟩ := map_some hT.und
    cases u with
    | struct fields =>
      simp only [Option.some.injEq] at hu2
      have h2 := congrArg (·[f]?) hu2
      simp only [List.getElem?_map, hf, Option.map_some] at h2
      obtain ⟨fd, hfd, h3⟩ := map_some h2
      simp only [Prod.mk.injEq] at h3
      obtain ⟨i, hi, hi2⟩ := map_some h3.2
      have hfd' : fields[f]? = some fd := by simpa using hfd
      refine ⟨.pointer (some ⟨b, off + fo, none⟩), ?_, .pure (.pp _ b (off + fo) arr aty fz hb (by simp; omega) fun k d v hk hv => he (fo + k) d v (by simpa using hk) (by rw [← Nat.add_assoc]; exact hv))⟩
      simp [execOp, h1, Instr.fieldAt, run_underlying hu, hfd', Instr.sureAddr, fieldPlace, sizeOf, typeInfo, hi, hi2, h3.1, Addr.add]
    | _ => simp at hu2

/-- Is anything known of it? -/
def D.known : D → Bool
  | .any => false
  | _ => true
theorem D.known_ne {d : D} (h : d.known = true) : d ≠ .any := by rintro rfl; cases h

/-- What a load gives: the cells from a place on. -/
def ldD (agg : Bool) (n : Nat) (l : List D) : Option D := if agg then (if n ≤ l.length then some (.agg (l.take n)) else none) else l[0]?

theorem load_cells {w : World} {b off n : Nat} {arr : Array Value} {aty : TypeId} {fz : Nat × Nat} (hb : w.heap[b]? = some (.cells arr aty fz)) (hin : off + n ≤ arr.size) :
    (loadCells ⟨b, off, none⟩ n).run P w = .ok (arr.extract off (off + n)) w := by
  have h := run_loadCells_list (P := P) w ⟨b, off, none⟩ (arr.extract off (off + n)).toList (fun j v hj => by
    have hj' : j < n ∧ arr[off + j]? = some v := by
      have hlt := (List.getElem?_eq_some_iff.1 hj).1
      simp at hlt
      refine ⟨by omega, ?_⟩
      simp only [Array.getElem?_toList, Array.getElem?_extract] at hj
      split at hj
      · exact hj
      · cases hj
    have hadd : (⟨b, off, none⟩ : Addr).add j = ⟨b, off + j, none⟩ := by unfold Addr.add; split <;> simp_all
    rw [hadd]; simp [World.cell?, hb, hj'.2])
  have hlen : (arr.extract off (off + n)).toList.length = n := by simp; omega
  rw [hlen, Array.toArray_toList] at h
  exact h

theorem load_run {w : World} {b off n : Nat} {arr : Array Value} {aty : TypeId} {fz : Nat × Nat} {T : TypeId} {agg : Bool} (hT : TyF P T agg n) {l : List D} {ρ : Nat → Loc} {H : GH}
    (hb : w.heap[b]? = some (.cells arr aty fz)) (hin : off + l.length ≤ arr.size) (he : ∀ (k : Nat) (d : D) (v : Value), l[k]? = some d → arr[off + k]? = some v → Den ρ H d v) (hl : ldD agg n l = some d) :
    ∃ v, (loadVar T ⟨b, off, none⟩).run P w = .ok v w ∧ Den ρ H d v := by
  obtain ⟨u, hu, hu2⟩ := map_some hT.und
  obtain ⟨i, hi, hi2⟩ := map_some hT.info
  have hagg : (isAgg T).run P w = .ok agg w := by
    simp only [isAgg, Sem.run_bind, run_underlying hu, Result.andThen_ok]
    cases u <;> simp at hu2 <;> subst hu2 <;> rfl
  cases agg with
  | true =>
    simp only [ldD, if_true] at hl
    split at hl
    · rename_i hle
      cases hl
      refine ⟨.agg (arr.extract off (off + n)), ?_, .agg _ _ (by simp; omega) fun k d v hk hv => ?_⟩
      · simp [loadVar, hagg, sizeOf, typeInfo, hi, hi2, load_cells hb (show off + n ≤ arr.size by omega)]
      · simp only [List.getElem?_take] at hk
        split at hk
        · refine he k d v hk ?_
          simp only [Array.getElem?_extract] at hv
          split at hv
          · exact hv
          · cases hv
        · cases hk
    · cases hl
  | false =>
    simp only [ldD, Bool.false_eq_true, if_false] at hl
    have hlt : 0 < l.length := (List.getElem?_eq_some_iff.1 hl).1
    have h0 : off < arr.size := by omega
    refine ⟨arr[off], ?_, he 0 d _ hl (by simp [h0])⟩
    have hc : w.cell? ⟨b, off, none⟩ = some arr[off] := by simp [World.cell?, hb, h0]
    simp [loadVar, hagg, hc]

theorem lok_load_pp {x : Operand} {T : TypeId} {agg : Bool} {n : Nat} {l : List D} [hT : TyF P T agg n] (hx : st.val x = some (.pp l)) (hl : ldD agg n l = some d) (hd : t < st.n) :
    LOk P ⟨some t, .load T x, ty, pos, af, g⟩ st ⟨[], [], d, []⟩ :=
  lok_pure hd fun _ st2 ρ H a w ag hR => by
    obtain ⟨b, off, arr, aty, fz, h1, hb, hin, he⟩ := (hR.val ((ag.val x (by simp [Op.operands])).trans hx)).pp_inv
    obtain ⟨v, hv, hden⟩ := load_run (ρ := ρ) hT (hR.wr.pers _ _ hb) hin (fun k d v h1 h2 => Den.pure (he k d v h1 h2)) hl
    exact ⟨v, by simp [execOp, Instr.loadAt, h1, Instr.sureAddr, hv], hden⟩

/-- An operation that only looks at the own block j. -/
theorem lok_look {op : Op} {j : Nat} (hd : t < st.n)
    (h : ∀ B st2 ρ H a w, Agree ⟨some t, op, ty, pos, af, g⟩ ⟨[j], [], d, []⟩ st st2 → Rel B st2 ρ H a w → ∃ v, (execOp a.eval ⟨some t, op, ty, pos, af, g⟩).run P w = .ok (.value v) w ∧ Den ρ H d v) :
    LOk P ⟨some t, op, ty, pos, af, g⟩ st ⟨[j], [], d, []⟩ := by
  intro B st2 ag
  refine opOk_value (fun s hs => by cases hs; rw [ag.n]; exact hd) (by simp) fun ρ H a w hR => ?_
  obtain ⟨v, h1, h2⟩ := h B st2 ρ H a w ag hR
  refine ⟨v, w, ρ, H, .inl h1, h2, GH.le_refl _, fun _ _ => rfl, hR.wr.bl_eq fun k c hk => ?_⟩
  rw [St.app_blk] at hk; exact hk

theorem lok_load_ptr {x : Operand} {T : TypeId} {agg : Bool} {n j off : Nat} {bt : TypeId} {l : List D} [hT : TyF P T agg n] (hx : st.val x = some (.ptr j off)) (hj : st.blk j = some (.cells bt l)) (hl : ldD agg n (l.drop off) = some d)
    (ho : off ≤ l.length) (hd : t < st.n) : LOk P ⟨some t, .load T x, ty, pos, af, g⟩ st ⟨[j], [], d, []⟩ :=
  lok_look hd fun _ st2 ρ H a w ag hR => by
    obtain ⟨hh, h1⟩ := (hR.val ((ag.val x (by simp [Op.operands])).trans hx)).ptr_inv
    obtain ⟨_, arr, hb, hsz, he⟩ := hR.wr.own j _ ((ag.blk j (by simp)).trans hj)
    obtain ⟨v, hv, hden⟩ := load_run (ρ := ρ) (H := H) hT hb (l := l.drop off) (off := off) (by simp; omega) (fun k d v h1 h2 => he (off + k) d v (by simpa using h1) h2) hl
    exact ⟨v, by simp [execOp, Instr.loadAt, h1, Instr.sureAddr, hv], hden⟩

/-- Some cells laid over others. -/
def putL : List D → Nat → List D → List D
  | [], _, _ => []
  | x :: l, 0, [] => x :: l
  | _ :: l, 0, d :: ds => d :: putL l 0 ds
  | x :: l, n + 1, ds => x :: putL l n ds
theorem putL_eq : ∀ (l : List D) (off : Nat) (ds : List D), off + ds.length ≤ l.length → putL l off ds = l.take off ++ ds ++ l.drop (off + ds.length)
  | [], off, ds, h => by
    simp at h
    obtain ⟨rfl, rfl⟩ := h
    rfl
  | x :: l, 0, [], _ => by simp [putL]
  | x :: l, 0, d :: ds, h => by
    have := putL_eq l 0 ds (by simp at h ⊢; omega)
    simp [putL, this]
  | x :: l, n + 1, ds, h => by
    have := putL_eq l n ds (by simp at h ⊢; omega)
    simp only [putL, this, List.take_succ_cons, List.cons_append, Nat.add_right_comm n 1, List.drop_succ_cons]

theorem store_run {w : World} {b off : Nat} {arr : Array Value} {aty : TypeId} {T : TypeId} {agg : Bool} {n : Nat} (hT : TyF P T agg n) {ρ : Nat → Loc} {H : GH} {v : Value} (hv : Den ρ H d v) (hdn : d.flat.length = n)
    (hcell : d.flat.all D.cell = true) (hb : w.heap[b]? = some (.cells arr aty (0, 0))) (hin : off + n ≤ arr.size) (hany : d ≠ .any) :
    (storeVar T ⟨b, off, none⟩ v).run P w = .ok () (w.setRow b (arr.toList.take off ++ v.cells.toList ++ arr.toList.drop (off + n)).toArray) := by
  obtain ⟨i, hi, hi2⟩ := map_some hT.info
  obtain ⟨h1, h2⟩ := hv.flat hany
  have hone : ∀ x ∈ v.cells.toList, x.oneCell' = true := by
    intro x hx
    obtain ⟨k, hk⟩ := List.mem_iff_getElem?.1 hx
    have hkl : k < d.flat.length := by have := (List.getElem?_eq_some_iff.1 hk).1; simp at this; omega
    have hd' := h2 k d.flat[k] x (by simp [hkl]) (by simpa using hk)
    have hc := hd'.cell ((List.all_eq_true.1 hcell) _ (List.getElem_mem hkl))
    cases x <;> simp [Value.oneCell'] <;> first | exact hc.1 _ rfl | exact hc.2 _ rfl
  have hst := run_storeCells_at P b off aty v.cells.toList 0 arr w hb (by simp [h1, hdn]; omega) hone
  have hlen : v.cells.toList.length = n := by simp [h1, hdn]
  simp only [Nat.add_zero, hlen] at hst
  simp [storeVar, sizeOf, typeInfo, hi, hi2, h1, hdn, hst]

theorem lok_store_ptr {x y : Operand} {T : TypeId} {agg : Bool} {n j off : Nat} {bt : TypeId} {l l' : List D} [hT : TyF P T agg n] (hx : st.val x = some (.ptr j off)) (hj : st.blk j = some (.cells bt l)) (hy : st.val y = some d)
    (hn : d.flat.length = n) (hc : (d.flat.all D.cell && off + n ≤ l.length && d.known) = true) (hl : putL l off d.flat = l') :
    LOk P ⟨none, .store T x y, ty, pos, af, g⟩ st ⟨[j], [], .any, [(j, some (.cells bt l'))]⟩ := by
  intro B st2 ag
  simp only [Bool.and_eq_true, decide_eq_true_eq] at hc
  have hany : d ≠ .any := D.known_ne hc.2
  refine opOk_value (fun s hs => by cases hs) (by simp) fun ρ H a w hR => ?_
  obtain ⟨hh, h1⟩ := (hR.val ((ag.val x (by simp [Op.operands])).trans hx)).ptr_inv
  have hj2 := (ag.blk j (by simp)).trans hj
  obtain ⟨_, arr, hb, hsz, he⟩ := hR.wr.own j _ hj2
  have hyv := hR.val ((ag.val y (by simp [Op.operands])).trans hy)
  have hin : off + n ≤ arr.size := by rw [hsz]; exact hc.1.2
  have hst := store_run (P := P) hT hyv hn hc.1.1 hb hin hany
  obtain ⟨hf1, hf2⟩ := hyv.flat hany
  refine ⟨undef, _, ρ, H, .inr ⟨by simp [execOp, Instr.storeAt, h1, Instr.sureAddr, hst]; rfl, rfl⟩, .pure (.any _), GH.le_refl _, fun _ _ => rfl, ?_⟩
  have hlt : (ρ j).blk < w.heap.size := (hR.wr.own j _ hj2).lt hh
  refine hR.wr.write hj2 hh (w' := w.setRow (ρ j).blk _) ?_ (fun k hk => ?_) rfl rfl rfl (b' := .cells bt l') ⟨hh, _, setRow_heap w _ arr _ bt (0, 0) hb, ?_, fun k d' v' hk hv' => ?_⟩ (fun k => ?_)
  · simp [World.setRow]
  · exact setRow_other w _ k _ hk
  · subst hl
    rw [putL_eq l off d.flat (by rw [hn]; exact hc.1.2)]
    simp [hf1, hn, hsz]
  · subst hl
    rw [putL_eq l off d.flat (by rw [hn]; exact hc.1.2)] at hk
    have hcl : v'.cells = v'.cells := rfl
    simp only [List.getElem?_toArray, List.append_assoc, List.getElem?_append, List.length_take, List.getElem?_take, List.getElem?_drop] at hk hv'
    have e1 : min off l.length = off := by omega
    have e2 : min off arr.toList.length = off := by simp; omega
    rw [e1] at hk
    rw [e2] at hv'
    split at hk
    · rename_i hko
      rw [if_pos hko] at hv'
      simp only [hko, if_true] at hk hv'
      exact he k d' v' hk (by simpa using hv')
    · rename_i hko
      rw [if_neg hko] at hv'
      split at hk
      · rename_i hk2
        rw [if_pos (by simp [hf1]; exact hk2)] at hv'
        exact hf2 _ d' v' hk (by simpa using hv')
      · rename_i hk2
        rw [if_neg (by simp [hf1]; omega)] at hv'
        have e3 : (a.eval y).cells.toList.length = d.flat.length := by simp [hf1]
        rw [e3] at hv'
        rw [hn] at hk hv'
        exact he _ d' v' hk (by simpa using hv')
  · rw [St.app_blk, blkOn_cons]
    by_cases hjk : j = k
    · rw [if_pos hjk, if_pos hjk]; rfl
    · rw [if_neg hjk, if_neg hjk]; rfl

end
end ops
end Go.Eng

/- The engine, part D: operations that make memory; composites; equality; calls. No program in sight. -/
namespace Go.Eng
open Go

section ops
variable {P : Program}

theorem St.Fresh.val {st : St} {j : Nat} (h : st.Fresh j) {x : Operand} {d : D} (hx : st.val x = some d) : d.has j = false := by
  cases x with
  | tmp t => exact h.tm t d hx
  | const v =>
    simp only [St.val, D.ofConst] at hx
    split at hx <;> simp at hx <;> subst hx <;> rfl
  | global g => simp [St.val] at hx
  | func f => simp [St.val] at hx; subst hx; rfl

theorem D.hasL_false {j : Nat} : ∀ {l : List D}, D.hasL j l = false → ∀ d ∈ l, D.has j d = false
  | _ :: _, h, _, .head _ => by simp only [D.hasL, Bool.or_eq_false_iff] at h; exact h.1
  | _ :: _, h, _, .tail _ hm => by simp only [D.hasL, Bool.or_eq_false_iff] at h; exact D.hasL_false h.2 _ hm

theorem D.flat_has {d : D} {j : Nat} (h : d.has j = false) : ∀ d' ∈ d.flat, d'.has j = false := by
  cases d <;> simp only [D.flat, List.mem_singleton, forall_eq] <;> first | exact h | exact D.hasL_false h

theorem upd_blk {st : St} {dst : Option Tmp} {tch nw : List Nat} {d : D} {j : Nat} {b : Option Blk} (k : Nat) (hb : ∀ s, plusOn b s = b := by intro s; rfl) : (st.app dst ⟨tch, nw, d, [(j, b)]⟩).blk k = if j = k then b else st.blk k := by
  rw [St.app_blk, blkOn_cons]
  by_cases hjk : j = k
  · rw [if_pos hjk, if_pos hjk]; exact hb _
  · rw [if_neg hjk, if_neg hjk]; rfl

section
variable {t : Nat} {ty : TypeId} {pos : String} {af : Array Edge} {g : Option (Nat × Bool)} {st : St} {d : D}

theorem lok_alloc (j : Nat) {T : TypeId} {zs : List D} [hZ : TyZ P T zs] (hd : t < st.n) : LOk P ⟨some t, .alloc T, ty, pos, af, g⟩ st ⟨[], [j], .ptr j 0, [(j, some (.cells T zs))]⟩ := by
  intro B st2 ag
  have hfr := ag.fresh j (by simp)
  refine opOk_value (fun s hs => by cases hs; rw [ag.n]; exact hd) ag.fresh fun ρ H a w hR => ?_
  obtain ⟨i, hi, hi2⟩ := map_some hZ.size
  obtain ⟨v, hv, hv2⟩ := map_some hZ.zero
  have hz : i.zero = some v := by simpa [hi] using hv
  have hlen : v.cells.size = zs.length := by have := congrArg List.length hv2; simpa using this
  refine ⟨.pointer (some ⟨w.heap.size, 0, none⟩), w.alloc (.cells v.cells T), setLoc ρ j ⟨w.heap.size, 0, 0, true⟩, H, .inl ?_, ?_, GH.le_refl _, fun k hk => setLoc_ne (by simpa using hk), ?_⟩
  · simp [execOp, Instr.alloc, zeroValue, typeInfo, hi, hz, newVar, newRow]
  · exact (by simpa [setLoc_eq] using Den.ptr (ρ := setLoc ρ j ⟨w.heap.size, 0, 0, true⟩) (H := H) j 0 (by simp [setLoc_eq]))
  · refine hR.wr.alloc_own (hkp := hR.nokeep hfr) (b := .cells T zs) (fun k b' hk => hfr.bl k b' hk) ⟨by simp [setLoc_eq], v.cells, ?_, hlen, fun k d v' hk hv' => ?_⟩ upd_blk
    · rw [setLoc_eq]; exact alloc_new
    · have h1 := congrArg (·[k]?) hv2
      have h2 : v.cells.toList[k]? = some v' := by simpa using hv'
      simp only [List.getElem?_map, h2, hk, Option.map_some] at h1
      exact .pure (D.ofConst_den (Option.some.inj h1))

theorem lok_box (j : Nat) {T : TypeId} {x : Operand} (hx : st.val x = some d) (ha : d.known = true) (hd : t < st.n) :
    LOk P ⟨some t, .box T x, ty, pos, af, g⟩ st ⟨[], [j], .ptr j 0, [(j, some (.cells T d.flat))]⟩ := by
  intro B st2 ag
  have hfr := ag.fresh j (by simp)
  have hany : d ≠ .any := D.known_ne ha
  refine opOk_value (fun s hs => by cases hs; rw [ag.n]; exact hd) ag.fresh fun ρ H a w hR => ?_
  have hx2 := (ag.val x (by simp [Op.operands])).trans hx
  have hv := hR.val hx2
  obtain ⟨h1, h2⟩ := hv.flat hany
  refine ⟨.pointer (some ⟨w.heap.size, 0, none⟩), w.alloc (.cells (a.eval x).cells T), setLoc ρ j ⟨w.heap.size, 0, 0, true⟩, H, .inl ?_, ?_, GH.le_refl _, fun k hk => setLoc_ne (by simpa using hk), ?_⟩
  · simp [execOp, Instr.box, newVar, newRow]
  · exact (by simpa [setLoc_eq] using Den.ptr (ρ := setLoc ρ j ⟨w.heap.size, 0, 0, true⟩) (H := H) j 0 (by simp [setLoc_eq]))
  · refine hR.wr.alloc_own (hkp := hR.nokeep hfr) (b := .cells T d.flat) (fun k b' hk => hfr.bl k b' hk) ⟨by simp [setLoc_eq], (a.eval x).cells, ?_, h1, fun k d' v' hk hv' => ?_⟩ upd_blk
    · rw [setLoc_eq]; exact alloc_new
    · refine (h2 k d' v' hk hv').mono (GH.le_refl _) fun q hq => setLoc_ne ?_
      rintro rfl
      rw [D.flat_has (hfr.val hx2) d' (List.mem_of_getElem? hk)] at hq; cases hq

/-- The values of a list of operands. -/
def St.vals (st : St) : List Operand → Option (List D)
  | [] => some []
  | x :: r => match st.val x, st.vals r with
    | some d, some l => some (d :: l)
    | _, _ => none
def St.valsP (st : St) : List (Nat × Operand) → Option (List (Nat × D))
  | [] => some []
  | (i, x) :: r => match st.val x, st.valsP r with
    | some d, some l => some ((i, d) :: l)
    | _, _ => none

theorem vals_cons {st : St} {x : Operand} {r : List Operand} {l : List D} (h : st.vals (x :: r) = some l) : ∃ d l', st.val x = some d ∧ st.vals r = some l' ∧ l = d :: l' := by
  simp only [St.vals] at h
  split at h
  · rename_i d l' h1 h2; cases h; exact ⟨d, l', h1, h2, rfl⟩
  · cases h
theorem valsP_cons {st : St} {i : Nat} {x : Operand} {r : List (Nat × Operand)} {l : List (Nat × D)} (h : st.valsP ((i, x) :: r) = some l) : ∃ d l', st.val x = some d ∧ st.valsP r = some l' ∧ l = (i, d) :: l' := by
  simp only [St.valsP] at h
  split at h
  · rename_i d l' h1 h2; cases h; exact ⟨d, l', h1, h2, rfl⟩
  · cases h

theorem vals_congr {st st2 : St} : ∀ {xs : List Operand}, (∀ x ∈ xs, st2.val x = st.val x) → st2.vals xs = st.vals xs
  | [], _ => rfl
  | x :: r, h => by simp only [St.vals, h x (.head _), vals_congr (xs := r) fun y hy => h y (.tail _ hy)]
theorem valsP_congr {st st2 : St} : ∀ {xs : List (Nat × Operand)}, (∀ x ∈ xs.map (·.2), st2.val x = st.val x) → st2.valsP xs = st.valsP xs
  | [], _ => rfl
  | (i, x) :: r, h => by simp only [St.valsP, h x (by simp), valsP_congr (xs := r) fun y hy => h y (by simp at hy ⊢; exact .inr hy)]

theorem Rel.vals {B : Base} {st : St} {ρ : Nat → Loc} {H : GH} {a : Act} {w : World} (h : Rel B st ρ H a w) : ∀ {xs : List Operand} {ds : List D}, st.vals xs = some ds →
    ds.length = xs.length ∧ ∀ (k : Nat) (d : D) (v : Value), ds[k]? = some d → (xs.map a.eval)[k]? = some v → Den ρ H d v
  | [], ds, hv => by simp [St.vals] at hv; subst hv; simp
  | x :: r, ds, hv => by
    obtain ⟨d, l', h1, h2, rfl⟩ := vals_cons hv
    obtain ⟨h3, h4⟩ := h.vals h2
    refine ⟨by simp [h3], fun k d' v' hk hv' => ?_⟩
    cases k with
    | zero => simp at hk hv'; subst hk; subst hv'; exact h.val h1
    | succ k => exact h4 k d' v' (by simpa using hk) (by simpa using hv')

/-- A composite's cells: the parts, each laid where its field begins. -/
def bldD (fs : List (Nat × Nat)) : List D → List (Nat × D) → Option (List D)
  | ds, [] => some ds
  | ds, (i, d) :: r => match fs[i]? with
    | some (o, n) => if (Nat.beq d.flat.length n && Nat.ble (o + n) ds.length && d.known) = true then bldD fs (putL ds o d.flat) r else none
    | none => none

theorem fold_get (o : Nat) : ∀ (l : List Value) (k : Nat) (cs : Array Value),
    ((l.zipIdx k).foldl (fun cs (p : Value × Nat) => cs.setIfInBounds (o + p.2) p.1) cs).size = cs.size ∧
    ∀ q, ((l.zipIdx k).foldl (fun cs (p : Value × Nat) => cs.setIfInBounds (o + p.2) p.1) cs)[q]? = if o + k ≤ q ∧ q < o + k + l.length ∧ q < cs.size then l[q - (o + k)]? else cs[q]?
  | [], k, cs => ⟨rfl, fun q => by simp; intro h1 h2; omega⟩
  | c :: l, k, cs => by
    simp only [List.zipIdx_cons, List.foldl_cons]
    obtain ⟨h1, h2⟩ := fold_get o l (k + 1) (cs.setIfInBounds (o + k) c)
    refine ⟨by rw [h1]; simp, fun q => ?_⟩
    rw [h2 q]
    simp only [Array.size_setIfInBounds, List.length_cons]
    by_cases hq : q = o + k
    · subst hq
      rw [if_neg (by omega)]
      by_cases hs : o + k < cs.size
      · rw [if_pos (by omega)]; simp [hs]
      · rw [if_neg (by omega)]; simp [hs]
    · by_cases hr : o + (k + 1) ≤ q ∧ q < o + (k + 1) + l.length ∧ q < cs.size
      · rw [if_pos hr, if_pos (by omega)]
        rw [show q - (o + k) = (q - (o + (k + 1))) + 1 by omega]; simp
      · rw [if_neg hr, if_neg (by omega)]
        rw [Array.getElem?_setIfInBounds_ne (Ne.symm hq)]

/-- The cells of a composite as the model fills them. -/
theorem fill_run {ρ : Nat → Loc} {H : GH} {place : Nat → Option (Nat × Nat)} {fs : List (Nat × Nat)} (hp : ∀ i p, fs[i]? = some p → place i = some p) :
    ∀ (ps : List (Nat × D)) (vs : List (Nat × Value)) (cells : Array Value) (ds r : List D), vs.length = ps.length →
      (∀ (k i : Nat) (d : D) (v : Nat × Value), ps[k]? = some (i, d) → vs[k]? = some v → v.1 = i ∧ Den ρ H d v.2) →
      cells.size = ds.length → (∀ (k : Nat) (d : D) (v : Value), ds[k]? = some d → cells[k]? = some v → Den ρ H d v) → bldD fs ds ps = some r →
      ∃ cs, Instr.fill place cells vs = some cs ∧ cs.size = r.length ∧ r.length = ds.length ∧ ∀ (k : Nat) (d : D) (v : Value), r[k]? = some d → cs[k]? = some v → Den ρ H d v
  | [], [], cells, ds, r, _, _, hs, hd, hr => by simp [bldD] at hr; subst hr; exact ⟨cells, rfl, hs, rfl, hd⟩
  | [], _ :: _, _, _, _, h, _, _, _, _ => by simp at h
  | _ :: _, [], _, _, _, h, _, _, _, _ => by simp at h
  | (i, d) :: ps, (i', v) :: vs, cells, ds, r, hl, hv, hs, hd, hr => by
    simp only [bldD] at hr
    split at hr
    · rename_i o n hf
      split at hr
      · rename_i hc
        simp only [Bool.and_eq_true, Nat.beq_eq, Nat.ble_eq] at hc
        have hany : d ≠ .any := D.known_ne hc.2
        obtain ⟨hi, hden⟩ := hv 0 i d (i', v) rfl rfl
        subst hi
        obtain ⟨g1, g2⟩ := hden.flat hany
        obtain ⟨f1, f2⟩ := fold_get o v.cells.toList 0 cells
        have hput := putL_eq ds o d.flat (by rw [hc.1.1]; exact hc.1.2)
        have hlen : (putL ds o d.flat).length = ds.length := by rw [hput]; simp; omega
        have hfold : (v.cells.zipIdx.foldl (fun cs (c, j) => cs.setIfInBounds (o + j) c) cells) = ((v.cells.toList.zipIdx 0).foldl (fun cs (p : Value × Nat) => cs.setIfInBounds (o + p.2) p.1) cells) := by
          rw [← Array.foldl_toList, Array.toList_zipIdx]
        obtain ⟨cs, h1, h2, h3, h4⟩ := fill_run hp ps vs ((v.cells.toList.zipIdx 0).foldl (fun cs (p : Value × Nat) => cs.setIfInBounds (o + p.2) p.1) cells) (putL ds o d.flat) r (by simpa using hl)
          (fun k i d v h1 h2 => hv (k + 1) i d v (by simpa using h1) (by simpa using h2)) (by rw [f1, hs, hlen]) (fun k d' v' hk hv' => by
            rw [f2 k] at hv'
            rw [hput] at hk
            simp only [List.append_assoc, List.getElem?_append, List.length_take, List.getElem?_take, List.getElem?_drop] at hk
            rw [show min o ds.length = o by omega] at hk
            have e1 : v.cells.toList.length = d.flat.length := by simp [g1]
            split at hk
            · rename_i hko
              rw [if_neg (by omega)] at hv'
              exact hd k d' v' hk hv'
            · split at hk
              · rename_i hk2
                rw [if_pos (by rw [e1, hs]; omega)] at hv'
                exact g2 (k - o) d' v' hk (by simpa using hv')
              · rename_i hk2
                rw [if_neg (by rw [e1]; omega)] at hv'
                rw [show o + d.flat.length + (k - o - d.flat.length) = k by omega] at hk
                exact hd k d' v' hk hv') hr
        refine ⟨cs, ?_, h2, by rw [h3, hlen], h4⟩
        unfold Instr.fill
        rw [hp i' (o, n) hf]
        show (if _ then _ else _) = _
        rw [if_neg (by rw [g1, hs]; simp; omega)]
        rw [hfold]; exact h1
      · cases hr
    · cases hr

theorem lok_build {T : TypeId} {parts : Array (Nat × Operand)} {zs ds : List D} {fs : List (Nat × Nat)} {ps : List (Nat × D)} [hZ : TyZ P T zs] [hS : TyS P T fs] (hx : st.valsP parts.toList = some ps)
    (hb : bldD fs zs ps = some ds) (hd : t < st.n) : LOk P ⟨some t, .build T parts, ty, pos, af, g⟩ st ⟨[], [], .agg ds, []⟩ :=
  lok_pure hd fun _ st2 ρ H a w ag hR => by
    have hx2 : st2.valsP parts.toList = some ps := by
      rw [← hx]; exact valsP_congr fun x hx => ag.val x (by simpa [Op.operands] using hx)
    obtain ⟨i, hi, hi2⟩ := map_some hZ.size
    obtain ⟨v, hv, hv2⟩ := map_some hZ.zero
    have hz : i.zero = some v := by simpa [hi] using hv
    have hlen : v.cells.size = zs.length := by have := congrArg List.length hv2; simpa using this
    obtain ⟨u, hu, hu2⟩ := map_some hS.und
    cases u with
    | struct fields =>
      simp only [Option.some.injEq] at hu2
      have hm : ∀ (l : List Field) (l2 : List (Nat × Nat)), (l.map fun f => (f.offset, (P.info? f.type).map (·.size))) = (l2.map fun p => (p.1, some p.2)) →
          (l.mapM fun f => Prod.mk f.offset <$> sizeOf f.type : Sem (List (Nat × Nat))).run P w = .ok l2 w := by
        intro l
        induction l with
        | nil => intro l2 h; cases l2 with
          | nil => simp
          | cons _ _ => simp at h
        | cons f l ih =>
          intro l2 h
          cases l2 with
          | nil => simp at h
          | cons p l2 =>
            simp only [List.map_cons, List.cons.injEq, Prod.mk.injEq] at h
            obtain ⟨i', h1, h2⟩ := map_some h.1.2
            have hone : (Prod.mk f.offset <$> sizeOf f.type : Sem (Nat × Nat)).run P w = .ok p w := by simp [sizeOf, typeInfo, h1, h2, h.1.1]
            simp only [List.mapM_cons, Sem.run_bind, hone, Result.andThen_ok, ih l2 h.2, Sem.run_pure]
      have hmA : (fields.mapM fun f => Prod.mk f.offset <$> sizeOf f.type : Sem (Array (Nat × Nat))).run P w = .ok fs.toArray w := by
        rw [Array.mapM_eq_mapM_toList]
        simp [hm fields.toList fs hu2]
      have hvals : ∀ (l : List (Nat × Operand)) (ps : List (Nat × D)), st2.valsP l = some ps → (l.map fun (p : Nat × Operand) => (p.1, a.eval p.2)).length = ps.length ∧
          ∀ (k i : Nat) (d : D) (v : Nat × Value), ps[k]? = some (i, d) → (l.map fun (p : Nat × Operand) => (p.1, a.eval p.2))[k]? = some v → v.1 = i ∧ Den ρ H d v.2 := by
        intro l
        induction l with
        | nil => intro ps h; simp [St.valsP] at h; subst h; simp
        | cons p l ih =>
          obtain ⟨i, x⟩ := p
          intro ps h
          obtain ⟨d, l', h1, h2, rfl⟩ := valsP_cons h
          obtain ⟨h3, h4⟩ := ih l' h2
          refine ⟨by simpa using h3, fun k i' d' v' hk hv' => ?_⟩
          cases k with
          | zero => simp at hk hv'; obtain ⟨rfl, rfl⟩ := hk; subst hv'; exact ⟨rfl, hR.val h1⟩
          | succ k => exact h4 k i' d' v' (by simpa using hk) (by simpa using hv')
      obtain ⟨hl1, hl2⟩ := hvals parts.toList ps hx2
      obtain ⟨cs, h1, h2, _, h4⟩ := fill_run (ρ := ρ) (H := H) (place := fun i => fs.toArray[i]?) (fs := fs) (by intro i p h; simpa using h) ps _ v.cells zs ds hl1 hl2 hlen (fun k d v' hk hv' => by
        have h1 := congrArg (·[k]?) hv2
        have h2 : v.cells.toList[k]? = some v' := by simpa using hv'
        simp only [List.getElem?_map, h2, hk, Option.map_some] at h1
        exact .pure (D.ofConst_den (Option.some.inj h1))) hb
      refine ⟨.agg cs, ?_, .agg _ _ h2 h4⟩
      have h1' : Instr.fill (fun i : Nat => fs[i]?) v.cells (parts.toList.map fun p => (p.1, a.eval p.2)) = some cs := by
        have : (fun i : Nat => fs.toArray[i]?) = fun i : Nat => fs[i]? := by funext i; simp
        rw [this] at h1; exact h1
      simp [execOp, Instr.build, zeroValue, typeInfo, hi, hz, run_underlying hu, hmA, h1']
    | _ => simp at hu2

/-- A slice's element, immutable. -/
theorem lok_indexAddr {x y : Operand} {T e : TypeId} {sz by_ : Nat} {k : IntKind} {i : Int} {m : Nat} {full : Bool} {l : List (List D)} {row : List D} [hT : TySl P T e sz by_] (hx : st.val x = some (.rows full l))
    (hy : st.val y = some (.int k i)) (hi : i = (m : Int)) (hm : l[m]? = some row) (hrow : row.length = sz) (hd : t < st.n) :
    LOk P ⟨some t, .indexAddr T x y, ty, pos, af, g⟩ st ⟨[], [], .pp row, []⟩ :=
  lok_pure hd fun _ st2 ρ H a w ag hR => by
    obtain ⟨ad, cap, h1, h2, _, h4⟩ := (hR.val ((ag.val x (by simp [Op.operands])).trans hx)).rows_inv
    have h5 := (hR.val ((ag.val y (by simp [Op.operands])).trans hy)).int_inv
    have hlt : m < l.length := (List.getElem?_eq_some_iff.1 hm).1
    obtain ⟨b, off, sz', arr, aty, fz, rfl, hb, hsz, hin, he⟩ := h4 (by rintro rfl; simp at hlt)
    have hmem : row ∈ l := List.mem_of_getElem? hm
    have hs : sz' = sz := by rw [← hsz row hmem, hrow]
    subst hs
    obtain ⟨inf, hi1, hi2⟩ := map_some hT.info
    simp only [Prod.mk.injEq] at hi2
    have hle : off + m * sz' + sz' ≤ arr.size := by
      have : (m + 1) * sz' ≤ l.length * sz' := Nat.mul_le_mul_right _ hlt
      rw [Nat.succ_mul] at this; omega
    have hadd : (⟨b, off, none⟩ : Addr).add (m * sz') = ⟨b, off + m * sz', none⟩ := by unfold Addr.add; split <;> simp_all
    refine ⟨.pointer (some ⟨b, off + m * sz', none⟩), ?_, .pure (.pp _ b _ arr aty fz hb (by rw [hrow]; exact hle) fun k d v hk hv => he m k row d v hm hk hv)⟩
    subst hi
    simp [execOp, Instr.indexAt, h1, h5, asIntOf, run_underlying hT.und, sizeOf, typeInfo, hi1, hi2.1, hlt, hadd]

/-- Two bools. -/
def cmpBool : BinOp → Bool → Bool → Option Bool
  | .eql, x, y => some (x == y)
  | .neq, x, y => some (!(x == y))
  | _, _, _ => none
class TyB (P : Program) (t : TypeId) : Prop where
  und : P.underlying t = some .bool
theorem lok_cmpB {op : BinOp} {x y : Operand} {xt yt : TypeId} {m n b : Bool} [hT : TyB P xt] (hx : st.val x = some (.bool m)) (hy : st.val y = some (.bool n)) (hb : cmpBool op m n = some b) (hd : t < st.n) :
    LOk P ⟨some t, .binOp op xt x y yt, ty, pos, af, g⟩ st ⟨[], [], .bool b, []⟩ :=
  lok_pure hd fun _ st2 _ _ a w ag hR => ⟨.bool b, by
    have h1 := (hR.val ((ag.val x (by simp [Op.operands])).trans hx)).bool_inv
    have h2 := (hR.val ((ag.val y (by simp [Op.operands])).trans hy)).bool_inv
    cases op <;> simp only [cmpBool, Option.some.injEq, reduceCtorEq] at hb <;> subst hb <;> simp [execOp, h1, h2, eqGuard, binOp, Op.equal, Op.maxDepth, run_equalIn_bool w _ _ _ _ hT.und], .pure (.bool b)⟩

/-- Structs of plain fields: the fields' kinds (0: an integer, 1: a bool, 2: a string). -/
def tyKind (P : Program) (t : TypeId) : Option Nat := match P.underlying t with | some (.int _) => some 0 | some .bool => some 1 | some .string => some 2 | _ => none
def plainFs (P : Program) : List Field → List Nat → Nat → Bool
  | [], [], _ => true
  | f :: fs, q :: ks, k => Nat.beq f.offset k && f.name != "_" && (match tyKind P f.type with | some r => Nat.beq r q | none => false) && plainFs P fs ks (k + 1)
  | _, _, _ => false
class TyEq (P : Program) (t : TypeId) (ks : outParam (List Nat)) : Prop where
  und : P.underlying t = some (.struct (P.fieldsOf t))
  flat : plainFs P (P.fieldsOf t).toList ks 0 = true
  held : P.stoodInHeld t = false
  grd : P.eqGuardType P.depth t = false

theorem part_plain {w : World} {T : TypeId} {q k : Nat} {cs : Array Value} {v : Value} (hT : tyKind P T = some q) (hv : cs[k]? = some v) : (part T cs k).run P w = .ok v w := by
  unfold tyKind at hT
  split at hT
  · rename_i h; simp [part, isAgg, run_underlying h, hv]
  · rename_i h; simp [part, isAgg, run_underlying h, hv]
  · rename_i h; simp [part, isAgg, run_underlying h, hv]
  · cases hT

theorem eqFields_run {w : World} {ρ : Nat → Loc} {H : GH} {us vs : Array Value} {l m : List D} (hu : ∀ (k : Nat) (d : D) (v : Value), l[k]? = some d → us[k]? = some v → Den ρ H d v) (hus : us.size = l.length)
    (hv : ∀ (k : Nat) (d : D) (v : Value), m[k]? = some d → vs[k]? = some v → Den ρ H d v) (hvs : vs.size = m.length) (dp : Nat) :
    ∀ (fs : List Field) (ks : List Nat) (k : Nat) (b : Bool), plainFs P fs ks k = true → eqDs ks (l.drop k) (m.drop k) = some b → (Op.eqFields (dp + 1) us vs fs).run P w = .ok b w
  | [], [], k, b, _, hb => by
    cases hl : l.drop k <;> cases hm : m.drop k <;> simp [hl, hm, eqDs] at hb
    subst hb; simp [Op.eqFields]
  | [], _ :: _, _, _, h, _ => by simp [plainFs] at h
  | _ :: _, [], _, _, h, _ => by simp [plainFs] at h
  | f :: fs, q :: ks, k, b, h, hb => by
    simp only [plainFs, Bool.and_eq_true, Nat.beq_eq] at h
    obtain ⟨⟨⟨ho, hn⟩, hk⟩, hr⟩ := h
    have hname : f.name ≠ "_" := by simpa using hn
    cases hkd : tyKind P f.type with
    | none => simp [hkd] at hk
    | some r =>
      simp [hkd] at hk
      subst hk
      obtain ⟨x, xs, hx⟩ : ∃ x xs, l.drop k = x :: xs := by
        cases hl : l.drop k with
        | nil => rw [hl] at hb; simp [eqDs] at hb
        | cons x xs => exact ⟨x, xs, rfl⟩
      obtain ⟨y, ys, hy⟩ : ∃ y ys, m.drop k = y :: ys := by
        cases hl : m.drop k with
        | nil => rw [hl] at hb; rw [hx] at hb; cases x <;> cases r <;> simp [eqDs] at hb
        | cons y ys => exact ⟨y, ys, rfl⟩
      have hx0 : l[k]? = some x := by have := congrArg (·[0]?) hx; simpa using this
      have hy0 : m[k]? = some y := by have := congrArg (·[0]?) hy; simpa using this
      have hxs : l.drop (k + 1) = xs := by rw [← List.drop_drop, hx]; rfl
      have hys : m.drop (k + 1) = ys := by rw [← List.drop_drop, hy]; rfl
      have hkl : k < us.size := by rw [hus]; exact (List.getElem?_eq_some_iff.1 hx0).1
      have hkm : k < vs.size := by rw [hvs]; exact (List.getElem?_eq_some_iff.1 hy0).1
      have hdx := hu k x us[k] hx0 (by simp [hkl])
      have hdy := hv k y vs[k] hy0 (by simp [hkm])
      have p1 := part_plain (w := w) hkd (show us[k]? = some us[k] by simp [hkl])
      have p2 := part_plain (w := w) hkd (show vs[k]? = some vs[k] by simp [hkm])
      rw [hx, hy] at hb
      have key : ∃ c r', eqDs ks xs ys = some r' ∧ b = (c && r') ∧ (Op.equalIn (dp + 1) f.type us[k] vs[k]).run P w = .ok c w := by
        unfold tyKind at hkd
        unfold eqDs at hb
        split at hb
        · rename_i h1 _ _; cases h1
        · rename_i k1 a1 xs1 k2 b1 ys1 h1 h2 h3
          cases h1; cases h2; cases h3
          split at hb
          · rename_i hkk; subst hkk
            split at hb
            · rename_i r' hr'
              cases hb
              split at hkd <;> simp at hkd
              rename_i kk hu
              exact ⟨_, _, hr', rfl, by rw [hdx.int_inv, hdy.int_inv]; exact run_equalIn_int w dp f.type _ kk _ _ hu⟩
            · cases hb
          · cases hb
        · rename_i a1 xs1 b1 ys1 h1 h2 h3
          cases h1; cases h2; cases h3
          split at hb
          · rename_i r' hr'
            cases hb
            split at hkd <;> simp at hkd
            rename_i hu
            exact ⟨_, _, hr', rfl, by rw [hdx.bool_inv, hdy.bool_inv]; exact run_equalIn_bool w dp f.type _ _ hu⟩
          · cases hb
        · rename_i a1 xs1 b1 ys1 h1 h2 h3
          cases h1; cases h2; cases h3
          split at hb
          · rename_i r' hr'
            cases hb
            split at hkd <;> simp at hkd
            rename_i hu
            exact ⟨_, _, hr', rfl, by rw [hdx.str_inv, hdy.str_inv, run_equalIn_string w dp f.type _ _ hu, beq_toListBytes]⟩
          · cases hb
        · cases hb
      obtain ⟨c, r', h1, rfl, h3⟩ := key
      have ih := eqFields_run (w := w) hu hus hv hvs dp fs ks (k + 1) r' hr (by rw [hxs, hys]; exact h1)
      simp only [Op.eqFields, if_pos hname, ho, Sem.run_bind, p1, p2, h3, Result.andThen_ok]
      cases c
      · simp
      · simpa using ih

def cmpEq : BinOp → Bool → Option Bool
  | .eql, b => some b
  | .neq, b => some (!b)
  | _, _ => none
theorem lok_cmpS {op : BinOp} {x y : Operand} {xt yt : TypeId} {l m : List D} {ks : List Nat} {b c : Bool} [hT : TyEq P xt ks] (hx : st.val x = some (.agg l)) (hy : st.val y = some (.agg m)) (hb : eqDs ks l m = some b) (hc : cmpEq op b = some c) (hd : t < st.n) :
    LOk P ⟨some t, .binOp op xt x y yt, ty, pos, af, g⟩ st ⟨[], [], .bool c, []⟩ :=
  lok_pure hd fun _ st2 ρ H a w ag hR => ⟨.bool c, by
    obtain ⟨us, h1, h2, h3⟩ := (hR.val ((ag.val x (by simp [Op.operands])).trans hx)).agg_inv
    obtain ⟨vs, h4, h5, h6⟩ := (hR.val ((ag.val y (by simp [Op.operands])).trans hy)).agg_inv
    have hr := eqFields_run (P := P) (w := w) h3 h2 h6 h5 9998 (P.fieldsOf xt).toList ks 0 b hT.flat (by simpa using hb)
    have hr2 := run_equalIn_struct (P := P) w 9999 xt us vs hT.und hT.held
    rw [hr] at hr2
    have hg := run_eqGuard_agg (P := P) w op xt x y us vs hT.grd
    cases op <;> simp only [cmpEq, Option.some.injEq, reduceCtorEq] at hc <;> subst hc
    · simp only [execOp, h1, h4, Sem.run_bind, hg, Result.andThen_ok, run_eql_struct, hr2, Sem.run_pure]
    · simp only [execOp, h1, h4, Sem.run_bind, hg, Result.andThen_ok, run_neq_struct, hr2, Sem.run_pure], .pure (.bool c)⟩
end
end ops
end Go.Eng

/- The engine, part E: calls by contract, literals of slices, interfaces; the code's rules; a function's contract out of its body. No program in sight. -/
namespace Go.Eng
open Go

theorem Den.toP {ρ : Nat → Loc} {H : GH} {d : D} {v : Value} (h : Den ρ H d v) : d.pureB = true → DenP H d v := by
  induction h with
  | pure h => exact fun _ => h
  | ptr j off hh => intro h; simp [D.pureB] at h
  | sl j lo n a c hc hn ha => intro h; simp [D.pureB] at h
  | bp j i off hh => intro h; simp [D.pureB] at h
  | omap j hh => intro h; simp [D.pureB] at h
  | bfn f l cs hs he _ => intro h; simp [D.pureB] at h
  | agg l cs hs _ ih => exact fun hp => .agg l cs hs fun k d v h1 h2 => ih k d v h1 h2 (D.pureL_mem (by simpa only [D.pureB] using hp) _ (List.mem_of_getElem? h1))
  | tup l cs hs _ ih => exact fun hp => .tup l cs hs fun k d v h1 h2 => ih k d v h1 h2 (D.pureL_mem (by simpa only [D.pureB] using hp) _ (List.mem_of_getElem? h1))
  | fn f l cs hs _ ih => exact fun hp => .fn f l cs hs fun k d v h1 h2 => ih k d v h1 h2 (D.pureL_mem (by simpa only [D.pureB] using hp) _ (List.mem_of_getElem? h1))
  | iface t d v _ ih => exact fun hp => .iface t d v (ih (by simpa only [D.pureB] using hp))

/-- What is behind a call that only makes memory. -/
structure Behind (W : World) (H H' : GH) (w' : World) : Prop where
  le : H.le H'
  pers : ∀ b o, H' b = some o → w'.heap[b]? = some o
  fresh : ∀ b o, H' b = some o → H b = some o ∨ W.heap.size ≤ b
  size : W.heap.size ≤ w'.heap.size
  frame : ∀ k, k < W.heap.size → w'.heap[k]? = W.heap[k]?
  os : w'.os = W.os
  tape : w'.tape = W.tape
  output : w'.output = W.output

/-- A contract: from arguments that read as these it returns a value that reads so, and nothing that was there has turned. -/
structure FnP (P : Program) (f : FuncId) (args : List D) (d : D) : Prop where
  fn : ∃ fn, P.funcs[f]? = some fn ∧ fn.body.isSome = true ∧ (fn.name == "runtime.NumGoroutine") = false
  run : ∀ (W : World) (H : GH) (vs : Array Value), (∀ b o, H b = some o → W.heap[b]? = some o) → vs.size = args.length →
    (∀ (k : Nat) (d : D) (v : Value), args[k]? = some d → vs[k]? = some v → DenP H d v) →
    Calls P f vs W fun e w' => ∃ v H', e = .returned v ∧ DenP H' d v ∧ Behind W H H' w'

theorem WRel.behind {B : Base} {bl : Nat → Option Blk} {ρ : Nat → Loc} {H H' : GH} {w w' : World} (h : WRel B bl ρ H w) (b : Behind w H H' w') : WRel B bl ρ H' w' := by
  refine ⟨fun j c hj => (h.own j c hj).mono b.le rfl (fun _ _ => rfl) (fun hh => b.frame _ ((h.own j c hj).lt hh)), h.sep, h.new, fun j c hj hh => ?_, b.pers, GH.le_trans h.hext b.le, fun k o hk => ?_, Nat.le_trans h.size b.size,
    fun k hk hn => ?_, b.os.trans h.os, b.tape.trans h.tape, b.output.trans h.output, h.kp⟩
  · cases hH : H' (ρ j).blk with
    | none => rfl
    | some o =>
      rcases b.fresh _ _ hH with h1 | h1
      · rw [h.np j c hj hh] at h1; cases h1
      · have := (h.own j c hj).lt hh; omega
  · rcases b.fresh k o hk with h1 | h1
    · exact h.hnew k o h1
    · exact .inr (.inl (Nat.le_trans h.size h1))
  · rw [b.frame k (Nat.lt_of_lt_of_le hk h.size)]; exact h.frame k hk hn

theorem callFunc_run {P : Program} {w : World} {f : FuncId} {fn : Func} {vs : Array Value} (hf : P.funcs[f]? = some fn) (hb : fn.body.isSome = true) (hn : (fn.name == "runtime.NumGoroutine") = false) :
    (callFunc f vs).run P w = .ok (.enter f vs) w := by
  have hb' : fn.body.isNone = false := by cases h : fn.body <;> simp [h] at hb ⊢
  simp only [callFunc, Sem.run_bind, run_program, Result.andThen_ok, hf, hn, hb', Bool.false_eq_true, if_false, Sem.run_pure]

section ops
variable {P : Program} {t : Nat} {ty : TypeId} {pos : String} {af : Array Edge} {g : Option (Nat × Bool)} {st : St} {d : D}

theorem opOk_call {B : Base} {o : Oper} {st : St} {d : D} (hd : ∀ t, o.dst = some t → t < st.n)
    (h : ∀ ρ H a w, Rel B st ρ H a w → ∃ f vs, (execOp a.eval o).run P w = .ok (.enter f vs) w ∧ Calls P f vs w fun e w' => ∃ v H', e = .returned v ∧ Den ρ H' d v ∧ Behind w H H' w') : OpOk P B o st ⟨[], [], d, []⟩ := by
  intro ρ H a w hR K Q hK
  obtain ⟨f, vs, hrun, hc⟩ := h ρ H a w hR
  unfold Oper.wp
  rw [hrun]
  refine hc.mono fun e w' ⟨v, H', he, hv, hb⟩ => ?_
  subst he
  refine hK v ρ H' w' ⟨?_, ?_, fun t d' ht => ?_, ?_, hR.lm⟩
  · cases ho : o.dst <;> simp [Act.put, St.app, hR.sz]
  · cases ho : o.dst <;> simp [Act.put, hR.df]
  · rw [St.app_get] at ht
    by_cases hdt : o.dst = some t
    · rw [if_pos hdt] at ht; cases ht
      exact ⟨v, by rw [hdt]; simp [Act.put, hR.sz, hd t hdt], hv⟩
    · rw [if_neg hdt] at ht
      obtain ⟨u, h1, h2⟩ := hR.tm t d' ht
      refine ⟨u, ?_, h2.mono hb.le fun _ _ => rfl⟩
      cases ho : o.dst with
      | none => simpa [Act.put] using h1
      | some s => rw [ho] at hdt; simp only [Act.put, Option.some.injEq] at hdt ⊢; rw [Array.getElem?_setIfInBounds_ne hdt]; exact h1
  · have : (st.app o.dst ⟨[], [], d, []⟩).blk = st.blk := by funext j; rw [St.app_blk]; rfl
    rw [this]; exact hR.wr.behind hb

/-- The arguments of a call, as its contract wants them. -/
theorem args_den {B : Base} {ρ : Nat → Loc} {H : GH} {a : Act} {w : World} (hR : Rel B st ρ H a w) {xs : Array Operand} {ds caps : List D} {cs : Array Value} (hx : st.vals xs.toList = some ds)
    (hcs : cs.size = caps.length) (hc : ∀ (k : Nat) (d : D) (v : Value), caps[k]? = some d → cs[k]? = some v → Den ρ H d v) (hp : D.pureL (ds ++ caps) = true) :
    (xs.map a.eval ++ cs).size = (ds ++ caps).length ∧ ∀ (k : Nat) (d : D) (v : Value), (ds ++ caps)[k]? = some d → (xs.map a.eval ++ cs)[k]? = some v → DenP H d v := by
  obtain ⟨h1, h2⟩ := hR.vals hx
  have hl : ds.length = xs.size := by simpa using h1
  refine ⟨by simp [hcs, hl], fun k d v hk hv => ?_⟩
  have hpd := D.pureL_mem hp d (List.mem_of_getElem? hk)
  rw [List.getElem?_append] at hk
  rw [Array.getElem?_append] at hv
  simp only [Array.size_map] at hv
  rw [hl] at hk
  split at hk
  · rename_i hlt
    rw [if_pos hlt] at hv
    exact (h2 k d v hk (by simpa using hv)).toP hpd
  · rename_i hlt
    rw [if_neg hlt] at hv
    exact (hc _ d v hk hv).toP hpd

theorem lok_call {y : Operand} {xs : Array Operand} {ats : Array TypeId} {f : FuncId} {ds caps : List D} (hy : st.val y = some (.fn f caps)) (hx : st.vals xs.toList = some ds) (hs : FnP P f (ds ++ caps) d)
    (hp : (D.pureL (ds ++ caps) && d.pureB) = true) (hd : t < st.n) : LOk P ⟨some t, .call ⟨.value y, xs, ats⟩, ty, pos, af, g⟩ st ⟨[], [], d, []⟩ := by
  intro B st2 ag
  simp only [Bool.and_eq_true] at hp
  refine opOk_call (fun s hs => by cases hs; rw [ag.n]; exact hd) fun ρ H a w hR => ?_
  obtain ⟨fn, hf, hb, hn⟩ := hs.fn
  obtain ⟨cs, h1, h2, h3⟩ := (hR.val ((ag.val y (by simp [Op.operands, Call.operands])).trans hy)).fn_inv
  have hx2 : st2.vals xs.toList = some ds := by rw [← hx]; exact vals_congr fun x hx => ag.val x (by simp [Op.operands, Call.operands] at hx ⊢; exact .inr hx)
  obtain ⟨h4, h5⟩ := args_den hR hx2 h2 h3 hp.1
  refine ⟨f, xs.map a.eval ++ cs, ?_, (hs.run w H _ hR.wr.pers h4 h5).mono fun e w' ⟨v, H', he, hv, hb⟩ => ⟨v, H', he, .pure hv, hb⟩⟩
  simp [execOp, resolve, h1, Deferred.ofValue, invoke, callFunc_run hf hb hn]

/-- A method of a concrete type that is called through an interface. -/
class Mth (P : Program) (T : TypeId) (name : String) (f : outParam FuncId) : Prop where
  row : (P.info? T).map (fun i => (i.methods.find? (·.name == name)).map fun m => (m.path.toList.length, m.func)) = some (some (0, some (f, false)))
  und : (P.underlying T).map (fun u => match u with | .pointer _ => true | _ => false) = some false
class TyConc (P : Program) (T : TypeId) : Prop where
  und : (P.underlying T).map (fun u => match u with | .interface _ => true | _ => false) = some false

theorem lok_iface {x : Operand} {T : TypeId} [hT : TyConc P T] (hx : st.val x = some d) (hd : t < st.n) : LOk P ⟨some t, .makeInterface T x, ty, pos, af, g⟩ st ⟨[], [], .iface T d, []⟩ :=
  lok_pure hd fun _ st2 ρ H a w ag hR => ⟨.iface T (a.eval x), by
    obtain ⟨u, hu, hu2⟩ := map_some hT.und
    cases u <;> first | (simp at hu2; done) | simp [execOp, Instr.makeInterface, run_underlying hu], .iface _ _ _ (hR.val ((ag.val x (by simp [Op.operands])).trans hx))⟩

theorem lok_func {fn : FuncId} {xs : Array Operand} {caps : List D} (hx : st.vals xs.toList = some caps) (hd : t < st.n) : LOk P ⟨some t, .makeFunc (.func fn) #[] xs, ty, pos, af, g⟩ st ⟨[], [], .fn fn caps, []⟩ :=
  lok_pure hd fun _ st2 ρ H a w ag hR => by
    have hx2 : st2.vals xs.toList = some caps := by rw [← hx]; exact vals_congr fun x hx => ag.val x (by simpa [Op.operands] using hx)
    obtain ⟨h1, h2⟩ := hR.vals hx2
    exact ⟨.func (.func fn) #[] (xs.map a.eval), by simp [execOp, Instr.makeFunc], .fn _ _ _ (by simpa using h1.symm) fun k d v hk hv => h2 k d v hk (by simpa using hv)⟩

theorem lok_invoke {y : Operand} {xs : Array Operand} {ats : Array TypeId} {name : String} {T : TypeId} {f : FuncId} {ds : List D} {r : D} [hM : Mth P T name f] (hy : st.val y = some (.iface T r)) (hx : st.vals xs.toList = some ds)
    (hs : FnP P f (r :: ds) d) (hp : (D.pureL (r :: ds) && d.pureB) = true) (hd : t < st.n) : LOk P ⟨some t, .call ⟨.invoke y name, xs, ats⟩, ty, pos, af, g⟩ st ⟨[], [], d, []⟩ := by
  intro B st2 ag
  simp only [Bool.and_eq_true] at hp
  refine opOk_call (fun s hs => by cases hs; rw [ag.n]; exact hd) fun ρ H a w hR => ?_
  obtain ⟨fn, hf, hb, hn⟩ := hs.fn
  obtain ⟨u, h1, h2⟩ := (hR.val ((ag.val y (by simp [Op.operands, Call.operands])).trans hy)).iface_inv
  have hx2 : st2.vals xs.toList = some ds := by rw [← hx]; exact vals_congr fun x hx => ag.val x (by simp [Op.operands, Call.operands] at hx ⊢; exact .inr hx)
  obtain ⟨h3, h4⟩ := hR.vals hx2
  refine ⟨f, #[u] ++ xs.map a.eval, ?_, (hs.run w H _ hR.wr.pers (by simp at h3 ⊢; omega) fun k d v hk hv => ?_).mono fun e w' ⟨v, H', he, hv, hb⟩ => ⟨v, H', he, .pure hv, hb⟩⟩
  · obtain ⟨i, hi, hi2⟩ := map_some hM.row
    obtain ⟨m, hm, hm2⟩ := map_some hi2
    simp only [Prod.mk.injEq] at hm2
    have hpath : m.path.toList = [] := List.length_eq_zero_iff.1 hm2.1
    obtain ⟨un, hu, hu2⟩ := map_some hM.und
    have hrec : ∀ s, (receiverAt T (.val u) false s).run P w = .ok u w := by
      intro s
      unfold receiverAt
      simp only [Sem.run_bind, run_underlying hu, Result.andThen_ok]
      cases un <;> first | (simp at hu2; done) | simp [Place.get]
    have hmeth : ∀ fuel, (method (fuel + 1) T u name).run P w = .ok (f, u) w := by
      intro fuel
      simp [method, typeInfo, hi, hm, hpath, follow, hm2.2, hrec]
    have h0 : 0 < Made.depth := by decide
    obtain ⟨q, hq⟩ : ∃ q, P.types.size + Made.depth = q + 1 := ⟨P.types.size + Made.depth - 1, by omega⟩
    have hz : ∀ x : Value, (#[x] ++ xs.map a.eval)[0]? = some x := fun x => by rw [Array.getElem?_append_left (by simp)]; rfl
    have hex : ∀ x : Value, (#[x] ++ xs.map a.eval).extract 1 (#[x] ++ xs.map a.eval).size = xs.map a.eval := fun x => by
      apply Array.ext'
      simp
      exact List.take_of_length_le (by simp)
    simp only [execOp, resolve, Sem.run_bind, Sem.run_pure, Result.andThen_ok, h1, invoke, hz, hex, callMethod, run_program, hq, hmeth, callFunc_run hf hb hn]
  · have hpd := D.pureL_mem hp.1 d (List.mem_of_getElem? hk)
    cases k with
    | zero =>
      rw [Array.getElem?_append_left (by simp)] at hv
      simp at hk hv; subst hk; subst hv; exact h2.toP hpd
    | succ k =>
      simp at hk
      rw [Array.getElem?_append_right (by simp)] at hv
      simp at hv
      exact (h4 k d v hk (by simpa using hv)).toP hpd

/-- A slice's literal: all its elements, in their order. -/
def bsD (sz : Nat) : Nat → List (Nat × D) → Option (List (List D))
  | _, [] => some []
  | k, (i, d) :: r => if (Nat.beq i k && Nat.beq d.flat.length sz && d.known && D.pureL d.flat) = true then (match bsD sz (k + 1) r with | some l => some (d.flat :: l) | none => none) else none

theorem flatten_get {α : Type} {sz : Nat} : ∀ {l : List (List α)}, (∀ r ∈ l, r.length = sz) → ∀ {i k : Nat} {r : List α} {x : α}, l[i]? = some r → r[k]? = some x → l.flatten[i * sz + k]? = some x
  | [], _, i, k, r, x, h, _ => by simp at h
  | q :: l, hs, 0, k, r, x, h, hx => by
    simp at h; subst h
    simp only [List.flatten_cons, Nat.zero_mul, Nat.zero_add]
    rw [List.getElem?_append_left (List.getElem?_eq_some_iff.1 hx).1]; exact hx
  | q :: l, hs, i + 1, k, r, x, h, hx => by
    have hq := hs q (.head _)
    simp only [List.flatten_cons]
    rw [List.getElem?_append_right (by rw [hq, Nat.succ_mul]; omega)]
    have := flatten_get (fun r hr => hs r (.tail _ hr)) (by simpa using h) hx
    rw [hq, show (i + 1) * sz + k - sz = i * sz + k by rw [Nat.succ_mul]; omega]; exact this

theorem bsD_bld {sz n : Nat} : ∀ (ps : List (Nat × D)) (k : Nat) (l : List (List D)) (pre suf : List D), bsD sz k ps = some l → k + ps.length ≤ n → pre.length = k * sz → suf.length = ps.length * sz →
    bldD ((List.range n).map fun i => (i * sz, sz)) (pre ++ suf) ps = some (pre ++ l.flatten) ∧ l.length = ps.length ∧ (∀ r ∈ l, r.length = sz) ∧ D.pureL l.flatten = true
  | [], k, l, pre, suf, h, _, _, hs => by
    simp [bsD] at h; subst h
    have : suf = [] := by simpa using hs
    subst this
    simp [bldD, D.pureL]
  | (i, d) :: ps, k, l, pre, suf, h, hn, hp, hs => by
    simp only [bsD] at h
    split at h
    · rename_i hc
      simp only [Bool.and_eq_true, Nat.beq_eq] at hc
      obtain ⟨⟨⟨rfl, hsz⟩, hk⟩, hpu⟩ := hc
      split at h
      · rename_i l' hl
        cases h
        simp only [List.length_cons] at hs hn
        have hdrop : (suf.drop sz).length = ps.length * sz := by simp [hs, Nat.succ_mul]
        obtain ⟨h1, h2, h3, h4⟩ := bsD_bld (n := n) ps (i + 1) l' (pre ++ d.flat) (suf.drop sz) hl (by omega) (by simp [hp, hsz, Nat.succ_mul]) hdrop
        have hput : putL (pre ++ suf) (i * sz) d.flat = (pre ++ d.flat) ++ suf.drop sz := by
          rw [putL_eq _ _ _ (by simp [hp, hs, hsz, Nat.succ_mul])]
          rw [List.take_left' hp, hsz, ← List.drop_drop, List.drop_left' hp]
        refine ⟨?_, by simp [h2], ?_, ?_⟩
        · have hget : ((List.range n).map fun i => (i * sz, sz))[i]? = some (i * sz, sz) := by rw [List.getElem?_map, List.getElem?_range (by omega)]; rfl
          simp only [bldD, hget]
          rw [if_pos, hput, h1]
          · simp
          · simp only [Bool.and_eq_true, Nat.beq_eq, Nat.ble_eq]
            exact ⟨⟨hsz, by simp [hp, hs, Nat.succ_mul]⟩, hk⟩
        · intro r hr
          rcases List.mem_cons.1 hr with rfl | hr
          · exact hsz
          · exact h3 r hr
        · have : ∀ (a b : List D), D.pureL a = true → D.pureL b = true → D.pureL (a ++ b) = true := by
            intro a b
            induction a with
            | nil => intro _ h; exact h
            | cons x a ih => intro h1 h2; simp only [D.pureL, List.cons_append, Bool.and_eq_true] at h1 ⊢; exact ⟨h1.1, ih h1.2 h2⟩
          exact this _ _ hpu h4
      · cases h
    · cases h

theorem lok_slice_lit {T e : TypeId} {len sz by_ : Nat} {parts : Array (Nat × Operand)} {zs : List D} {ps : List (Nat × D)} {l : List (List D)} [hT : TySl P T e sz by_] [hZ : TyZ P e zs] (hx : st.valsP parts.toList = some ps)
    (hl : bsD sz 0 ps = some l) (hn : (Nat.beq ps.length len && Nat.ble (len * sz) 16777216 && Nat.ble len 16777216) = true) (hd : t < st.n) : LOk P ⟨some t, .buildSlice T len parts, ty, pos, af, g⟩ st ⟨[], [], .rows true l, []⟩ := by
  intro B st2 ag
  simp only [Bool.and_eq_true, Nat.beq_eq, Nat.ble_eq] at hn
  refine opOk_value (fun s hs => by cases hs; rw [ag.n]; exact hd) (by simp) fun ρ H a w hR => ?_
  have hx2 : st2.valsP parts.toList = some ps := by rw [← hx]; exact valsP_congr fun x hx => ag.val x (by simpa [Op.operands] using hx)
  obtain ⟨i, hi, hi2⟩ := map_some hZ.size
  obtain ⟨v, hv, hv2⟩ := map_some hZ.zero
  obtain ⟨i', hi', hi2'⟩ := map_some hT.info
  simp only [Prod.mk.injEq] at hi2'
  have hii : i' = i := by rw [hi] at hi'; cases hi'; rfl
  subst hii
  have hz : i'.zero = some v := by simpa [hi] using hv
  obtain ⟨⟨hn1, hn2⟩, hn3⟩ := hn
  obtain ⟨b1, b2, b3, b4⟩ := bsD_bld (sz := sz) (n := len) ps 0 l [] (List.replicate (ps.length * sz) .any) hl (by omega) (by simp) (by simp)
  simp only [List.nil_append] at b1
  have hvals : ∀ (l : List (Nat × Operand)) (ps : List (Nat × D)), st2.valsP l = some ps → (l.map fun (p : Nat × Operand) => (p.1, a.eval p.2)).length = ps.length ∧
      ∀ (k i : Nat) (d : D) (v : Nat × Value), ps[k]? = some (i, d) → (l.map fun (p : Nat × Operand) => (p.1, a.eval p.2))[k]? = some v → v.1 = i ∧ Den ρ H d v.2 := by
    intro l
    induction l with
    | nil => intro ps h; simp [St.valsP] at h; subst h; simp
    | cons p l ih =>
      obtain ⟨i, x⟩ := p
      intro ps h
      obtain ⟨d, l', h1, h2, rfl⟩ := valsP_cons h
      obtain ⟨h3, h4⟩ := ih l' h2
      refine ⟨by simpa using h3, fun k i' d' v' hk hv' => ?_⟩
      cases k with
      | zero => simp at hk hv'; obtain ⟨rfl, rfl⟩ := hk; subst hv'; exact ⟨rfl, hR.val h1⟩
      | succ k => exact h4 k i' d' v' (by simpa using hk) (by simpa using hv')
  obtain ⟨hl1, hl2⟩ := hvals parts.toList ps hx2
  have hsize : ((Array.range (len * sz)).map fun x => (if len * sz = 0 then #[] else v.cells)[x % (if len * sz = 0 then #[] else v.cells).size]!).size = (List.replicate (ps.length * sz) D.any).length := by simp [hn1]
  obtain ⟨cs, c1, c2, _, c4⟩ := fill_run (ρ := ρ) (H := H) (place := fun i => some (i * sz, sz)) (fs := (List.range len).map fun i => (i * sz, sz)) (by
      intro i p h
      rw [List.getElem?_map] at h
      obtain ⟨w, hw, rfl⟩ := map_some h
      obtain ⟨_, rfl⟩ := List.getElem?_eq_some_iff.1 hw
      simp) ps _ _ _ _ hl1 hl2 hsize
    (fun k d v hk _ => by rw [List.getElem?_replicate] at hk; split at hk <;> cases hk; exact .pure (.any _)) b1
  obtain ⟨g1, g2⟩ := hR.wr.alloc_pers (.cells cs e)
  refine ⟨.slice (some ⟨w.heap.size, 0, none⟩) len len, w.alloc (.cells cs e), ρ, _, .inl ?_, .pure ?_, g2, fun _ _ => rfl, g1.bl_eq fun k c hk => ?_⟩
  · simp only [execOp, Instr.buildSlice, Array.toList_map, Sem.run_bind, run_underlying hT.und, Result.andThen_ok, sizeOf, typeInfo, run_program, hi, Sem.run_pure, hi2'.1]
    rw [if_neg (by omega)]
    by_cases h0 : len * sz = 0
    · simp only [h0, if_true] at c1 ⊢
      simp only [pure_bind]
      rw [c1]
      simp [newRow]
    · simp only [h0, if_false] at c1 ⊢
      simp only [Sem.run_bind, zeroValue, typeInfo, run_program, Result.andThen_ok, hi, Sem.run_pure, hz]
      rw [c1]
      simp [newRow]
  · by_cases hne : l = []
    · subst hne
      have : len = 0 := by simp at b2; omega
      subst this
      exact .rowsE true _ 0 (fun _ => rfl)
    · have hll : l.length = len := by omega
      have := DenP.rowsS (H := fun b => if b = w.heap.size then some (Obj.cells cs e) else H b) true l w.heap.size 0 len sz cs e (0, 0) (by simp) hne (by omega) (fun _ => hll.symm) b3 (by
        rw [c2]
        have : ∀ (l : List (List D)), (∀ r ∈ l, r.length = sz) → l.flatten.length = l.length * sz := by
          intro l
          induction l with
          | nil => intro _; simp
          | cons r l ih => intro h; simp [h r (.head _), ih fun r hr => h r (.tail _ hr), Nat.succ_mul]; omega
        rw [this l b3]; omega) (fun i k row d v hi hk hv => by
          have hfl := flatten_get b3 hi hk
          simp only [Nat.zero_add] at hv
          exact ((c4 _ d v hfl hv).toP (D.pureL_mem b4 d (List.mem_of_getElem? hfl))).mono g2) (by omega)
      rw [hll] at this
      exact this
  · rw [St.app_blk] at hk; exact hk
end ops

section code
variable {P : Program} {Q : Exit → St → Prop} {st : St}

theorem Wp.seq {x y : Code} (h : Wp P x (fun e st' => match e with | .normal => Wp P y Q st' | e => Q e st') st) : Wp P (.seq x y) Q st := by
  intro B ρ H a w hR
  refine wp_seq (Go.wp_mono (h B ρ H a w hR) fun e a' w' ⟨st', ρ', H', hR', hq⟩ => ?_)
  cases e with
  | normal => exact hq B ρ' H' a' w' hR'
  | _ => exact ⟨st', ρ', H', hR', hq⟩
theorem Wp.cond {c : Operand} {x y : Code} {b : Bool} (hc : st.val c = some (.bool b)) (ht : b = true → Wp P x Q st) (hf : b = false → Wp P y Q st) : Wp P (.cond c x y) Q st :=
  fun B ρ H a w hR => wp_cond_split (hR.val hc).bool_inv (fun h => ht h B ρ H a w hR) (fun h => hf h B ρ H a w hR)
theorem Wp.block {id : Nat} {c : Code} (h : Wp P c (fun e st' => match e with | .exit i => _root_.cond (Nat.beq i id) (Q .normal st') (Q (.exit i) st') | e => Q e st') st) : Wp P (.block id c) Q st := by
  intro B ρ H a w hR
  refine wp_block (Go.wp_mono (h B ρ H a w hR) fun e a' w' ⟨st', ρ', H', hR', hq⟩ => ?_)
  cases e with
  | exit i =>
    simp only [Exit.inBlock] at hq ⊢
    by_cases hi : i = id
    · rw [if_pos hi]; subst hi; simp only [Nat.beq_refl, cond_true] at hq; exact ⟨st', ρ', H', hR', hq⟩
    · rw [if_neg hi]
      have : Nat.beq i id = false := by rw [← Bool.not_eq_true, Nat.beq_eq]; exact hi
      simp only [this, cond_false] at hq; exact ⟨st', ρ', H', hR', hq⟩
  | _ => exact ⟨st', ρ', H', hR', hq⟩
theorem Wp.ret (h : Q .ret st) : Wp P .ret Q st := fun _ ρ H _ _ hR => wp_ret ⟨st, ρ, H, hR, h⟩
theorem Wp.skip (h : Q .normal st) : Wp P .skip Q st := fun _ ρ H _ _ hR => wp_skip ⟨st, ρ, H, hR, h⟩
theorem Wp.exit {id : Nat} (h : Q (.exit id) st) : Wp P (.exit id) Q st := fun _ ρ H _ _ hR => wp_exit ⟨st, ρ, H, hR, h⟩

/-- What is said of st' is said of st. -/
structure St.Sub (st' st : St) : Prop where
  n : (st'.n, st'.lm) = (st.n, st.lm)
  tm : ∀ p ∈ st'.tmps, st.get p.1 = some p.2
  bl : ∀ j b, st'.blk j = some b → st.blk j = some b
theorem Rel.sub {B : Base} {st st' : St} {ρ : Nat → Loc} {H : GH} {a : Act} {w : World} (h : Rel B st ρ H a w) (hs : st'.Sub st) : Rel B st' ρ H a w :=
  h.congr hs.n (fun _ _ ht => hs.tm _ (alook_mem ht)) hs.bl
theorem plusOn_np {x b : Option Blk} {o : Option (List Nat)} {kd vd : D} : plusOn x b ≠ some (.plus o kd vd) := by
  unfold plusOn
  split
  · unfold addP; split <;> simp
  · rename_i h; intro hx; exact h _ _ _ hx
theorem blkOn_np {l : List (Nat × Option Blk)} {j : Nat} {o : Option (List Nat)} {kd vd : D} : blkOn none l j ≠ some (.plus o kd vd) := by
  induction l with
  | nil => simp [blkOn]
  | cons p l ih => obtain ⟨s, x⟩ := p; rw [blkOn_cons]; split; exact plusOn_np; exact ih

theorem Wp.weaken {c : Code} (st' : St) (hs : st'.Sub st) (h : Wp P c Q st') : Wp P c Q st := fun B ρ H a w hR => h B ρ H a w (hR.sub hs)

/-- The slots named, as the state has them. -/
def St.selT (st : St) : List Nat → Option (List (Nat × D))
  | [] => some []
  | t :: r => match st.get t, st.selT r with
    | some d, some l => some ((t, d) :: l)
    | _, _ => none
def St.selB (st : St) : List Nat → Option (List (Nat × Option Blk))
  | [] => some []
  | j :: r => match st.blk j, st.selB r with
    | some b, some l => some ((j, some b) :: l)
    | _, _ => none
/-- Entry by entry: the state has them so. -/
def St.hasT (st : St) : List (Nat × D) → Prop
  | [] => True
  | (t, d) :: r => st.get t = some d ∧ st.hasT r
def St.hasB (st : St) : List (Nat × Option Blk) → Prop
  | [] => True
  | (j, b) :: r => st.blk j = b ∧ st.hasB r
theorem St.sub_of {st : St} {n lm : Nat} {tm : List (Nat × D)} {ow : List (Nat × Option Blk)} (hn : (n, lm) = (st.n, st.lm)) (ht : st.hasT tm) (hb : st.hasB ow) : (⟨n, tm, ow, lm⟩ : St).Sub st := by
  refine ⟨hn, ?_, ?_⟩
  · clear hb
    induction tm with
    | nil => simp
    | cons p r ih =>
      obtain ⟨t, d⟩ := p
      intro q hq
      rcases List.mem_cons.1 hq with rfl | hq
      · exact ht.1
      · exact ih ht.2 q hq
  · clear ht
    show ∀ j b, blkOn none ow j = some b → st.blk j = some b
    induction ow with
    | nil => simp [blkOn]
    | cons p r ih =>
      obtain ⟨k, x⟩ := p
      intro j b hj
      rw [blkOn_cons] at hj
      split at hj
      · rename_i hkj
        subst hkj
        unfold plusOn at hj
        split at hj
        · exact absurd hb.1 blkOn_np
        · rw [hb.1]; exact hj
      · exact ih hb.2 j b hj

/-- A loop: I: what the state is at its head, by a ghost x of which J holds; μ goes down. -/
theorem Wp.loop {α : Type} (I : α → St) (J : α → Prop) (μ : α → Nat) (x0 : α) {c : Code} (h0 : (I x0).Sub st) (hJ : J x0)
    (round : ∀ x, J x → Wp P c (fun e st' => match e with | .normal => ∃ y, J y ∧ μ y < μ x ∧ (I y).Sub st' | e => Q e st') (I x)) : Wp P (.loop c) Q st := by
  intro B ρ H a w hR
  refine Go.wp_loop_ghost (fun m a w => ∃ x ρ H, J x ∧ μ x = m ∧ Rel B (I x) ρ H a w) (μ x0) ⟨x0, ρ, H, hJ, rfl, hR.sub h0⟩ ?_
  rintro m a w ⟨x, ρ, H, hx, rfl, hR⟩
  refine Go.wp_mono (round x hx B ρ H a w hR) fun e a' w' ⟨st', ρ', H', hR', hq⟩ => ?_
  cases e with
  | normal =>
    obtain ⟨y, hy, hlt, hsub⟩ := hq
    exact ⟨μ y, hlt, y, ρ', H', hy, rfl, hR'.sub hsub⟩
  | _ => exact ⟨st', ρ', H', hR', hq⟩

/-- A loop, as a walk takes it: ks, js: the slots and blocks that stay; U, V lay the others over them. -/
theorem Wp.loopK {α : Type} (ks js : List Nat) (U : α → List (Nat × D) → List (Nat × D)) (V : α → List (Nat × Option Blk) → List (Nat × Option Blk)) (J : α → Prop) (μ : α → Nat) (x0 : α) {c : Code} {kt : List (Nat × D)}
    {ko : List (Nat × Option Blk)} (_hk : st.selT ks = some kt) (_hj : st.selB js = some ko) (hJ : J x0) (h0 : st.hasT (U x0 kt)) (h1 : st.hasB (V x0 ko))
    (round : ∀ x, J x → Wp P c (fun e st' => match e with | .normal => ∃ y, J y ∧ μ y < μ x ∧ st'.hasT (U y kt) ∧ st'.hasB (V y ko) ∧ (st.n, st.lm) = (st'.n, st'.lm) | e => Q e st') ⟨st.n, U x kt, V x ko, st.lm⟩) : Wp P (.loop c) Q st := by
  refine Wp.loop (fun x => ⟨st.n, U x kt, V x ko, st.lm⟩) J μ x0 (St.sub_of rfl h0 h1) hJ fun x hx B ρ H a w hR => ?_
  refine Go.wp_mono (round x hx B ρ H a w hR) fun e a' w' ⟨st', ρ', H', hR', hq⟩ => ⟨st', ρ', H', hR', ?_⟩
  cases e with
  | normal =>
    obtain ⟨y, h2, h3, h4, h5, h6⟩ := hq
    exact ⟨y, h2, h3, St.sub_of h6 h4 h5⟩
  | _ => exact hq

/-- A cut: the ways through x meet again in states that are told by a ghost. -/
theorem Wp.cutK {α : Type} (ks js : List Nat) (U : α → List (Nat × D) → List (Nat × D)) (V : α → List (Nat × Option Blk) → List (Nat × Option Blk)) (J : α → Prop) {x y : Code} {kt : List (Nat × D)} {ko : List (Nat × Option Blk)}
    (_hk : st.selT ks = some kt) (_hj : st.selB js = some ko)
    (h1 : Wp P x (fun e st' => match e with | .normal => ∃ g, J g ∧ st'.hasT (U g kt) ∧ st'.hasB (V g ko) ∧ (st.n, st.lm) = (st'.n, st'.lm) | e => Q e st') st) (h2 : ∀ g, J g → Wp P y Q ⟨st.n, U g kt, V g ko, st.lm⟩) : Wp P (.seq x y) Q st := by
  refine Wp.seq fun B ρ H a w hR => Go.wp_mono (h1 B ρ H a w hR) fun e a' w' ⟨st', ρ', H', hR', hq⟩ => ⟨st', ρ', H', hR', ?_⟩
  cases e with
  | normal =>
    obtain ⟨g, h3, h4, h5, h6⟩ := hq
    exact Wp.weaken _ (St.sub_of h6 h4 h5) (h2 g h3)
  | _ => exact hq
end code

section fn
variable {P : Program}

/-- The arguments' slots. -/
def argTmps : Nat → List D → List (Nat × D)
  | _, [] => []
  | k, d :: r => (k, d) :: argTmps (k + 1) r
theorem argTmps_look : ∀ (l : List D) (k t : Nat) (d : D), alook (argTmps k l) t = some d → k ≤ t ∧ l[t - k]? = some d
  | [], _, _, _, h => by simp [argTmps, alook] at h
  | x :: l, k, t, d, h => by
    simp only [argTmps, alook_cons] at h
    split at h
    · rename_i hk; subst hk; cases h; simp
    · have ⟨h1, h2⟩ := argTmps_look l (k + 1) t d h
      refine ⟨by omega, ?_⟩
      rw [show t - k = (t - (k + 1)) + 1 by omega]; simpa using h2

/-- What a value is when all that the call has made is left alone from then on. -/
def Fz (st : St) (d0 d : D) : Prop := ∀ B ρ H a w v H', Rel B st ρ H a w → B.pass = [] → Den ρ H d0 v → H.le H' → (∀ k o, B.W.heap.size ≤ k → H k = none → w.heap[k]? = some o → H' k = some o) → DenP H' d v
theorem Fz.pure {st : St} {d : D} (hp : d.pureB = true) : Fz st d d := fun _ _ _ _ _ _ _ _ _ hd hle _ => (hd.toP hp).mono hle
inductive FzL (st : St) : List D → List D → Prop
  | nil : FzL st [] []
  | cons {d0 d : D} {l0 l : List D} (h : Fz st d0 d) (r : FzL st l0 l) : FzL st (d0 :: l0) (d :: l)
theorem FzL.get {st : St} {l0 l : List D} (h : FzL st l0 l) : l0.length = l.length ∧ ∀ (k : Nat) (d : D), l[k]? = some d → ∃ d0, l0[k]? = some d0 ∧ Fz st d0 d := by
  induction h with
  | nil => simp
  | cons h r ih =>
    refine ⟨by simp [ih.1], fun k d hk => ?_⟩
    cases k with
    | zero => simp at hk; subst hk; exact ⟨_, rfl, h⟩
    | succ k => exact ih.2 k d (by simpa using hk)
theorem Fz.agg {st : St} {l0 l : List D} (h : FzL st l0 l) : Fz st (.agg l0) (.agg l) := fun B ρ H a w v H' hR hp hd hle hf => by
  obtain ⟨cs, rfl, hs, he⟩ := hd.agg_inv
  obtain ⟨h1, h2⟩ := h.get
  refine .agg l cs (by rw [hs, h1]) fun k d v hk hv => ?_
  obtain ⟨d0, h3, h4⟩ := h2 k d hk
  exact h4 B ρ H a w v H' hR hp (he k d0 v h3 hv) hle hf

def resOne (tmps : Array Value) : ResultVar → Sem Value
  | .tmp t => Pure.pure (tmps.getD t undef)
  | .cell b t => do loadVar t (← asAddr (tmps.getD b undef))
theorem results_eq (fn : Func) (tmps : Array Value) : results fn tmps = (do let vs ← fn.results.mapM (resOne tmps); Pure.pure (if h : vs.size = 1 then vs[0] else .tuple vs)) := by
  unfold results
  have : (fun r : ResultVar => (match r with | .tmp t => Pure.pure (tmps.getD t undef) | .cell a t => do loadVar t (← asAddr (tmps.getD a undef)) : Sem Value)) = resOne tmps := by funext r; cases r <;> rfl
  rw [← this]
  rfl

/-- A result. -/
inductive RetV (P : Program) (st : St) : ResultVar → D → Prop
  | tmp {t : Nat} {d0 d : D} (h : st.get t = some d0) (hf : Fz st d0 d) : RetV P st (.tmp t) d
  | cell {t : Nat} {T bt : TypeId} {agg : Bool} {n j off : Nat} {l : List D} {d0 d : D} [hT : TyF P T agg n] (h : st.get t = some (.ptr j off)) (hj : st.blk j = some (.cells bt l)) (hl : ldD agg n (l.drop off) = some d0)
      (ho : off ≤ l.length) (hf : Fz st d0 d) : RetV P st (.cell t T) d
inductive RetL (P : Program) (st : St) : List ResultVar → List D → Prop
  | nil : RetL P st [] []
  | cons {r : ResultVar} {d : D} {rs : List ResultVar} {ds : List D} (h : RetV P st r d) (t : RetL P st rs ds) : RetL P st (r :: rs) (d :: ds)
def retD : List D → D
  | [d] => d
  | l => .tup l

theorem RetV.run {st : St} {r : ResultVar} {d : D} (h : RetV P st r d) {B : Base} {ρ : Nat → Loc} {H H' : GH} {a : Act} {w : World} (hR : Rel B st ρ H a w) (hp : B.pass = []) (hle : H.le H')
    (hf : ∀ k o, B.W.heap.size ≤ k → H k = none → w.heap[k]? = some o → H' k = some o) :
    ∃ v, (resOne a.tmps r).run P w = .ok v w ∧ DenP H' d v := by
  cases h with
  | tmp h hfz =>
    have hd := hR.val (x := .tmp _) h
    exact ⟨_, rfl, hfz B ρ H a w _ H' hR hp hd hle hf⟩
  | @cell t T bt agg n j off l d0 _ hT h hj hl ho hfz =>
    obtain ⟨hh, h1⟩ := (hR.val (x := .tmp _) h).ptr_inv
    obtain ⟨_, arr, hb, hsz, he⟩ := hR.wr.own _ _ hj
    obtain ⟨v, hv, hden⟩ := load_run (P := P) (ρ := ρ) (H := H) hT hb (l := l.drop off) (off := off) (by simp; omega) (fun k d v h1 h2 => he (off + k) d v (by simpa using h1) h2) hl
    refine ⟨v, ?_, hfz B ρ H a w v H' hR hp hden hle hf⟩
    simp only [Act.eval] at h1
    simp only [resOne, Sem.run_bind, h1, asAddr, Sem.run_pure, Result.andThen_ok, hv]

theorem RetL.run {st : St} {rs : List ResultVar} {ds : List D} (h : RetL P st rs ds) {B : Base} {ρ : Nat → Loc} {H H' : GH} {a : Act} {w : World} (hR : Rel B st ρ H a w) (hp : B.pass = []) (hle : H.le H')
    (hf : ∀ k o, B.W.heap.size ≤ k → H k = none → w.heap[k]? = some o → H' k = some o) :
    ∃ vs, (rs.mapM (resOne a.tmps)).run P w = .ok vs w ∧ vs.length = ds.length ∧
      ∀ (k : Nat) (d : D) (v : Value), ds[k]? = some d → vs[k]? = some v → DenP H' d v := by
  induction h with
  | nil => exact ⟨[], rfl, rfl, by simp⟩
  | cons h t ih =>
    obtain ⟨v, h1, h2⟩ := h.run hR hp hle hf
    obtain ⟨vs, h3, h4, h5⟩ := ih
    refine ⟨v :: vs, ?_, by simp [h4], fun k d u hk hu => ?_⟩
    · simp only [List.mapM_cons, Sem.run_bind]
      rw [h1]
      simp only [Result.andThen_ok]
      rw [h3]
      simp only [Result.andThen_ok, Sem.run_pure]
    · cases k with
      | zero => simp at hk hu; subst hk; subst hu; exact h2
      | succ k => exact h5 k d u (by simpa using hk) (by simpa using hu)

/-- What a body must come to. -/
def Ends (P : Program) (fn : Func) (d : D) : Exit → St → Prop := fun e st => (e = .normal ∨ e = .ret) ∧ ∃ ds, RetL P st fn.results.toList ds ∧ d = retD ds

theorem Ends.ret {fn : Func} {d : D} {st : St} {ds : List D} (h : RetL P st fn.results.toList ds) (hd : d = retD ds) : Ends P fn d .ret st := ⟨.inr rfl, ds, h, hd⟩
theorem Ends.normal {fn : Func} {d : D} {st : St} {ds : List D} (h : RetL P st fn.results.toList ds) (hd : d = retD ds) : Ends P fn d .normal st := ⟨.inl rfl, ds, h, hd⟩

theorem FnP.of_body {f : FuncId} {fn : Func} {c : Code} {args : List D} {d : D} (hf : P.funcs[f]? = some fn) (hb : fn.body = some c) (hnm : (fn.name == "runtime.NumGoroutine") = false) (hn : Nat.ble args.length fn.ntmps = true)
    (h : Wp P c (Ends P fn d) ⟨fn.ntmps, argTmps 0 args, [], 0⟩) : FnP P f args d := by
  refine ⟨⟨fn, hf, by simp [hb], hnm⟩, fun W H vs hpers hsz hden => ?_⟩
  refine calls_of_wp hf hb ?_
  have hn' : args.length ≤ fn.ntmps := by simpa using hn
  have hR : Rel ⟨W, H, [], fun _ => none⟩ ⟨fn.ntmps, argTmps 0 args, [], 0⟩ (fun _ => ⟨0, 0, 0, false⟩) H { tmps := vs ++ Array.replicate (fn.ntmps - vs.size) undef, defers := [] } W := by
    refine ⟨by simp; omega, rfl, fun t d ht => ?_, ⟨by simp [St.blk, blkOn], by simp [St.blk, blkOn], by simp [St.blk, blkOn], by simp [St.blk, blkOn], hpers, GH.le_refl _, fun _ _ h => .inl h, Nat.le_refl _, fun _ _ _ => rfl, rfl, rfl, rfl, fun _ _ h => by cases h⟩, fun _ _ h => by cases h⟩
    obtain ⟨_, h2⟩ := argTmps_look args 0 t d ht
    simp only [Nat.sub_zero] at h2
    have hlt : t < vs.size := by rw [hsz]; exact (List.getElem?_eq_some_iff.1 h2).1
    exact ⟨vs[t], by rw [Array.getElem?_append_left hlt]; simp [hlt], .pure (hden t d _ h2 (by simp [hlt]))⟩
  refine Go.wp_mono (h _ _ _ _ _ hR) fun e a' w' ⟨st', ρ', H', hR', he, ds, hret, hds⟩ => ?_
  have hle : H'.le fun b => match H' b with | some o => some o | none => if W.heap.size ≤ b then w'.heap[b]? else none := fun b o hb => by simp [hb]
  obtain ⟨vs', h1, h2, h3⟩ := hret.run hR' rfl hle (fun k o h4 h5 h6 => by simp only [h5, if_pos h4]; exact h6)
  have hres : ∃ v, (results fn a'.tmps).run P w' = .ok v w' ∧ DenP (fun b => match H' b with | some o => some o | none => if W.heap.size ≤ b then w'.heap[b]? else none) d v := by
    have hm : (fn.results.mapM (resOne a'.tmps)).run P w' = .ok vs'.toArray w' := by
      rw [Array.mapM_eq_mapM_toList]
      simp only [Sem.run_map]
      rw [h1]
      simp
    refine ⟨if h : vs'.toArray.size = 1 then vs'.toArray[0] else .tuple vs'.toArray, ?_, ?_⟩
    · rw [results_eq]
      simp only [Sem.run_bind]
      rw [hm]
      simp
    · subst hds
      match ds, vs', h2, h3 with
      | [d], [v], _, h3 => exact h3 0 d v rfl rfl
      | [], [], _, _ => exact .tup [] _ rfl (by simp)
      | x :: y :: r, u :: v :: q, h2, h3 => exact .tup _ _ (by simpa using h2) fun k d v hk hv => h3 k d v hk (by simpa using hv)
      | [], _ :: _, h2, _ => simp at h2
      | [_], [], h2, _ => simp at h2
      | [_], _ :: _ :: _, h2, _ => simp at h2
      | _ :: _ :: _, [], h2, _ => simp at h2
      | _ :: _ :: _, [_], h2, _ => simp at h2
  obtain ⟨v, h4, h5⟩ := hres
  have hgoal : ∃ v', (results fn a'.tmps).run P w' = .ok v' w' ∧ ∃ v H', Ending.returned v' = .returned v ∧ DenP H' d v ∧ Behind W H H' w' := by
    refine ⟨v, h4, v, _, rfl, h5, ⟨GH.le_trans hR'.wr.hext hle, fun b o hb => ?_, fun b o hb => ?_, hR'.wr.size, fun k hk => hR'.wr.frame k hk (by simp), hR'.wr.os, hR'.wr.tape, hR'.wr.output⟩⟩
    · split at hb
      · rename_i o' ho; cases hb; exact hR'.wr.pers b _ ho
      · split at hb
        · exact hb
        · cases hb
    · split at hb
      · rename_i o' ho
        cases hb
        rcases hR'.wr.hnew b _ ho with h6 | h6 | h6
        · exact .inl h6
        · exact .inr h6
        · cases h6
      · split at hb
        · rename_i hlt; exact .inr hlt
        · cases hb
  rcases he with rfl | rfl
  · exact ⟨hR'.df, hgoal⟩
  · exact ⟨hR'.df, hgoal⟩
end fn
end Go.Eng

/- The engine, part F: the steps of a walk, one lemma an operation, the state written out. No program in sight. -/
namespace Go.Eng
open Go

/-- The guard lets the operation run. -/
inductive Gd (ops : Array Oper) (st : St) : Option (Nat × Bool) → Prop
  | none : Gd ops st none
  | want {g s : Nat} {want b : Bool} (hs : (ops[g]?).bind (·.dst) = some s) (hb : st.get s = some (.bool b)) (h : b = want) : Gd ops st (some (g, want))

section
variable {P : Program} {ops : Array Oper} {r : List Oper} {acc : List Eff} {n lm : Nat} {tm : List (Nat × D)} {ow : List (Nat × Option Blk)} {F : List Eff → St → Prop}
  {t : Nat} {ty : TypeId} {pos : String} {af : Array Edge} {g : Option (Nat × Bool)} {d : D}

theorem step {o : Oper} {st : St} {e : Eff} (hok : LOk P o st e) (hg : Gd ops st o.guard) (hf : e.new.all st.freshB = true) (h : WpD P ops r (e :: acc) (st.app o.dst e) F) : WpD P ops (o :: r) acc st F := by
  refine ⟨e, ?_, hf, h⟩
  generalize hgg : o.guard = gd at hg
  cases hg with
  | none => exact .plain hgg hok
  | want hs hb h => subst h; exact .wanted _ _ _ hgg hs hb hok

theorem done {st : St} (h : F acc.reverse st) : WpD P ops [] acc st F := h

/-- An operation that its guard passes over. -/
theorem sk {op : Op} {k s : Nat} {want b : Bool} (hs : (ops[k]?).bind (·.dst) = some s) (hb : St.get ⟨n, tm, ow, lm⟩ s = some (.bool b)) (hw : b = !want) (hd : Nat.blt t n = true)
    (h : WpD P ops r (skipEff :: acc) ⟨n, (t, .tup []) :: tm, ow, lm⟩ F) : WpD P ops (⟨some t, op, ty, pos, af, some (k, want)⟩ :: r) acc ⟨n, tm, ow, lm⟩ F :=
  ⟨skipEff, .passed k want s rfl hs (.inl (by rw [hb, hw])) (fun u hu => by cases hu; simpa [Nat.blt_eq] using hd) rfl, rfl, h⟩
theorem sku {op : Op} {k s : Nat} {want : Bool} (hs : (ops[k]?).bind (·.dst) = some s) (hb : St.get ⟨n, tm, ow, lm⟩ s = some (.tup [])) (hd : Nat.blt t n = true)
    (h : WpD P ops r (skipEff :: acc) ⟨n, (t, .tup []) :: tm, ow, lm⟩ F) : WpD P ops (⟨some t, op, ty, pos, af, some (k, want)⟩ :: r) acc ⟨n, tm, ow, lm⟩ F :=
  ⟨skipEff, .passed k want s rfl hs (.inr hb) (fun u hu => by cases hu; simpa [Nat.blt_eq] using hd) rfl, rfl, h⟩

theorem blt_lt {a b : Nat} (h : Nat.blt a b = true) : a < b := by simpa [Nat.blt_eq] using h

theorem mv {x : Operand} (hx : St.val ⟨n, tm, ow, lm⟩ x = some d) (hd : Nat.blt t n = true) (hg : Gd ops ⟨n, tm, ow, lm⟩ g) (h : WpD P ops r (⟨[], [], d, []⟩ :: acc) ⟨n, (t, d) :: tm, ow, lm⟩ F) :
    WpD P ops (⟨some t, .move x, ty, pos, af, g⟩ :: r) acc ⟨n, tm, ow, lm⟩ F := step (lok_move hx (blt_lt hd)) hg rfl h
theorem asg {x : Operand} (hx : St.val ⟨n, tm, ow, lm⟩ x = some d) (hd : Nat.blt t n = true) (hg : Gd ops ⟨n, tm, ow, lm⟩ g) (h : WpD P ops r (⟨[], [], d, []⟩ :: acc) ⟨n, (t, d) :: tm, ow, lm⟩ F) :
    WpD P ops (⟨some t, .assign x, ty, pos, af, g⟩ :: r) acc ⟨n, tm, ow, lm⟩ F := step (lok_assign hx (blt_lt hd)) hg rfl h
theorem pkt {c x y : Operand} {b : Bool} (hc : St.val ⟨n, tm, ow, lm⟩ c = some (.bool b)) (hb : b = true) (hx : St.val ⟨n, tm, ow, lm⟩ x = some d) (hd : Nat.blt t n = true) (hg : Gd ops ⟨n, tm, ow, lm⟩ g)
    (h : WpD P ops r (⟨[], [], d, []⟩ :: acc) ⟨n, (t, d) :: tm, ow, lm⟩ F) : WpD P ops (⟨some t, .pick c x y, ty, pos, af, g⟩ :: r) acc ⟨n, tm, ow, lm⟩ F := step (lok_pick_t (hb ▸ hc) hx (blt_lt hd)) hg rfl h
theorem pkf {c x y : Operand} {b : Bool} (hc : St.val ⟨n, tm, ow, lm⟩ c = some (.bool b)) (hb : b = false) (hx : St.val ⟨n, tm, ow, lm⟩ y = some d) (hd : Nat.blt t n = true) (hg : Gd ops ⟨n, tm, ow, lm⟩ g)
    (h : WpD P ops r (⟨[], [], d, []⟩ :: acc) ⟨n, (t, d) :: tm, ow, lm⟩ F) : WpD P ops (⟨some t, .pick c x y, ty, pos, af, g⟩ :: r) acc ⟨n, tm, ow, lm⟩ F := step (lok_pick_f (hb ▸ hc) hx (blt_lt hd)) hg rfl h
theorem cmp {op : BinOp} {x y : Operand} {xt yt : TypeId} {k : IntKind} {a b : Int} {c : Bool} (hx : St.val ⟨n, tm, ow, lm⟩ x = some (.int k a)) (hy : St.val ⟨n, tm, ow, lm⟩ y = some (.int k b)) (hb : cmpInt op a b = some c) (hd : Nat.blt t n = true)
    (hg : Gd ops ⟨n, tm, ow, lm⟩ g) (h : WpD P ops r (⟨[], [], .bool c, []⟩ :: acc) ⟨n, (t, .bool c) :: tm, ow, lm⟩ F) : WpD P ops (⟨some t, .binOp op xt x y yt, ty, pos, af, g⟩ :: r) acc ⟨n, tm, ow, lm⟩ F := step (lok_cmp hx hy hb (blt_lt hd)) hg rfl h
theorem ar {op : BinOp} {x y : Operand} {xt yt : TypeId} {k : IntKind} {a b c : Int} (s : Int) (hx : St.val ⟨n, tm, ow, lm⟩ x = some (.int k a)) (hy : St.val ⟨n, tm, ow, lm⟩ y = some (.int k b)) (hb : arInt op a b = some c) (hw : k.wrap c = s)
    (hd : Nat.blt t n = true) (hg : Gd ops ⟨n, tm, ow, lm⟩ g) (h : WpD P ops r (⟨[], [], .int k s, []⟩ :: acc) ⟨n, (t, .int k s) :: tm, ow, lm⟩ F) : WpD P ops (⟨some t, .binOp op xt x y yt, ty, pos, af, g⟩ :: r) acc ⟨n, tm, ow, lm⟩ F :=
  step (lok_ar hx hy hb hw (blt_lt hd)) hg rfl h
theorem nt {x : Operand} {xt : TypeId} {b : Bool} (hx : St.val ⟨n, tm, ow, lm⟩ x = some (.bool b)) (hd : Nat.blt t n = true) (hg : Gd ops ⟨n, tm, ow, lm⟩ g) (h : WpD P ops r (⟨[], [], .bool (!b), []⟩ :: acc) ⟨n, (t, .bool (!b)) :: tm, ow, lm⟩ F) :
    WpD P ops (⟨some t, .unOp .not xt x, ty, pos, af, g⟩ :: r) acc ⟨n, tm, ow, lm⟩ F := step (lok_not hx (blt_lt hd)) hg rfl h
theorem xt {x : Operand} {i : Nat} {l : List D} (hx : St.val ⟨n, tm, ow, lm⟩ x = some (.tup l)) (hi : l[i]? = some d) (hd : Nat.blt t n = true) (hg : Gd ops ⟨n, tm, ow, lm⟩ g) (h : WpD P ops r (⟨[], [], d, []⟩ :: acc) ⟨n, (t, d) :: tm, ow, lm⟩ F) :
    WpD P ops (⟨some t, .extract x i, ty, pos, af, g⟩ :: r) acc ⟨n, tm, ow, lm⟩ F := step (lok_extract hx hi (blt_lt hd)) hg rfl h
theorem ln {x : Operand} {xt e : TypeId} {sz by_ : Nat} {full : Bool} {l : List (List D)} [hT : TySl P xt e sz by_] (hx : St.val ⟨n, tm, ow, lm⟩ x = some (.rows full l)) (hd : Nat.blt t n = true) (hg : Gd ops ⟨n, tm, ow, lm⟩ g)
    (h : WpD P ops r (⟨[], [], .int .i64 l.length, []⟩ :: acc) ⟨n, (t, .int .i64 l.length) :: tm, ow, lm⟩ F) : WpD P ops (⟨some t, .call ⟨.builtin .len, #[x], #[xt]⟩, ty, pos, af, g⟩ :: r) acc ⟨n, tm, ow, lm⟩ F := step (lok_len hx (blt_lt hd)) hg rfl h
theorem fa {x : Operand} {xt : TypeId} {f j off fo fn : Nat} {fs : List (Nat × Nat)} [hT : TyS P xt fs] (hx : St.val ⟨n, tm, ow, lm⟩ x = some (.ptr j off)) (hf : fs[f]? = some (fo, fn + 1)) (hd : Nat.blt t n = true) (hg : Gd ops ⟨n, tm, ow, lm⟩ g)
    (h : WpD P ops r (⟨[], [], .ptr j (off + fo), []⟩ :: acc) ⟨n, (t, .ptr j (off + fo)) :: tm, ow, lm⟩ F) : WpD P ops (⟨some t, .fieldAddr xt x f, ty, pos, af, g⟩ :: r) acc ⟨n, tm, ow, lm⟩ F := step (lok_fieldAddr_ptr hx hf (blt_lt hd)) hg rfl h
theorem fap {x : Operand} {xt : TypeId} {f fo fn : Nat} {fs : List (Nat × Nat)} {l : List D} [hT : TyS P xt fs] (hx : St.val ⟨n, tm, ow, lm⟩ x = some (.pp l)) (hf : fs[f]? = some (fo, fn + 1)) (hl : Nat.ble fo l.length = true) (hd : Nat.blt t n = true)
    (hg : Gd ops ⟨n, tm, ow, lm⟩ g) (h : WpD P ops r (⟨[], [], .pp (l.drop fo), []⟩ :: acc) ⟨n, (t, .pp (l.drop fo)) :: tm, ow, lm⟩ F) : WpD P ops (⟨some t, .fieldAddr xt x f, ty, pos, af, g⟩ :: r) acc ⟨n, tm, ow, lm⟩ F :=
  step (lok_fieldAddr_pp hx hf (by simpa using hl) (blt_lt hd)) hg rfl h
theorem ldp {x : Operand} {T : TypeId} {agg : Bool} {m : Nat} {l : List D} [hT : TyF P T agg m] (hx : St.val ⟨n, tm, ow, lm⟩ x = some (.pp l)) (hl : ldD agg m l = some d) (hd : Nat.blt t n = true) (hg : Gd ops ⟨n, tm, ow, lm⟩ g)
    (h : WpD P ops r (⟨[], [], d, []⟩ :: acc) ⟨n, (t, d) :: tm, ow, lm⟩ F) : WpD P ops (⟨some t, .load T x, ty, pos, af, g⟩ :: r) acc ⟨n, tm, ow, lm⟩ F := step (lok_load_pp hx hl (blt_lt hd)) hg rfl h
theorem ld {x : Operand} {T bt : TypeId} {agg : Bool} {m j off : Nat} {l : List D} [hT : TyF P T agg m] (hx : St.val ⟨n, tm, ow, lm⟩ x = some (.ptr j off)) (hj : St.blk ⟨n, tm, ow, lm⟩ j = some (.cells bt l)) (hl : ldD agg m (l.drop off) = some d)
    (ho : Nat.ble off l.length = true) (hd : Nat.blt t n = true) (hg : Gd ops ⟨n, tm, ow, lm⟩ g) (h : WpD P ops r (⟨[j], [], d, []⟩ :: acc) ⟨n, (t, d) :: tm, ow, lm⟩ F) :
    WpD P ops (⟨some t, .load T x, ty, pos, af, g⟩ :: r) acc ⟨n, tm, ow, lm⟩ F := step (lok_load_ptr hx hj hl (by simpa using ho) (blt_lt hd)) hg rfl h
theorem sto {x y : Operand} {T bt : TypeId} {agg : Bool} {m j off : Nat} {l l' : List D} [hT : TyF P T agg m] (hx : St.val ⟨n, tm, ow, lm⟩ x = some (.ptr j off)) (hj : St.blk ⟨n, tm, ow, lm⟩ j = some (.cells bt l)) (hy : St.val ⟨n, tm, ow, lm⟩ y = some d)
    (hm : d.flat.length = m) (hc : (d.flat.all D.cell && off + m ≤ l.length && d.known) = true) (hl : putL l off d.flat = l') (hg : Gd ops ⟨n, tm, ow, lm⟩ g)
    (h : WpD P ops r (⟨[j], [], .any, [(j, some (.cells bt l'))]⟩ :: acc) ⟨n, tm, (j, some (.cells bt l')) :: ow, lm⟩ F) : WpD P ops (⟨none, .store T x y, ty, pos, af, g⟩ :: r) acc ⟨n, tm, ow, lm⟩ F := step (lok_store_ptr hx hj hy hm hc hl) hg rfl h
theorem al (j : Nat) {T : TypeId} {zs : List D} [hZ : TyZ P T zs] (hf : St.freshB ⟨n, tm, ow, lm⟩ j = true) (hd : Nat.blt t n = true) (hg : Gd ops ⟨n, tm, ow, lm⟩ g)
    (h : WpD P ops r (⟨[], [j], .ptr j 0, [(j, some (.cells T zs))]⟩ :: acc) ⟨n, (t, .ptr j 0) :: tm, (j, some (.cells T zs)) :: ow, lm⟩ F) : WpD P ops (⟨some t, .alloc T, ty, pos, af, g⟩ :: r) acc ⟨n, tm, ow, lm⟩ F :=
  step (lok_alloc j (blt_lt hd)) hg (by simpa using hf) h
theorem bx (j : Nat) {T : TypeId} {x : Operand} (hx : St.val ⟨n, tm, ow, lm⟩ x = some d) (ha : d.known = true) (hf : St.freshB ⟨n, tm, ow, lm⟩ j = true) (hd : Nat.blt t n = true) (hg : Gd ops ⟨n, tm, ow, lm⟩ g)
    (h : WpD P ops r (⟨[], [j], .ptr j 0, [(j, some (.cells T d.flat))]⟩ :: acc) ⟨n, (t, .ptr j 0) :: tm, (j, some (.cells T d.flat)) :: ow, lm⟩ F) : WpD P ops (⟨some t, .box T x, ty, pos, af, g⟩ :: r) acc ⟨n, tm, ow, lm⟩ F :=
  step (lok_box j hx ha (blt_lt hd)) hg (by simpa using hf) h
theorem bd {T : TypeId} {parts : Array (Nat × Operand)} {zs ds : List D} {fs : List (Nat × Nat)} {ps : List (Nat × D)} [hZ : TyZ P T zs] [hS : TyS P T fs] (hx : St.valsP ⟨n, tm, ow, lm⟩ parts.toList = some ps) (hb : bldD fs zs ps = some ds)
    (hd : Nat.blt t n = true) (hg : Gd ops ⟨n, tm, ow, lm⟩ g) (h : WpD P ops r (⟨[], [], .agg ds, []⟩ :: acc) ⟨n, (t, .agg ds) :: tm, ow, lm⟩ F) : WpD P ops (⟨some t, .build T parts, ty, pos, af, g⟩ :: r) acc ⟨n, tm, ow, lm⟩ F :=
  step (lok_build hx hb (blt_lt hd)) hg rfl h
theorem bs {T e : TypeId} {len sz by_ : Nat} {parts : Array (Nat × Operand)} {zs : List D} {ps : List (Nat × D)} {l : List (List D)} [hT : TySl P T e sz by_] [hZ : TyZ P e zs] (hx : St.valsP ⟨n, tm, ow, lm⟩ parts.toList = some ps)
    (hl : bsD sz 0 ps = some l) (hn : (Nat.beq ps.length len && Nat.ble (len * sz) 16777216 && Nat.ble len 16777216) = true) (hd : Nat.blt t n = true) (hg : Gd ops ⟨n, tm, ow, lm⟩ g) (h : WpD P ops r (⟨[], [], .rows true l, []⟩ :: acc) ⟨n, (t, .rows true l) :: tm, ow, lm⟩ F) :
    WpD P ops (⟨some t, .buildSlice T len parts, ty, pos, af, g⟩ :: r) acc ⟨n, tm, ow, lm⟩ F := step (lok_slice_lit hx hl hn (blt_lt hd)) hg rfl h
theorem ia {x y : Operand} {T e : TypeId} {sz by_ : Nat} {k : IntKind} {i : Int} {full : Bool} {l : List (List D)} [hT : TySl P T e sz by_] (m : Nat) (row : List D) (hx : St.val ⟨n, tm, ow, lm⟩ x = some (.rows full l)) (hy : St.val ⟨n, tm, ow, lm⟩ y = some (.int k i))
    (hi : i = (m : Int)) (hm : l[m]? = some row) (hrow : row.length = sz) (hd : Nat.blt t n = true) (hg : Gd ops ⟨n, tm, ow, lm⟩ g) (h : WpD P ops r (⟨[], [], .pp row, []⟩ :: acc) ⟨n, (t, .pp row) :: tm, ow, lm⟩ F) :
    WpD P ops (⟨some t, .indexAddr T x y, ty, pos, af, g⟩ :: r) acc ⟨n, tm, ow, lm⟩ F := step (lok_indexAddr hx hy hi hm hrow (blt_lt hd)) hg rfl h
theorem cmb {op : BinOp} {x y : Operand} {xt yt : TypeId} {a b c : Bool} [hT : TyB P xt] (hx : St.val ⟨n, tm, ow, lm⟩ x = some (.bool a)) (hy : St.val ⟨n, tm, ow, lm⟩ y = some (.bool b)) (hb : cmpBool op a b = some c) (hd : Nat.blt t n = true)
    (hg : Gd ops ⟨n, tm, ow, lm⟩ g) (h : WpD P ops r (⟨[], [], .bool c, []⟩ :: acc) ⟨n, (t, .bool c) :: tm, ow, lm⟩ F) : WpD P ops (⟨some t, .binOp op xt x y yt, ty, pos, af, g⟩ :: r) acc ⟨n, tm, ow, lm⟩ F := step (lok_cmpB hx hy hb (blt_lt hd)) hg rfl h
theorem cms {op : BinOp} {x y : Operand} {xt yt : TypeId} {l m : List D} {ks : List Nat} {b c : Bool} [hT : TyEq P xt ks] (hx : St.val ⟨n, tm, ow, lm⟩ x = some (.agg l)) (hy : St.val ⟨n, tm, ow, lm⟩ y = some (.agg m)) (hb : eqDs ks l m = some b) (hc : cmpEq op b = some c)
    (hd : Nat.blt t n = true) (hg : Gd ops ⟨n, tm, ow, lm⟩ g) (h : WpD P ops r (⟨[], [], .bool c, []⟩ :: acc) ⟨n, (t, .bool c) :: tm, ow, lm⟩ F) : WpD P ops (⟨some t, .binOp op xt x y yt, ty, pos, af, g⟩ :: r) acc ⟨n, tm, ow, lm⟩ F :=
  step (lok_cmpS hx hy hb hc (blt_lt hd)) hg rfl h
theorem cl {y : Operand} {xs : Array Operand} {ats : Array TypeId} {f : FuncId} {ds caps : List D} (hy : St.val ⟨n, tm, ow, lm⟩ y = some (.fn f caps)) (hx : St.vals ⟨n, tm, ow, lm⟩ xs.toList = some ds) (hs : FnP P f (ds ++ caps) d)
    (hp : (D.pureL (ds ++ caps) && d.pureB) = true) (hd : Nat.blt t n = true) (hg : Gd ops ⟨n, tm, ow, lm⟩ g) (h : WpD P ops r (⟨[], [], d, []⟩ :: acc) ⟨n, (t, d) :: tm, ow, lm⟩ F) :
    WpD P ops (⟨some t, .call ⟨.value y, xs, ats⟩, ty, pos, af, g⟩ :: r) acc ⟨n, tm, ow, lm⟩ F := step (lok_call hy hx hs hp (blt_lt hd)) hg rfl h
theorem ifc {x : Operand} {T : TypeId} [hT : TyConc P T] (hx : St.val ⟨n, tm, ow, lm⟩ x = some d) (hd : Nat.blt t n = true) (hg : Gd ops ⟨n, tm, ow, lm⟩ g) (h : WpD P ops r (⟨[], [], .iface T d, []⟩ :: acc) ⟨n, (t, .iface T d) :: tm, ow, lm⟩ F) :
    WpD P ops (⟨some t, .makeInterface T x, ty, pos, af, g⟩ :: r) acc ⟨n, tm, ow, lm⟩ F := step (lok_iface hx (blt_lt hd)) hg rfl h
theorem mkf {fn : FuncId} {xs : Array Operand} {caps : List D} (hx : St.vals ⟨n, tm, ow, lm⟩ xs.toList = some caps) (hd : Nat.blt t n = true) (hg : Gd ops ⟨n, tm, ow, lm⟩ g) (h : WpD P ops r (⟨[], [], .fn fn caps, []⟩ :: acc) ⟨n, (t, .fn fn caps) :: tm, ow, lm⟩ F) :
    WpD P ops (⟨some t, .makeFunc (.func fn) #[] xs, ty, pos, af, g⟩ :: r) acc ⟨n, tm, ow, lm⟩ F := step (lok_func hx (blt_lt hd)) hg rfl h
theorem inv {y : Operand} {xs : Array Operand} {ats : Array TypeId} {name : String} {T : TypeId} {f : FuncId} {ds : List D} {q : D} [hM : Mth P T name f] (hy : St.val ⟨n, tm, ow, lm⟩ y = some (.iface T q)) (hx : St.vals ⟨n, tm, ow, lm⟩ xs.toList = some ds)
    (hs : FnP P f (q :: ds) d) (hp : (D.pureL (q :: ds) && d.pureB) = true) (hd : Nat.blt t n = true) (hg : Gd ops ⟨n, tm, ow, lm⟩ g) (h : WpD P ops r (⟨[], [], d, []⟩ :: acc) ⟨n, (t, d) :: tm, ow, lm⟩ F) :
    WpD P ops (⟨some t, .call ⟨.invoke y name, xs, ats⟩, ty, pos, af, g⟩ :: r) acc ⟨n, tm, ow, lm⟩ F := step (lok_invoke hy hx hs hp (blt_lt hd)) hg rfl h

/-- The slot s bears a bool: both ways. -/
theorem bcase {st : St} (s : Nat) {b : Bool} (_h : st.get s = some (.bool b)) (ht : b = true → WpD P ops r acc st F) (hf : b = false → WpD P ops r acc st F) : WpD P ops r acc st F := by cases b; exact hf rfl; exact ht rfl

theorem reg {id : Nat} {l : List Oper} {Q : Exit → St → Prop} {st : St} (h : WpD P l.toArray l [] st fun _ st' => Q .normal st') : Wp P (.region id l.toArray false) Q st := Wp.region h
theorem regd {id : Nat} {l : List Oper} {Q : Exit → St → Prop} {st : St} (hm : P.follows .mixedOrders = true) (h : WpD P l.toArray l [] st fun es st' => edgesBack l.toArray = true ∧ okDraw l.toArray es = true ∧ Q .normal st') :
    Wp P (.region id l.toArray true) Q st := Wp.draw hm h
end
end Go.Eng

/- The engine, part G: maps. No program in sight. -/
namespace Go.Eng
open Go

/-- A type of keys. -/
class TyK (P : Program) (t : TypeId) (o : outParam (Option (List Nat))) : Prop where
  key : match o with
    | none => ∃ k, TyI P t k
    | some ks => TyEq P t ks

/-- The first yes. -/
def fr : List Bool → List MapEntry → Nat → Option (Nat × Value)
  | b :: bs, e :: es, i => if b then some (i, e.val) else fr bs es (i + 1)
  | _, _, _ => none

section
variable {P : Program} {w : World} {ρ : Nat → Loc} {H : GH}

theorem eqKD_int {a b : D} {r : Bool} (h : eqKD none a b = some r) : ∃ k x y, a = .int k x ∧ b = .int k y ∧ r = (x == y) := by
  unfold eqKD at h
  split at h
  · rename_i k x k' y _
    split at h
    · rename_i hk; subst hk; cases h; exact ⟨k, x, y, rfl, rfl, rfl⟩
    · cases h
  · rename_i ks _ _ h1; cases h1
  · cases h
theorem eqKD_agg {ks : List Nat} {a b : D} {r : Bool} (h : eqKD (some ks) a b = some r) : ∃ l m, a = .agg l ∧ b = .agg m ∧ eqDs ks l m = some r := by
  unfold eqKD at h
  split at h
  · rename_i h1; cases h1
  · rename_i ks' l m h1; cases h1; exact ⟨l, m, rfl, rfl, h⟩
  · cases h

theorem findNow_int {k : IntKind} {x : Int} {ik : IntKind} : ∀ (es : List MapEntry) (l : List (D × D)) (bs : List Bool) (i : Nat), es.length = l.length → (l.map fun e => eqKD none (.int k x) e.1) = bs.map some →
    (∀ (q : Nat) (p : D × D) (e : MapEntry), l[q]? = some p → es[q]? = some e → Den ρ H p.1 e.key) → Instr.findNow (.int ik) (.int k x) es i = some (fr bs es i)
  | [], [], [], _, _, _, _ => rfl
  | [], _ :: _, _, _, h, _, _ => by simp at h
  | _ :: _, [], _, _, h, _, _ => by simp at h
  | [], [], _ :: _, _, _, h, _ => by simp at h
  | _ :: _, _ :: _, [], _, _, h, _ => by simp at h
  | e :: es, p :: l, b :: bs, i, hl, hb, hd => by
    simp only [List.map_cons, List.cons.injEq] at hb
    obtain ⟨k', x', y, h1, h2, rfl⟩ := eqKD_int hb.1
    cases h1
    have he := hd 0 p e rfl rfl
    rw [h2] at he
    have ih := findNow_int (ik := ik) es l bs (i + 1) (by simpa using hl) hb.2 (fun q p e h1 h2 => hd (q + 1) p e (by simpa using h1) (by simpa using h2))
    simp only [Instr.findNow, he.int_inv, Instr.sameNow, if_true, fr]
    cases hxy : x == y
    · simpa using ih
    · simp

theorem findAsking_run {kt : TypeId} {kv : Value} : ∀ (es : List MapEntry) (bs : List Bool) (i : Nat), es.length = bs.length →
    (∀ (q : Nat) (b : Bool) (e : MapEntry), bs[q]? = some b → es[q]? = some e → (Op.equal kt kv e.key).run P w = .ok b w) → (Instr.findAsking kt kv es i).run P w = .ok (fr bs es i) w
  | [], [], _, _, _ => rfl
  | [], _ :: _, _, h, _ => by simp at h
  | _ :: _, [], _, h, _ => by simp at h
  | e :: es, b :: bs, i, hl, hq => by
    have h0 := hq 0 b e rfl rfl
    have ih := findAsking_run es bs (i + 1) (by simpa using hl) (fun q b e h1 h2 => hq (q + 1) b e (by simpa using h1) (by simpa using h2))
    simp only [Instr.findAsking, Sem.run_bind, h0, Result.andThen_ok, fr]
    cases b
    · simpa using ih
    · simp

theorem equal_agg {kt : TypeId} {ks : List Nat} (hT : TyEq P kt ks) {l m : List D} {u v : Value} (ha : Den ρ H (.agg l) u) (hb : Den ρ H (.agg m) v) {r : Bool} (h : eqDs ks l m = some r) : (Op.equal kt u v).run P w = .ok r w := by
  obtain ⟨us, rfl, h2, h3⟩ := ha.agg_inv
  obtain ⟨vs, rfl, h5, h6⟩ := hb.agg_inv
  have hr := eqFields_run (P := P) (w := w) h3 h2 h6 h5 9998 (P.fieldsOf kt).toList ks 0 r hT.flat (by simpa using h)
  have hr2 := run_equalIn_struct (P := P) w 9999 kt us vs hT.und hT.held
  rw [hr] at hr2
  simpa [Op.equal, Op.maxDepth] using hr2

theorem findKey_run {kt : TypeId} {o : Option (List Nat)} (hK : TyK P kt o) {kd : D} {kv : Value} (hk : Den ρ H kd kv) {es : Array MapEntry} {l : List (D × D)} {bs : List Bool} (hl : es.size = l.length)
    (hb : (l.map fun e => eqKD o kd e.1) = bs.map some) (hd : ∀ (q : Nat) (p : D × D) (e : MapEntry), l[q]? = some p → es[q]? = some e → Den ρ H p.1 e.key) (hcell : (∃ k x, kd = .int k x) ∨ ∃ m, kd = .agg m) :
    (Instr.findKey kt kv es.toList).run P w = .ok (fr bs es.toList 0) w := by
  have hlen : bs.length = l.length := by have := congrArg List.length hb; simpa using this.symm
  have hd' : ∀ (q : Nat) (p : D × D) (e : MapEntry), l[q]? = some p → es.toList[q]? = some e → Den ρ H p.1 e.key := fun q p e h1 h2 => hd q p e h1 (by simpa using h2)
  cases o with
  | none =>
    obtain ⟨k0, hI⟩ := hK.key
    by_cases hne : l = []
    · subst hne
      have h0 : es.toList = [] := by have : es.size = 0 := by simpa using hl
                                     simpa using this
      have : bs = [] := by simpa using hlen
      subst this
      simp [Instr.findKey, run_underlying hI.und, h0, Instr.findNow, fr]
    · obtain ⟨p, l', rfl⟩ : ∃ p l', l = p :: l' := by cases l with | nil => exact absurd rfl hne | cons p l' => exact ⟨p, l', rfl⟩
      cases hbs : bs with
      | nil => rw [hbs] at hlen; simp at hlen
      | cons b bs' =>
        have hb0 := hb
        rw [hbs] at hb0
        simp only [List.map_cons, List.cons.injEq] at hb0
        obtain ⟨k, x, y, h1, _, _⟩ := eqKD_int hb0.1
        subst h1
        have := findNow_int (ρ := ρ) (H := H) (k := k) (x := x) (ik := k0) es.toList (p :: l') bs 0 (by simpa using hl) hb hd'
        rw [hk.int_inv, ← hbs]
        simp [Instr.findKey, run_underlying hI.und, this]
  | some ks =>
    have hT : TyEq P kt ks := hK.key
    by_cases hne : es.toList = []
    · have : l = [] := by have : es.size = 0 := by simpa using hne
                          exact List.length_eq_zero_iff.1 (by omega)
      subst this
      have : bs = [] := by simpa using hlen
      subst this
      simp [Instr.findKey, run_underlying hT.und, hne, Instr.findNow, fr]
    · obtain ⟨e, es', he⟩ : ∃ e es', es.toList = e :: es' := by cases h : es.toList with | nil => exact absurd h hne | cons p l' => exact ⟨p, l', rfl⟩
      have hnow : Instr.findNow (.struct (P.fieldsOf kt)) kv es.toList 0 = none := by
        rw [he]; simp [Instr.findNow, Instr.sameNow]
      have hask := findAsking_run (P := P) (w := w) (kt := kt) (kv := kv) es.toList bs 0 (by simp; omega) (fun q b e h1 h2 => by
        have hql : q < l.length := by rw [← hlen]; exact (List.getElem?_eq_some_iff.1 h1).1
        have h3 := congrArg (·[q]?) hb
        simp only [List.getElem?_map, h1, Option.map_some, List.getElem?_eq_getElem hql] at h3
        obtain ⟨la, lb, rfl, h5, h6⟩ := eqKD_agg (Option.some.inj h3)
        have h7 := hd' q l[q] e (by simp [hql]) h2
        rw [h5] at h7
        exact equal_agg hT hk h7 h6)
      simp only [Instr.findKey, Sem.run_bind, run_underlying hT.und, Result.andThen_ok, hnow, hask]

theorem checkKey_gen (n : Nat) {kt : TypeId} {o : Option (List Nat)} (hK : TyK P kt o) {kd : D} {kv : Value} (hk : Den ρ H kd kv) (em : Bool) (hs : ∀ ks, o = some ks → ∃ l, kd = .agg l ∧ l.length = ks.length) :
    (Instr.checkKey em (n + 2) kt kv).run P w = .ok () w := by
  have plain : ∀ (n : Nat) (T : TypeId) (q : Nat) (v : Value), tyKind P T = some q → (Instr.checkKey em (n + 1) T v).run P w = .ok () w := by
    intro n T q v hq
    unfold tyKind at hq
    split at hq <;> simp at hq <;> rename_i hu <;> simp [Instr.checkKey, run_underlying hu]
  cases o with
  | none =>
    obtain ⟨k0, hI⟩ := hK.key
    exact plain (n + 1) kt 0 kv (by simp [tyKind, hI.und])
  | some ks =>
    have hT : TyEq P kt ks := hK.key
    obtain ⟨l, rfl, hl⟩ := hs ks rfl
    obtain ⟨us, rfl, h2, _⟩ := hk.agg_inv
    have loop : ∀ (fs : List Field) (ks : List Nat) (k : Nat), plainFs P fs ks k = true → k + fs.length ≤ us.size →
        (forIn fs PUnit.unit (fun f _ => (do
          if f.name ≠ "_" then Instr.checkKey em (n + 1) f.type (← part f.type us f.offset)
          pure (ForInStep.yield PUnit.unit) : Sem (ForInStep PUnit)))).run P w = .ok () w := by
      intro fs
      induction fs with
      | nil => intro ks k _ _; simp
      | cons f fs ih =>
        intro ks k h hs
        cases ks with
        | nil => simp [plainFs] at h
        | cons q ks =>
          simp only [plainFs, Bool.and_eq_true, Nat.beq_eq] at h
          obtain ⟨⟨⟨ho, hn⟩, hk⟩, hr⟩ := h
          have hname : f.name ≠ "_" := by simpa using hn
          cases hkd : tyKind P f.type with
          | none => simp [hkd] at hk
          | some r =>
            simp only [List.length_cons] at hs
            have hlt : k < us.size := by omega
            have p1 := part_plain (P := P) (w := w) hkd (show us[f.offset]? = some us[k] by rw [ho]; simp [hlt])
            have ih' := ih ks (k + 1) hr (by omega)
            simp only [List.forIn_cons, Sem.run_bind, if_pos hname, p1, Result.andThen_ok, plain n f.type r us[k] hkd, Sem.run_pure]
            simpa using ih'
    have hfl : ∀ (fs : List Field) (ks : List Nat) (k : Nat), plainFs P fs ks k = true → fs.length = ks.length := by
      intro fs
      induction fs with
      | nil => intro ks k h; cases ks with
        | nil => rfl
        | cons _ _ => simp [plainFs] at h
      | cons f fs ih => intro ks k h; cases ks with
        | nil => simp [plainFs] at h
        | cons q ks => simp only [plainFs, Bool.and_eq_true] at h; simp [ih ks _ h.2]
    have := loop (P.fieldsOf kt).toList ks 0 hT.flat (by rw [hfl _ _ _ hT.flat, h2]; omega)
    unfold Instr.checkKey
    simp only [Sem.run_bind, run_underlying hT.und, Result.andThen_ok]
    simp at this ⊢
    rw [this]
    rfl

theorem checkKey_run {kt : TypeId} {o : Option (List Nat)} (hK : TyK P kt o) {kd : D} {kv : Value} (hk : Den ρ H kd kv) (em : Bool) (hs : ∀ ks, o = some ks → ∃ l, kd = .agg l ∧ l.length = ks.length) :
    (Instr.checkKey em 10000 kt kv).run P w = .ok () w := checkKey_gen 9998 hK hk em hs

section ops
variable {t : Nat} {ty : TypeId} {pos : String} {af : Array Edge} {g : Option (Nat × Bool)} {st : St} {d : D}

theorem lok_makeMap (j : Nat) {T : TypeId} (hd : t < st.n) : LOk P ⟨some t, .makeMap T none, ty, pos, af, g⟩ st ⟨[], [j], .omap j, [(j, some (.map []))]⟩ := by
  intro B st2 ag
  have hfr := ag.fresh j (by simp)
  refine opOk_value (fun s hs => by cases hs; rw [ag.n]; exact hd) ag.fresh fun ρ H a w hR => ?_
  refine ⟨.map (some w.heap.size), w.alloc (.map #[] 0), setLoc ρ j ⟨w.heap.size, 0, 0, true⟩, H, .inl ?_, ?_, GH.le_refl _, fun k hk => setLoc_ne (by simpa using hk), ?_⟩
  · simp [execOp, Instr.makeMap]
  · exact (by simpa [setLoc_eq] using Den.omap (ρ := setLoc ρ j ⟨w.heap.size, 0, 0, true⟩) (H := H) j (by simp [setLoc_eq]))
  · refine hR.wr.alloc_own (hkp := hR.nokeep hfr) (b := .map []) (fun k b' hk => hfr.bl k b' hk) ⟨by simp [setLoc_eq], #[], 0, [], ?_, .refl _, rfl, by simp⟩ upd_blk
    rw [setLoc_eq]; exact alloc_new

/-- A new key. -/
def newKey (o : Option (List Nat)) (kd : D) (l : List (D × D)) : Bool := l.all fun e => match eqKD o kd e.1 with | some false => true | _ => false
def keyFits (o : Option (List Nat)) (kd : D) : Bool := match o, kd with | none, .int _ _ => true | some ks, .agg l => Nat.beq l.length ks.length | _, _ => false

theorem fr_none : ∀ (bs : List Bool) (es : List MapEntry) (i : Nat), (∀ b ∈ bs, b = false) → fr bs es i = none
  | [], _, _, _ => by simp [fr]
  | b :: bs, [], _, _ => by simp [fr]
  | b :: bs, e :: es, i, h => by
    have : b = false := h b (.head _)
    subst this
    simp only [fr, Bool.false_eq_true, if_false]
    exact fr_none bs es (i + 1) fun b hb => h b (.tail _ hb)

theorem lok_insert {T kt et : TypeId} {o : Option (List Nat)} {m k v : Operand} {j : Nat} {l : List (D × D)} {kd vd : D} [hT : TyM P T kt et] [hK : TyK P kt o] (hm : st.val m = some (.omap j)) (hj : st.blk j = some (.map l)) (hk : st.val k = some kd)
    (hv : st.val v = some vd) (hc : (newKey o kd l && keyFits o kd) = true) : LOk P ⟨none, .insert T m k v, ty, pos, af, g⟩ st ⟨[], [], .any, [(j, some (.plus o kd vd))]⟩ := by
  intro B st2 ag
  simp only [Bool.and_eq_true] at hc
  refine opOk_value (fun s hs => by cases hs) (by simp) fun ρ H a w hR => ?_
  obtain ⟨hh, h1⟩ := (hR.val ((ag.val m (by simp [Op.operands])).trans hm)).omap_inv
  obtain ⟨l2, hj2, hl2⟩ := ag.plus j o kd vd rfl l hj
  obtain ⟨_, es, clock, l', hb, hperm, hsz, he⟩ := hR.wr.own j _ hj2
  have hkv := hR.val ((ag.val k (by simp [Op.operands])).trans hk)
  have hvv := hR.val ((ag.val v (by simp [Op.operands])).trans hv)
  have hbs : (l'.map fun e => eqKD o kd e.1) = (l'.map fun _ => false).map some := by
    rw [List.map_map]
    refine List.map_congr_left fun e hmem => ?_
    rcases hl2 e (hperm.mem_iff.1 hmem) with hmem | hq
    · have := (List.all_eq_true.1 hc.1) e hmem
      cases hq : eqKD o kd e.1 with
      | none => simp [hq] at this
      | some b => cases b <;> simp [hq] at this ⊢
    · simp [hq]
  have hfits : (∃ k x, kd = .int k x) ∨ ∃ m, kd = .agg m := by
    have := hc.2
    unfold keyFits at this
    split at this
    · exact .inl ⟨_, _, rfl⟩
    · exact .inr ⟨_, rfl⟩
    · cases this
  have hfind := findKey_run (P := P) (w := w) hK hkv hsz hbs (fun q p e hp hq => (he q p.1 p.2 e hp hq).1) hfits
  rw [fr_none _ _ _ (by simp)] at hfind
  have hchk := checkKey_run (P := P) (w := w) hK hkv false (fun ks ho => by
    subst ho
    have := hc.2
    unfold keyFits at this
    split at this
    · rename_i h1; cases h1
    · rename_i h1; cases h1; exact ⟨_, rfl, by simpa using this⟩
    · cases this)
  have hlt : (ρ j).blk < w.heap.size := (hR.wr.own j _ hj2).lt hh
  have hget : (getObj (ρ j).blk).run P w = .ok (.map es clock) w := MapKept.run_getObj_map hb
  refine ⟨undef, { w with heap := w.heap.setIfInBounds (ρ j).blk (.map (es.push { key := a.eval k, val := a.eval v, born := clock }) (clock + 1)) }, ρ, H, .inr ⟨?_, rfl⟩, .pure (.any _), GH.le_refl _, fun _ _ => rfl, ?_⟩
  · have hset := MapKept.run_setObj_map (P := P) (w := w) (.map (es.push { key := a.eval k, val := a.eval v, born := clock }) (clock + 1)) hb
    simp only [execOp, Instr.mapUpdate, Sem.run_bind, run_underlying hT.und, Result.andThen_ok, h1, hget, hchk, hfind, hset, Sem.run_pure]
  · refine hR.wr.write hj2 hh (by simp) (fun q hq => by simp [Ne.symm hq]) rfl rfl rfl (b' := .map (l2 ++ [(kd, vd)])) ⟨hh, _, _, l' ++ [(kd, vd)], by simp [hlt]; exact ⟨rfl, rfl⟩, hperm.append_right _, by simp [hsz], fun i kd' vd' e hi he' => ?_⟩ fun q => ?_
    rotate_left
    · rw [St.app_blk, blkOn_cons]
      by_cases hjq : j = q
      · subst hjq; rw [if_pos rfl, if_pos rfl]; show addP (st2.blk j) kd vd = _; rw [hj2]; rfl
      · rw [if_neg hjq, if_neg hjq]; rfl
    by_cases hil : i < l'.length
    · rw [List.getElem?_append_left hil] at hi
      rw [Array.getElem?_push, if_neg (by omega)] at he'
      exact he i kd' vd' e hi he'
    · rw [List.getElem?_append_right (by omega)] at hi
      have hi0 : i - l'.length = 0 := by
        rcases Nat.eq_zero_or_pos (i - l'.length) with h | h
        · exact h
        · rw [List.getElem?_eq_none (by simp; omega)] at hi; cases hi
      rw [hi0] at hi
      simp at hi
      obtain ⟨rfl, rfl⟩ := hi
      rw [Array.getElem?_push, if_pos (by omega)] at he'
      cases he'
      exact ⟨hkv, hvv⟩

theorem pointwise_bs {κ β : Type} [DecidableEq κ] {o : Option (List Nat)} {ek : κ → D} {ev : β → D} {L : List (κ × β)} {x : κ} (h : ∀ p ∈ L, eqKD o (ek x) (ek p.1) = some (decide (x = p.1))) :
    ((L.map fun p => (ek p.1, ev p.2)).map fun e => eqKD o (ek x) e.1) = (L.map fun p => decide (x = p.1)).map some := by
  rw [List.map_map, List.map_map]
  exact List.map_congr_left fun p hp => h p hp

theorem fr_look {κ β : Type} [DecidableEq κ] {ek : κ → D} {ev : β → D} {x : κ} : ∀ (L : List (κ × β)) (es : List MapEntry) (i : Nat), es.length = L.length →
    (∀ (q : Nat) (p : κ × β) (e : MapEntry), L[q]? = some p → es[q]? = some e → Den ρ H (ev p.2) e.val) →
    match L.lookup x with
    | some y => ∃ q v, fr (L.map fun p => decide (x = p.1)) es i = some (q, v) ∧ Den ρ H (ev y) v
    | none => fr (L.map fun p => decide (x = p.1)) es i = none
  | [], es, i, _, _ => by simp [fr]
  | p :: L, [], _, h, _ => by simp at h
  | (k, y) :: L, e :: es, i, h, hd => by
    have h0 := hd 0 (k, y) e rfl rfl
    by_cases hx : x = k
    · subst hx
      simp only [List.lookup, beq_self_eq_true, List.map_cons, decide_true, fr, if_true]
      exact ⟨i, e.val, rfl, h0⟩
    · have hb : (x == k) = false := by simpa using hx
      simp only [List.lookup, hb, List.map_cons, hx, decide_false, fr, Bool.false_eq_true, if_false]
      exact fr_look (ek := ek) L es (i + 1) (by simpa using h) fun q p e h1 h2 => hd (q + 1) p e (by simpa using h1) (by simpa using h2)

theorem perm_map_inv {α β : Type} {f : α → β} {l m : List β} (h : l.Perm m) : ∀ L : List α, m = L.map f → ∃ L' : List α, L'.Perm L ∧ l = L'.map f := by
  induction h with
  | nil => intro L hL; exact ⟨L, .refl _, hL⟩
  | cons x _ ih =>
    intro L hL
    cases L with
    | nil => cases hL
    | cons y L =>
      simp only [List.map_cons, List.cons.injEq] at hL
      obtain ⟨L', h1, h2⟩ := ih L hL.2
      exact ⟨y :: L', h1.cons y, by rw [List.map_cons, h2, hL.1]⟩
  | swap x y r =>
    intro L hL
    match L, hL with
    | a :: b :: L, hL =>
      simp only [List.map_cons, List.cons.injEq] at hL
      exact ⟨b :: a :: L, .swap a b L, by simp [hL]⟩
  | trans _ _ ih1 ih2 =>
    intro L hL
    obtain ⟨L1, h1, h2⟩ := ih2 L hL
    obtain ⟨L2, h3, h4⟩ := ih1 L1 h2
    exact ⟨L2, h3.trans h1, h4⟩
theorem lookup_perm {κ β : Type} [DecidableEq κ] {x : κ} {L L' : List (κ × β)} (h : L'.Perm L) : (L.map Prod.fst).Nodup → L'.lookup x = L.lookup x := by
  induction h with
  | nil => intro _; rfl
  | cons p _ ih =>
    intro hn
    obtain ⟨k, y⟩ := p
    simp only [List.map_cons, List.nodup_cons] at hn
    simp only [List.lookup, ih hn.2]
  | swap p q r =>
    intro hn
    obtain ⟨k, y⟩ := p
    obtain ⟨k', y'⟩ := q
    simp only [List.map_cons, List.nodup_cons, List.mem_cons, not_or] at hn
    by_cases h1 : x = k
    · subst h1
      have : (x == k') = false := by simpa using hn.1.1
      simp [List.lookup, this]
    · have : (x == k) = false := by simpa using h1
      simp [List.lookup, this]
  | trans _ h2 ih1 ih2 =>
    intro hn
    rw [ih1 ((h2.map Prod.fst).nodup_iff.2 hn), ih2 hn]

def D.isAgg : D → Bool
  | .agg _ => true
  | _ => false
theorem zero_den {T : TypeId} {zs : List D} {agg : Bool} {n : Nat} (hZ : TyZ P T zs) (hF : TyF P T agg n) {d : D} (hd : d.flat = zs) (ha : d.isAgg = agg) {i : TypeInfo} {v : Value} (hi : P.info? T = some i) (hv : i.zero = some v) : Den ρ H d v := by
  obtain ⟨v', hv', hv2⟩ := map_some hZ.zero
  have : v' = v := by rw [hi] at hv'; simp [hv] at hv'; exact hv'.symm
  subst this
  have hform := hZ.form
  rw [hF.und, hv'] at hform
  simp only [Option.map_some, Option.some.injEq] at hform
  have hp : ∀ (k : Nat) (d' : D) (u : Value), zs[k]? = some d' → v'.cells[k]? = some u → Den ρ H d' u := fun k d' u hk hu => by
    have h1 := congrArg (·[k]?) hv2
    have h2 : v'.cells.toList[k]? = some u := by simpa using hu
    simp only [List.getElem?_map, h2, hk, Option.map_some] at h1
    exact .pure (D.ofConst_den (Option.some.inj h1))
  cases agg with
  | true =>
    cases d <;> simp [D.isAgg] at ha
    rename_i l
    simp only [D.flat] at hd
    subst hd
    cases v' <;> simp at hform
    rename_i cs
    exact .agg l cs (by have := congrArg List.length hv2; simpa [Value.cells] using this) hp
  | false =>
    have hfl : d.flat = [d] := by cases d <;> simp [D.isAgg] at ha <;> rfl
    have hc : v'.cells = #[v'] := by cases v' <;> simp at hform <;> rfl
    exact hp 0 d v' (by rw [← hd, hfl]; rfl) (by rw [hc]; rfl)

/-- A look-up, told by what keys and elements stand for. -/
theorem look_run {κ β : Type} [DecidableEq κ] {T kt et : TypeId} {o : Option (List Nat)} {zs : List D} {agg : Bool} {n : Nat} (hT : TyM P T kt et) (hK : TyK P kt o) (hZ : TyZ P et zs) (hF : TyF P et agg n) {ek : κ → D} {ev : β → D} {L : List (κ × β)} {x : κ} {z : β} {kv : Value} {b : Nat} {es : Array MapEntry} {clock : Nat}
    {w : World} (hb : w.heap[b]? = some (.map es clock)) (hsz : es.size = L.length) (he : ∀ (i : Nat) (p : κ × β) (e : MapEntry), L[i]? = some p → es[i]? = some e → Den ρ H (ek p.1) e.key ∧ Den ρ H (ev p.2) e.val)
    (hkv : Den ρ H (ek x) kv) (heq : ∀ p ∈ L, eqKD o (ek x) (ek p.1) = some (decide (x = p.1))) (hfit : keyFits o (ek x) = true) (hz : (ev z).flat = zs) (hz2 : (ev z).isAgg = agg) (ok : Bool) :
    ∃ v, (Instr.lookup T (.map (some b)) kv ok).run P w = .ok (if ok then .tuple #[v, .bool (L.lookup x).isSome] else v) w ∧ Den ρ H (ev ((L.lookup x).getD z)) v := by
  have hfits : (∃ k y, ek x = .int k y) ∨ ∃ m, ek x = .agg m := by
    have := hfit
    unfold keyFits at this
    split at this
    · rename_i h; exact .inl ⟨_, _, h⟩
    · rename_i h; exact .inr ⟨_, h⟩
    · cases this
  have hpt : ∀ (q : Nat) (p : D × D) (e : MapEntry), (L.map fun p => (ek p.1, ev p.2))[q]? = some p → es[q]? = some e → Den ρ H p.1 e.key := by
    intro q p e hp hq
    rw [List.getElem?_map] at hp
    obtain ⟨p', hp', rfl⟩ := map_some hp
    exact (he q p' e hp' hq).1
  have hfind := findKey_run (P := P) (w := w) hK hkv (es := es) (l := L.map fun p => (ek p.1, ev p.2)) (by simpa using hsz) (pointwise_bs heq) hpt hfits
  have hchk := checkKey_run (P := P) (w := w) hK hkv es.isEmpty (fun ks ho => by
    subst ho
    have := hfit
    unfold keyFits at this
    split at this
    · rename_i h1 _; cases h1
    · rename_i h1 h2; cases h1; exact ⟨_, h2, by simpa using this⟩
    · cases this)
  have hget : (getObj b).run P w = .ok (.map es clock) w := MapKept.run_getObj_map hb
  have hl := fr_look (ρ := ρ) (H := H) (ev := ev) (x := x) (ek := ek) L es.toList 0 (by simpa using hsz) (fun q p e h1 h2 => (he q p e h1 (by simpa using h2)).2)
  cases hlx : L.lookup x with
  | some y =>
    rw [hlx] at hl
    obtain ⟨q, v, h1, h2⟩ := hl
    refine ⟨v, ?_, h2⟩
    simp only [Instr.lookup, Sem.run_bind, run_underlying hT.und, Result.andThen_ok, hget, Sem.run_pure, hchk, hfind, h1]
    rfl
  | none =>
    rw [hlx] at hl
    obtain ⟨i, hi, hi2⟩ := map_some hZ.size
    obtain ⟨v, hv, hv2⟩ := map_some hZ.zero
    have hzv : i.zero = some v := by simpa [hi] using hv
    refine ⟨v, ?_, ?_⟩
    · simp only [Instr.lookup, Sem.run_bind, run_underlying hT.und, Result.andThen_ok, hget, Sem.run_pure, hchk, hfind, hl, zeroValue, typeInfo, run_program, hi, hzv]
      rfl
    · exact zero_den hZ hF hz hz2 hi hzv

theorem lok_lookup_own {κ β : Type} [DecidableEq κ] {T kt et : TypeId} {o : Option (List Nat)} {zs : List D} {agg : Bool} {n : Nat} [hT : TyM P T kt et] [hK : TyK P kt o] [hZ : TyZ P et zs] [hF : TyF P et agg n] {m k : Operand} {ok : Bool} {j : Nat} {l : List (D × D)} {kd : D}
    (ek : κ → D) (ev : β → D) (L : List (κ × β)) (x : κ) (z : β) (hm : st.val m = some (.omap j)) (hj : st.blk j = some (.map l)) (hk : st.val k = some kd) (hl : l = L.map fun p => (ek p.1, ev p.2)) (hx : kd = ek x)
    (heq : ∀ p ∈ L, eqKD o (ek x) (ek p.1) = some (decide (x = p.1))) (hnd : (L.map Prod.fst).Nodup) (hfit : keyFits o (ek x) = true) (hz : (ev z).flat = zs) (hz2 : (ev z).isAgg = agg)
    (hd : d = if ok then .tup [ev ((L.lookup x).getD z), .bool (L.lookup x).isSome] else ev ((L.lookup x).getD z)) (ht : t < st.n) : LOk P ⟨some t, .lookup T m k ok, ty, pos, af, g⟩ st ⟨[j], [], d, []⟩ :=
  lok_look ht fun _ st2 ρ H a w ag hR => by
    obtain ⟨hh, h1⟩ := (hR.val ((ag.val m (by simp [Op.operands])).trans hm)).omap_inv
    obtain ⟨_, es, clock, l', hb, hperm, hsz, he⟩ := hR.wr.own j _ ((ag.blk j (by simp)).trans hj)
    have hkv := hR.val ((ag.val k (by simp [Op.operands])).trans hk)
    subst hl hx
    obtain ⟨L', hLp, rfl⟩ := perm_map_inv hperm L rfl
    obtain ⟨v, h2, h3⟩ := look_run (P := P) (ρ := ρ) (H := H) (L := L') (x := x) (z := z) hT hK hZ hF hb (by simpa using hsz) (fun i p e hp hq => he i _ _ e (by rw [List.getElem?_map, hp]; rfl) hq) hkv (fun p hp => heq p (hLp.mem_iff.1 hp)) hfit hz hz2 ok
    rw [lookup_perm hLp hnd] at h2 h3
    refine ⟨if ok then .tuple #[v, .bool (L.lookup x).isSome] else v, by simp only [execOp, h1, Sem.run_bind, h2, Result.andThen_ok, Sem.run_pure], ?_⟩
    subst hd
    cases ok
    · exact h3
    · exact .tup _ _ rfl fun k d u hk hu => by
        match k, hk, hu with
        | 0, hk, hu => simp at hk hu; subst hk; subst hu; exact h3
        | 1, hk, hu => simp at hk hu; subst hk; subst hu; exact .pure (.bool _)
        | k + 2, hk, hu => simp at hk

theorem Den.pmap_inv {l : List (D × D)} {v : Value} (h : Den ρ H (.pmap l) v) : ∃ b es clock, ∃ l' : List (D × D), v = .map (some b) ∧ H b = some (.map es clock) ∧ l'.Perm l ∧ es.size = l'.length ∧
    ∀ (i : Nat) (kd vd : D) (e : MapEntry), l'[i]? = some (kd, vd) → es[i]? = some e → DenP H kd e.key ∧ DenP H vd e.val := by
  cases h with
  | pure h => cases h with | pmap _ l' b es clock hb hp hs hk he => exact ⟨b, es, clock, l', rfl, hb, hp, hs, fun i kd vd e h1 h2 => ⟨hk i kd vd e h1 h2, he i kd vd e h1 h2⟩⟩

theorem lok_lookup_pers {κ β : Type} [DecidableEq κ] {T kt et : TypeId} {o : Option (List Nat)} {zs : List D} {agg : Bool} {n : Nat} [hT : TyM P T kt et] [hK : TyK P kt o] [hZ : TyZ P et zs] [hF : TyF P et agg n] {m k : Operand} {ok : Bool} {l : List (D × D)} {kd : D}
    (ek : κ → D) (ev : β → D) (L : List (κ × β)) (x : κ) (z : β) (hm : st.val m = some (.pmap l)) (hk : st.val k = some kd) (hl : l = L.map fun p => (ek p.1, ev p.2)) (hx : kd = ek x)
    (heq : ∀ p ∈ L, eqKD o (ek x) (ek p.1) = some (decide (x = p.1))) (hnd : (L.map Prod.fst).Nodup) (hfit : keyFits o (ek x) = true) (hz : (ev z).flat = zs) (hz2 : (ev z).isAgg = agg)
    (hd : d = if ok then .tup [ev ((L.lookup x).getD z), .bool (L.lookup x).isSome] else ev ((L.lookup x).getD z)) (ht : t < st.n) : LOk P ⟨some t, .lookup T m k ok, ty, pos, af, g⟩ st ⟨[], [], d, []⟩ :=
  lok_pure ht fun _ st2 ρ H a w ag hR => by
    obtain ⟨b, es, clock, l', h1, hH, hperm, hsz, he⟩ := (hR.val ((ag.val m (by simp [Op.operands])).trans hm)).pmap_inv
    have hb := hR.wr.pers _ _ hH
    have hkv := hR.val ((ag.val k (by simp [Op.operands])).trans hk)
    subst hl hx
    obtain ⟨L', hLp, rfl⟩ := perm_map_inv hperm L rfl
    obtain ⟨v, h2, h3⟩ := look_run (P := P) (ρ := ρ) (H := H) (L := L') (x := x) (z := z) hT hK hZ hF hb (by simpa using hsz) (fun i p e hp hq => by
      have := he i _ _ e (by rw [List.getElem?_map, hp]; rfl) hq
      exact ⟨.pure this.1, .pure this.2⟩) hkv (fun p hp => heq p (hLp.mem_iff.1 hp)) hfit hz hz2 ok
    rw [lookup_perm hLp hnd] at h2 h3
    refine ⟨if ok then .tuple #[v, .bool (L.lookup x).isSome] else v, by simp only [execOp, h1, Sem.run_bind, h2, Result.andThen_ok, Sem.run_pure], ?_⟩
    subst hd
    cases ok
    · exact h3
    · exact .tup _ _ rfl fun k d u hk hu => by
        match k, hk, hu with
        | 0, hk, hu => simp at hk hu; subst hk; subst hu; exact h3
        | 1, hk, hu => simp at hk hu; subst hk; subst hu; exact .pure (.bool _)
        | k + 2, hk, hu => simp at hk

/-- An own map that is left alone from now on. -/
theorem Fz.omap {j : Nat} {l : List (D × D)} (hj : st.blk j = some (.map l)) (hp : (l.all fun e => e.1.pureB && e.2.pureB) = true) : Fz st (.omap j) (.pmap l) := fun B ρ H a w v H' hR hpass hd hle hf => by
  obtain ⟨hh, rfl⟩ := hd.omap_inv
  obtain ⟨_, es, clock, l', hb, hperm, hsz, he⟩ := hR.wr.own j _ hj
  have hnew : B.W.heap.size ≤ (ρ j).blk := by
    rcases hR.wr.new j _ hj hh with h | h
    · exact h
    · rw [hpass] at h; cases h
  have hH := hf (ρ j).blk _ hnew (hR.wr.np j _ hj hh) hb
  have key : ∀ (i : Nat) (kd vd : D) (e : MapEntry), l'[i]? = some (kd, vd) → es[i]? = some e → DenP H' kd e.key ∧ DenP H' vd e.val := fun i kd vd e h1 h2 => by
    obtain ⟨h3, h4⟩ := he i kd vd e h1 h2
    have := (List.all_eq_true.1 hp) _ (hperm.mem_iff.1 (List.mem_of_getElem? h1))
    simp only [Bool.and_eq_true] at this
    exact ⟨(h3.toP this.1).mono hle, (h4.toP this.2).mono hle⟩
  exact .pmap l l' _ es clock hH hperm hsz (fun i kd vd e h1 h2 => (key i kd vd e h1 h2).1) (fun i kd vd e h1 h2 => (key i kd vd e h1 h2).2)
end ops

/-- A look-up in a list. -/
def lookL {κ β : Type} [DecidableEq κ] (L : List (κ × β)) (x : κ) : Option β := @List.lookup κ β instBEqOfDecidableEq x L

section steps
variable {ops : Array Oper} {r : List Oper} {acc : List Eff} {n lm : Nat} {tm : List (Nat × D)} {ow : List (Nat × Option Blk)} {F : List Eff → St → Prop}
  {t : Nat} {ty : TypeId} {pos : String} {af : Array Edge} {g : Option (Nat × Bool)} {d : D}
theorem mkm (j : Nat) {T : TypeId} (hf : St.freshB ⟨n, tm, ow, lm⟩ j = true) (hd : Nat.blt t n = true) (hg : Gd ops ⟨n, tm, ow, lm⟩ g)
    (h : WpD P ops r (⟨[], [j], .omap j, [(j, some (.map []))]⟩ :: acc) ⟨n, (t, .omap j) :: tm, (j, some (.map [])) :: ow, lm⟩ F) : WpD P ops (⟨some t, .makeMap T none, ty, pos, af, g⟩ :: r) acc ⟨n, tm, ow, lm⟩ F :=
  step (lok_makeMap j (blt_lt hd)) hg (by simpa using hf) h
theorem ins {T kt et : TypeId} {o : Option (List Nat)} {m k v : Operand} {j : Nat} {l : List (D × D)} {kd vd : D} [hT : TyM P T kt et] [hK : TyK P kt o] (hm : St.val ⟨n, tm, ow, lm⟩ m = some (.omap j)) (hj : St.blk ⟨n, tm, ow, lm⟩ j = some (.map l))
    (hk : St.val ⟨n, tm, ow, lm⟩ k = some kd) (hv : St.val ⟨n, tm, ow, lm⟩ v = some vd) (hc : (newKey o kd l && keyFits o kd) = true) (hg : Gd ops ⟨n, tm, ow, lm⟩ g)
    (h : WpD P ops r (⟨[], [], .any, [(j, some (.plus o kd vd))]⟩ :: acc) ⟨n, tm, (j, some (.plus o kd vd)) :: ow, lm⟩ F) : WpD P ops (⟨none, .insert T m k v, ty, pos, af, g⟩ :: r) acc ⟨n, tm, ow, lm⟩ F :=
  step (lok_insert hm hj hk hv hc) hg rfl h
theorem lko {κ β : Type} [DecidableEq κ] {T kt et : TypeId} {o : Option (List Nat)} {zs : List D} {agg : Bool} {n' : Nat} [hT : TyM P T kt et] [hK : TyK P kt o] [hZ : TyZ P et zs] [hF : TyF P et agg n'] {m k : Operand} {ok : Bool} {j : Nat} {l : List (D × D)} {kd : D}
    (ek : κ → D) (ev : β → D) (L : List (κ × β)) (x : κ) (z : β) (hm : St.val ⟨n, tm, ow, lm⟩ m = some (.omap j)) (hj : St.blk ⟨n, tm, ow, lm⟩ j = some (.map l)) (hk : St.val ⟨n, tm, ow, lm⟩ k = some kd) (hl : l = L.map fun p => (ek p.1, ev p.2)) (hx : kd = ek x)
    (heq : ∀ p ∈ L, eqKD o (ek x) (ek p.1) = some (decide (x = p.1))) (hnd : (L.map Prod.fst).Nodup) (hfit : keyFits o (ek x) = true) (hz : (ev z).flat = zs) (hz2 : (ev z).isAgg = agg)
    (hd : d = if ok then .tup [ev ((lookL L x).getD z), .bool (lookL L x).isSome] else ev ((lookL L x).getD z)) (ht : Nat.blt t n = true) (hg : Gd ops ⟨n, tm, ow, lm⟩ g)
    (h : WpD P ops r (⟨[j], [], d, []⟩ :: acc) ⟨n, (t, d) :: tm, ow, lm⟩ F) : WpD P ops (⟨some t, .lookup T m k ok, ty, pos, af, g⟩ :: r) acc ⟨n, tm, ow, lm⟩ F :=
  step (lok_lookup_own ek ev L x z hm hj hk hl hx heq hnd hfit hz hz2 hd (blt_lt ht)) hg rfl h
theorem lkp {κ β : Type} [DecidableEq κ] {T kt et : TypeId} {o : Option (List Nat)} {zs : List D} {agg : Bool} {n' : Nat} [hT : TyM P T kt et] [hK : TyK P kt o] [hZ : TyZ P et zs] [hF : TyF P et agg n'] {m k : Operand} {ok : Bool} {l : List (D × D)} {kd : D}
    (ek : κ → D) (ev : β → D) (L : List (κ × β)) (x : κ) (z : β) (hm : St.val ⟨n, tm, ow, lm⟩ m = some (.pmap l)) (hk : St.val ⟨n, tm, ow, lm⟩ k = some kd) (hl : l = L.map fun p => (ek p.1, ev p.2)) (hx : kd = ek x)
    (heq : ∀ p ∈ L, eqKD o (ek x) (ek p.1) = some (decide (x = p.1))) (hnd : (L.map Prod.fst).Nodup) (hfit : keyFits o (ek x) = true) (hz : (ev z).flat = zs) (hz2 : (ev z).isAgg = agg)
    (hd : d = if ok then .tup [ev ((lookL L x).getD z), .bool (lookL L x).isSome] else ev ((lookL L x).getD z)) (ht : Nat.blt t n = true) (hg : Gd ops ⟨n, tm, ow, lm⟩ g)
    (h : WpD P ops r (⟨[], [], d, []⟩ :: acc) ⟨n, (t, d) :: tm, ow, lm⟩ F) : WpD P ops (⟨some t, .lookup T m k ok, ty, pos, af, g⟩ :: r) acc ⟨n, tm, ow, lm⟩ F :=
  step (lok_lookup_pers ek ev L x z hm hk hl hx heq hnd hfit hz hz2 hd (blt_lt ht)) hg rfl h
end steps
end
end Go.Eng

/- The engine, part H: slices that grow. No program in sight. -/
namespace Go.Eng
open Go

/-- Rows of sz cells, each of one cell. -/
def RowsOk (sz : Nat) (m : List (List D)) : Prop := ∀ r ∈ m, r.length = sz ∧ (r.all D.cell && D.pureL r) = true

section
variable {B : Base} {bl bl' : Nat → Option Blk} {ρ : Nat → Loc} {H : GH} {w w' : World}

theorem OwnOk.name {ρ' : Nat → Loc} {j j' : Nat} {b : Blk} (hj : ρ' j' = ρ j) (hn : ∀ k, b.has k = true → ρ' k = ρ k) (h : OwnOk ρ H w j b) : OwnOk ρ' H w j' b := by
  have hle := GH.le_refl H
  cases b with
  | cells ty l =>
    obtain ⟨hh, arr, h1, h2, h3⟩ := h
    exact ⟨by rw [hj]; exact hh, arr, by rw [hj]; exact h1, h2, fun k d v hk hv => (h3 k d v hk hv).mono hle fun i hi => hn i (by simp only [Blk.has]; exact D.hasL_mem (List.mem_of_getElem? hk) hi)⟩
  | buf sz l =>
    obtain ⟨h0, h1, h2, h3, h4, hB, hP⟩ := h
    refine ⟨by rw [hj]; exact h0, by rw [hj]; exact h1, by rw [hj]; exact h2, by rw [hj]; exact h3, fun hh => ?_, hB, hP⟩
    rw [hj] at hh ⊢
    obtain ⟨arr, ty, h5, h6, h7⟩ := h4 hh
    exact ⟨arr, ty, h5, h6, fun i k row d v hi hk hv => (h7 i k row d v hi hk hv).mono hle fun q hq => by rw [D.pure_has q d (D.pureL_mem ((List.all_eq_true.1 hP) _ (List.mem_of_getElem? hi)) _ (List.mem_of_getElem? hk))] at hq; cases hq⟩
  | bufc sz l c =>
    obtain ⟨⟨h0, h1, h2, h3, h4, hB, hP⟩, hC⟩ := h
    refine ⟨⟨by rw [hj]; exact h0, by rw [hj]; exact h1, by rw [hj]; exact h2, by rw [hj]; exact h3, fun hh => ?_, hB, hP⟩, by rw [hj]; exact hC⟩
    rw [hj] at hh ⊢
    obtain ⟨arr, ty, h5, h6, h7⟩ := h4 hh
    exact ⟨arr, ty, h5, h6, fun i k row d v hi hk hv => (h7 i k row d v hi hk hv).mono hle fun q hq => by rw [D.pure_has q d (D.pureL_mem ((List.all_eq_true.1 hP) _ (List.mem_of_getElem? hi)) _ (List.mem_of_getElem? hk))] at hq; cases hq⟩
  | map l =>
    obtain ⟨hh, es, clock, l', h1, hp, h2, h3⟩ := h
    refine ⟨by rw [hj]; exact hh, es, clock, l', by rw [hj]; exact h1, hp, h2, fun i kd vd e hi he => ?_⟩
    have h4 := h3 i kd vd e hi he
    exact ⟨h4.1.mono hle fun q hq => hn q (by simp only [Blk.has, List.any_eq_true]; exact ⟨_, hp.mem_iff.1 (List.mem_of_getElem? hi), by simp [hq]⟩),
      h4.2.mono hle fun q hq => hn q (by simp only [Blk.has, List.any_eq_true]; exact ⟨_, hp.mem_iff.1 (List.mem_of_getElem? hi), by simp [hq]⟩)⟩
  | plus o kd vd => exact h.elim

/-- An own block under another name. -/
theorem WRel.rename (h : WRel B bl ρ H w) {j j' : Nat} {b : Blk} (hj : bl j = some b) (hkp : B.keep j' = none) (hne : j' ≠ j) (hf : ∀ k b', bl k = some b' → b'.has j' = false)
    (hbl : ∀ k, bl' k = if j' = k then some b else if j = k then none else bl k) : WRel B bl' (setLoc ρ j' (ρ j)) H w := by
  -- where a name of bl' comes from
  have src : ∀ k c, bl' k = some c → ∃ q, bl q = some c ∧ setLoc ρ j' (ρ j) k = ρ q ∧ (k = j' ∧ q = j ∨ k ≠ j' ∧ q = k ∧ k ≠ j) := by
    intro k c hk
    rw [hbl] at hk
    by_cases h1 : j' = k
    · rw [if_pos h1] at hk; cases hk; subst h1; exact ⟨j, hj, setLoc_eq, .inl ⟨rfl, rfl⟩⟩
    · rw [if_neg h1] at hk
      by_cases h2 : j = k
      · rw [if_pos h2] at hk; cases hk
      · rw [if_neg h2] at hk; exact ⟨k, hk, setLoc_ne (Ne.symm h1), .inr ⟨Ne.symm h1, rfl, Ne.symm h2⟩⟩
  refine ⟨fun k c hk => ?_, fun k q c d hk hq hne' h1 h2 => ?_, fun k c hk h1 => ?_, fun k c hk h1 => ?_, h.pers, h.hext, h.hnew, h.size, h.frame, h.os, h.tape, h.output, fun k l hk => by rw [setLoc_ne (by rintro rfl; rw [hkp] at hk; cases hk)]; exact h.kp k l hk⟩
  · obtain ⟨q, hq, he, _⟩ := src k c hk
    exact (h.own q c hq).name he fun i hi => setLoc_ne (by rintro rfl; rw [hf q c hq] at hi; cases hi)
  · obtain ⟨a, ha, he, hc⟩ := src k c hk
    obtain ⟨a', ha', he', hc'⟩ := src q d hq
    rw [he] at h1 ⊢; rw [he'] at h2 ⊢
    refine h.sep a a' c d ha ha' ?_ h1 h2
    rcases hc with ⟨rfl, rfl⟩ | ⟨x1, rfl, x2⟩ <;> rcases hc' with ⟨rfl, rfl⟩ | ⟨y1, rfl, y2⟩
    · exact absurd rfl hne'
    · exact Ne.symm y2
    · exact x2
    · exact hne'
  · obtain ⟨a, ha, he, _⟩ := src k c hk; rw [he] at h1 ⊢; exact h.new a c ha h1
  · obtain ⟨a, ha, he, _⟩ := src k c hk; rw [he] at h1 ⊢; exact h.np a c ha h1

theorem WRel.drawn (h : WRel B bl ρ H w) (hh : w'.heap = w.heap) (ho : w'.os = w.os) (ht : w'.tape = w.tape) (hp : w'.output = w.output) : WRel B bl ρ H w' :=
  ⟨fun j b hj => (h.own j b hj).mono (GH.le_refl _) rfl (fun _ _ => rfl) (fun _ => by rw [hh]), h.sep, h.new, h.np, by rw [hh]; exact h.pers, h.hext, h.hnew, by rw [hh]; exact h.size, by rw [hh]; exact h.frame, by rw [ho]; exact h.os,
   by rw [ht]; exact h.tape, by rw [hp]; exact h.output, h.kp⟩

/-- A buffer without a block. -/
theorem WRel.empty_buf (h : WRel B bl ρ H w) {j sz : Nat} (hkp : B.keep j = none) (hf : ∀ k b', bl k = some b' → b'.has j = false) (hbl : ∀ k, bl' k = if j = k then some (.buf sz []) else bl k) : WRel B bl' (setLoc ρ j ⟨0, 0, sz, false⟩) H w := by
  have old : ∀ k b', bl' k = some b' → k ≠ j → bl k = some b' := fun k b' hk hne => by rw [hbl, if_neg (Ne.symm hne)] at hk; exact hk
  refine ⟨fun k b' hk => ?_, fun k q b' c hk hq hne h1 h2 => ?_, fun k b' hk h1 => ?_, fun k b' hk h1 => ?_, h.pers, h.hext, h.hnew, h.size, h.frame, h.os, h.tape, h.output, fun k l hk => by rw [setLoc_ne (by rintro rfl; rw [hkp] at hk; cases hk)]; exact h.kp k l hk⟩
  · by_cases hkj : k = j
    · subst hkj
      rw [hbl, if_pos rfl] at hk; cases hk
      exact ⟨by rw [setLoc_eq], by simp, by simp, fun _ => by rw [setLoc_eq], fun hh => (by rw [setLoc_eq] at hh; cases hh), by simp, rfl⟩
    · exact (h.own k b' (old k b' hk hkj)).name (setLoc_ne hkj) fun q hq => setLoc_ne (by rintro rfl; rw [hf k b' (old k b' hk hkj)] at hq; cases hq)
  · have hkj : k ≠ j := by rintro rfl; rw [setLoc_eq] at h1; cases h1
    have hqj : q ≠ j := by rintro rfl; rw [setLoc_eq] at h2; cases h2
    rw [setLoc_ne hkj] at h1 ⊢; rw [setLoc_ne hqj] at h2 ⊢
    exact h.sep k q b' c (old k b' hk hkj) (old q c hq hqj) hne h1 h2
  · have hkj : k ≠ j := by rintro rfl; rw [setLoc_eq] at h1; cases h1
    rw [setLoc_ne hkj] at h1 ⊢; exact h.new k b' (old k b' hk hkj) h1
  · have hkj : k ≠ j := by rintro rfl; rw [setLoc_eq] at h1; cases h1
    rw [setLoc_ne hkj] at h1 ⊢; exact h.np k b' (old k b' hk hkj) h1
end

section ops
variable {P : Program}

/-- What is appended: its cells. -/
theorem src_cells {ρ : Nat → Loc} {H : GH} {w : World} (hp : ∀ b o, H b = some o → w.heap[b]? = some o) {full : Bool} {m : List (List D)} {sz : Nat} {v : Value} (hv : Den ρ H (.rows full m) v) (hm : RowsOk sz m) :
    ∃ (a : Option Addr) (cap : Nat) (cs : Array Value), v = .slice a m.length cap ∧ (∀ w' : World, w'.heap = w.heap → (Builtin.firstCells sz m.length v).run P w' = .ok cs w') ∧ cs.size = m.length * sz ∧
      (∀ (i k : Nat) (row : List D) (d : D) (u : Value), m[i]? = some row → row[k]? = some d → cs[i * sz + k]? = some u → DenP H d u) ∧ (∀ x ∈ cs.toList, x.oneCell' = true) := by
  obtain ⟨a, cap, rfl, h1, _, h3⟩ := hv.rows_inv
  by_cases hne : m = []
  · subst hne
    refine ⟨a, cap, #[], rfl, fun w' _ => ?_, by simp, by simp, by simp⟩
    cases a with
    | none => simp [Builtin.firstCells]
    | some a =>
      have := run_loadCells_list (P := P) w' a [] (by simp)
      simpa [Builtin.firstCells] using this
  · obtain ⟨b, off, sz', arr, ty, fz, rfl, hb, hs, hin, he⟩ := h3 hne
    have hsz : sz' = sz := by
      obtain ⟨r, hr⟩ := List.exists_mem_of_ne_nil m hne
      rw [← hs r hr, (hm r hr).1]
    subst hsz
    have hcell : ∀ (i k : Nat) (row : List D) (d : D) (u : Value), m[i]? = some row → row[k]? = some d → (arr.extract off (off + m.length * sz'))[i * sz' + k]? = some u → DenP H d u := by
      intro i k row d u hi hk hu
      rw [Array.getElem?_extract] at hu
      split at hu
      · rw [← Nat.add_assoc] at hu; exact he i k row d u hi hk hu
      · cases hu
    refine ⟨_, cap, arr.extract off (off + m.length * sz'), rfl, fun w' hw => ?_, by simp; omega, hcell, fun x hx => ?_⟩
    · simp only [Builtin.firstCells]; exact load_cells (by rw [hw]; exact hp _ _ hb) hin
    · obtain ⟨q, hq⟩ := List.mem_iff_getElem?.1 hx
      have hql : q < m.length * sz' := by have := (List.getElem?_eq_some_iff.1 hq).1; simp at this; omega
      have hs0 : 0 < sz' := by rcases Nat.eq_zero_or_pos sz' with h | h; subst h; simp at hql; exact h
      have hdiv : q / sz' < m.length := by rw [Nat.div_lt_iff_lt_mul hs0]; exact hql
      have hmod : q % sz' < sz' := Nat.mod_lt _ hs0
      have hrow := hm m[q / sz'] (List.getElem_mem hdiv)
      have hk : q % sz' < (m[q / sz']).length := by rw [hrow.1]; exact hmod
      have hden := hcell (q / sz') (q % sz') m[q / sz'] (m[q / sz'])[q % sz'] x (by simp [hdiv]) (by simp [hk]) (by
        rw [Nat.mul_comm (q / sz') sz', Nat.div_add_mod]; rwa [Array.getElem?_toList] at hq)
      have hc := (Den.pure (ρ := ρ) hden).cell ((List.all_eq_true.1 (by have := hrow.2; simp only [Bool.and_eq_true] at this; exact this.1)) _ (List.getElem_mem hk))
      cases x <;> simp [Value.oneCell'] <;> first | exact hc.1 _ rfl | exact hc.2 _ rfl

theorem zeroCells_size (z : Array Value) (n : Nat) : (Builtin.zeroCells z n).size = n * z.size := by simp [Builtin.zeroCells]

section
variable {t : Nat} {ty : TypeId} {pos : String} {af : Array Edge} {g : Option (Nat × Bool)} {st : St} {d : D}

/-- An append that makes a new block: its run. -/
theorem append_grow_run {T T2 e : TypeId} {sz by_ : Nat} (hT : TySl P T e sz by_) (hT2 : ∃ e2, P.underlying T2 = some (.slice e2)) {zs : List D} (hZ : TyZ P e zs) {w : World} {base : Option Addr} {sLen sCap n c2 : Nat} {a2 : Option Addr} {old new : Array Value}
    (ho : ∀ w' : World, w'.heap = w.heap → (Builtin.firstCells sz sLen (.slice base sLen sCap)).run P w' = .ok old w') (hn : ∀ w' : World, w'.heap = w.heap → (Builtin.firstCells sz n (.slice a2 n c2)).run P w' = .ok new w') (hos : old.size = sLen * sz) (hns : new.size = n * sz)
    (hgt : sCap < sLen + n) (hroom : Builtin.nextslicecap (sLen + n) sCap * by_ ≤ 281474976710656) (hb0 : by_ ≠ 0) :
    ∃ cap arr, sLen + n ≤ cap ∧ (Builtin.append_ #[T, T2] ty #[.slice base sLen sCap, .slice a2 n c2]).run P w = .ok (.slice (some ⟨w.heap.size, 0, none⟩) (sLen + n) cap) ({ w with drawn := w.drawn + 1 }.alloc (.cells arr e)) ∧
      arr.size = cap * sz ∧ ∀ q u, q < (sLen + n) * sz → arr[q]? = some u → (old ++ new)[q]? = some u := by
  obtain ⟨e2, he2⟩ := hT2
  obtain ⟨i, hi, hi2⟩ := map_some hT.info
  simp only [Prod.mk.injEq] at hi2
  obtain ⟨i', hi', hz1⟩ := map_some hZ.size
  have : i' = i := by rw [hi] at hi'; cases hi'; rfl
  subst this
  obtain ⟨v, hv, hv2⟩ := map_some hZ.zero
  have hz : i'.zero = some v := by simpa [hi] using hv
  have hvs : v.cells.size = sz := by have := congrArg List.length hv2; simp at this; omega
  let cap := sLen + n + w.tape w.drawn (.appendCap (sLen + n) sCap e) % (2 ^ 63 - (sLen + n))
  refine ⟨cap, old ++ new ++ Builtin.zeroCells v.cells (cap - (sLen + n)), by simp only [cap]; omega, ?_, ?_, fun q u hq hu => ?_⟩
  · have ho' := ho { w with drawn := w.drawn + 1 } rfl
    have hn' := hn { w with drawn := w.drawn + 1 } rfl
    simp only [Builtin.append_, List.getElem?_toArray, List.getElem?_cons_zero, List.getElem?_cons_succ, Sem.run_bind, run_underlying hT.und, run_underlying he2, Result.andThen_ok, sizeOf, typeInfo, run_program, hi, hi2.1, hi2.2, Sem.run_pure,
      Builtin.lenOf, Bool.false_eq_true, if_false, Nat.not_le.2 hgt, hb0, or_false, and_false, Nat.not_lt.2 hroom, run_choose, Question.forced, run_askRoom, ho', Bool.not_false, if_true, hn', zeroValue, hz, newRow, run_newObj]
    rfl
  · have : sLen + (n + (cap - (sLen + n))) = cap := by simp only [cap]; omega
    simp [hos, hns, zeroCells_size, hvs, ← Nat.add_mul, this]
  · rw [Array.getElem?_append_left (by simp [hos, hns, ← Nat.add_mul]; exact hq)] at hu
    exact hu

theorem growBy_le (need : Nat) : ∀ (r c : Nat), c < need → Builtin.growBy need r c ≤ 2 * need + 512
  | 0, c, h => by simp [Builtin.growBy]; omega
  | r + 1, c, h => by
    simp only [Builtin.growBy]
    rw [if_neg (by omega)]
    by_cases hc : c + (c + 768) / 4 < need
    · exact growBy_le need r _ hc
    · have : ∀ r, Builtin.growBy need r (c + (c + 768) / 4) = c + (c + 768) / 4 := by
        intro r
        cases r with
        | zero => rfl
        | succ r => simp only [Builtin.growBy]; rw [if_pos (by omega)]
      rw [this]; omega
theorem nsc_le {need cap : Nat} (h : cap < need) : Builtin.nextslicecap need cap ≤ 2 * need + 512 := by
  unfold Builtin.nextslicecap
  split
  · omega
  · split
    · omega
    · exact growBy_le need 4 cap h

theorem den_cells {ρ : Nat → Loc} {H : GH} {l m : List (List D)} {sz : Nat} (hl : ∀ r ∈ l, r.length = sz) {old new : Array Value} (hos : old.size = l.length * sz)
    (ho : ∀ (i k : Nat) (row : List D) (d : D) (v : Value), l[i]? = some row → row[k]? = some d → old[i * sz + k]? = some v → Den ρ H d v)
    (hn : ∀ (i k : Nat) (row : List D) (d : D) (v : Value), m[i]? = some row → row[k]? = some d → new[i * sz + k]? = some v → Den ρ H d v) :
    ∀ (i k : Nat) (row : List D) (d : D) (v : Value), (l ++ m)[i]? = some row → row[k]? = some d → (old ++ new)[i * sz + k]? = some v → Den ρ H d v := by
  intro i k row d v hi hk hv
  have hks : k < row.length := (List.getElem?_eq_some_iff.1 hk).1
  by_cases hil : i < l.length
  · rw [List.getElem?_append_left hil] at hi
    have hr := hl row (List.mem_of_getElem? hi)
    have : (i + 1) * sz ≤ l.length * sz := Nat.mul_le_mul_right _ hil
    rw [Nat.succ_mul] at this
    rw [Array.getElem?_append_left (by omega)] at hv
    exact ho i k row d v hi hk hv
  · rw [List.getElem?_append_right (by omega)] at hi
    have : l.length * sz ≤ i * sz := Nat.mul_le_mul_right _ (by omega)
    rw [Array.getElem?_append_right (by omega), hos] at hv
    refine hn (i - l.length) k row d v hi hk ?_
    rw [Nat.sub_mul]
    rwa [show i * sz + k - l.length * sz = i * sz - l.length * sz + k by omega] at hv

/-- An append to a buffer of the call's own, at its end. -/
theorem append_core {B : Base} {bl : Nat → Option Blk} {ρ : Nat → Loc} {H : GH} {w : World} (hW : WRel B bl ρ H w) (j' : Nat) {T T2 e e2 : TypeId} {sz by_ sz2 by2 j : Nat} {fy : Bool} {zs : List D} {l m : List (List D)} (hT : TySl P T e sz by_)
    (hT2 : TySl P T2 e2 sz2 by2) (hZ : TyZ P e zs) {x y : Value} (hx : Den ρ H (.sl j 0 l.length) x) (hj : bl j = some (.buf sz l)) (hy : Den ρ H (.rows fy m) y) (hm : RowsOk sz m) (hroom : (2 * (l.length + m.length) + 512) * by_ ≤ 281474976710656)
    (hb0 : Nat.blt 0 by_ = true) (hkp : B.keep j' = none) (hne : j' ≠ j) (hfr : ∀ k b', bl k = some b' → b'.has j' = false) :
    ∃ v w' ρ', (Builtin.append_ #[T, T2] ty #[x, y]).run P w = .ok v w' ∧ Den ρ' H (.sl j' 0 (l ++ m).length) v ∧ (∀ k, k ≠ j' → ρ' k = ρ k) ∧
      WRel B (fun k => if j' = k then some (.buf sz (l ++ m)) else if j = k then none else bl k) ρ' H w' := by
  obtain ⟨a1, c, hv1, hc, hcn, ha⟩ := hx.sl_inv
  obtain ⟨ho0, ho1, ho2, ho3, ho4, hoB, hoP⟩ := hW.own j _ hj
  obtain ⟨a2, c2, new, hv2, hnew, hns, hnd, hn1⟩ := src_cells (P := P) hW.pers hy hm
  have hb0' : by_ ≠ 0 := by have := blt_lt hb0; omega
  have hBig : (l ++ m).length ≤ 9223372036854775807 := by
    have h1 := Nat.le_trans (Nat.le_mul_of_pos_right _ (Nat.pos_of_ne_zero hb0')) hroom
    rw [List.length_append]; omega
  have hPure : ((l ++ m).all D.pureL) = true := by
    rw [List.all_append, hoP, Bool.true_and, List.all_eq_true]
    intro r hr
    have := (hm r hr).2
    simp only [Bool.and_eq_true] at this; exact this.2
  rw [Nat.sub_zero] at hc
  simp only [Nat.zero_add] at hcn
  by_cases hfit : l.length + m.length ≤ (ρ j).cap
  · -- there is room
    have rowsAll : ∀ row ∈ l ++ m, row.length = (ρ j).sz := fun row hr => by
      rcases List.mem_append.1 hr with h | h
      · exact ho2 row h
      · rw [ho0]; exact (hm row h).1
    have hsl : ∀ (ρ' : Nat → Loc), ρ' j' = ρ j → Den ρ' H (.sl j' 0 (l ++ m).length) (.slice a1 (l.length + m.length) c) := fun ρ' he => by
      have := Den.sl (ρ := ρ') (H := H) j' 0 (l ++ m).length a1 c (by rw [he, hc]; simp) (by rw [he]; simpa using hfit) (by
        rcases ha with h | ⟨h1, h2⟩
        · exact .inl h
        · exact .inr ⟨by rw [he]; exact h1, by rw [he]; exact h2⟩)
      simpa using this
    by_cases hme : m = []
    · subst hme
      have hnew0 : new = #[] := by have : new.size = 0 := by simpa using hns
                                   exact Array.eq_empty_of_size_eq_zero this
      subst hnew0
      have hrun : (Builtin.append_ #[T, T2] ty #[x, y]).run P w = .ok (.slice a1 (l.length + 0) c) w := by
        obtain ⟨i, hi, hi2⟩ := map_some hT.info
        simp only [Prod.mk.injEq] at hi2
        have hfit' : l.length + 0 ≤ c := by rw [hc]; simpa using hfit
        have hnw := hnew w rfl
        simp only [List.length_nil] at hnw hv2
        rw [hv2] at hnw
        rw [hv1, hv2]
        simp only [Builtin.append_, List.getElem?_toArray, List.getElem?_cons_zero, List.getElem?_cons_succ, Sem.run_bind, run_underlying hT.und, run_underlying hT2.und, Result.andThen_ok, sizeOf, typeInfo, run_program, hi, hi2.1, Sem.run_pure,
          Builtin.lenOf, Bool.false_eq_true, if_false, if_pos hfit', Bool.not_false, if_true, hnw]
        cases a1 with
        | none => rfl
        | some b => rfl
      refine ⟨.slice a1 (l.length + 0) c, w, setLoc ρ j' (ρ j), hrun, hsl _ setLoc_eq, fun k hk => setLoc_ne hk, ?_⟩
      refine (hW.rename hj hkp hne (fun k b' hk => hfr k b' hk) (bl' := fun k => if j' = k then some (.buf sz l) else if j = k then none else bl k) fun k => rfl).bl_eq fun k c' hk => ?_
      simpa using hk
    · have hmpos : 0 < m.length := List.length_pos_iff.2 hme
      have hhere : (ρ j).here = true := by
        cases hh : (ρ j).here with
        | true => rfl
        | false => have := ho3 hh; omega
      have ha' : a1 = some ⟨(ρ j).blk, 0, none⟩ := by
        rcases ha with h | ⟨_, h2⟩
        · omega
        · simpa using h2
      subst ha'
      obtain ⟨arr, bt, hb, hbs, hbd⟩ := ho4 hhere
      have hle : (l.length + m.length) * sz ≤ arr.size := by rw [hbs, ho0]; exact Nat.mul_le_mul_right _ hfit
      rw [Nat.add_mul] at hle
      have hst := run_storeCells_at P (ρ j).blk (l.length * sz) bt new.toList 0 arr w hb (by simp [hns]; omega) hn1
      simp only [Nat.add_zero, Array.length_toList, hns] at hst
      have hadd : (⟨(ρ j).blk, 0, none⟩ : Addr).add (l.length * sz) = ⟨(ρ j).blk, l.length * sz, none⟩ := by unfold Addr.add; split <;> simp_all
      let arr' := (arr.toList.take (l.length * sz) ++ new.toList ++ arr.toList.drop (l.length * sz + m.length * sz)).toArray
      have hrun : (Builtin.append_ #[T, T2] ty #[x, y]).run P w = .ok (.slice (some ⟨(ρ j).blk, 0, none⟩) (l.length + m.length) c) (w.setRow (ρ j).blk arr') := by
        obtain ⟨i, hi, hi2⟩ := map_some hT.info
        simp only [Prod.mk.injEq] at hi2
        have hfit' : l.length + m.length ≤ c := by rw [hc]; exact hfit
        have hnw := hnew w rfl
        rw [hv2] at hnw
        rw [hv1, hv2]
        simp only [Builtin.append_, List.getElem?_toArray, List.getElem?_cons_zero, List.getElem?_cons_succ, Sem.run_bind, run_underlying hT.und, run_underlying hT2.und, Result.andThen_ok, sizeOf, typeInfo, run_program, hi, hi2.1, Sem.run_pure,
          Builtin.lenOf, Bool.false_eq_true, if_false, if_pos hfit', Bool.not_false, if_true, hnw, hadd, hst]
        rfl
      have harrs : arr'.size = arr.size := by simp [arr', hns]; omega
      have hgetl : ∀ q, q < (l.length + m.length) * sz → arr'[q]? = ((arr.extract 0 (l.length * sz)) ++ new)[q]? := by
        intro q hq
        rw [Nat.add_mul] at hq
        simp only [arr', List.getElem?_toArray, List.append_assoc]
        by_cases h1 : q < l.length * sz
        · rw [List.getElem?_append_left (by simp; omega), Array.getElem?_append_left (by simp; omega)]
          simp [h1, Array.getElem?_extract]
          try (intro; omega)
        · rw [List.getElem?_append_right (by simp; omega), Array.getElem?_append_right (by simp; omega)]
          have e1 : (arr.toList.take (l.length * sz)).length = l.length * sz := by simp; omega
          have e2 : (arr.extract 0 (l.length * sz)).size = l.length * sz := by simp; omega
          rw [e1, e2, List.getElem?_append_left (by simp [hns]; omega), Array.getElem?_toList]
      have hden := den_cells (ρ := ρ) (H := H) (l := l) (m := m) (sz := sz) (fun r hr => by rw [← ho0]; exact ho2 r hr) (old := arr.extract 0 (l.length * sz)) (new := new) (by simp; omega)
        (fun i k row d v hi hk hv => by
          rw [Array.getElem?_extract] at hv
          split at hv
          · rw [Nat.zero_add] at hv; exact hbd i k row d v hi hk (by rw [ho0]; exact hv)
          · cases hv) (fun i k row d v hi hk hv => .pure (hnd i k row d v hi hk hv))
      have hW1 : WRel B (fun k => if j = k then some (.buf sz (l ++ m)) else bl k) ρ H (w.setRow (ρ j).blk arr') := by
        refine hW.write hj hhere (by simp) (fun k hk => setRow_other w _ k _ hk) rfl rfl rfl (b' := .buf sz (l ++ m)) ⟨ho0, by simpa using hfit, rowsAll, ho3, fun _ => ⟨arr', bt, setRow_heap w _ arr _ bt (0, 0) hb, by rw [harrs, hbs], fun i k row d v hi hk hv => ?_⟩, hBig, hPure⟩ fun k => rfl
        rw [ho0] at hv
        have hil : i < (l ++ m).length := (List.getElem?_eq_some_iff.1 hi).1
        have hkl : k < sz := by have := (List.getElem?_eq_some_iff.1 hk).1; rw [rowsAll row (List.mem_of_getElem? hi), ho0] at this; exact this
        have : (i + 1) * sz ≤ (l.length + m.length) * sz := Nat.mul_le_mul_right _ (by rw [List.length_append] at hil; exact hil)
        rw [Nat.succ_mul] at this
        rw [hgetl _ (by omega)] at hv
        exact hden i k row d v hi hk hv
      have hnames : ∀ k b', (if j = k then some (.buf sz (l ++ m)) else bl k) = some b' → b'.has j' = false := fun k b' hk => by
        split at hk
        · cases hk; rfl
        · exact hfr k b' hk
      refine ⟨_, _, setLoc ρ j' (ρ j), hrun, hsl _ setLoc_eq, fun k hk => setLoc_ne hk, ?_⟩
      exact (hW1.rename (j := j) (b := .buf sz (l ++ m)) (by simp) hkp hne hnames (bl' := fun k => if j' = k then some (.buf sz (l ++ m)) else if j = k then none else bl k) fun k => by
        by_cases h1 : j' = k
        · rw [if_pos h1, if_pos h1]
        · rw [if_neg h1, if_neg h1]
          by_cases h2 : j = k
          · rw [if_pos h2, if_pos h2]
          · rw [if_neg h2, if_neg h2, if_neg h2])
  · -- there is none
    have hgt : c < l.length + m.length := by omega
    have hnsc := nsc_le hgt
    obtain ⟨old, hold, hos, hod⟩ : ∃ old : Array Value, (∀ w' : World, w'.heap = w.heap → (Builtin.firstCells sz l.length (.slice a1 l.length c)).run P w' = .ok old w') ∧ old.size = l.length * sz ∧
        ∀ (i k : Nat) (row : List D) (d : D) (v : Value), l[i]? = some row → row[k]? = some d → old[i * sz + k]? = some v → Den ρ H d v := by
      by_cases hl0 : l.length * sz = 0
      · refine ⟨#[], fun w' _ => ?_, by rw [hl0]; rfl, by simp⟩
        cases a1 with
        | none => simp [Builtin.firstCells]
        | some b =>
          have := run_loadCells_list (P := P) w' b [] (by simp)
          simpa [Builtin.firstCells, hl0] using this
      · have hlpos : 0 < l.length := Nat.pos_of_ne_zero fun h => hl0 (by rw [h]; simp)
        have hhere : (ρ j).here = true := by
          cases hh : (ρ j).here with
          | true => rfl
          | false => have := ho3 hh; omega
        have ha' : a1 = some ⟨(ρ j).blk, 0, none⟩ := by
          rcases ha with h | ⟨_, h2⟩
          · omega
          · simpa using h2
        subst ha'
        obtain ⟨arr, bt, hb, hbs, hbd⟩ := ho4 hhere
        have hle : l.length * sz ≤ arr.size := by rw [hbs, ho0]; exact Nat.mul_le_mul_right _ hcn
        refine ⟨arr.extract 0 (l.length * sz), fun w' hw => ?_, by simp; omega, fun i k row d v hi hk hv => ?_⟩
        · have := load_cells (P := P) (w := w') (b := (ρ j).blk) (off := 0) (n := l.length * sz) (by rw [hw]; exact hb) (by omega)
          simp only [Builtin.firstCells]
          rw [this, Nat.zero_add]
        · rw [Array.getElem?_extract] at hv
          split at hv
          · rw [Nat.zero_add] at hv; exact hbd i k row d v hi hk (by rw [ho0]; exact hv)
          · cases hv
    have hv2' : ∀ w' : World, w'.heap = w.heap → (Builtin.firstCells sz m.length (.slice a2 m.length c2)).run P w' = .ok new w' := fun w' hw => by
      have := hnew w' hw
      rwa [hv2] at this
    obtain ⟨cap, arr, hcap, hrun, has, hget⟩ := append_grow_run (P := P) (ty := ty) hT ⟨_, hT2.und⟩ hZ hold hv2' hos hns hgt (Nat.le_trans (Nat.mul_le_mul_right _ hnsc) hroom) hb0'
    have hden := den_cells (ρ := ρ) (H := H) (l := l) (m := m) (sz := sz) (fun r hr => by rw [← ho0]; exact ho2 r hr) hos hod (fun i k row d v hi hk hv => .pure (hnd i k row d v hi hk hv))
    have hWd : WRel B (fun k => if j = k then none else bl k) ρ H { w with drawn := w.drawn + 1 } :=
      (hW.bl_eq fun k c' hk => by split at hk; cases hk; exact hk).drawn rfl rfl rfl rfl
    have hnl : D.hasL j' [] = false := rfl
    have hlm : ∀ r ∈ l ++ m, D.hasL j' r = false := fun r hr => D.pureL_has j' r ((List.all_eq_true.1 hPure) r hr)
    refine ⟨.slice (some ⟨w.heap.size, 0, none⟩) (l.length + m.length) cap, _, setLoc ρ j' ⟨w.heap.size, cap, sz, true⟩, by rw [hv1, hv2, hrun], ?_, fun k hk => setLoc_ne hk, ?_⟩
    · have := Den.sl (ρ := setLoc ρ j' ⟨w.heap.size, cap, sz, true⟩) (H := H) j' 0 (l ++ m).length (some ⟨w.heap.size, 0, none⟩) cap (by rw [setLoc_eq]; rfl) (by rw [setLoc_eq]; simpa using hcap) (.inr ⟨by rw [setLoc_eq], by rw [setLoc_eq]; simp⟩)
      simpa using this
    · have hok : OwnOk (setLoc ρ j' ⟨w.heap.size, cap, sz, true⟩) H ({ w with drawn := w.drawn + 1 }.alloc (.cells arr e)) j' (.buf sz (l ++ m)) := by
        refine ⟨by rw [setLoc_eq], by rw [setLoc_eq]; simpa using hcap, fun row hr => ?_, fun hh => (by rw [setLoc_eq] at hh; cases hh),
          fun _ => ⟨arr, e, by rw [setLoc_eq]; exact alloc_new, by rw [setLoc_eq]; exact has, fun i k row d v hi hk hv => ?_⟩, hBig, hPure⟩
        · rw [setLoc_eq]
          rcases List.mem_append.1 hr with h | h
          · rw [ho2 row h]; exact ho0
          · exact (hm row h).1
        · rw [setLoc_eq] at hv
          have hil : i < (l ++ m).length := (List.getElem?_eq_some_iff.1 hi).1
          have hrl : row.length = sz := by
            rcases List.mem_append.1 (List.mem_of_getElem? hi) with h | h
            · rw [ho2 row h]; exact ho0
            · exact (hm row h).1
          have hkl : k < sz := by have := (List.getElem?_eq_some_iff.1 hk).1; omega
          have : (i + 1) * sz ≤ (l.length + m.length) * sz := Nat.mul_le_mul_right _ (by rw [List.length_append] at hil; exact hil)
          rw [Nat.succ_mul] at this
          refine (hden i k row d v hi hk (hget _ _ (by omega) hv)).mono (GH.le_refl _) fun q hq => setLoc_ne ?_
          rintro rfl
          have := hlm row (List.mem_of_getElem? hi)
          rw [D.hasL_false this d (List.mem_of_getElem? hk)] at hq; cases hq
      refine (hWd.alloc_own hkp (fun k b' hk => ?_) hok (bl' := fun k => if j' = k then some (.buf sz (l ++ m)) else if j = k then none else bl k) fun k => rfl)
      split at hk
      · cases hk
      · exact hfr k b' hk

theorem lok_append_own (j' : Nat) {x y : Operand} {T T2 e e2 : TypeId} {sz by_ sz2 by2 j n : Nat} {fy : Bool} {zs : List D} {l m : List (List D)} [hT : TySl P T e sz by_] [hT2 : TySl P T2 e2 sz2 by2] [hZ : TyZ P e zs]
    (hx : st.val x = some (.sl j 0 n)) (hj : st.blk j = some (.buf sz l)) (hn : n = l.length) (hy : st.val y = some (.rows fy m)) (hm : RowsOk sz m) (hroom : (2 * (l.length + m.length) + 512) * by_ ≤ 281474976710656) (hb0 : Nat.blt 0 by_ = true) (hd : t < st.n) :
    LOk P ⟨some t, .call ⟨.builtin .append, #[x, y], #[T, T2]⟩, ty, pos, af, g⟩ st ⟨[j], [j'], .sl j' 0 (l ++ m).length, [(j', some (.buf sz (l ++ m))), (j, none)]⟩ := by
  intro B st2 ag
  subst hn
  have hfr := ag.fresh j' (by simp)
  refine opOk_value (fun s hs => by cases hs; rw [ag.n]; exact hd) ag.fresh fun ρ H a w hR => ?_
  have hx2 := (ag.val x (by simp [Op.operands, Call.operands])).trans hx
  have hy2 := (ag.val y (by simp [Op.operands, Call.operands])).trans hy
  have hj2 := (ag.blk j (by simp)).trans hj
  have hne : j' ≠ j := by rintro rfl; have := hfr.val hx2; simp [D.has] at this
  have hruneq : (execOp a.eval ⟨some t, .call ⟨.builtin .append, #[x, y], #[T, T2]⟩, ty, pos, af, g⟩).run P w = ((Builtin.append_ #[T, T2] ty #[a.eval x, a.eval y]).run P w).andThen fun v w' => .ok (.value v) w' := by
    simp [execOp, resolve, invoke, builtin]
  obtain ⟨v, w', ρ', h1, h2, h3, h4⟩ := append_core (P := P) (ty := ty) hR.wr j' hT hT2 hZ (hR.val hx2) hj2 (hR.val hy2) hm hroom hb0 (hR.nokeep hfr) hne fun k b' hk => hfr.bl k b' hk
  refine ⟨v, w', ρ', H, .inl (by rw [hruneq, h1]; rfl), h2, GH.le_refl _, fun k hk => h3 k (by simpa using hk), h4.bl_eq fun k c' hk => ?_⟩
  rw [St.app_blk, blkOn_cons, blkOn_cons] at hk
  by_cases h1 : j' = k
  · rw [if_pos h1] at hk ⊢; exact hk
  · rw [if_neg h1] at hk ⊢
    by_cases h2 : j = k
    · rw [if_pos h2] at hk; cases hk
    · rw [if_neg h2] at hk ⊢; exact hk

/-- An append to nothing: a buffer of the call's own. (j0: a name that is used up.) -/
theorem lok_append_nil (j0 j' : Nat) {x y : Operand} {T T2 e e2 : TypeId} {sz by_ sz2 by2 : Nat} {fy : Bool} {zs : List D} {m : List (List D)} [hT : TySl P T e sz by_] [hT2 : TySl P T2 e2 sz2 by2] [hZ : TyZ P e zs]
    (hx : st.val x = some (.rows true [])) (hy : st.val y = some (.rows fy m)) (hm : RowsOk sz m) (hne : Nat.beq j' j0 = false) (hroom : (2 * m.length + 512) * by_ ≤ 281474976710656) (hb0 : Nat.blt 0 by_ = true) (hd : t < st.n) :
    LOk P ⟨some t, .call ⟨.builtin .append, #[x, y], #[T, T2]⟩, ty, pos, af, g⟩ st ⟨[], [j', j0], .sl j' 0 m.length, [(j', some (.buf sz m)), (j0, none)]⟩ := by
  intro B st2 ag
  have hfr := ag.fresh j' (by simp)
  have hfr0 := ag.fresh j0 (by simp)
  refine opOk_value (fun s hs => by cases hs; rw [ag.n]; exact hd) ag.fresh fun ρ H a w hR => ?_
  have hx2 := (ag.val x (by simp [Op.operands, Call.operands])).trans hx
  have hy2 := (ag.val y (by simp [Op.operands, Call.operands])).trans hy
  have hruneq : (execOp a.eval ⟨some t, .call ⟨.builtin .append, #[x, y], #[T, T2]⟩, ty, pos, af, g⟩).run P w = ((Builtin.append_ #[T, T2] ty #[a.eval x, a.eval y]).run P w).andThen fun v w' => .ok (.value v) w' := by
    simp [execOp, resolve, invoke, builtin]
  obtain ⟨a1, c, hv1, _, hc, _⟩ := (hR.val hx2).rows_inv
  have hc0 : c = 0 := by simpa using hc rfl
  subst hc0
  have hW0 : WRel B (fun k => if j0 = k then some (.buf sz []) else st2.blk k) (setLoc ρ j0 ⟨0, 0, sz, false⟩) H w := hR.wr.empty_buf (hR.nokeep hfr0) (fun k b' hk => hfr0.bl k b' hk) fun k => rfl
  have hd1 : Den (setLoc ρ j0 ⟨0, 0, sz, false⟩) H (.sl j0 0 ([] : List (List D)).length) (a.eval x) := by
    rw [hv1]
    exact .sl j0 0 0 a1 0 (by simp [setLoc_eq]) (by simp) (.inl rfl)
  have hd2 : Den (setLoc ρ j0 ⟨0, 0, sz, false⟩) H (.rows fy m) (a.eval y) := (hR.val hy2).mono (GH.le_refl _) fun k hk => by simp [D.has] at hk
  have hne' : j' ≠ j0 := by rintro rfl; simp at hne
  obtain ⟨v, w', ρ', h1, h2, h3, h4⟩ := append_core (P := P) (ty := ty) hW0 j' hT hT2 hZ hd1 (by simp) hd2 hm (by simpa using hroom) hb0 (hR.nokeep hfr) hne' fun k b' hk => by
    split at hk
    · cases hk; rfl
    · exact hfr.bl k b' hk
  refine ⟨v, w', ρ', H, .inl (by rw [hruneq, h1]; rfl), by simpa using h2, GH.le_refl _, fun k hk => ?_, h4.bl_eq fun k c' hk => ?_⟩
  · simp only [List.mem_cons, List.not_mem_nil, or_false, not_or] at hk
    rw [h3 k hk.1, setLoc_ne hk.2]
  · rw [St.app_blk, blkOn_cons, blkOn_cons] at hk
    by_cases h1 : j' = k
    · rw [if_pos h1] at hk ⊢; exact hk
    · rw [if_neg h1] at hk ⊢
      by_cases h2 : j0 = k
      · rw [if_pos h2] at hk; cases hk
      · rw [if_neg h2] at hk ⊢
        rw [if_neg h2]; exact hk

/-- An own buffer that is left alone from now on. -/
theorem Fz.sl {st : St} {j n sz : Nat} {l : List (List D)} (hj : st.blk j = some (.buf sz l)) (hn : n = l.length) (hp : (l.all D.pureL) = true) : Fz st (.sl j 0 n) (.rows false l) := fun B ρ H a w v H' hR hpass hd hle hf => by
  subst hn
  obtain ⟨a1, c, rfl, hc, hcn, ha⟩ := hd.sl_inv
  obtain ⟨ho0, ho1, ho2, ho3, ho4, hoB, hoP⟩ := hR.wr.own j _ hj
  rw [Nat.sub_zero] at hc
  by_cases hl : l = []
  · subst hl; exact .rowsE false a1 c (by simp)
  · have hlp : 0 < l.length := List.length_pos_iff.2 hl
    have hhere : (ρ j).here = true := by
      cases hh : (ρ j).here with
      | true => rfl
      | false => have := ho3 hh; omega
    have ha' : a1 = some ⟨(ρ j).blk, 0, none⟩ := by
      rcases ha with h | ⟨_, h2⟩
      · omega
      · simpa using h2
    subst ha'
    obtain ⟨arr, bt, hb, hbs, hbd⟩ := ho4 hhere
    have hnew : B.W.heap.size ≤ (ρ j).blk := by
      rcases hR.wr.new j _ hj hhere with h | h
      · exact h
      · rw [hpass] at h; cases h
    have hH := hf (ρ j).blk _ hnew (hR.wr.np j _ hj hhere) hb
    refine .rowsS false l _ 0 c (ρ j).sz arr bt (0, 0) hH hl (by omega) (by simp) ho2 ?_ (fun i k row d v hi hk hv => ?_) hoB
    · rw [Nat.zero_add, hbs]; exact Nat.mul_le_mul_right _ ho1
    · rw [Nat.zero_add] at hv
      exact ((hbd i k row d v hi hk hv).toP (D.pureL_mem ((List.all_eq_true.1 hp) _ (List.mem_of_getElem? hi)) _ (List.mem_of_getElem? hk))).mono hle
end
end ops
end Go.Eng

/- The engine, part I: loops of so many rounds; steps for appends, strings' bytes and conversions. No program in sight. -/
namespace Go.Eng
open Go

section
variable {P : Program} {Q : Exit → St → Prop} {st : St}
/-- A loop that is walked round by round. -/
def WpN (P : Program) (c : Code) (Q : Exit → St → Prop) : Nat → St → Prop
  | 0, _ => False
  | n + 1, st => Wp P c (fun e st' => match e with | .normal => WpN P c Q n st' | e => Q e st') st
theorem Wp.rounds {c : Code} (n : Nat) (h : WpN P c Q n st) : Wp P (.loop c) Q st := by
  have key : ∀ n st, WpN P c Q n st → ∀ B ρ H a w, Rel B st ρ H a w → Code.rounds P c (fun e a' w' => ∃ st' ρ' H', Rel B st' ρ' H' a' w' ∧ Q e st') n a w := by
    intro n
    induction n with
    | zero => intro st h; exact h.elim
    | succ n ih =>
      intro st h B ρ H a w hR
      refine Go.wp_mono (h B ρ H a w hR) fun e a' w' ⟨st', ρ', H', hR', hq⟩ => ?_
      cases e with
      | normal => exact ih st' hq B ρ' H' a' w' hR'
      | _ => exact ⟨st', ρ', H', hR', hq⟩
  exact fun B ρ H a w hR => wp_loop_rounds n (key n st h B ρ H a w hR)
theorem WpN.go {c : Code} {n : Nat} (h : Wp P c (fun e st' => match e with | .normal => WpN P c Q n st' | e => Q e st') st) : WpN P c Q (n + 1) st := h
theorem Wp.condT {c : Operand} {x y : Code} {b : Bool} (hc : st.val c = some (.bool b)) (hb : b = true) (ht : Wp P x Q st) : Wp P (.cond c x y) Q st := Wp.cond hc (fun _ => ht) (fun h => by rw [hb] at h; cases h)
theorem Wp.condF {c : Operand} {x y : Code} {b : Bool} (hc : st.val c = some (.bool b)) (hb : b = false) (hf : Wp P y Q st) : Wp P (.cond c x y) Q st := Wp.cond hc (fun h => by rw [hb] at h; cases h) (fun _ => hf)

section
variable {t : Nat} {ty : TypeId} {pos : String} {af : Array Edge} {g : Option (Nat × Bool)} {d : D}
/-- A type of strings. -/
class TyStr (P : Program) (t : TypeId) : Prop where
  und : P.underlying t = some .string
theorem lok_index {x y : Operand} {T : TypeId} {s : ByteArray} {k : IntKind} {i : Int} {m : Nat} {b : UInt8} [hT : TyStr P T] (hx : st.val x = some (.str s)) (hy : st.val y = some (.int k i)) (hi : i = (m : Int)) (hm : s[m]? = some b) (hd : t < st.n) :
    LOk P ⟨some t, .index T x y, ty, pos, af, g⟩ st ⟨[], [], .int .u8 b.toNat, []⟩ :=
  lok_pure hd fun _ st2 _ _ a w ag hR => ⟨.int .u8 b.toNat, by
    have h1 := (hR.val ((ag.val x (by simp [Op.operands])).trans hx)).str_inv
    have h2 := (hR.val ((ag.val y (by simp [Op.operands])).trans hy)).int_inv
    subst hi
    simp [execOp, Instr.index, h1, h2, asIntOf, run_underlying hT.und, hm], .pure (.int _ _)⟩

/-- A conversion to an integer. -/
theorem lok_conv {x : Operand} {S T : TypeId} {k k' : IntKind} {i r : Int} [hS : TyI P S k] [hT : TyI P T k'] (hx : st.val x = some (.int k i)) (hr : k'.wrap i = r) (hd : t < st.n) :
    LOk P ⟨some t, .convert S T x, ty, pos, af, g⟩ st ⟨[], [], .int k' r, []⟩ :=
  lok_pure hd fun _ st2 _ _ a w ag hR => ⟨.int k' r, by
    have h1 := (hR.val ((ag.val x (by simp [Op.operands])).trans hx)).int_inv
    simp [execOp, convert, h1, run_underlying hS.und, run_underlying hT.und, Conv.intToInt, hr], .pure (.int _ _)⟩

theorem lok_len_sl {x : Operand} {T e : TypeId} {sz by_ j lo n : Nat} [hT : TySl P T e sz by_] (hx : st.val x = some (.sl j lo n)) (hd : t < st.n) :
    LOk P ⟨some t, .call ⟨.builtin .len, #[x], #[T]⟩, ty, pos, af, g⟩ st ⟨[], [], .int .i64 n, []⟩ :=
  lok_pure hd fun _ st2 _ _ a w ag hR => ⟨.int .i64 n, by
    obtain ⟨a1, c, h1, _⟩ := (hR.val ((ag.val x (by simp [Op.operands, Call.operands])).trans hx)).sl_inv
    simp [execOp, resolve, invoke, builtin, h1, Builtin.len_, run_underlying hT.und, goInt], .pure (.int _ _)⟩
end
end

theorem DenP.weakR {H : GH} {l : List (List D)} {v : Value} (h : DenP H (.rows true l) v) : DenP H (.rows false l) v := by
  cases h with
  | rowsE _ a cap hf => exact .rowsE false a cap (by simp)
  | rowsS _ _ b off cap sz arr ty fz hb hne hlen hf hsz hin he hbig => exact .rowsS false l b off cap sz arr ty fz hb hne hlen (by simp) hsz hin he hbig
theorem Fz.weakR {st : St} {l : List (List D)} : Fz st (.rows true l) (.rows false l) := fun _ _ _ _ _ _ _ _ _ hd hle _ => ((hd.toP rfl).mono hle).weakR

section steps
variable {P : Program} {ops : Array Oper} {r : List Oper} {acc : List Eff} {n lm : Nat} {tm : List (Nat × D)} {ow : List (Nat × Option Blk)} {F : List Eff → St → Prop}
  {t : Nat} {ty : TypeId} {pos : String} {af : Array Edge} {g : Option (Nat × Bool)} {d : D}
theorem ix {x y : Operand} {T : TypeId} {s : ByteArray} {k : IntKind} {i : Int} {b : UInt8} {c : Int} [hT : TyStr P T] (m : Nat) (hx : St.val ⟨n, tm, ow, lm⟩ x = some (.str s)) (hy : St.val ⟨n, tm, ow, lm⟩ y = some (.int k i)) (hi : i = (m : Int)) (hm : s[m]? = some b)
    (hc : (b.toNat : Int) = c) (hd : Nat.blt t n = true) (hg : Gd ops ⟨n, tm, ow, lm⟩ g) (h : WpD P ops r (⟨[], [], .int .u8 c, []⟩ :: acc) ⟨n, (t, .int .u8 c) :: tm, ow, lm⟩ F) : WpD P ops (⟨some t, .index T x y, ty, pos, af, g⟩ :: r) acc ⟨n, tm, ow, lm⟩ F := by
  subst hc; exact step (lok_index hx hy hi hm (blt_lt hd)) hg rfl h
theorem cv {x : Operand} {S T : TypeId} {k k' : IntKind} {i : Int} (s : Int) [hS : TyI P S k] [hT : TyI P T k'] (hx : St.val ⟨n, tm, ow, lm⟩ x = some (.int k i)) (hr : k'.wrap i = s) (hd : Nat.blt t n = true) (hg : Gd ops ⟨n, tm, ow, lm⟩ g)
    (h : WpD P ops r (⟨[], [], .int k' s, []⟩ :: acc) ⟨n, (t, .int k' s) :: tm, ow, lm⟩ F) : WpD P ops (⟨some t, .convert S T x, ty, pos, af, g⟩ :: r) acc ⟨n, tm, ow, lm⟩ F := step (lok_conv hx hr (blt_lt hd)) hg rfl h
theorem lns {x : Operand} {T e : TypeId} {sz by_ j lo m : Nat} [hT : TySl P T e sz by_] (hx : St.val ⟨n, tm, ow, lm⟩ x = some (.sl j lo m)) (hd : Nat.blt t n = true) (hg : Gd ops ⟨n, tm, ow, lm⟩ g)
    (h : WpD P ops r (⟨[], [], .int .i64 m, []⟩ :: acc) ⟨n, (t, .int .i64 m) :: tm, ow, lm⟩ F) : WpD P ops (⟨some t, .call ⟨.builtin .len, #[x], #[T]⟩, ty, pos, af, g⟩ :: r) acc ⟨n, tm, ow, lm⟩ F := step (lok_len_sl hx (blt_lt hd)) hg rfl h
theorem apo (j' : Nat) {x y : Operand} {T T2 e e2 : TypeId} {sz by_ sz2 by2 j q : Nat} {fy : Bool} {zs : List D} {l m lq : List (List D)} [hT : TySl P T e sz by_] [hT2 : TySl P T2 e2 sz2 by2] [hZ : TyZ P e zs] (hx : St.val ⟨n, tm, ow, lm⟩ x = some (.sl j 0 q))
    (hj : St.blk ⟨n, tm, ow, lm⟩ j = some (.buf sz l)) (hq : q = l.length) (hy : St.val ⟨n, tm, ow, lm⟩ y = some (.rows fy m)) (hm : RowsOk sz m) (hroom : (2 * (l.length + m.length) + 512) * by_ ≤ 281474976710656) (hb0 : Nat.blt 0 by_ = true) (hl : l ++ m = lq)
    (hf : St.freshB ⟨n, tm, ow, lm⟩ j' = true) (hd : Nat.blt t n = true) (hg : Gd ops ⟨n, tm, ow, lm⟩ g)
    (h : WpD P ops r (⟨[j], [j'], .sl j' 0 lq.length, [(j', some (.buf sz lq)), (j, none)]⟩ :: acc) ⟨n, (t, .sl j' 0 lq.length) :: tm, (j', some (.buf sz lq)) :: (j, none) :: ow, lm⟩ F) :
    WpD P ops (⟨some t, .call ⟨.builtin .append, #[x, y], #[T, T2]⟩, ty, pos, af, g⟩ :: r) acc ⟨n, tm, ow, lm⟩ F := by
  subst hl; exact step (lok_append_own j' hx hj hq hy hm hroom hb0 (blt_lt hd)) hg (by simpa using hf) h
theorem apn (j0 j' : Nat) {x y : Operand} {T T2 e e2 : TypeId} {sz by_ sz2 by2 : Nat} {fy : Bool} {zs : List D} {m : List (List D)} [hT : TySl P T e sz by_] [hT2 : TySl P T2 e2 sz2 by2] [hZ : TyZ P e zs] (hx : St.val ⟨n, tm, ow, lm⟩ x = some (.rows true []))
    (hy : St.val ⟨n, tm, ow, lm⟩ y = some (.rows fy m)) (hm : RowsOk sz m) (hroom : (2 * m.length + 512) * by_ ≤ 281474976710656) (hne : Nat.beq j' j0 = false) (hb0 : Nat.blt 0 by_ = true)
    (hf : (St.freshB ⟨n, tm, ow, lm⟩ j' && St.freshB ⟨n, tm, ow, lm⟩ j0) = true) (hd : Nat.blt t n = true) (hg : Gd ops ⟨n, tm, ow, lm⟩ g)
    (h : WpD P ops r (⟨[], [j', j0], .sl j' 0 m.length, [(j', some (.buf sz m)), (j0, none)]⟩ :: acc) ⟨n, (t, .sl j' 0 m.length) :: tm, (j', some (.buf sz m)) :: (j0, none) :: ow, lm⟩ F) :
    WpD P ops (⟨some t, .call ⟨.builtin .append, #[x, y], #[T, T2]⟩, ty, pos, af, g⟩ :: r) acc ⟨n, tm, ow, lm⟩ F :=
  step (lok_append_nil j0 j' hx hy hm hne hroom hb0 (blt_lt hd)) hg (by simpa using hf) h
end steps
end Go.Eng

/- The engine, part J: from contracts to what a row asks. No program in sight. -/
namespace Go.Eng
open Go

theorem Behind.below {W : World} {H H' : GH} {w' : World} (h : Behind W H H' w') : Go.RowKit.Below W.heap.size W w' := ⟨h.os, h.tape, h.output, h.size, h.frame⟩

/-- What is known of one block. -/
def oneH (w : World) (b : Nat) : GH := fun q => if q = b then w.heap[b]? else none
theorem oneH_pers {w : World} {b : Nat} : ∀ q o, oneH w b q = some o → w.heap[q]? = some o := by
  intro q o h
  unfold oneH at h
  split at h
  · rename_i hq; subst hq; exact h
  · cases h

/-- A slice of integers that came in. -/
theorem ints_den {k : IntKind} {w : World} {x : Addr} {len cap : Nat} {zs : List Int} (hl : len ≤ cap) (hbig : len ≤ 9223372036854775807) (hz : zs.length = cap) (hc : ∀ i, i < zs.length → w.cell? (x.add i) = some (.int k (zs.getD i 0))) :
    ∃ H : GH, (∀ b o, H b = some o → w.heap[b]? = some o) ∧ DenP H (.rows false ((zs.take len).map fun r => [.int k r])) (.slice (some x) len cap) := by
  obtain ⟨b, off, spot⟩ := x
  refine ⟨oneH w b, oneH_pers, ?_⟩
  by_cases h0 : len = 0
  · subst h0; exact .rowsE false _ cap (by simp)
  · have c0 := hc 0 (by omega)
    have hsp : spot = none := by
      unfold World.cell? Addr.add at c0
      cases spot with
      | none => rfl
      | some s => exfalso; simp at c0; split at c0 <;> simp_all
    subst hsp
    have hadd : ∀ i, (⟨b, off, none⟩ : Addr).add i = ⟨b, off + i, none⟩ := fun i => by unfold Addr.add; split <;> simp_all
    obtain ⟨arr, ty, fz, hb⟩ : ∃ arr ty fz, w.heap[b]? = some (.cells arr ty fz) := by
      rw [hadd] at c0
      unfold World.cell? at c0
      split at c0
      · rename_i c e f h; exact ⟨c, e, f, h⟩
      · cases c0
    have hcell : ∀ i, i < zs.length → arr[off + i]? = some (.int k (zs.getD i 0)) := fun i hi => by
      have := hc i hi
      rw [hadd] at this
      simpa [World.cell?, hb] using this
    have hlen : ((zs.take len).map fun r => [D.int k r]).length = len := by simp; omega
    have hin : off + len ≤ arr.size := by
      have := (Array.getElem?_eq_some_iff.1 (hcell (len - 1) (by omega))).1
      omega
    have := DenP.rowsS (H := oneH w b) false ((zs.take len).map fun r => [D.int k r]) b off cap 1 arr ty fz (by simp [oneH, hb]) (by intro h; rw [h] at hlen; simp at hlen; omega) (by rw [hlen]; exact hl) (by simp)
      (fun row hr => by obtain ⟨r, _, rfl⟩ := List.mem_map.1 hr; rfl) (by rw [hlen]; omega) (fun i q row d v hi hq hv => by
        have hil : i < len := by rw [← hlen]; exact (List.getElem?_eq_some_iff.1 hi).1
        simp only [List.getElem?_map, List.getElem?_take, if_pos hil] at hi
        obtain ⟨r, hr, rfl⟩ := map_some hi
        have hq0 : q = 0 := by
          have := (List.getElem?_eq_some_iff.1 hq).1; simp at this; exact this
        subst hq0
        simp at hq; subst hq
        rw [Nat.mul_one, Nat.add_zero, hcell i (by omega)] at hv
        cases hv
        have : zs.getD i 0 = r := by simp [List.getD, hr]
        rw [this]; exact .int k r) (by rw [hlen]; exact hbig)
    rwa [hlen] at this
end Go.Eng
