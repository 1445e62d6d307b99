/- The engine, part A: abstract data, what a value is in a ghost heap, blocks of the call's own, the relation of an abstract state to a frame and a world. No program in sight. -/
import Derived.WalkKit
namespace Go.Eng
open Go

/-- What is known of memory that nobody writes any more: block by block. -/
abbrev GH := Nat → Option Obj

/-- Abstract data. 'rows': an immutable slice, each element as its cells; 'full': no spare capacity. 'ptr', 'sl', 'bp', 'omap' name blocks of the call's own. -/
inductive D where
  | any
  | int (k : IntKind) (n : Int)
  | bool (b : Bool)
  | str (s : ByteArray)
  | rows (full : Bool) (l : List (List D))
  | pp (l : List D)
  | ptr (j off : Nat)
  | sl (j lo n : Nat)
  | bp (j i off : Nat)
  | agg (l : List D)
  | tup (l : List D)
  | fn (f : FuncId) (l : List D)
  | iface (t : TypeId) (d : D)
  | nilIface
  | nilPtr
  | nilFn
  | nilMap
  | omap (j : Nat)
  | pmap (l : List (D × D))

instance : Inhabited D := ⟨.any⟩

/-- Where a block of the call's own lies: its number; for a buffer, how many rows it has room for, and how many cells a row has; is there a block at all? -/
structure Loc where
  blk : Nat
  cap : Nat
  sz : Nat
  here : Bool

mutual
/-- Does a datum name the own block j? (Immutable slices and maps name none.) -/
def D.has (j : Nat) : D → Bool
  | .ptr k _ => Nat.beq k j
  | .sl k _ _ => Nat.beq k j
  | .bp k _ _ => Nat.beq k j
  | .omap k => Nat.beq k j
  | .agg l => D.hasL j l
  | .tup l => D.hasL j l
  | .fn _ l => D.hasL j l
  | .iface _ d => D.has j d
  | _ => false
def D.hasL (j : Nat) : List D → Bool
  | [] => false
  | d :: r => D.has j d || D.hasL j r
end

theorem D.hasL_mem {j : Nat} : ∀ {l : List D} {d : D}, d ∈ l → D.has j d = true → D.hasL j l = true
  | _ :: _, _, .head _, h => by simp [D.hasL, h]
  | _ :: r, _, .tail _ hm, h => by simp [D.hasL, D.hasL_mem hm h]

/-- Immutable data: what a value is in a ghost heap. -/
inductive DenP (H : GH) : D → Value → Prop
  | any (v : Value) : DenP H .any v
  | int (k : IntKind) (n : Int) : DenP H (.int k n) (.int k n)
  | bool (b : Bool) : DenP H (.bool b) (.bool b)
  | str (s : ByteArray) : DenP H (.str s) (.string s)
  | rowsE (full : Bool) (a : Option Addr) (cap : Nat) (hf : full = true → cap = 0) : DenP H (.rows full []) (.slice a 0 cap)
  | rowsS (full : Bool) (l : List (List D)) (b off cap sz : Nat) (arr : Array Value) (ty : TypeId) (fz : Nat × Nat)
      (hb : H b = some (.cells arr ty fz)) (hne : l ≠ []) (hlen : l.length ≤ cap) (hf : full = true → cap = l.length)
      (hsz : ∀ row ∈ l, row.length = sz) (hin : off + l.length * sz ≤ arr.size)
      (he : ∀ (i k : Nat) (row : List D) (d : D) (v : Value), l[i]? = some row → row[k]? = some d → arr[off + i * sz + k]? = some v → DenP H d v) :
      DenP H (.rows full l) (.slice (some ⟨b, off, none⟩) l.length cap)
  | pp (l : List D) (b off : Nat) (arr : Array Value) (ty : TypeId) (fz : Nat × Nat) (hb : H b = some (.cells arr ty fz))
      (hin : off + l.length ≤ arr.size) (he : ∀ (k : Nat) (d : D) (v : Value), l[k]? = some d → arr[off + k]? = some v → DenP H d v) :
      DenP H (.pp l) (.pointer (some ⟨b, off, none⟩))
  | agg (l : List D) (cs : Array Value) (hs : cs.size = l.length) (he : ∀ (k : Nat) (d : D) (v : Value), l[k]? = some d → cs[k]? = some v → DenP H d v) :
      DenP H (.agg l) (.agg cs)
  | tup (l : List D) (cs : Array Value) (hs : cs.size = l.length) (he : ∀ (k : Nat) (d : D) (v : Value), l[k]? = some d → cs[k]? = some v → DenP H d v) :
      DenP H (.tup l) (.tuple cs)
  | fn (f : FuncId) (l : List D) (cs : Array Value) (hs : cs.size = l.length) (he : ∀ (k : Nat) (d : D) (v : Value), l[k]? = some d → cs[k]? = some v → DenP H d v) :
      DenP H (.fn f l) (.func (.func f) #[] cs)
  | iface (t : TypeId) (d : D) (v : Value) (h : DenP H d v) : DenP H (.iface t d) (.iface t v)
  | nilIface : DenP H .nilIface .nilIface
  | nilPtr : DenP H .nilPtr (.pointer none)
  | nilFn : DenP H .nilFn .nilFunc
  | nilMap : DenP H .nilMap (.map none)
  | pmap (l l' : List (D × D)) (b : Nat) (es : Array MapEntry) (clock : Nat) (hb : H b = some (.map es clock)) (hp : l'.Perm l) (hs : es.size = l'.length)
      (hk : ∀ (i : Nat) (kd vd : D) (e : MapEntry), l'[i]? = some (kd, vd) → es[i]? = some e → DenP H kd e.key)
      (he : ∀ (i : Nat) (kd vd : D) (e : MapEntry), l'[i]? = some (kd, vd) → es[i]? = some e → DenP H vd e.val) :
      DenP H (.pmap l) (.map (some b))

/-- All data: with names of the call's own blocks. -/
inductive Den (ρ : Nat → Loc) (H : GH) : D → Value → Prop
  | pure {d : D} {v : Value} (h : DenP H d v) : Den ρ H d v
  | ptr (j off : Nat) (hh : (ρ j).here = true) : Den ρ H (.ptr j off) (.pointer (some ⟨(ρ j).blk, off, none⟩))
  | sl (j lo n : Nat) (a : Option Addr) (c : Nat) (hc : c = (ρ j).cap - lo) (hn : lo + n ≤ (ρ j).cap)
      (ha : c = 0 ∨ ((ρ j).here = true ∧ a = some ⟨(ρ j).blk, lo * (ρ j).sz, none⟩)) : Den ρ H (.sl j lo n) (.slice a n c)
  | bp (j i off : Nat) (hh : (ρ j).here = true) : Den ρ H (.bp j i off) (.pointer (some ⟨(ρ j).blk, i * (ρ j).sz + off, none⟩))
  | omap (j : Nat) (hh : (ρ j).here = true) : Den ρ H (.omap j) (.map (some (ρ j).blk))
  | agg (l : List D) (cs : Array Value) (hs : cs.size = l.length) (he : ∀ (k : Nat) (d : D) (v : Value), l[k]? = some d → cs[k]? = some v → Den ρ H d v) :
      Den ρ H (.agg l) (.agg cs)
  | tup (l : List D) (cs : Array Value) (hs : cs.size = l.length) (he : ∀ (k : Nat) (d : D) (v : Value), l[k]? = some d → cs[k]? = some v → Den ρ H d v) :
      Den ρ H (.tup l) (.tuple cs)
  | fn (f : FuncId) (l : List D) (cs : Array Value) (hs : cs.size = l.length) (he : ∀ (k : Nat) (d : D) (v : Value), l[k]? = some d → cs[k]? = some v → Den ρ H d v) :
      Den ρ H (.fn f l) (.func (.func f) #[] cs)
  | iface (t : TypeId) (d : D) (v : Value) (h : Den ρ H d v) : Den ρ H (.iface t d) (.iface t v)

def GH.le (H H' : GH) : Prop := ∀ b o, H b = some o → H' b = some o
theorem GH.le_refl (H : GH) : H.le H := fun _ _ h => h
theorem GH.le_trans {H H' H'' : GH} (h : H.le H') (h' : H'.le H'') : H.le H'' := fun b o x => h' b o (h b o x)

theorem DenP.mono {H H' : GH} (hle : H.le H') {d : D} {v : Value} (h : DenP H d v) : DenP H' d v := by
  induction h with
  | any v => exact .any v
  | int k n => exact .int k n
  | bool b => exact .bool b
  | str s => exact .str s
  | rowsE full a cap hf => exact .rowsE full a cap hf
  | rowsS full l b off cap sz arr ty fz hb hne hlen hf hsz hin _ ih => exact .rowsS full l b off cap sz arr ty fz (hle _ _ hb) hne hlen hf hsz hin ih
  | pp l b off arr ty fz hb hin _ ih => exact .pp l b off arr ty fz (hle _ _ hb) hin ih
  | agg l cs hs _ ih => exact .agg l cs hs ih
  | tup l cs hs _ ih => exact .tup l cs hs ih
  | fn f l cs hs _ ih => exact .fn f l cs hs ih
  | iface t d v _ ih => exact .iface t d v ih
  | nilIface => exact .nilIface
  | nilPtr => exact .nilPtr
  | nilFn => exact .nilFn
  | nilMap => exact .nilMap
  | pmap l l' b es clock hb hp hs _ _ ihk ih => exact .pmap l l' b es clock (hle _ _ hb) hp hs ihk ih

theorem Den.mono {ρ ρ' : Nat → Loc} {H H' : GH} (hle : H.le H') {d : D} {v : Value} (h : Den ρ H d v) : (∀ j, d.has j = true → ρ' j = ρ j) → Den ρ' H' d v := by
  induction h with
  | pure h => exact fun _ => .pure (h.mono hle)
  | ptr j off hh => intro hj; have e := hj j (by simp [D.has]); rw [← e]; exact .ptr j off (by rw [e]; exact hh)
  | sl j lo n a c hc hn ha => intro hj; have e := hj j (by simp [D.has]); exact .sl j lo n a c (by rw [e]; exact hc) (by rw [e]; exact hn) (by rw [e]; exact ha)
  | bp j i off hh => intro hj; have e := hj j (by simp [D.has]); rw [← e]; exact .bp j i off (by rw [e]; exact hh)
  | omap j hh => intro hj; have e := hj j (by simp [D.has]); rw [← e]; exact .omap j (by rw [e]; exact hh)
  | agg l cs hs _ ih => exact fun hj => .agg l cs hs fun k d v h1 h2 => ih k d v h1 h2 fun j hd => hj j (by simp only [D.has]; exact D.hasL_mem (List.mem_of_getElem? h1) hd)
  | tup l cs hs _ ih => exact fun hj => .tup l cs hs fun k d v h1 h2 => ih k d v h1 h2 fun j hd => hj j (by simp only [D.has]; exact D.hasL_mem (List.mem_of_getElem? h1) hd)
  | fn f l cs hs _ ih => exact fun hj => .fn f l cs hs fun k d v h1 h2 => ih k d v h1 h2 fun j hd => hj j (by simp only [D.has]; exact D.hasL_mem (List.mem_of_getElem? h1) hd)
  | iface t d v _ ih => exact fun hj => .iface t d v (ih fun j hd => hj j (by simp only [D.has]; exact hd))

section inv
variable {ρ : Nat → Loc} {H : GH} {v : Value}
theorem Den.int_inv {k : IntKind} {n : Int} (h : Den ρ H (.int k n) v) : v = .int k n := by cases h with | pure h => cases h; rfl
theorem Den.bool_inv {b : Bool} (h : Den ρ H (.bool b) v) : v = .bool b := by cases h with | pure h => cases h; rfl
theorem Den.str_inv {s : ByteArray} (h : Den ρ H (.str s) v) : v = .string s := by cases h with | pure h => cases h; rfl
theorem Den.ptr_inv {j off : Nat} (h : Den ρ H (.ptr j off) v) : (ρ j).here = true ∧ v = .pointer (some ⟨(ρ j).blk, off, none⟩) := by
  cases h with
  | pure h => cases h
  | ptr _ _ hh => exact ⟨hh, rfl⟩
theorem Den.agg_inv {l : List D} (h : Den ρ H (.agg l) v) : ∃ cs : Array Value, v = .agg cs ∧ cs.size = l.length ∧ ∀ (k : Nat) (d : D) (v : Value), l[k]? = some d → cs[k]? = some v → Den ρ H d v := by
  cases h with
  | pure h => cases h with | agg _ cs hs he => exact ⟨cs, rfl, hs, fun k d v h1 h2 => .pure (he k d v h1 h2)⟩
  | agg _ cs hs he => exact ⟨cs, rfl, hs, he⟩
theorem Den.tup_inv {l : List D} (h : Den ρ H (.tup l) v) : ∃ cs : Array Value, v = .tuple cs ∧ cs.size = l.length ∧ ∀ (k : Nat) (d : D) (v : Value), l[k]? = some d → cs[k]? = some v → Den ρ H d v := by
  cases h with
  | pure h => cases h with | tup _ cs hs he => exact ⟨cs, rfl, hs, fun k d v h1 h2 => .pure (he k d v h1 h2)⟩
  | tup _ cs hs he => exact ⟨cs, rfl, hs, he⟩
theorem Den.fn_inv {f : FuncId} {l : List D} (h : Den ρ H (.fn f l) v) : ∃ cs : Array Value, v = .func (.func f) #[] cs ∧ cs.size = l.length ∧ ∀ (k : Nat) (d : D) (v : Value), l[k]? = some d → cs[k]? = some v → Den ρ H d v := by
  cases h with
  | pure h => cases h with | fn _ _ cs hs he => exact ⟨cs, rfl, hs, fun k d v h1 h2 => .pure (he k d v h1 h2)⟩
  | fn _ _ cs hs he => exact ⟨cs, rfl, hs, he⟩
theorem Den.iface_inv {t : TypeId} {d : D} (h : Den ρ H (.iface t d) v) : ∃ u, v = .iface t u ∧ Den ρ H d u := by
  cases h with
  | pure h => cases h with | iface _ _ u h => exact ⟨u, rfl, .pure h⟩
  | iface _ _ u h => exact ⟨u, rfl, h⟩
theorem Den.pp_inv {l : List D} (h : Den ρ H (.pp l) v) : ∃ b off arr ty fz, v = .pointer (some ⟨b, off, none⟩) ∧ H b = some (.cells arr ty fz) ∧ off + l.length ≤ arr.size ∧
    ∀ (k : Nat) (d : D) (v : Value), l[k]? = some d → arr[off + k]? = some v → DenP H d v := by
  cases h with | pure h => cases h with | pp _ b off arr ty fz hb hin he => exact ⟨b, off, arr, ty, fz, rfl, hb, hin, he⟩
theorem Den.rows_inv {full : Bool} {l : List (List D)} (h : Den ρ H (.rows full l) v) : ∃ a cap, v = .slice a l.length cap ∧ l.length ≤ cap ∧ (full = true → cap = l.length) ∧
    (l ≠ [] → ∃ b off sz arr ty fz, a = some ⟨b, off, none⟩ ∧ H b = some (.cells arr ty fz) ∧ (∀ row ∈ l, row.length = sz) ∧ off + l.length * sz ≤ arr.size ∧
      ∀ (i k : Nat) (row : List D) (d : D) (v : Value), l[i]? = some row → row[k]? = some d → arr[off + i * sz + k]? = some v → DenP H d v) := by
  cases h with
  | pure h => cases h with
    | rowsE _ a cap hf => exact ⟨a, cap, rfl, by simp, by simpa using hf, fun h => absurd rfl h⟩
    | rowsS _ _ b off cap sz arr ty fz hb hne hlen hf hsz hin he => exact ⟨_, cap, rfl, hlen, hf, fun _ => ⟨b, off, sz, arr, ty, fz, rfl, hb, hsz, hin, he⟩⟩
theorem Den.sl_inv {j lo n : Nat} (h : Den ρ H (.sl j lo n) v) : ∃ a c, v = .slice a n c ∧ c = (ρ j).cap - lo ∧ lo + n ≤ (ρ j).cap ∧ (c = 0 ∨ ((ρ j).here = true ∧ a = some ⟨(ρ j).blk, lo * (ρ j).sz, none⟩)) := by
  cases h with
  | pure h => cases h
  | sl _ _ _ a c hc hn ha => exact ⟨a, c, rfl, hc, hn, ha⟩
theorem Den.bp_inv {j i off : Nat} (h : Den ρ H (.bp j i off) v) : (ρ j).here = true ∧ v = .pointer (some ⟨(ρ j).blk, i * (ρ j).sz + off, none⟩) := by
  cases h with
  | pure h => cases h
  | bp _ _ _ hh => exact ⟨hh, rfl⟩
theorem Den.omap_inv {j : Nat} (h : Den ρ H (.omap j) v) : (ρ j).here = true ∧ v = .map (some (ρ j).blk) := by
  cases h with
  | pure h => cases h
  | omap _ hh => exact ⟨hh, rfl⟩
end inv

/-- A datum of one cell (no struct, no tuple, not unknown). -/
def D.cell : D → Bool
  | .agg _ | .tup _ | .any => false
  | _ => true
/-- The cells of a datum. -/
def D.flat : D → List D
  | .agg l => l
  | d => [d]
theorem Den.cell {ρ : Nat → Loc} {H : GH} {d : D} {v : Value} (h : Den ρ H d v) (hc : d.cell = true) : (∀ l, v ≠ .agg l) ∧ (∀ l, v ≠ .tuple l) := by
  cases h with
  | pure h => cases h <;> simp_all [D.cell]
  | agg => simp [D.cell] at hc
  | tup => simp [D.cell] at hc
  | _ => simp
theorem Den.flat {ρ : Nat → Loc} {H : GH} {d : D} {v : Value} (h : Den ρ H d v) (hd : d ≠ .any) : v.cells.size = d.flat.length ∧
    ∀ (k : Nat) (d' : D) (v' : Value), d.flat[k]? = some d' → v.cells[k]? = some v' → Den ρ H d' v' := by
  have one : ∀ {d : D} {v : Value}, Den ρ H d v → d.flat = [d] → v.cells = #[v] → v.cells.size = d.flat.length ∧
      ∀ (k : Nat) (d' : D) (v' : Value), d.flat[k]? = some d' → v.cells[k]? = some v' → Den ρ H d' v' := by
    intro d v h h1 h2
    rw [h1, h2]
    refine ⟨rfl, fun k d' v' hk hk' => ?_⟩
    cases k with
    | zero => simp at hk hk'; subst hk; subst hk'; exact h
    | succ k => simp at hk
  cases h with
  | pure h =>
    cases h with
    | agg l cs hs he => exact ⟨hs, fun k d v h1 h2 => .pure (he k d v h1 h2)⟩
    | any v => exact absurd rfl hd
    | int k n => exact one (.pure (.int k n)) rfl rfl
    | bool b => exact one (.pure (.bool b)) rfl rfl
    | str s => exact one (.pure (.str s)) rfl rfl
    | rowsE full a cap hf => exact one (.pure (.rowsE full a cap hf)) rfl rfl
    | rowsS full l b off cap sz arr ty fz hb hne hlen hf hsz hin he => exact one (.pure (.rowsS full l b off cap sz arr ty fz hb hne hlen hf hsz hin he)) rfl rfl
    | pp l b off arr ty fz hb hin he => exact one (.pure (.pp l b off arr ty fz hb hin he)) rfl rfl
    | tup l cs hs he => exact one (.pure (.tup l cs hs he)) rfl rfl
    | fn f l cs hs he => exact one (.pure (.fn f l cs hs he)) rfl rfl
    | iface t d v h => exact one (.pure (.iface t d v h)) rfl rfl
    | nilIface => exact one (.pure .nilIface) rfl rfl
    | nilPtr => exact one (.pure .nilPtr) rfl rfl
    | nilFn => exact one (.pure .nilFn) rfl rfl
    | nilMap => exact one (.pure .nilMap) rfl rfl
    | pmap l l' b es clock hb hp hs hk he => exact one (.pure (.pmap l l' b es clock hb hp hs hk he)) rfl rfl
  | ptr j off hh => exact one (.ptr j off hh) rfl rfl
  | sl j lo n a c hc hn ha => exact one (.sl j lo n a c hc hn ha) rfl rfl
  | bp j i off hh => exact one (.bp j i off hh) rfl rfl
  | omap j hh => exact one (.omap j hh) rfl rfl
  | agg l cs hs he => exact ⟨hs, he⟩
  | tup l cs hs he => exact one (.tup l cs hs he) rfl rfl
  | fn f l cs hs he => exact one (.fn f l cs hs he) rfl rfl
  | iface t d v h => exact one (.iface t d v h) rfl rfl

/-- A block of the call's own. -/
inductive Blk where
  | cells (ty : TypeId) (l : List D)
  | buf (sz : Nat) (l : List (List D))
  | map (l : List (D × D))
  | plus (o : Option (List Nat)) (kd vd : D)

/-- Are two structs of plain fields one? (the fields' kinds: 0: an integer, 1: a bool, 2: a string) -/
def eqDs : List Nat → List D → List D → Option Bool
  | [], [], [] => some true
  | 0 :: ks, .int k a :: xs, .int k' b :: ys => if k = k' then (match eqDs ks xs ys with | some r => some ((a == b) && r) | none => none) else none
  | 1 :: ks, .bool a :: xs, .bool b :: ys => match eqDs ks xs ys with | some r => some ((a == b) && r) | none => none
  | 2 :: ks, .str a :: xs, .str b :: ys => match eqDs ks xs ys with | some r => some ((a == b) && r) | none => none
  | _, _, _ => none
/-- When are two keys one? (none: integers; some ks: structs of plain fields) -/
def eqKD : Option (List Nat) → D → D → Option Bool
  | none, .int k a, .int k' b => if k = k' then some (a == b) else none
  | some ks, .agg l, .agg m => eqDs ks l m
  | _, _, _ => none

def Blk.has (j : Nat) : Blk → Bool
  | .cells _ l => D.hasL j l
  | .buf _ l => l.any (D.hasL j)
  | .map l => l.any fun e => D.has j e.1 || D.has j e.2
  | .plus _ kd vd => D.has j kd || D.has j vd

def OwnOk (ρ : Nat → Loc) (H : GH) (w : World) (j : Nat) : Blk → Prop
  | .cells ty l => (ρ j).here = true ∧ ∃ arr, w.heap[(ρ j).blk]? = some (.cells arr ty (0, 0)) ∧ arr.size = l.length ∧
      ∀ (k : Nat) (d : D) (v : Value), l[k]? = some d → arr[k]? = some v → Den ρ H d v
  | .buf sz l => (ρ j).sz = sz ∧ l.length ≤ (ρ j).cap ∧ (∀ row ∈ l, row.length = (ρ j).sz) ∧ ((ρ j).here = false → (ρ j).cap = 0) ∧
      ((ρ j).here = true → ∃ arr ty, w.heap[(ρ j).blk]? = some (.cells arr ty (0, 0)) ∧ arr.size = (ρ j).cap * (ρ j).sz ∧
        ∀ (i k : Nat) (row : List D) (d : D) (v : Value), l[i]? = some row → row[k]? = some d → arr[i * (ρ j).sz + k]? = some v → Den ρ H d v)
  | .map l => (ρ j).here = true ∧ ∃ es clock, ∃ l' : List (D × D), w.heap[(ρ j).blk]? = some (.map es clock) ∧ l'.Perm l ∧ es.size = l'.length ∧
      ∀ (i : Nat) (kd vd : D) (e : MapEntry), l'[i]? = some (kd, vd) → es[i]? = some e → Den ρ H kd e.key ∧ Den ρ H vd e.val
  | .plus _ _ _ => False

theorem OwnOk.mono {ρ ρ' : Nat → Loc} {H H' : GH} {w w' : World} {j : Nat} {b : Blk} (hle : H.le H') (hj : ρ' j = ρ j) (hn : ∀ k, b.has k = true → ρ' k = ρ k)
    (hw : (ρ j).here = true → w'.heap[(ρ j).blk]? = w.heap[(ρ j).blk]?) (h : OwnOk ρ H w j b) : OwnOk ρ' H' w' j b := by
  cases b with
  | cells ty l =>
    obtain ⟨hh, arr, h1, h2, h3⟩ := h
    exact ⟨by rw [hj]; exact hh, arr, by rw [hj, hw hh]; exact h1, h2, fun k d v hk hv => (h3 k d v hk hv).mono hle fun i hi => hn i (by simp only [Blk.has]; exact D.hasL_mem (List.mem_of_getElem? hk) hi)⟩
  | buf sz l =>
    obtain ⟨h0, h1, h2, h3, h4⟩ := h
    refine ⟨by rw [hj]; exact h0, by rw [hj]; exact h1, by rw [hj]; exact h2, by rw [hj]; exact h3, fun hh => ?_⟩
    rw [hj] at hh
    obtain ⟨arr, ty, h5, h6, h7⟩ := h4 hh
    refine ⟨arr, ty, by rw [hj, hw hh]; exact h5, by rw [hj]; exact h6, fun i k row d v hi hk hv => ?_⟩
    rw [hj] at hv
    exact (h7 i k row d v hi hk hv).mono hle fun q hq => hn q (by simp only [Blk.has, List.any_eq_true]; exact ⟨row, List.mem_of_getElem? hi, D.hasL_mem (List.mem_of_getElem? hk) hq⟩)
  | map l =>
    obtain ⟨hh, es, clock, l', h1, hp, h2, h3⟩ := h
    refine ⟨by rw [hj]; exact hh, es, clock, l', by rw [hj, hw hh]; exact h1, hp, h2, fun i kd vd e hi he => ?_⟩
    have h4 := h3 i kd vd e hi he
    exact ⟨h4.1.mono hle fun q hq => hn q (by simp only [Blk.has, List.any_eq_true]; exact ⟨_, hp.mem_iff.1 (List.mem_of_getElem? hi), by simp [hq]⟩),
      h4.2.mono hle fun q hq => hn q (by simp only [Blk.has, List.any_eq_true]; exact ⟨_, hp.mem_iff.1 (List.mem_of_getElem? hi), by simp [hq]⟩)⟩
  | plus o kd vd => exact h.elim

/-- The same block, or a map's entries in another order. -/
def BlkPerm (b b' : Blk) : Prop := b = b' ∨ ∃ l l', b = .map l ∧ b' = .map l' ∧ l.Perm l'
theorem OwnOk.perm {ρ : Nat → Loc} {H : GH} {w : World} {j : Nat} {b b' : Blk} (hp : BlkPerm b b') (h : OwnOk ρ H w j b) : OwnOk ρ H w j b' := by
  rcases hp with rfl | ⟨l, l', rfl, rfl, hp⟩
  · exact h
  · obtain ⟨hh, es, clock, l0, h1, h2, h3⟩ := h
    exact ⟨hh, es, clock, l0, h1, h2.trans hp, h3⟩

/-- Where a call began: its world, what was known to be immutable, and which blocks it may write. -/
structure Base where
  W : World
  H : GH
  pass : List Nat

/-- The world's part of the relation. -/
structure WRel (B : Base) (bl : Nat → Option Blk) (ρ : Nat → Loc) (H : GH) (w : World) : Prop where
  own : ∀ j b, bl j = some b → OwnOk ρ H w j b
  sep : ∀ j k b c, bl j = some b → bl k = some c → j ≠ k → (ρ j).here = true → (ρ k).here = true → (ρ j).blk ≠ (ρ k).blk
  new : ∀ j b, bl j = some b → (ρ j).here = true → B.W.heap.size ≤ (ρ j).blk ∨ (ρ j).blk ∈ B.pass
  np : ∀ j b, bl j = some b → (ρ j).here = true → H (ρ j).blk = none
  pers : ∀ b o, H b = some o → w.heap[b]? = some o
  hext : B.H.le H
  hnew : ∀ b o, H b = some o → B.H b = some o ∨ B.W.heap.size ≤ b ∨ b ∈ B.pass
  size : B.W.heap.size ≤ w.heap.size
  frame : ∀ k, k < B.W.heap.size → k ∉ B.pass → w.heap[k]? = B.W.heap[k]?
  os : w.os = B.W.os
  tape : w.tape = B.W.tape
  output : w.output = B.W.output

/-- The first of a list that bears the number. -/
def alook {α : Type} : List (Nat × α) → Nat → Option α
  | [], _ => none
  | (s, x) :: r, t => cond (Nat.beq s t) (some x) (alook r t)

structure St where
  n : Nat
  tmps : List (Nat × D)
  own : List (Nat × Option Blk)

def St.get (st : St) (t : Nat) : Option D := alook st.tmps t
/-- A map with one entry more. -/
def addP : Option Blk → D → D → Option Blk
  | some (.map l), kd, vd => some (.map (l ++ [(kd, vd)]))
  | _, _, _ => none
def plusOn : Option Blk → Option Blk → Option Blk
  | some (.plus _ kd vd), b => addP b kd vd
  | x, _ => x
/-- What the entries say of j, on top of b. -/
def blkOn (b : Option Blk) : List (Nat × Option Blk) → Nat → Option Blk
  | [], _ => b
  | (s, x) :: r, j => cond (Nat.beq s j) (plusOn x (blkOn b r j)) (blkOn b r j)
def St.blk (st : St) (j : Nat) : Option Blk := blkOn none st.own j

/-- A constant, as a datum. -/
def D.ofConst : Value → Option D
  | .int k n => some (.int k n)
  | .bool b => some (.bool b)
  | .string s => some (.str s)
  | .slice none 0 0 => some (.rows true [])
  | .pointer none => some .nilPtr
  | .nilIface => some .nilIface
  | .nilFunc => some .nilFn
  | .map none => some .nilMap
  | _ => none
theorem D.ofConst_den {H : GH} {v : Value} {d : D} (h : D.ofConst v = some d) : DenP H d v := by
  unfold D.ofConst at h
  split at h <;> simp at h <;> subst h
  · exact .int _ _
  · exact .bool _
  · exact .str _
  · exact .rowsE _ _ _ fun _ => rfl
  · exact .nilPtr
  · exact .nilIface
  · exact .nilFn
  · exact .nilMap

def St.val (st : St) : Operand → Option D
  | .tmp t => st.get t
  | .const v => D.ofConst v
  | .global _ => none
  | .func f => some (.fn f [])

structure Rel (B : Base) (st : St) (ρ : Nat → Loc) (H : GH) (a : Act) (w : World) : Prop where
  sz : a.tmps.size = st.n
  df : a.defers = []
  tm : ∀ t d, st.get t = some d → ∃ v, a.tmps[t]? = some v ∧ Den ρ H d v
  wr : WRel B st.blk ρ H w

theorem Rel.val {B : Base} {st : St} {ρ : Nat → Loc} {H : GH} {a : Act} {w : World} (h : Rel B st ρ H a w) {x : Operand} {d : D} (hx : st.val x = some d) : Den ρ H d (a.eval x) := by
  cases x with
  | tmp t =>
    obtain ⟨v, hv, hd⟩ := h.tm t d hx
    simp only [Act.eval, Array.getD_eq_getD_getElem?, hv, Option.getD_some]
    exact hd
  | const v => exact .pure (D.ofConst_den hx)
  | global g => simp [St.val] at hx
  | func f => simp [St.val] at hx; subst hx; exact .pure (.fn f [] #[] rfl (by simp))

/-- Nothing in the state names j. -/
structure St.Fresh (st : St) (j : Nat) : Prop where
  tm : ∀ t d, st.get t = some d → d.has j = false
  bl : ∀ k b, st.blk k = some b → b.has j = false

theorem alook_cons {α : Type} (s : Nat) (x : α) (r : List (Nat × α)) (t : Nat) : alook ((s, x) :: r) t = if s = t then some x else alook r t := by
  simp only [alook]
  by_cases h : s = t
  · subst h; simp
  · have : Nat.beq s t = false := by rw [← Bool.not_eq_true, Nat.beq_eq]; exact h
    simp [this, h]
theorem alook_append {α : Type} (l r : List (Nat × α)) (t : Nat) : alook (l ++ r) t = (alook l t).or (alook r t) := by
  induction l with
  | nil => simp [alook]
  | cons p l ih => obtain ⟨s, x⟩ := p; simp only [List.cons_append, alook_cons]; split <;> simp [ih]
theorem alook_mem {α : Type} {l : List (Nat × α)} {t : Nat} {x : α} (h : alook l t = some x) : (t, x) ∈ l := by
  induction l with
  | nil => simp [alook] at h
  | cons p l ih =>
    obtain ⟨s, y⟩ := p
    rw [alook_cons] at h
    split at h
    · rename_i hs; simp at h; subst hs; subst h; exact .head _
    · exact .tail _ (ih h)

theorem blkOn_cons (b : Option Blk) (s : Nat) (x : Option Blk) (r : List (Nat × Option Blk)) (j : Nat) : blkOn b ((s, x) :: r) j = if s = j then plusOn x (blkOn b r j) else blkOn b r j := by
  simp only [blkOn]
  by_cases h : s = j
  · subst h; simp
  · have : Nat.beq s j = false := by rw [← Bool.not_eq_true, Nat.beq_eq]; exact h
    simp [this, h]
theorem blkOn_append (b : Option Blk) (l r : List (Nat × Option Blk)) (j : Nat) : blkOn b (l ++ r) j = blkOn (blkOn b r j) l j := by
  induction l with
  | nil => rfl
  | cons p l ih => obtain ⟨s, x⟩ := p; simp only [List.cons_append, blkOn_cons, ih]
theorem blkOn_none {b : Option Blk} {l : List (Nat × Option Blk)} {j : Nat} (h : alook l j = none) : blkOn b l j = b := by
  induction l with
  | nil => rfl
  | cons p l ih =>
    obtain ⟨s, x⟩ := p
    rw [alook_cons] at h
    split at h
    · cases h
    · rename_i hs; rw [blkOn_cons, if_neg hs]; exact ih h

def optHas (j : Nat) : Option Blk → Bool
  | some b => b.has j
  | none => false
theorem plusOn_has {x b : Option Blk} {j : Nat} (h : optHas j (plusOn x b) = true) : optHas j x = true ∨ optHas j b = true := by
  unfold plusOn at h
  split at h
  · rename_i o kd vd
    unfold addP at h
    split at h
    · simp only [optHas, Blk.has, List.any_append, List.any_cons, List.any_nil, Bool.or_false, Bool.or_eq_true] at h ⊢
      rcases h with h | h
      · exact .inr h
      · exact .inl h
    · simp [optHas] at h
  · exact .inl h
theorem blkOn_has {b : Option Blk} {l : List (Nat × Option Blk)} {k j : Nat} (h : optHas j (blkOn b l k) = true) : (∃ p ∈ l, p.1 = k ∧ optHas j p.2 = true) ∨ optHas j b = true := by
  induction l with
  | nil => exact .inr h
  | cons p l ih =>
    obtain ⟨s, x⟩ := p
    rw [blkOn_cons] at h
    split at h
    · rename_i hs
      rcases plusOn_has h with h | h
      · exact .inl ⟨_, .head _, hs, h⟩
      · rcases ih h with ⟨p, hp, h⟩ | h
        · exact .inl ⟨p, .tail _ hp, h⟩
        · exact .inr h
    · rcases ih h with ⟨p, hp, h⟩ | h
      · exact .inl ⟨p, .tail _ hp, h⟩
      · exact .inr h
/-- 'Fresh', to be reckoned: over all entries, seen or not. -/
def St.freshB (st : St) (j : Nat) : Bool := (st.tmps.all fun e => !D.has j e.2) && (st.own.all fun e => !optHas j e.2)
theorem St.fresh_of {st : St} {j : Nat} (h : st.freshB j = true) : st.Fresh j := by
  simp only [St.freshB, Bool.and_eq_true, List.all_eq_true] at h
  refine ⟨fun t d hd => by simpa using h.1 _ (alook_mem hd), fun k b hb => ?_⟩
  cases hh : b.has j with
  | false => rfl
  | true =>
    have : optHas j (blkOn none st.own k) = true := by
      have h0 : blkOn none st.own k = some b := hb
      rw [h0]; exact hh
    rcases blkOn_has this with ⟨p, hp, _, h1⟩ | h1
    · have := h.2 p hp; rw [h1] at this; cases this
    · cases h1

end Go.Eng
