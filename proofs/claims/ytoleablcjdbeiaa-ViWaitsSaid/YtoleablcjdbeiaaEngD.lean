/- The engine, part D: operations that make memory; composites; equality; calls. No program in sight. -/
import Derived.Test.YtoleablcjdbeiaaEngC
namespace Go.Eng
open Go

section ops
variable {P : Program}

theorem St.Fresh.val {st : St} {j : Nat} (h : st.Fresh j) {x : Operand} {d : D} (hx : st.val x = some d) : d.has j = false := by
  cases x with
  | tmp t => exact h.tm t d hx
  | const v =>
    simp only [St.val, D.ofConst] at hx
    split at hx <;> simp at hx <;> subst hx <;> rfl
  | global g => simp [St.val] at hx
  | func f => simp [St.val] at hx; subst hx; rfl

theorem D.hasL_false {j : Nat} : ∀ {l : List D}, D.hasL j l = false → ∀ d ∈ l, D.has j d = false
  | _ :: _, h, _, .head _ => by simp only [D.hasL, Bool.or_eq_false_iff] at h; exact h.1
  | _ :: _, h, _, .tail _ hm => by simp only [D.hasL, Bool.or_eq_false_iff] at h; exact D.hasL_false h.2 _ hm

theorem D.flat_has {d : D} {j : Nat} (h : d.has j = false) : ∀ d' ∈ d.flat, d'.has j = false := by
  cases d <;> simp only [D.flat, List.mem_singleton, forall_eq] <;> first | exact h | exact D.hasL_false h

theorem upd_blk {st : St} {dst : Option Tmp} {tch nw : List Nat} {d : D} {j : Nat} {b : Option Blk} (k : Nat) (hb : ∀ s, plusOn b s = b := by intro s; rfl) : (st.app dst ⟨tch, nw, d, [(j, b)]⟩).blk k = if j = k then b else st.blk k := by
  rw [St.app_blk, blkOn_cons]
  by_cases hjk : j = k
  · rw [if_pos hjk, if_pos hjk]; exact hb _
  · rw [if_neg hjk, if_neg hjk]; rfl

section
variable {t : Nat} {ty : TypeId} {pos : String} {af : Array Edge} {g : Option (Nat × Bool)} {st : St} {d : D}

theorem lok_alloc (j : Nat) {T : TypeId} {zs : List D} [hZ : TyZ P T zs] (hd : t < st.n) : LOk P ⟨some t, .alloc T, ty, pos, af, g⟩ st ⟨[], [j], .ptr j 0, [(j, some (.cells T zs))]⟩ := by
  intro B st2 ag
  have hfr := ag.fresh j (by simp)
  refine opOk_value (fun s hs => by cases hs; rw [ag.n]; exact hd) ag.fresh fun ρ H a w hR => ?_
  obtain ⟨i, hi, hi2⟩ := map_some hZ.size
  obtain ⟨v, hv, hv2⟩ := map_some hZ.zero
  have hz : i.zero = some v := by simpa [hi] using hv
  have hlen : v.cells.size = zs.length := by have := congrArg List.length hv2; simpa using this
  refine ⟨.pointer (some ⟨w.heap.size, 0, none⟩), w.alloc (.cells v.cells T), setLoc ρ j ⟨w.heap.size, 0, 0, true⟩, H, .inl ?_, ?_, GH.le_refl _, fun k hk => setLoc_ne (by simpa using hk), ?_⟩
  · simp [execOp, Instr.alloc, zeroValue, typeInfo, hi, hz, newVar, newRow]
  · exact (by simpa [setLoc_eq] using Den.ptr (ρ := setLoc ρ j ⟨w.heap.size, 0, 0, true⟩) (H := H) j 0 (by simp [setLoc_eq]))
  · refine hR.wr.alloc_own (b := .cells T zs) (fun k b' hk => hfr.bl k b' hk) ⟨by simp [setLoc_eq], v.cells, ?_, hlen, fun k d v' hk hv' => ?_⟩ upd_blk
    · rw [setLoc_eq]; exact alloc_new
    · have h1 := congrArg (·[k]?) hv2
      have h2 : v.cells.toList[k]? = some v' := by simpa using hv'
      simp only [List.getElem?_map, h2, hk, Option.map_some] at h1
      exact .pure (D.ofConst_den (Option.some.inj h1))

theorem lok_box (j : Nat) {T : TypeId} {x : Operand} (hx : st.val x = some d) (ha : d.known = true) (hd : t < st.n) :
    LOk P ⟨some t, .box T x, ty, pos, af, g⟩ st ⟨[], [j], .ptr j 0, [(j, some (.cells T d.flat))]⟩ := by
  intro B st2 ag
  have hfr := ag.fresh j (by simp)
  have hany : d ≠ .any := D.known_ne ha
  refine opOk_value (fun s hs => by cases hs; rw [ag.n]; exact hd) ag.fresh fun ρ H a w hR => ?_
  have hx2 := (ag.val x (by simp [Op.operands])).trans hx
  have hv := hR.val hx2
  obtain ⟨h1, h2⟩ := hv.flat hany
  refine ⟨.pointer (some ⟨w.heap.size, 0, none⟩), w.alloc (.cells (a.eval x).cells T), setLoc ρ j ⟨w.heap.size, 0, 0, true⟩, H, .inl ?_, ?_, GH.le_refl _, fun k hk => setLoc_ne (by simpa using hk), ?_⟩
  · simp [execOp, Instr.box, newVar, newRow]
  · exact (by simpa [setLoc_eq] using Den.ptr (ρ := setLoc ρ j ⟨w.heap.size, 0, 0, true⟩) (H := H) j 0 (by simp [setLoc_eq]))
  · refine hR.wr.alloc_own (b := .cells T d.flat) (fun k b' hk => hfr.bl k b' hk) ⟨by simp [setLoc_eq], (a.eval x).cells, ?_, h1, fun k d' v' hk hv' => ?_⟩ upd_blk
    · rw [setLoc_eq]; exact alloc_new
    · refine (h2 k d' v' hk hv').mono (GH.le_refl _) fun q hq => setLoc_ne ?_
      rintro rfl
      rw [D.flat_has (hfr.val hx2) d' (List.mem_of_getElem? hk)] at hq; cases hq

/-- The values of a list of operands. -/
def St.vals (st : St) : List Operand → Option (List D)
  | [] => some []
  | x :: r => match st.val x, st.vals r with
    | some d, some l => some (d :: l)
    | _, _ => none
def St.valsP (st : St) : List (Nat × Operand) → Option (List (Nat × D))
  | [] => some []
  | (i, x) :: r => match st.val x, st.valsP r with
    | some d, some l => some ((i, d) :: l)
    | _, _ => none

theorem vals_cons {st : St} {x : Operand} {r : List Operand} {l : List D} (h : st.vals (x :: r) = some l) : ∃ d l', st.val x = some d ∧ st.vals r = some l' ∧ l = d :: l' := by
  simp only [St.vals] at h
  split at h
  · rename_i d l' h1 h2; cases h; exact ⟨d, l', h1, h2, rfl⟩
  · cases h
theorem valsP_cons {st : St} {i : Nat} {x : Operand} {r : List (Nat × Operand)} {l : List (Nat × D)} (h : st.valsP ((i, x) :: r) = some l) : ∃ d l', st.val x = some d ∧ st.valsP r = some l' ∧ l = (i, d) :: l' := by
  simp only [St.valsP] at h
  split at h
  · rename_i d l' h1 h2; cases h; exact ⟨d, l', h1, h2, rfl⟩
  · cases h

theorem vals_congr {st st2 : St} : ∀ {xs : List Operand}, (∀ x ∈ xs, st2.val x = st.val x) → st2.vals xs = st.vals xs
  | [], _ => rfl
  | x :: r, h => by simp only [St.vals, h x (.head _), vals_congr (xs := r) fun y hy => h y (.tail _ hy)]
theorem valsP_congr {st st2 : St} : ∀ {xs : List (Nat × Operand)}, (∀ x ∈ xs.map (·.2), st2.val x = st.val x) → st2.valsP xs = st.valsP xs
  | [], _ => rfl
  | (i, x) :: r, h => by simp only [St.valsP, h x (by simp), valsP_congr (xs := r) fun y hy => h y (by simp at hy ⊢; exact .inr hy)]

theorem Rel.vals {B : Base} {st : St} {ρ : Nat → Loc} {H : GH} {a : Act} {w : World} (h : Rel B st ρ H a w) : ∀ {xs : List Operand} {ds : List D}, st.vals xs = some ds →
    ds.length = xs.length ∧ ∀ (k : Nat) (d : D) (v : Value), ds[k]? = some d → (xs.map a.eval)[k]? = some v → Den ρ H d v
  | [], ds, hv => by simp [St.vals] at hv; subst hv; simp
  | x :: r, ds, hv => by
    obtain ⟨d, l', h1, h2, rfl⟩ := vals_cons hv
    obtain ⟨h3, h4⟩ := h.vals h2
    refine ⟨by simp [h3], fun k d' v' hk hv' => ?_⟩
    cases k with
    | zero => simp at hk hv'; subst hk; subst hv'; exact h.val h1
    | succ k => exact h4 k d' v' (by simpa using hk) (by simpa using hv')

/-- A composite's cells: the parts, each laid where its field begins. -/
def bldD (fs : List (Nat × Nat)) : List D → List (Nat × D) → Option (List D)
  | ds, [] => some ds
  | ds, (i, d) :: r => match fs[i]? with
    | some (o, n) => if (Nat.beq d.flat.length n && Nat.ble (o + n) ds.length && d.known) = true then bldD fs (putL ds o d.flat) r else none
    | none => none

theorem fold_get (o : Nat) : ∀ (l : List Value) (k : Nat) (cs : Array Value),
    ((l.zipIdx k).foldl (fun cs (p : Value × Nat) => cs.setIfInBounds (o + p.2) p.1) cs).size = cs.size ∧
    ∀ q, ((l.zipIdx k).foldl (fun cs (p : Value × Nat) => cs.setIfInBounds (o + p.2) p.1) cs)[q]? = if o + k ≤ q ∧ q < o + k + l.length ∧ q < cs.size then l[q - (o + k)]? else cs[q]?
  | [], k, cs => ⟨rfl, fun q => by simp; intro h1 h2; omega⟩
  | c :: l, k, cs => by
    simp only [List.zipIdx_cons, List.foldl_cons]
    obtain ⟨h1, h2⟩ := fold_get o l (k + 1) (cs.setIfInBounds (o + k) c)
    refine ⟨by rw [h1]; simp, fun q => ?_⟩
    rw [h2 q]
    simp only [Array.size_setIfInBounds, List.length_cons]
    by_cases hq : q = o + k
    · subst hq
      rw [if_neg (by omega)]
      by_cases hs : o + k < cs.size
      · rw [if_pos (by omega)]; simp [hs]
      · rw [if_neg (by omega)]; simp [hs]
    · by_cases hr : o + (k + 1) ≤ q ∧ q < o + (k + 1) + l.length ∧ q < cs.size
      · rw [if_pos hr, if_pos (by omega)]
        rw [show q - (o + k) = (q - (o + (k + 1))) + 1 by omega]; simp
      · rw [if_neg hr, if_neg (by omega)]
        rw [Array.getElem?_setIfInBounds_ne (Ne.symm hq)]

/-- The cells of a composite as the model fills them. -/
theorem fill_run {ρ : Nat → Loc} {H : GH} {place : Nat → Option (Nat × Nat)} {fs : List (Nat × Nat)} (hp : ∀ i p, fs[i]? = some p → place i = some p) :
    ∀ (ps : List (Nat × D)) (vs : List (Nat × Value)) (cells : Array Value) (ds r : List D), vs.length = ps.length →
      (∀ (k i : Nat) (d : D) (v : Nat × Value), ps[k]? = some (i, d) → vs[k]? = some v → v.1 = i ∧ Den ρ H d v.2) →
      cells.size = ds.length → (∀ (k : Nat) (d : D) (v : Value), ds[k]? = some d → cells[k]? = some v → Den ρ H d v) → bldD fs ds ps = some r →
      ∃ cs, Instr.fill place cells vs = some cs ∧ cs.size = r.length ∧ r.length = ds.length ∧ ∀ (k : Nat) (d : D) (v : Value), r[k]? = some d → cs[k]? = some v → Den ρ H d v
  | [], [], cells, ds, r, _, _, hs, hd, hr => by simp [bldD] at hr; subst hr; exact ⟨cells, rfl, hs, rfl, hd⟩
  | [], _ :: _, _, _, _, h, _, _, _, _ => by simp at h
  | _ :: _, [], _, _, _, h, _, _, _, _ => by simp at h
  | (i, d) :: ps, (i', v) :: vs, cells, ds, r, hl, hv, hs, hd, hr => by
    simp only [bldD] at hr
    split at hr
    · rename_i o n hf
      split at hr
      · rename_i hc
        simp only [Bool.and_eq_true, Nat.beq_eq, Nat.ble_eq] at hc
        have hany : d ≠ .any := D.known_ne hc.2
        obtain ⟨hi, hden⟩ := hv 0 i d (i', v) rfl rfl
        subst hi
        obtain ⟨g1, g2⟩ := hden.flat hany
        obtain ⟨f1, f2⟩ := fold_get o v.cells.toList 0 cells
        have hput := putL_eq ds o d.flat (by rw [hc.1.1]; exact hc.1.2)
        have hlen : (putL ds o d.flat).length = ds.length := by rw [hput]; simp; omega
        have hfold : (v.cells.zipIdx.foldl (fun cs (c, j) => cs.setIfInBounds (o + j) c) cells) = ((v.cells.toList.zipIdx 0).foldl (fun cs (p : Value × Nat) => cs.setIfInBounds (o + p.2) p.1) cells) := by
          rw [← Array.foldl_toList, Array.toList_zipIdx]
        obtain ⟨cs, h1, h2, h3, h4⟩ := fill_run hp ps vs ((v.cells.toList.zipIdx 0).foldl (fun cs (p : Value × Nat) => cs.setIfInBounds (o + p.2) p.1) cells) (putL ds o d.flat) r (by simpa using hl)
          (fun k i d v h1 h2 => hv (k + 1) i d v (by simpa using h1) (by simpa using h2)) (by rw [f1, hs, hlen]) (fun k d' v' hk hv' => by
            rw [f2 k] at hv'
            rw [hput] at hk
            simp only [List.append_assoc, List.getElem?_append, List.length_take, List.getElem?_take, List.getElem?_drop] at hk
            rw [show min o ds.length = o by omega] at hk
            have e1 : v.cells.toList.length = d.flat.length := by simp [g1]
            split at hk
            · rename_i hko
              rw [if_neg (by omega)] at hv'
              exact hd k d' v' hk hv'
            · split at hk
              · rename_i hk2
                rw [if_pos (by rw [e1, hs]; omega)] at hv'
                exact g2 (k - o) d' v' hk (by simpa using hv')
              · rename_i hk2
                rw [if_neg (by rw [e1]; omega)] at hv'
                rw [show o + d.flat.length + (k - o - d.flat.length) = k by omega] at hk
                exact hd k d' v' hk hv') hr
        refine ⟨cs, ?_, h2, by rw [h3, hlen], h4⟩
        unfold Instr.fill
        rw [hp i' (o, n) hf]
        show (if _ then _ else _) = _
        rw [if_neg (by rw [g1, hs]; simp; omega)]
        rw [hfold]; exact h1
      · cases hr
    · cases hr

theorem lok_build {T : TypeId} {parts : Array (Nat × Operand)} {zs ds : List D} {fs : List (Nat × Nat)} {ps : List (Nat × D)} [hZ : TyZ P T zs] [hS : TyS P T fs] (hx : st.valsP parts.toList = some ps)
    (hb : bldD fs zs ps = some ds) (hd : t < st.n) : LOk P ⟨some t, .build T parts, ty, pos, af, g⟩ st ⟨[], [], .agg ds, []⟩ :=
  lok_pure hd fun _ st2 ρ H a w ag hR => by
    have hx2 : st2.valsP parts.toList = some ps := by
      rw [← hx]; exact valsP_congr fun x hx => ag.val x (by simpa [Op.operands] using hx)
    obtain ⟨i, hi, hi2⟩ := map_some hZ.size
    obtain ⟨v, hv, hv2⟩ := map_some hZ.zero
    have hz : i.zero = some v := by simpa [hi] using hv
    have hlen : v.cells.size = zs.length := by have := congrArg List.length hv2; simpa using this
    obtain ⟨u, hu, hu2⟩ := map_some hS.und
    cases u with
    | struct fields =>
      simp only [Option.some.injEq] at hu2
      have hm : ∀ (l : List Field) (l2 : List (Nat × Nat)), (l.map fun f => (f.offset, (P.info? f.type).map (·.size))) = (l2.map fun p => (p.1, some p.2)) →
          (l.mapM fun f => Prod.mk f.offset <$> sizeOf f.type : Sem (List (Nat × Nat))).run P w = .ok l2 w := by
        intro l
        induction l with
        | nil => intro l2 h; cases l2 with
          | nil => simp
          | cons _ _ => simp at h
        | cons f l ih =>
          intro l2 h
          cases l2 with
          | nil => simp at h
          | cons p l2 =>
            simp only [List.map_cons, List.cons.injEq, Prod.mk.injEq] at h
            obtain ⟨i', h1, h2⟩ := map_some h.1.2
            have hone : (Prod.mk f.offset <$> sizeOf f.type : Sem (Nat × Nat)).run P w = .ok p w := by simp [sizeOf, typeInfo, h1, h2, h.1.1]
            simp only [List.mapM_cons, Sem.run_bind, hone, Result.andThen_ok, ih l2 h.2, Sem.run_pure]
      have hmA : (fields.mapM fun f => Prod.mk f.offset <$> sizeOf f.type : Sem (Array (Nat × Nat))).run P w = .ok fs.toArray w := by
        rw [Array.mapM_eq_mapM_toList]
        simp [hm fields.toList fs hu2]
      have hvals : ∀ (l : List (Nat × Operand)) (ps : List (Nat × D)), st2.valsP l = some ps → (l.map fun (p : Nat × Operand) => (p.1, a.eval p.2)).length = ps.length ∧
          ∀ (k i : Nat) (d : D) (v : Nat × Value), ps[k]? = some (i, d) → (l.map fun (p : Nat × Operand) => (p.1, a.eval p.2))[k]? = some v → v.1 = i ∧ Den ρ H d v.2 := by
        intro l
        induction l with
        | nil => intro ps h; simp [St.valsP] at h; subst h; simp
        | cons p l ih =>
          obtain ⟨i, x⟩ := p
          intro ps h
          obtain ⟨d, l', h1, h2, rfl⟩ := valsP_cons h
          obtain ⟨h3, h4⟩ := ih l' h2
          refine ⟨by simpa using h3, fun k i' d' v' hk hv' => ?_⟩
          cases k with
          | zero => simp at hk hv'; obtain ⟨rfl, rfl⟩ := hk; subst hv'; exact ⟨rfl, hR.val h1⟩
          | succ k => exact h4 k i' d' v' (by simpa using hk) (by simpa using hv')
      obtain ⟨hl1, hl2⟩ := hvals parts.toList ps hx2
      obtain ⟨cs, h1, h2, _, h4⟩ := fill_run (ρ := ρ) (H := H) (place := fun i => fs.toArray[i]?) (fs := fs) (by intro i p h; simpa using h) ps _ v.cells zs ds hl1 hl2 hlen (fun k d v' hk hv' => by
        have h1 := congrArg (·[k]?) hv2
        have h2 : v.cells.toList[k]? = some v' := by simpa using hv'
        simp only [List.getElem?_map, h2, hk, Option.map_some] at h1
        exact .pure (D.ofConst_den (Option.some.inj h1))) hb
      refine ⟨.agg cs, ?_, .agg _ _ h2 h4⟩
      have h1' : Instr.fill (fun i : Nat => fs[i]?) v.cells (parts.toList.map fun p => (p.1, a.eval p.2)) = some cs := by
        have : (fun i : Nat => fs.toArray[i]?) = fun i : Nat => fs[i]? := by funext i; simp
        rw [this] at h1; exact h1
      simp [execOp, Instr.build, zeroValue, typeInfo, hi, hz, run_underlying hu, hmA, h1']
    | _ => simp at hu2

/-- A slice's element, immutable. -/
theorem lok_indexAddr {x y : Operand} {T e : TypeId} {sz by_ : Nat} {k : IntKind} {i : Int} {m : Nat} {full : Bool} {l : List (List D)} {row : List D} [hT : TySl P T e sz by_] (hx : st.val x = some (.rows full l))
    (hy : st.val y = some (.int k i)) (hi : i = (m : Int)) (hm : l[m]? = some row) (hrow : row.length = sz) (hd : t < st.n) :
    LOk P ⟨some t, .indexAddr T x y, ty, pos, af, g⟩ st ⟨[], [], .pp row, []⟩ :=
  lok_pure hd fun _ st2 ρ H a w ag hR => by
    obtain ⟨ad, cap, h1, h2, _, h4⟩ := (hR.val ((ag.val x (by simp [Op.operands])).trans hx)).rows_inv
    have h5 := (hR.val ((ag.val y (by simp [Op.operands])).trans hy)).int_inv
    have hlt : m < l.length := (List.getElem?_eq_some_iff.1 hm).1
    obtain ⟨b, off, sz', arr, aty, fz, rfl, hb, hsz, hin, he⟩ := h4 (by rintro rfl; simp at hlt)
    have hmem : row ∈ l := List.mem_of_getElem? hm
    have hs : sz' = sz := by rw [← hsz row hmem, hrow]
    subst hs
    obtain ⟨inf, hi1, hi2⟩ := map_some hT.info
    simp only [Prod.mk.injEq] at hi2
    have hle : off + m * sz' + sz' ≤ arr.size := by
      have : (m + 1) * sz' ≤ l.length * sz' := Nat.mul_le_mul_right _ hlt
      rw [Nat.succ_mul] at this; omega
    have hadd : (⟨b, off, none⟩ : Addr).add (m * sz') = ⟨b, off + m * sz', none⟩ := by unfold Addr.add; split <;> simp_all
    refine ⟨.pointer (some ⟨b, off + m * sz', none⟩), ?_, .pure (.pp _ b _ arr aty fz hb (by rw [hrow]; exact hle) fun k d v hk hv => he m k row d v hm hk hv)⟩
    subst hi
    simp [execOp, Instr.indexAt, h1, h5, asIntOf, run_underlying hT.und, sizeOf, typeInfo, hi1, hi2.1, hlt, hadd]

/-- Two bools. -/
def cmpBool : BinOp → Bool → Bool → Option Bool
  | .eql, x, y => some (x == y)
  | .neq, x, y => some (!(x == y))
  | _, _, _ => none
class TyB (P : Program) (t : TypeId) : Prop where
  und : P.underlying t = some .bool
theorem lok_cmpB {op : BinOp} {x y : Operand} {xt yt : TypeId} {m n b : Bool} [hT : TyB P xt] (hx : st.val x = some (.bool m)) (hy : st.val y = some (.bool n)) (hb : cmpBool op m n = some b) (hd : t < st.n) :
    LOk P ⟨some t, .binOp op xt x y yt, ty, pos, af, g⟩ st ⟨[], [], .bool b, []⟩ :=
  lok_pure hd fun _ st2 _ _ a w ag hR => ⟨.bool b, by
    have h1 := (hR.val ((ag.val x (by simp [Op.operands])).trans hx)).bool_inv
    have h2 := (hR.val ((ag.val y (by simp [Op.operands])).trans hy)).bool_inv
    cases op <;> simp only [cmpBool, Option.some.injEq, reduceCtorEq] at hb <;> subst hb <;> simp [execOp, h1, h2, eqGuard, binOp, Op.equal, Op.maxDepth, run_equalIn_bool w _ _ _ _ hT.und], .pure (.bool b)⟩

/-- Structs of plain fields: the fields' kinds (0: an integer, 1: a bool, 2: a string). -/
def tyKind (P : Program) (t : TypeId) : Option Nat := match P.underlying t with | some (.int _) => some 0 | some .bool => some 1 | some .string => some 2 | _ => none
def plainFs (P : Program) : List Field → List Nat → Nat → Bool
  | [], [], _ => true
  | f :: fs, q :: ks, k => Nat.beq f.offset k && f.name != "_" && (match tyKind P f.type with | some r => Nat.beq r q | none => false) && plainFs P fs ks (k + 1)
  | _, _, _ => false
class TyEq (P : Program) (t : TypeId) (ks : outParam (List Nat)) : Prop where
  und : P.underlying t = some (.struct (P.fieldsOf t))
  flat : plainFs P (P.fieldsOf t).toList ks 0 = true
  held : P.stoodInHeld t = false
  grd : P.eqGuardType P.depth t = false

theorem part_plain {w : World} {T : TypeId} {q k : Nat} {cs : Array Value} {v : Value} (hT : tyKind P T = some q) (hv : cs[k]? = some v) : (part T cs k).run P w = .ok v w := by
  unfold tyKind at hT
  split at hT
  · rename_i h; simp [part, isAgg, run_underlying h, hv]
  · rename_i h; simp [part, isAgg, run_underlying h, hv]
  · rename_i h; simp [part, isAgg, run_underlying h, hv]
  · cases hT

theorem eqFields_run {w : World} {ρ : Nat → Loc} {H : GH} {us vs : Array Value} {l m : List D} (hu : ∀ (k : Nat) (d : D) (v : Value), l[k]? = some d → us[k]? = some v → Den ρ H d v) (hus : us.size = l.length)
    (hv : ∀ (k : Nat) (d : D) (v : Value), m[k]? = some d → vs[k]? = some v → Den ρ H d v) (hvs : vs.size = m.length) (dp : Nat) :
    ∀ (fs : List Field) (ks : List Nat) (k : Nat) (b : Bool), plainFs P fs ks k = true → eqDs ks (l.drop k) (m.drop k) = some b → (Op.eqFields (dp + 1) us vs fs).run P w = .ok b w
  | [], [], k, b, _, hb => by
    cases hl : l.drop k <;> cases hm : m.drop k <;> simp [hl, hm, eqDs] at hb
    subst hb; simp [Op.eqFields]
  | [], _ :: _, _, _, h, _ => by simp [plainFs] at h
  | _ :: _, [], _, _, h, _ => by simp [plainFs] at h
  | f :: fs, q :: ks, k, b, h, hb => by
    simp only [plainFs, Bool.and_eq_true, Nat.beq_eq] at h
    obtain ⟨⟨⟨ho, hn⟩, hk⟩, hr⟩ := h
    have hname : f.name ≠ "_" := by simpa using hn
    cases hkd : tyKind P f.type with
    | none => simp [hkd] at hk
    | some r =>
      simp [hkd] at hk
      subst hk
      obtain ⟨x, xs, hx⟩ : ∃ x xs, l.drop k = x :: xs := by
        cases hl : l.drop k with
        | nil => rw [hl] at hb; simp [eqDs] at hb
        | cons x xs => exact ⟨x, xs, rfl⟩
      obtain ⟨y, ys, hy⟩ : ∃ y ys, m.drop k = y :: ys := by
        cases hl : m.drop k with
        | nil => rw [hl] at hb; rw [hx] at hb; cases x <;> cases r <;> simp [eqDs] at hb
        | cons y ys => exact ⟨y, ys, rfl⟩
      have hx0 : l[k]? = some x := by have := congrArg (·[0]?) hx; simpa using this
      have hy0 : m[k]? = some y := by have := congrArg (·[0]?) hy; simpa using this
      have hxs : l.drop (k + 1) = xs := by rw [← List.drop_drop, hx]; rfl
      have hys : m.drop (k + 1) = ys := by rw [← List.drop_drop, hy]; rfl
      have hkl : k < us.size := by rw [hus]; exact (List.getElem?_eq_some_iff.1 hx0).1
      have hkm : k < vs.size := by rw [hvs]; exact (List.getElem?_eq_some_iff.1 hy0).1
      have hdx := hu k x us[k] hx0 (by simp [hkl])
      have hdy := hv k y vs[k] hy0 (by simp [hkm])
      have p1 := part_plain (w := w) hkd (show us[k]? = some us[k] by simp [hkl])
      have p2 := part_plain (w := w) hkd (show vs[k]? = some vs[k] by simp [hkm])
      rw [hx, hy] at hb
      have key : ∃ c r', eqDs ks xs ys = some r' ∧ b = (c && r') ∧ (Op.equalIn (dp + 1) f.type us[k] vs[k]).run P w = .ok c w := by
        unfold tyKind at hkd
        unfold eqDs at hb
        split at hb
        · rename_i h1 _ _; cases h1
        · rename_i k1 a1 xs1 k2 b1 ys1 h1 h2 h3
          cases h1; cases h2; cases h3
          split at hb
          · rename_i hkk; subst hkk
            split at hb
            · rename_i r' hr'
              cases hb
              split at hkd <;> simp at hkd
              rename_i kk hu
              exact ⟨_, _, hr', rfl, by rw [hdx.int_inv, hdy.int_inv]; exact run_equalIn_int w dp f.type _ kk _ _ hu⟩
            · cases hb
          · cases hb
        · rename_i a1 xs1 b1 ys1 h1 h2 h3
          cases h1; cases h2; cases h3
          split at hb
          · rename_i r' hr'
            cases hb
            split at hkd <;> simp at hkd
            rename_i hu
            exact ⟨_, _, hr', rfl, by rw [hdx.bool_inv, hdy.bool_inv]; exact run_equalIn_bool w dp f.type _ _ hu⟩
          · cases hb
        · rename_i a1 xs1 b1 ys1 h1 h2 h3
          cases h1; cases h2; cases h3
          split at hb
          · rename_i r' hr'
            cases hb
            split at hkd <;> simp at hkd
            rename_i hu
            exact ⟨_, _, hr', rfl, by rw [hdx.str_inv, hdy.str_inv, run_equalIn_string w dp f.type _ _ hu, beq_toListBytes]⟩
          · cases hb
        · cases hb
      obtain ⟨c, r', h1, rfl, h3⟩ := key
      have ih := eqFields_run (w := w) hu hus hv hvs dp fs ks (k + 1) r' hr (by rw [hxs, hys]; exact h1)
      simp only [Op.eqFields, if_pos hname, ho, Sem.run_bind, p1, p2, h3, Result.andThen_ok]
      cases c
      · simp
      · simpa using ih

def cmpEq : BinOp → Bool → Option Bool
  | .eql, b => some b
  | .neq, b => some (!b)
  | _, _ => none
theorem lok_cmpS {op : BinOp} {x y : Operand} {xt yt : TypeId} {l m : List D} {ks : List Nat} {b c : Bool} [hT : TyEq P xt ks] (hx : st.val x = some (.agg l)) (hy : st.val y = some (.agg m)) (hb : eqDs ks l m = some b) (hc : cmpEq op b = some c) (hd : t < st.n) :
    LOk P ⟨some t, .binOp op xt x y yt, ty, pos, af, g⟩ st ⟨[], [], .bool c, []⟩ :=
  lok_pure hd fun _ st2 ρ H a w ag hR => ⟨.bool c, by
    obtain ⟨us, h1, h2, h3⟩ := (hR.val ((ag.val x (by simp [Op.operands])).trans hx)).agg_inv
    obtain ⟨vs, h4, h5, h6⟩ := (hR.val ((ag.val y (by simp [Op.operands])).trans hy)).agg_inv
    have hr := eqFields_run (P := P) (w := w) h3 h2 h6 h5 9998 (P.fieldsOf xt).toList ks 0 b hT.flat (by simpa using hb)
    have hr2 := run_equalIn_struct (P := P) w 9999 xt us vs hT.und hT.held
    rw [hr] at hr2
    have hg := run_eqGuard_agg (P := P) w op xt x y us vs hT.grd
    cases op <;> simp only [cmpEq, Option.some.injEq, reduceCtorEq] at hc <;> subst hc
    · simp only [execOp, h1, h4, Sem.run_bind, hg, Result.andThen_ok, run_eql_struct, hr2, Sem.run_pure]
    · simp only [execOp, h1, h4, Sem.run_bind, hg, Result.andThen_ok, run_neq_struct, hr2, Sem.run_pure], .pure (.bool c)⟩
end
end ops
end Go.Eng
