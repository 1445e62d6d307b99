/- The engine, part E: calls by contract, literals of slices, interfaces; the code's rules; a function's contract out of its body. No program in sight. -/
import Derived.Test.YtoleablcjdbeiaaEngD
import Derived.Deep.LoopGhost
namespace Go.Eng
open Go

mutual
/-- Does a datum name no block of the call's own? -/
def D.pureB : D → Bool
  | .ptr _ _ => false
  | .sl _ _ _ => false
  | .bp _ _ _ => false
  | .omap _ => false
  | .agg l => D.pureL l
  | .tup l => D.pureL l
  | .fn _ l => D.pureL l
  | .iface _ d => D.pureB d
  | _ => true
def D.pureL : List D → Bool
  | [] => true
  | d :: r => D.pureB d && D.pureL r
end
theorem D.pureL_mem : ∀ {l : List D}, D.pureL l = true → ∀ d ∈ l, d.pureB = true
  | _ :: _, h, _, .head _ => by simp only [D.pureL, Bool.and_eq_true] at h; exact h.1
  | _ :: _, h, _, .tail _ hm => by simp only [D.pureL, Bool.and_eq_true] at h; exact D.pureL_mem h.2 _ hm
mutual
theorem D.pure_has (j : Nat) : ∀ d : D, d.pureB = true → d.has j = false
  | .any, _ => rfl
  | .int _ _, _ => rfl
  | .bool _, _ => rfl
  | .str _, _ => rfl
  | .rows _ _, _ => rfl
  | .pp _, _ => rfl
  | .ptr _ _, h => by simp [D.pureB] at h
  | .sl _ _ _, h => by simp [D.pureB] at h
  | .bp _ _ _, h => by simp [D.pureB] at h
  | .agg l, h => by simp only [D.has]; exact D.pureL_has j l (by simpa only [D.pureB] using h)
  | .tup l, h => by simp only [D.has]; exact D.pureL_has j l (by simpa only [D.pureB] using h)
  | .fn _ l, h => by simp only [D.has]; exact D.pureL_has j l (by simpa only [D.pureB] using h)
  | .iface _ d, h => by simp only [D.has]; exact D.pure_has j d (by simpa only [D.pureB] using h)
  | .nilIface, _ => rfl
  | .nilPtr, _ => rfl
  | .nilFn, _ => rfl
  | .nilMap, _ => rfl
  | .omap _, h => by simp [D.pureB] at h
  | .pmap _, _ => rfl
theorem D.pureL_has (j : Nat) : ∀ l : List D, D.pureL l = true → D.hasL j l = false
  | [], _ => rfl
  | d :: r, h => by
    simp only [D.pureL, Bool.and_eq_true] at h
    simp only [D.hasL, D.pure_has j d h.1, D.pureL_has j r h.2, Bool.or_self]
end
theorem Den.toP {ρ : Nat → Loc} {H : GH} {d : D} {v : Value} (h : Den ρ H d v) : d.pureB = true → DenP H d v := by
  induction h with
  | pure h => exact fun _ => h
  | ptr j off hh => intro h; simp [D.pureB] at h
  | sl j lo n a c hc hn ha => intro h; simp [D.pureB] at h
  | bp j i off hh => intro h; simp [D.pureB] at h
  | omap j hh => intro h; simp [D.pureB] at h
  | agg l cs hs _ ih => exact fun hp => .agg l cs hs fun k d v h1 h2 => ih k d v h1 h2 (D.pureL_mem (by simpa only [D.pureB] using hp) _ (List.mem_of_getElem? h1))
  | tup l cs hs _ ih => exact fun hp => .tup l cs hs fun k d v h1 h2 => ih k d v h1 h2 (D.pureL_mem (by simpa only [D.pureB] using hp) _ (List.mem_of_getElem? h1))
  | fn f l cs hs _ ih => exact fun hp => .fn f l cs hs fun k d v h1 h2 => ih k d v h1 h2 (D.pureL_mem (by simpa only [D.pureB] using hp) _ (List.mem_of_getElem? h1))
  | iface t d v _ ih => exact fun hp => .iface t d v (ih (by simpa only [D.pureB] using hp))

/-- What is behind a call that only makes memory. -/
structure Behind (W : World) (H H' : GH) (w' : World) : Prop where
  le : H.le H'
  pers : ∀ b o, H' b = some o → w'.heap[b]? = some o
  fresh : ∀ b o, H' b = some o → H b = some o ∨ W.heap.size ≤ b
  size : W.heap.size ≤ w'.heap.size
  frame : ∀ k, k < W.heap.size → w'.heap[k]? = W.heap[k]?
  os : w'.os = W.os
  tape : w'.tape = W.tape
  output : w'.output = W.output

/-- A contract: from arguments that read as these it returns a value that reads so, and nothing that was there has turned. -/
structure FnP (P : Program) (f : FuncId) (args : List D) (d : D) : Prop where
  fn : ∃ fn, P.funcs[f]? = some fn ∧ fn.body.isSome = true ∧ (fn.name == "runtime.NumGoroutine") = false
  run : ∀ (W : World) (H : GH) (vs : Array Value), (∀ b o, H b = some o → W.heap[b]? = some o) → vs.size = args.length →
    (∀ (k : Nat) (d : D) (v : Value), args[k]? = some d → vs[k]? = some v → DenP H d v) →
    Calls P f vs W fun e w' => ∃ v H', e = .returned v ∧ DenP H' d v ∧ Behind W H H' w'

theorem WRel.behind {B : Base} {bl : Nat → Option Blk} {ρ : Nat → Loc} {H H' : GH} {w w' : World} (h : WRel B bl ρ H w) (b : Behind w H H' w') : WRel B bl ρ H' w' := by
  refine ⟨fun j c hj => (h.own j c hj).mono b.le rfl (fun _ _ => rfl) (fun hh => b.frame _ ((h.own j c hj).lt hh)), h.sep, h.new, fun j c hj hh => ?_, b.pers, GH.le_trans h.hext b.le, fun k o hk => ?_, Nat.le_trans h.size b.size,
    fun k hk hn => ?_, b.os.trans h.os, b.tape.trans h.tape, b.output.trans h.output⟩
  · cases hH : H' (ρ j).blk with
    | none => rfl
    | some o =>
      rcases b.fresh _ _ hH with h1 | h1
      · rw [h.np j c hj hh] at h1; cases h1
      · have := (h.own j c hj).lt hh; omega
  · rcases b.fresh k o hk with h1 | h1
    · exact h.hnew k o h1
    · exact .inr (.inl (Nat.le_trans h.size h1))
  · rw [b.frame k (Nat.lt_of_lt_of_le hk h.size)]; exact h.frame k hk hn

theorem callFunc_run {P : Program} {w : World} {f : FuncId} {fn : Func} {vs : Array Value} (hf : P.funcs[f]? = some fn) (hb : fn.body.isSome = true) (hn : (fn.name == "runtime.NumGoroutine") = false) :
    (callFunc f vs).run P w = .ok (.enter f vs) w := by
  have hb' : fn.body.isNone = false := by cases h : fn.body <;> simp [h] at hb ⊢
  simp only [callFunc, Sem.run_bind, run_program, Result.andThen_ok, hf, hn, hb', Bool.false_eq_true, if_false, Sem.run_pure]

section ops
variable {P : Program} {t : Nat} {ty : TypeId} {pos : String} {af : Array Edge} {g : Option (Nat × Bool)} {st : St} {d : D}

theorem opOk_call {B : Base} {o : Oper} {st : St} {d : D} (hd : ∀ t, o.dst = some t → t < st.n)
    (h : ∀ ρ H a w, Rel B st ρ H a w → ∃ f vs, (execOp a.eval o).run P w = .ok (.enter f vs) w ∧ Calls P f vs w fun e w' => ∃ v H', e = .returned v ∧ Den ρ H' d v ∧ Behind w H H' w') : OpOk P B o st ⟨[], [], d, []⟩ := by
  intro ρ H a w hR K Q hK
  obtain ⟨f, vs, hrun, hc⟩ := h ρ H a w hR
  unfold Oper.wp
  rw [hrun]
  refine hc.mono fun e w' ⟨v, H', he, hv, hb⟩ => ?_
  subst he
  refine hK v ρ H' w' ⟨?_, ?_, fun t d' ht => ?_, ?_⟩
  · cases ho : o.dst <;> simp [Act.put, St.app, hR.sz]
  · cases ho : o.dst <;> simp [Act.put, hR.df]
  · rw [St.app_get] at ht
    by_cases hdt : o.dst = some t
    · rw [if_pos hdt] at ht; cases ht
      exact ⟨v, by rw [hdt]; simp [Act.put, hR.sz, hd t hdt], hv⟩
    · rw [if_neg hdt] at ht
      obtain ⟨u, h1, h2⟩ := hR.tm t d' ht
      refine ⟨u, ?_, h2.mono hb.le fun _ _ => rfl⟩
      cases ho : o.dst with
      | none => simpa [Act.put] using h1
      | some s => rw [ho] at hdt; simp only [Act.put, Option.some.injEq] at hdt ⊢; rw [Array.getElem?_setIfInBounds_ne hdt]; exact h1
  · have : (st.app o.dst ⟨[], [], d, []⟩).blk = st.blk := by funext j; rw [St.app_blk]; rfl
    rw [this]; exact hR.wr.behind hb

/-- The arguments of a call, as its contract wants them. -/
theorem args_den {B : Base} {ρ : Nat → Loc} {H : GH} {a : Act} {w : World} (hR : Rel B st ρ H a w) {xs : Array Operand} {ds caps : List D} {cs : Array Value} (hx : st.vals xs.toList = some ds)
    (hcs : cs.size = caps.length) (hc : ∀ (k : Nat) (d : D) (v : Value), caps[k]? = some d → cs[k]? = some v → Den ρ H d v) (hp : D.pureL (ds ++ caps) = true) :
    (xs.map a.eval ++ cs).size = (ds ++ caps).length ∧ ∀ (k : Nat) (d : D) (v : Value), (ds ++ caps)[k]? = some d → (xs.map a.eval ++ cs)[k]? = some v → DenP H d v := by
  obtain ⟨h1, h2⟩ := hR.vals hx
  have hl : ds.length = xs.size := by simpa using h1
  refine ⟨by simp [hcs, hl], fun k d v hk hv => ?_⟩
  have hpd := D.pureL_mem hp d (List.mem_of_getElem? hk)
  rw [List.getElem?_append] at hk
  rw [Array.getElem?_append] at hv
  simp only [Array.size_map] at hv
  rw [hl] at hk
  split at hk
  · rename_i hlt
    rw [if_pos hlt] at hv
    exact (h2 k d v hk (by simpa using hv)).toP hpd
  · rename_i hlt
    rw [if_neg hlt] at hv
    exact (hc _ d v hk hv).toP hpd

theorem lok_call {y : Operand} {xs : Array Operand} {ats : Array TypeId} {f : FuncId} {ds caps : List D} (hy : st.val y = some (.fn f caps)) (hx : st.vals xs.toList = some ds) (hs : FnP P f (ds ++ caps) d)
    (hp : (D.pureL (ds ++ caps) && d.pureB) = true) (hd : t < st.n) : LOk P ⟨some t, .call ⟨.value y, xs, ats⟩, ty, pos, af, g⟩ st ⟨[], [], d, []⟩ := by
  intro B st2 ag
  simp only [Bool.and_eq_true] at hp
  refine opOk_call (fun s hs => by cases hs; rw [ag.n]; exact hd) fun ρ H a w hR => ?_
  obtain ⟨fn, hf, hb, hn⟩ := hs.fn
  obtain ⟨cs, h1, h2, h3⟩ := (hR.val ((ag.val y (by simp [Op.operands, Call.operands])).trans hy)).fn_inv
  have hx2 : st2.vals xs.toList = some ds := by rw [← hx]; exact vals_congr fun x hx => ag.val x (by simp [Op.operands, Call.operands] at hx ⊢; exact .inr hx)
  obtain ⟨h4, h5⟩ := args_den hR hx2 h2 h3 hp.1
  refine ⟨f, xs.map a.eval ++ cs, ?_, (hs.run w H _ hR.wr.pers h4 h5).mono fun e w' ⟨v, H', he, hv, hb⟩ => ⟨v, H', he, .pure hv, hb⟩⟩
  simp [execOp, resolve, h1, Deferred.ofValue, invoke, callFunc_run hf hb hn]

/-- A method of a concrete type that is called through an interface. -/
class Mth (P : Program) (T : TypeId) (name : String) (f : outParam FuncId) : Prop where
  row : (P.info? T).map (fun i => (i.methods.find? (·.name == name)).map fun m => (m.path.toList.length, m.func)) = some (some (0, some (f, false)))
  und : (P.underlying T).map (fun u => match u with | .pointer _ => true | _ => false) = some false
class TyConc (P : Program) (T : TypeId) : Prop where
  und : (P.underlying T).map (fun u => match u with | .interface _ => true | _ => false) = some false

theorem lok_iface {x : Operand} {T : TypeId} [hT : TyConc P T] (hx : st.val x = some d) (hd : t < st.n) : LOk P ⟨some t, .makeInterface T x, ty, pos, af, g⟩ st ⟨[], [], .iface T d, []⟩ :=
  lok_pure hd fun _ st2 ρ H a w ag hR => ⟨.iface T (a.eval x), by
    obtain ⟨u, hu, hu2⟩ := map_some hT.und
    cases u <;> first | (simp at hu2; done) | simp [execOp, Instr.makeInterface, run_underlying hu], .iface _ _ _ (hR.val ((ag.val x (by simp [Op.operands])).trans hx))⟩

theorem lok_func {fn : FuncId} {xs : Array Operand} {caps : List D} (hx : st.vals xs.toList = some caps) (hd : t < st.n) : LOk P ⟨some t, .makeFunc (.func fn) #[] xs, ty, pos, af, g⟩ st ⟨[], [], .fn fn caps, []⟩ :=
  lok_pure hd fun _ st2 ρ H a w ag hR => by
    have hx2 : st2.vals xs.toList = some caps := by rw [← hx]; exact vals_congr fun x hx => ag.val x (by simpa [Op.operands] using hx)
    obtain ⟨h1, h2⟩ := hR.vals hx2
    exact ⟨.func (.func fn) #[] (xs.map a.eval), by simp [execOp, Instr.makeFunc], .fn _ _ _ (by simpa using h1.symm) fun k d v hk hv => h2 k d v hk (by simpa using hv)⟩

theorem lok_invoke {y : Operand} {xs : Array Operand} {ats : Array TypeId} {name : String} {T : TypeId} {f : FuncId} {ds : List D} {r : D} [hM : Mth P T name f] (hy : st.val y = some (.iface T r)) (hx : st.vals xs.toList = some ds)
    (hs : FnP P f (r :: ds) d) (hp : (D.pureL (r :: ds) && d.pureB) = true) (hd : t < st.n) : LOk P ⟨some t, .call ⟨.invoke y name, xs, ats⟩, ty, pos, af, g⟩ st ⟨[], [], d, []⟩ := by
  intro B st2 ag
  simp only [Bool.and_eq_true] at hp
  refine opOk_call (fun s hs => by cases hs; rw [ag.n]; exact hd) fun ρ H a w hR => ?_
  obtain ⟨fn, hf, hb, hn⟩ := hs.fn
  obtain ⟨u, h1, h2⟩ := (hR.val ((ag.val y (by simp [Op.operands, Call.operands])).trans hy)).iface_inv
  have hx2 : st2.vals xs.toList = some ds := by rw [← hx]; exact vals_congr fun x hx => ag.val x (by simp [Op.operands, Call.operands] at hx ⊢; exact .inr hx)
  obtain ⟨h3, h4⟩ := hR.vals hx2
  refine ⟨f, #[u] ++ xs.map a.eval, ?_, (hs.run w H _ hR.wr.pers (by simp at h3 ⊢; omega) fun k d v hk hv => ?_).mono fun e w' ⟨v, H', he, hv, hb⟩ => ⟨v, H', he, .pure hv, hb⟩⟩
  · obtain ⟨i, hi, hi2⟩ := map_some hM.row
    obtain ⟨m, hm, hm2⟩ := map_some hi2
    simp only [Prod.mk.injEq] at hm2
    have hpath : m.path.toList = [] := List.length_eq_zero_iff.1 hm2.1
    obtain ⟨un, hu, hu2⟩ := map_some hM.und
    have hrec : ∀ s, (receiverAt T (.val u) false s).run P w = .ok u w := by
      intro s
      unfold receiverAt
      simp only [Sem.run_bind, run_underlying hu, Result.andThen_ok]
      cases un <;> first | (simp at hu2; done) | simp [Place.get]
    have hmeth : ∀ fuel, (method (fuel + 1) T u name).run P w = .ok (f, u) w := by
      intro fuel
      simp [method, typeInfo, hi, hm, hpath, follow, hm2.2, hrec]
    have h0 : 0 < Made.depth := by decide
    obtain ⟨q, hq⟩ : ∃ q, P.types.size + Made.depth = q + 1 := ⟨P.types.size + Made.depth - 1, by omega⟩
    have hz : ∀ x : Value, (#[x] ++ xs.map a.eval)[0]? = some x := fun x => by rw [Array.getElem?_append_left (by simp)]; rfl
    have hex : ∀ x : Value, (#[x] ++ xs.map a.eval).extract 1 (#[x] ++ xs.map a.eval).size = xs.map a.eval := fun x => by
      apply Array.ext'
      simp
      exact List.take_of_length_le (by simp)
    simp only [execOp, resolve, Sem.run_bind, Sem.run_pure, Result.andThen_ok, h1, invoke, hz, hex, callMethod, run_program, hq, hmeth, callFunc_run hf hb hn]
  · have hpd := D.pureL_mem hp.1 d (List.mem_of_getElem? hk)
    cases k with
    | zero =>
      rw [Array.getElem?_append_left (by simp)] at hv
      simp at hk hv; subst hk; subst hv; exact h2.toP hpd
    | succ k =>
      simp at hk
      rw [Array.getElem?_append_right (by simp)] at hv
      simp at hv
      exact (h4 k d v hk (by simpa using hv)).toP hpd

/-- A slice's literal: all its elements, in their order. -/
def bsD (sz : Nat) : Nat → List (Nat × D) → Option (List (List D))
  | _, [] => some []
  | k, (i, d) :: r => if (Nat.beq i k && Nat.beq d.flat.length sz && d.known && D.pureL d.flat) = true then (match bsD sz (k + 1) r with | some l => some (d.flat :: l) | none => none) else none

theorem flatten_get {α : Type} {sz : Nat} : ∀ {l : List (List α)}, (∀ r ∈ l, r.length = sz) → ∀ {i k : Nat} {r : List α} {x : α}, l[i]? = some r → r[k]? = some x → l.flatten[i * sz + k]? = some x
  | [], _, i, k, r, x, h, _ => by simp at h
  | q :: l, hs, 0, k, r, x, h, hx => by
    simp at h; subst h
    simp only [List.flatten_cons, Nat.zero_mul, Nat.zero_add]
    rw [List.getElem?_append_left (List.getElem?_eq_some_iff.1 hx).1]; exact hx
  | q :: l, hs, i + 1, k, r, x, h, hx => by
    have hq := hs q (.head _)
    simp only [List.flatten_cons]
    rw [List.getElem?_append_right (by rw [hq, Nat.succ_mul]; omega)]
    have := flatten_get (fun r hr => hs r (.tail _ hr)) (by simpa using h) hx
    rw [hq, show (i + 1) * sz + k - sz = i * sz + k by rw [Nat.succ_mul]; omega]; exact this

theorem bsD_bld {sz n : Nat} : ∀ (ps : List (Nat × D)) (k : Nat) (l : List (List D)) (pre suf : List D), bsD sz k ps = some l → k + ps.length ≤ n → pre.length = k * sz → suf.length = ps.length * sz →
    bldD ((List.range n).map fun i => (i * sz, sz)) (pre ++ suf) ps = some (pre ++ l.flatten) ∧ l.length = ps.length ∧ (∀ r ∈ l, r.length = sz) ∧ D.pureL l.flatten = true
  | [], k, l, pre, suf, h, _, _, hs => by
    simp [bsD] at h; subst h
    have : suf = [] := by simpa using hs
    subst this
    simp [bldD, D.pureL]
  | (i, d) :: ps, k, l, pre, suf, h, hn, hp, hs => by
    simp only [bsD] at h
    split at h
    · rename_i hc
      simp only [Bool.and_eq_true, Nat.beq_eq] at hc
      obtain ⟨⟨⟨rfl, hsz⟩, hk⟩, hpu⟩ := hc
      split at h
      · rename_i l' hl
        cases h
        simp only [List.length_cons] at hs hn
        have hdrop : (suf.drop sz).length = ps.length * sz := by simp [hs, Nat.succ_mul]
        obtain ⟨h1, h2, h3, h4⟩ := bsD_bld (n := n) ps (i + 1) l' (pre ++ d.flat) (suf.drop sz) hl (by omega) (by simp [hp, hsz, Nat.succ_mul]) hdrop
        have hput : putL (pre ++ suf) (i * sz) d.flat = (pre ++ d.flat) ++ suf.drop sz := by
          rw [putL_eq _ _ _ (by simp [hp, hs, hsz, Nat.succ_mul])]
          rw [List.take_left' hp, hsz, ← List.drop_drop, List.drop_left' hp]
        refine ⟨?_, by simp [h2], ?_, ?_⟩
        · have hget : ((List.range n).map fun i => (i * sz, sz))[i]? = some (i * sz, sz) := by rw [List.getElem?_map, List.getElem?_range (by omega)]; rfl
          simp only [bldD, hget]
          rw [if_pos, hput, h1]
          · simp
          · simp only [Bool.and_eq_true, Nat.beq_eq, Nat.ble_eq]
            exact ⟨⟨hsz, by simp [hp, hs, Nat.succ_mul]⟩, hk⟩
        · intro r hr
          rcases List.mem_cons.1 hr with rfl | hr
          · exact hsz
          · exact h3 r hr
        · have : ∀ (a b : List D), D.pureL a = true → D.pureL b = true → D.pureL (a ++ b) = true := by
            intro a b
            induction a with
            | nil => intro _ h; exact h
            | cons x a ih => intro h1 h2; simp only [D.pureL, List.cons_append, Bool.and_eq_true] at h1 ⊢; exact ⟨h1.1, ih h1.2 h2⟩
          exact this _ _ hpu h4
      · cases h
    · cases h

theorem lok_slice_lit {T e : TypeId} {len sz by_ : Nat} {parts : Array (Nat × Operand)} {zs : List D} {ps : List (Nat × D)} {l : List (List D)} [hT : TySl P T e sz by_] [hZ : TyZ P e zs] (hx : st.valsP parts.toList = some ps)
    (hl : bsD sz 0 ps = some l) (hn : (Nat.beq ps.length len && Nat.ble (len * sz) 16777216) = true) (hd : t < st.n) : LOk P ⟨some t, .buildSlice T len parts, ty, pos, af, g⟩ st ⟨[], [], .rows true l, []⟩ := by
  intro B st2 ag
  simp only [Bool.and_eq_true, Nat.beq_eq, Nat.ble_eq] at hn
  refine opOk_value (fun s hs => by cases hs; rw [ag.n]; exact hd) (by simp) fun ρ H a w hR => ?_
  have hx2 : st2.valsP parts.toList = some ps := by rw [← hx]; exact valsP_congr fun x hx => ag.val x (by simpa [Op.operands] using hx)
  obtain ⟨i, hi, hi2⟩ := map_some hZ.size
  obtain ⟨v, hv, hv2⟩ := map_some hZ.zero
  obtain ⟨i', hi', hi2'⟩ := map_some hT.info
  simp only [Prod.mk.injEq] at hi2'
  have hii : i' = i := by rw [hi] at hi'; cases hi'; rfl
  subst hii
  have hz : i'.zero = some v := by simpa [hi] using hv
  obtain ⟨hn1, hn2⟩ := hn
  obtain ⟨b1, b2, b3, b4⟩ := bsD_bld (sz := sz) (n := len) ps 0 l [] (List.replicate (ps.length * sz) .any) hl (by omega) (by simp) (by simp)
  simp only [List.nil_append] at b1
  have hvals : ∀ (l : List (Nat × Operand)) (ps : List (Nat × D)), st2.valsP l = some ps → (l.map fun (p : Nat × Operand) => (p.1, a.eval p.2)).length = ps.length ∧
      ∀ (k i : Nat) (d : D) (v : Nat × Value), ps[k]? = some (i, d) → (l.map fun (p : Nat × Operand) => (p.1, a.eval p.2))[k]? = some v → v.1 = i ∧ Den ρ H d v.2 := by
    intro l
    induction l with
    | nil => intro ps h; simp [St.valsP] at h; subst h; simp
    | cons p l ih =>
      obtain ⟨i, x⟩ := p
      intro ps h
      obtain ⟨d, l', h1, h2, rfl⟩ := valsP_cons h
      obtain ⟨h3, h4⟩ := ih l' h2
      refine ⟨by simpa using h3, fun k i' d' v' hk hv' => ?_⟩
      cases k with
      | zero => simp at hk hv'; obtain ⟨rfl, rfl⟩ := hk; subst hv'; exact ⟨rfl, hR.val h1⟩
      | succ k => exact h4 k i' d' v' (by simpa using hk) (by simpa using hv')
  obtain ⟨hl1, hl2⟩ := hvals parts.toList ps hx2
  have hsize : ((Array.range (len * sz)).map fun x => (if len * sz = 0 then #[] else v.cells)[x % (if len * sz = 0 then #[] else v.cells).size]!).size = (List.replicate (ps.length * sz) D.any).length := by simp [hn1]
  obtain ⟨cs, c1, c2, _, c4⟩ := fill_run (ρ := ρ) (H := H) (place := fun i => some (i * sz, sz)) (fs := (List.range len).map fun i => (i * sz, sz)) (by
      intro i p h
      rw [List.getElem?_map] at h
      obtain ⟨w, hw, rfl⟩ := map_some h
      obtain ⟨_, rfl⟩ := List.getElem?_eq_some_iff.1 hw
      simp) ps _ _ _ _ hl1 hl2 hsize
    (fun k d v hk _ => by rw [List.getElem?_replicate] at hk; split at hk <;> cases hk; exact .pure (.any _)) b1
  obtain ⟨g1, g2⟩ := hR.wr.alloc_pers (.cells cs e)
  refine ⟨.slice (some ⟨w.heap.size, 0, none⟩) len len, w.alloc (.cells cs e), ρ, _, .inl ?_, .pure ?_, g2, fun _ _ => rfl, g1.bl_eq fun k c hk => ?_⟩
  · simp only [execOp, Instr.buildSlice, Array.toList_map, Sem.run_bind, run_underlying hT.und, Result.andThen_ok, sizeOf, typeInfo, run_program, hi, Sem.run_pure, hi2'.1]
    rw [if_neg (by omega)]
    by_cases h0 : len * sz = 0
    · simp only [h0, if_true] at c1 ⊢
      simp only [pure_bind]
      rw [c1]
      simp [newRow]
    · simp only [h0, if_false] at c1 ⊢
      simp only [Sem.run_bind, zeroValue, typeInfo, run_program, Result.andThen_ok, hi, Sem.run_pure, hz]
      rw [c1]
      simp [newRow]
  · by_cases hne : l = []
    · subst hne
      have : len = 0 := by simp at b2; omega
      subst this
      exact .rowsE true _ 0 (fun _ => rfl)
    · have hll : l.length = len := by omega
      have := DenP.rowsS (H := fun b => if b = w.heap.size then some (Obj.cells cs e) else H b) true l w.heap.size 0 len sz cs e (0, 0) (by simp) hne (by omega) (fun _ => hll.symm) b3 (by
        rw [c2]
        have : ∀ (l : List (List D)), (∀ r ∈ l, r.length = sz) → l.flatten.length = l.length * sz := by
          intro l
          induction l with
          | nil => intro _; simp
          | cons r l ih => intro h; simp [h r (.head _), ih fun r hr => h r (.tail _ hr), Nat.succ_mul]; omega
        rw [this l b3]; omega) (fun i k row d v hi hk hv => by
          have hfl := flatten_get b3 hi hk
          simp only [Nat.zero_add] at hv
          exact ((c4 _ d v hfl hv).toP (D.pureL_mem b4 d (List.mem_of_getElem? hfl))).mono g2)
      rw [hll] at this
      exact this
  · rw [St.app_blk] at hk; exact hk
end ops

section code
variable {P : Program} {Q : Exit → St → Prop} {st : St}

theorem Wp.seq {x y : Code} (h : Wp P x (fun e st' => match e with | .normal => Wp P y Q st' | e => Q e st') st) : Wp P (.seq x y) Q st := by
  intro B ρ H a w hR
  refine wp_seq (Go.wp_mono (h B ρ H a w hR) fun e a' w' ⟨st', ρ', H', hR', hq⟩ => ?_)
  cases e with
  | normal => exact hq B ρ' H' a' w' hR'
  | _ => exact ⟨st', ρ', H', hR', hq⟩
theorem Wp.cond {c : Operand} {x y : Code} {b : Bool} (hc : st.val c = some (.bool b)) (ht : b = true → Wp P x Q st) (hf : b = false → Wp P y Q st) : Wp P (.cond c x y) Q st :=
  fun B ρ H a w hR => wp_cond_split (hR.val hc).bool_inv (fun h => ht h B ρ H a w hR) (fun h => hf h B ρ H a w hR)
theorem Wp.block {id : Nat} {c : Code} (h : Wp P c (fun e st' => match e with | .exit i => _root_.cond (Nat.beq i id) (Q .normal st') (Q (.exit i) st') | e => Q e st') st) : Wp P (.block id c) Q st := by
  intro B ρ H a w hR
  refine wp_block (Go.wp_mono (h B ρ H a w hR) fun e a' w' ⟨st', ρ', H', hR', hq⟩ => ?_)
  cases e with
  | exit i =>
    simp only [Exit.inBlock] at hq ⊢
    by_cases hi : i = id
    · rw [if_pos hi]; subst hi; simp only [Nat.beq_refl, cond_true] at hq; exact ⟨st', ρ', H', hR', hq⟩
    · rw [if_neg hi]
      have : Nat.beq i id = false := by rw [← Bool.not_eq_true, Nat.beq_eq]; exact hi
      simp only [this, cond_false] at hq; exact ⟨st', ρ', H', hR', hq⟩
  | _ => exact ⟨st', ρ', H', hR', hq⟩
theorem Wp.ret (h : Q .ret st) : Wp P .ret Q st := fun _ ρ H _ _ hR => wp_ret ⟨st, ρ, H, hR, h⟩
theorem Wp.skip (h : Q .normal st) : Wp P .skip Q st := fun _ ρ H _ _ hR => wp_skip ⟨st, ρ, H, hR, h⟩
theorem Wp.exit {id : Nat} (h : Q (.exit id) st) : Wp P (.exit id) Q st := fun _ ρ H _ _ hR => wp_exit ⟨st, ρ, H, hR, h⟩

/-- What is said of st' is said of st. -/
structure St.Sub (st' st : St) : Prop where
  n : st'.n = st.n
  tm : ∀ p ∈ st'.tmps, st.get p.1 = some p.2
  bl : ∀ j b, st'.blk j = some b → st.blk j = some b
theorem Rel.sub {B : Base} {st st' : St} {ρ : Nat → Loc} {H : GH} {a : Act} {w : World} (h : Rel B st ρ H a w) (hs : st'.Sub st) : Rel B st' ρ H a w :=
  h.congr hs.n (fun _ _ ht => hs.tm _ (alook_mem ht)) hs.bl
theorem plusOn_np {x b : Option Blk} {o : Option (List Nat)} {kd vd : D} : plusOn x b ≠ some (.plus o kd vd) := by
  unfold plusOn
  split
  · unfold addP; split <;> simp
  · rename_i h; intro hx; exact h _ _ _ hx
theorem blkOn_np {l : List (Nat × Option Blk)} {j : Nat} {o : Option (List Nat)} {kd vd : D} : blkOn none l j ≠ some (.plus o kd vd) := by
  induction l with
  | nil => simp [blkOn]
  | cons p l ih => obtain ⟨s, x⟩ := p; rw [blkOn_cons]; split; exact plusOn_np; exact ih

theorem Wp.weaken {c : Code} (st' : St) (hs : st'.Sub st) (h : Wp P c Q st') : Wp P c Q st := fun B ρ H a w hR => h B ρ H a w (hR.sub hs)

/-- The slots named, as the state has them. -/
def St.selT (st : St) : List Nat → Option (List (Nat × D))
  | [] => some []
  | t :: r => match st.get t, st.selT r with
    | some d, some l => some ((t, d) :: l)
    | _, _ => none
def St.selB (st : St) : List Nat → Option (List (Nat × Option Blk))
  | [] => some []
  | j :: r => match st.blk j, st.selB r with
    | some b, some l => some ((j, some b) :: l)
    | _, _ => none
/-- Entry by entry: the state has them so. -/
def St.hasT (st : St) : List (Nat × D) → Prop
  | [] => True
  | (t, d) :: r => st.get t = some d ∧ st.hasT r
def St.hasB (st : St) : List (Nat × Option Blk) → Prop
  | [] => True
  | (j, b) :: r => st.blk j = b ∧ st.hasB r
theorem St.sub_of {st : St} {n : Nat} {tm : List (Nat × D)} {ow : List (Nat × Option Blk)} (hn : n = st.n) (ht : st.hasT tm) (hb : st.hasB ow) : (⟨n, tm, ow⟩ : St).Sub st := by
  refine ⟨hn, ?_, ?_⟩
  · clear hb
    induction tm with
    | nil => simp
    | cons p r ih =>
      obtain ⟨t, d⟩ := p
      intro q hq
      rcases List.mem_cons.1 hq with rfl | hq
      · exact ht.1
      · exact ih ht.2 q hq
  · clear ht
    show ∀ j b, blkOn none ow j = some b → st.blk j = some b
    induction ow with
    | nil => simp [blkOn]
    | cons p r ih =>
      obtain ⟨k, x⟩ := p
      intro j b hj
      rw [blkOn_cons] at hj
      split at hj
      · rename_i hkj
        subst hkj
        unfold plusOn at hj
        split at hj
        · exact absurd hb.1 blkOn_np
        · rw [hb.1]; exact hj
      · exact ih hb.2 j b hj

/-- A loop: I: what the state is at its head, by a ghost x of which J holds; μ goes down. -/
theorem Wp.loop {α : Type} (I : α → St) (J : α → Prop) (μ : α → Nat) (x0 : α) {c : Code} (h0 : (I x0).Sub st) (hJ : J x0)
    (round : ∀ x, J x → Wp P c (fun e st' => match e with | .normal => ∃ y, J y ∧ μ y < μ x ∧ (I y).Sub st' | e => Q e st') (I x)) : Wp P (.loop c) Q st := by
  intro B ρ H a w hR
  refine Go.wp_loop_ghost (fun m a w => ∃ x ρ H, J x ∧ μ x = m ∧ Rel B (I x) ρ H a w) (μ x0) ⟨x0, ρ, H, hJ, rfl, hR.sub h0⟩ ?_
  rintro m a w ⟨x, ρ, H, hx, rfl, hR⟩
  refine Go.wp_mono (round x hx B ρ H a w hR) fun e a' w' ⟨st', ρ', H', hR', hq⟩ => ?_
  cases e with
  | normal =>
    obtain ⟨y, hy, hlt, hsub⟩ := hq
    exact ⟨μ y, hlt, y, ρ', H', hy, rfl, hR'.sub hsub⟩
  | _ => exact ⟨st', ρ', H', hR', hq⟩

/-- A loop, as a walk takes it: ks, js: the slots and blocks that stay; U, V lay the others over them. -/
theorem Wp.loopK {α : Type} (ks js : List Nat) (U : α → List (Nat × D) → List (Nat × D)) (V : α → List (Nat × Option Blk) → List (Nat × Option Blk)) (J : α → Prop) (μ : α → Nat) (x0 : α) {c : Code} {kt : List (Nat × D)}
    {ko : List (Nat × Option Blk)} (_hk : st.selT ks = some kt) (_hj : st.selB js = some ko) (hJ : J x0) (h0 : st.hasT (U x0 kt)) (h1 : st.hasB (V x0 ko))
    (round : ∀ x, J x → Wp P c (fun e st' => match e with | .normal => ∃ y, J y ∧ μ y < μ x ∧ st'.hasT (U y kt) ∧ st'.hasB (V y ko) ∧ st.n = st'.n | e => Q e st') ⟨st.n, U x kt, V x ko⟩) : Wp P (.loop c) Q st := by
  refine Wp.loop (fun x => ⟨st.n, U x kt, V x ko⟩) J μ x0 (St.sub_of rfl h0 h1) hJ fun x hx B ρ H a w hR => ?_
  refine Go.wp_mono (round x hx B ρ H a w hR) fun e a' w' ⟨st', ρ', H', hR', hq⟩ => ⟨st', ρ', H', hR', ?_⟩
  cases e with
  | normal =>
    obtain ⟨y, h2, h3, h4, h5, h6⟩ := hq
    exact ⟨y, h2, h3, St.sub_of h6 h4 h5⟩
  | _ => exact hq

/-- A cut: the ways through x meet again in states that are told by a ghost. -/
theorem Wp.cutK {α : Type} (ks js : List Nat) (U : α → List (Nat × D) → List (Nat × D)) (V : α → List (Nat × Option Blk) → List (Nat × Option Blk)) (J : α → Prop) {x y : Code} {kt : List (Nat × D)} {ko : List (Nat × Option Blk)}
    (_hk : st.selT ks = some kt) (_hj : st.selB js = some ko)
    (h1 : Wp P x (fun e st' => match e with | .normal => ∃ g, J g ∧ st'.hasT (U g kt) ∧ st'.hasB (V g ko) ∧ st.n = st'.n | e => Q e st') st) (h2 : ∀ g, J g → Wp P y Q ⟨st.n, U g kt, V g ko⟩) : Wp P (.seq x y) Q st := by
  refine Wp.seq fun B ρ H a w hR => Go.wp_mono (h1 B ρ H a w hR) fun e a' w' ⟨st', ρ', H', hR', hq⟩ => ⟨st', ρ', H', hR', ?_⟩
  cases e with
  | normal =>
    obtain ⟨g, h3, h4, h5, h6⟩ := hq
    exact Wp.weaken _ (St.sub_of h6 h4 h5) (h2 g h3)
  | _ => exact hq
end code

section fn
variable {P : Program}

/-- The arguments' slots. -/
def argTmps : Nat → List D → List (Nat × D)
  | _, [] => []
  | k, d :: r => (k, d) :: argTmps (k + 1) r
theorem argTmps_look : ∀ (l : List D) (k t : Nat) (d : D), alook (argTmps k l) t = some d → k ≤ t ∧ l[t - k]? = some d
  | [], _, _, _, h => by simp [argTmps, alook] at h
  | x :: l, k, t, d, h => by
    simp only [argTmps, alook_cons] at h
    split at h
    · rename_i hk; subst hk; cases h; simp
    · have ⟨h1, h2⟩ := argTmps_look l (k + 1) t d h
      refine ⟨by omega, ?_⟩
      rw [show t - k = (t - (k + 1)) + 1 by omega]; simpa using h2

/-- What a value is when all that the call has made is left alone from then on. -/
def Fz (st : St) (d0 d : D) : Prop := ∀ B ρ H a w v H', Rel B st ρ H a w → B.pass = [] → Den ρ H d0 v → H.le H' → (∀ k o, B.W.heap.size ≤ k → H k = none → w.heap[k]? = some o → H' k = some o) → DenP H' d v
theorem Fz.pure {st : St} {d : D} (hp : d.pureB = true) : Fz st d d := fun _ _ _ _ _ _ _ _ _ hd hle _ => (hd.toP hp).mono hle
inductive FzL (st : St) : List D → List D → Prop
  | nil : FzL st [] []
  | cons {d0 d : D} {l0 l : List D} (h : Fz st d0 d) (r : FzL st l0 l) : FzL st (d0 :: l0) (d :: l)
theorem FzL.get {st : St} {l0 l : List D} (h : FzL st l0 l) : l0.length = l.length ∧ ∀ (k : Nat) (d : D), l[k]? = some d → ∃ d0, l0[k]? = some d0 ∧ Fz st d0 d := by
  induction h with
  | nil => simp
  | cons h r ih =>
    refine ⟨by simp [ih.1], fun k d hk => ?_⟩
    cases k with
    | zero => simp at hk; subst hk; exact ⟨_, rfl, h⟩
    | succ k => exact ih.2 k d (by simpa using hk)
theorem Fz.agg {st : St} {l0 l : List D} (h : FzL st l0 l) : Fz st (.agg l0) (.agg l) := fun B ρ H a w v H' hR hp hd hle hf => by
  obtain ⟨cs, rfl, hs, he⟩ := hd.agg_inv
  obtain ⟨h1, h2⟩ := h.get
  refine .agg l cs (by rw [hs, h1]) fun k d v hk hv => ?_
  obtain ⟨d0, h3, h4⟩ := h2 k d hk
  exact h4 B ρ H a w v H' hR hp (he k d0 v h3 hv) hle hf

def resOne (tmps : Array Value) : ResultVar → Sem Value
  | .tmp t => Pure.pure (tmps.getD t undef)
  | .cell b t => do loadVar t (← asAddr (tmps.getD b undef))
theorem results_eq (fn : Func) (tmps : Array Value) : results fn tmps = (do let vs ← fn.results.mapM (resOne tmps); Pure.pure (if h : vs.size = 1 then vs[0] else .tuple vs)) := by
  unfold results
  have : (fun r : ResultVar => (match r with | .tmp t => Pure.pure (tmps.getD t undef) | .cell a t => do loadVar t (← asAddr (tmps.getD a undef)) : Sem Value)) = resOne tmps := by funext r; cases r <;> rfl
  rw [← this]
  rfl

/-- A result. -/
inductive RetV (P : Program) (st : St) : ResultVar → D → Prop
  | tmp {t : Nat} {d0 d : D} (h : st.get t = some d0) (hf : Fz st d0 d) : RetV P st (.tmp t) d
  | cell {t : Nat} {T bt : TypeId} {agg : Bool} {n j off : Nat} {l : List D} {d0 d : D} [hT : TyF P T agg n] (h : st.get t = some (.ptr j off)) (hj : st.blk j = some (.cells bt l)) (hl : ldD agg n (l.drop off) = some d0)
      (ho : off ≤ l.length) (hf : Fz st d0 d) : RetV P st (.cell t T) d
inductive RetL (P : Program) (st : St) : List ResultVar → List D → Prop
  | nil : RetL P st [] []
  | cons {r : ResultVar} {d : D} {rs : List ResultVar} {ds : List D} (h : RetV P st r d) (t : RetL P st rs ds) : RetL P st (r :: rs) (d :: ds)
def retD : List D → D
  | [d] => d
  | l => .tup l

theorem RetV.run {st : St} {r : ResultVar} {d : D} (h : RetV P st r d) {B : Base} {ρ : Nat → Loc} {H H' : GH} {a : Act} {w : World} (hR : Rel B st ρ H a w) (hp : B.pass = []) (hle : H.le H')
    (hf : ∀ k o, B.W.heap.size ≤ k → H k = none → w.heap[k]? = some o → H' k = some o) :
    ∃ v, (resOne a.tmps r).run P w = .ok v w ∧ DenP H' d v := by
  cases h with
  | tmp h hfz =>
    have hd := hR.val (x := .tmp _) h
    exact ⟨_, rfl, hfz B ρ H a w _ H' hR hp hd hle hf⟩
  | @cell t T bt agg n j off l d0 _ hT h hj hl ho hfz =>
    obtain ⟨hh, h1⟩ := (hR.val (x := .tmp _) h).ptr_inv
    obtain ⟨_, arr, hb, hsz, he⟩ := hR.wr.own _ _ hj
    obtain ⟨v, hv, hden⟩ := load_run (P := P) (ρ := ρ) (H := H) hT hb (l := l.drop off) (off := off) (by simp; omega) (fun k d v h1 h2 => he (off + k) d v (by simpa using h1) h2) hl
    refine ⟨v, ?_, hfz B ρ H a w v H' hR hp hden hle hf⟩
    simp only [Act.eval] at h1
    simp only [resOne, Sem.run_bind, h1, asAddr, Sem.run_pure, Result.andThen_ok, hv]

theorem RetL.run {st : St} {rs : List ResultVar} {ds : List D} (h : RetL P st rs ds) {B : Base} {ρ : Nat → Loc} {H H' : GH} {a : Act} {w : World} (hR : Rel B st ρ H a w) (hp : B.pass = []) (hle : H.le H')
    (hf : ∀ k o, B.W.heap.size ≤ k → H k = none → w.heap[k]? = some o → H' k = some o) :
    ∃ vs, (rs.mapM (resOne a.tmps)).run P w = .ok vs w ∧ vs.length = ds.length ∧
      ∀ (k : Nat) (d : D) (v : Value), ds[k]? = some d → vs[k]? = some v → DenP H' d v := by
  induction h with
  | nil => exact ⟨[], rfl, rfl, by simp⟩
  | cons h t ih =>
    obtain ⟨v, h1, h2⟩ := h.run hR hp hle hf
    obtain ⟨vs, h3, h4, h5⟩ := ih
    refine ⟨v :: vs, ?_, by simp [h4], fun k d u hk hu => ?_⟩
    · simp only [List.mapM_cons, Sem.run_bind]
      rw [h1]
      simp only [Result.andThen_ok]
      rw [h3]
      simp only [Result.andThen_ok, Sem.run_pure]
    · cases k with
      | zero => simp at hk hu; subst hk; subst hu; exact h2
      | succ k => exact h5 k d u (by simpa using hk) (by simpa using hu)

/-- What a body must come to. -/
def Ends (P : Program) (fn : Func) (d : D) : Exit → St → Prop := fun e st => (e = .normal ∨ e = .ret) ∧ ∃ ds, RetL P st fn.results.toList ds ∧ d = retD ds

theorem Ends.ret {fn : Func} {d : D} {st : St} {ds : List D} (h : RetL P st fn.results.toList ds) (hd : d = retD ds) : Ends P fn d .ret st := ⟨.inr rfl, ds, h, hd⟩
theorem Ends.normal {fn : Func} {d : D} {st : St} {ds : List D} (h : RetL P st fn.results.toList ds) (hd : d = retD ds) : Ends P fn d .normal st := ⟨.inl rfl, ds, h, hd⟩

theorem FnP.of_body {f : FuncId} {fn : Func} {c : Code} {args : List D} {d : D} (hf : P.funcs[f]? = some fn) (hb : fn.body = some c) (hnm : (fn.name == "runtime.NumGoroutine") = false) (hn : Nat.ble args.length fn.ntmps = true)
    (h : Wp P c (Ends P fn d) ⟨fn.ntmps, argTmps 0 args, []⟩) : FnP P f args d := by
  refine ⟨⟨fn, hf, by simp [hb], hnm⟩, fun W H vs hpers hsz hden => ?_⟩
  refine calls_of_wp hf hb ?_
  have hn' : args.length ≤ fn.ntmps := by simpa using hn
  have hR : Rel ⟨W, H, []⟩ ⟨fn.ntmps, argTmps 0 args, []⟩ (fun _ => ⟨0, 0, 0, false⟩) H { tmps := vs ++ Array.replicate (fn.ntmps - vs.size) undef, defers := [] } W := by
    refine ⟨by simp; omega, rfl, fun t d ht => ?_, ⟨by simp [St.blk, blkOn], by simp [St.blk, blkOn], by simp [St.blk, blkOn], by simp [St.blk, blkOn], hpers, GH.le_refl _, fun _ _ h => .inl h, Nat.le_refl _, fun _ _ _ => rfl, rfl, rfl, rfl⟩⟩
    obtain ⟨_, h2⟩ := argTmps_look args 0 t d ht
    simp only [Nat.sub_zero] at h2
    have hlt : t < vs.size := by rw [hsz]; exact (List.getElem?_eq_some_iff.1 h2).1
    exact ⟨vs[t], by rw [Array.getElem?_append_left hlt]; simp [hlt], .pure (hden t d _ h2 (by simp [hlt]))⟩
  refine Go.wp_mono (h _ _ _ _ _ hR) fun e a' w' ⟨st', ρ', H', hR', he, ds, hret, hds⟩ => ?_
  have hle : H'.le fun b => match H' b with | some o => some o | none => if W.heap.size ≤ b then w'.heap[b]? else none := fun b o hb => by simp [hb]
  obtain ⟨vs', h1, h2, h3⟩ := hret.run hR' rfl hle (fun k o h4 h5 h6 => by simp only [h5, if_pos h4]; exact h6)
  have hres : ∃ v, (results fn a'.tmps).run P w' = .ok v w' ∧ DenP (fun b => match H' b with | some o => some o | none => if W.heap.size ≤ b then w'.heap[b]? else none) d v := by
    have hm : (fn.results.mapM (resOne a'.tmps)).run P w' = .ok vs'.toArray w' := by
      rw [Array.mapM_eq_mapM_toList]
      simp only [Sem.run_map]
      rw [h1]
      simp
    refine ⟨if h : vs'.toArray.size = 1 then vs'.toArray[0] else .tuple vs'.toArray, ?_, ?_⟩
    · rw [results_eq]
      simp only [Sem.run_bind]
      rw [hm]
      simp
    · subst hds
      match ds, vs', h2, h3 with
      | [d], [v], _, h3 => exact h3 0 d v rfl rfl
      | [], [], _, _ => exact .tup [] _ rfl (by simp)
      | x :: y :: r, u :: v :: q, h2, h3 => exact .tup _ _ (by simpa using h2) fun k d v hk hv => h3 k d v hk (by simpa using hv)
      | [], _ :: _, h2, _ => simp at h2
      | [_], [], h2, _ => simp at h2
      | [_], _ :: _ :: _, h2, _ => simp at h2
      | _ :: _ :: _, [], h2, _ => simp at h2
      | _ :: _ :: _, [_], h2, _ => simp at h2
  obtain ⟨v, h4, h5⟩ := hres
  have hgoal : ∃ v', (results fn a'.tmps).run P w' = .ok v' w' ∧ ∃ v H', Ending.returned v' = .returned v ∧ DenP H' d v ∧ Behind W H H' w' := by
    refine ⟨v, h4, v, _, rfl, h5, ⟨GH.le_trans hR'.wr.hext hle, fun b o hb => ?_, fun b o hb => ?_, hR'.wr.size, fun k hk => hR'.wr.frame k hk (by simp), hR'.wr.os, hR'.wr.tape, hR'.wr.output⟩⟩
    · split at hb
      · rename_i o' ho; cases hb; exact hR'.wr.pers b _ ho
      · split at hb
        · exact hb
        · cases hb
    · split at hb
      · rename_i o' ho
        cases hb
        rcases hR'.wr.hnew b _ ho with h6 | h6 | h6
        · exact .inl h6
        · exact .inr h6
        · cases h6
      · split at hb
        · rename_i hlt; exact .inr hlt
        · cases hb
  rcases he with rfl | rfl
  · exact ⟨hR'.df, hgoal⟩
  · exact ⟨hR'.df, hgoal⟩
end fn
end Go.Eng
