/- The engine, part F: the steps of a walk, one lemma an operation, the state written out. No program in sight. -/
import Derived.Test.YtoleablcjdbeiaaEngE
namespace Go.Eng
open Go

/-- The guard lets the operation run. -/
inductive Gd (ops : Array Oper) (st : St) : Option (Nat × Bool) → Prop
  | none : Gd ops st none
  | want {g s : Nat} {want b : Bool} (hs : (ops[g]?).bind (·.dst) = some s) (hb : st.get s = some (.bool b)) (h : b = want) : Gd ops st (some (g, want))

section
variable {P : Program} {ops : Array Oper} {r : List Oper} {acc : List Eff} {n : Nat} {tm : List (Nat × D)} {ow : List (Nat × Option Blk)} {F : List Eff → St → Prop}
  {t : Nat} {ty : TypeId} {pos : String} {af : Array Edge} {g : Option (Nat × Bool)} {d : D}

theorem step {o : Oper} {st : St} {e : Eff} (hok : LOk P o st e) (hg : Gd ops st o.guard) (hf : e.new.all st.freshB = true) (h : WpD P ops r (e :: acc) (st.app o.dst e) F) : WpD P ops (o :: r) acc st F := by
  refine ⟨e, ?_, hf, h⟩
  generalize hgg : o.guard = gd at hg
  cases hg with
  | none => exact .plain hgg hok
  | want hs hb h => subst h; exact .wanted _ _ _ hgg hs hb hok

theorem done {st : St} (h : F acc.reverse st) : WpD P ops [] acc st F := h

/-- An operation that its guard passes over. -/
theorem sk {op : Op} {k s : Nat} {want b : Bool} (hs : (ops[k]?).bind (·.dst) = some s) (hb : St.get ⟨n, tm, ow⟩ s = some (.bool b)) (hw : b = !want) (hd : Nat.blt t n = true)
    (h : WpD P ops r (skipEff :: acc) ⟨n, (t, .tup []) :: tm, ow⟩ F) : WpD P ops (⟨some t, op, ty, pos, af, some (k, want)⟩ :: r) acc ⟨n, tm, ow⟩ F :=
  ⟨skipEff, .passed k want s rfl hs (.inl (by rw [hb, hw])) (fun u hu => by cases hu; simpa [Nat.blt_eq] using hd) rfl, rfl, h⟩
theorem sku {op : Op} {k s : Nat} {want : Bool} (hs : (ops[k]?).bind (·.dst) = some s) (hb : St.get ⟨n, tm, ow⟩ s = some (.tup [])) (hd : Nat.blt t n = true)
    (h : WpD P ops r (skipEff :: acc) ⟨n, (t, .tup []) :: tm, ow⟩ F) : WpD P ops (⟨some t, op, ty, pos, af, some (k, want)⟩ :: r) acc ⟨n, tm, ow⟩ F :=
  ⟨skipEff, .passed k want s rfl hs (.inr hb) (fun u hu => by cases hu; simpa [Nat.blt_eq] using hd) rfl, rfl, h⟩

theorem blt_lt {a b : Nat} (h : Nat.blt a b = true) : a < b := by simpa [Nat.blt_eq] using h

theorem mv {x : Operand} (hx : St.val ⟨n, tm, ow⟩ x = some d) (hd : Nat.blt t n = true) (hg : Gd ops ⟨n, tm, ow⟩ g) (h : WpD P ops r (⟨[], [], d, []⟩ :: acc) ⟨n, (t, d) :: tm, ow⟩ F) :
    WpD P ops (⟨some t, .move x, ty, pos, af, g⟩ :: r) acc ⟨n, tm, ow⟩ F := step (lok_move hx (blt_lt hd)) hg rfl h
theorem asg {x : Operand} (hx : St.val ⟨n, tm, ow⟩ x = some d) (hd : Nat.blt t n = true) (hg : Gd ops ⟨n, tm, ow⟩ g) (h : WpD P ops r (⟨[], [], d, []⟩ :: acc) ⟨n, (t, d) :: tm, ow⟩ F) :
    WpD P ops (⟨some t, .assign x, ty, pos, af, g⟩ :: r) acc ⟨n, tm, ow⟩ F := step (lok_assign hx (blt_lt hd)) hg rfl h
theorem pkt {c x y : Operand} {b : Bool} (hc : St.val ⟨n, tm, ow⟩ c = some (.bool b)) (hb : b = true) (hx : St.val ⟨n, tm, ow⟩ x = some d) (hd : Nat.blt t n = true) (hg : Gd ops ⟨n, tm, ow⟩ g)
    (h : WpD P ops r (⟨[], [], d, []⟩ :: acc) ⟨n, (t, d) :: tm, ow⟩ F) : WpD P ops (⟨some t, .pick c x y, ty, pos, af, g⟩ :: r) acc ⟨n, tm, ow⟩ F := step (lok_pick_t (hb ▸ hc) hx (blt_lt hd)) hg rfl h
theorem pkf {c x y : Operand} {b : Bool} (hc : St.val ⟨n, tm, ow⟩ c = some (.bool b)) (hb : b = false) (hx : St.val ⟨n, tm, ow⟩ y = some d) (hd : Nat.blt t n = true) (hg : Gd ops ⟨n, tm, ow⟩ g)
    (h : WpD P ops r (⟨[], [], d, []⟩ :: acc) ⟨n, (t, d) :: tm, ow⟩ F) : WpD P ops (⟨some t, .pick c x y, ty, pos, af, g⟩ :: r) acc ⟨n, tm, ow⟩ F := step (lok_pick_f (hb ▸ hc) hx (blt_lt hd)) hg rfl h
theorem cmp {op : BinOp} {x y : Operand} {xt yt : TypeId} {k : IntKind} {a b : Int} {c : Bool} (hx : St.val ⟨n, tm, ow⟩ x = some (.int k a)) (hy : St.val ⟨n, tm, ow⟩ y = some (.int k b)) (hb : cmpInt op a b = some c) (hd : Nat.blt t n = true)
    (hg : Gd ops ⟨n, tm, ow⟩ g) (h : WpD P ops r (⟨[], [], .bool c, []⟩ :: acc) ⟨n, (t, .bool c) :: tm, ow⟩ F) : WpD P ops (⟨some t, .binOp op xt x y yt, ty, pos, af, g⟩ :: r) acc ⟨n, tm, ow⟩ F := step (lok_cmp hx hy hb (blt_lt hd)) hg rfl h
theorem ar {op : BinOp} {x y : Operand} {xt yt : TypeId} {k : IntKind} {a b c : Int} (s : Int) (hx : St.val ⟨n, tm, ow⟩ x = some (.int k a)) (hy : St.val ⟨n, tm, ow⟩ y = some (.int k b)) (hb : arInt op a b = some c) (hw : k.wrap c = s)
    (hd : Nat.blt t n = true) (hg : Gd ops ⟨n, tm, ow⟩ g) (h : WpD P ops r (⟨[], [], .int k s, []⟩ :: acc) ⟨n, (t, .int k s) :: tm, ow⟩ F) : WpD P ops (⟨some t, .binOp op xt x y yt, ty, pos, af, g⟩ :: r) acc ⟨n, tm, ow⟩ F :=
  step (lok_ar hx hy hb hw (blt_lt hd)) hg rfl h
theorem nt {x : Operand} {xt : TypeId} {b : Bool} (hx : St.val ⟨n, tm, ow⟩ x = some (.bool b)) (hd : Nat.blt t n = true) (hg : Gd ops ⟨n, tm, ow⟩ g) (h : WpD P ops r (⟨[], [], .bool (!b), []⟩ :: acc) ⟨n, (t, .bool (!b)) :: tm, ow⟩ F) :
    WpD P ops (⟨some t, .unOp .not xt x, ty, pos, af, g⟩ :: r) acc ⟨n, tm, ow⟩ F := step (lok_not hx (blt_lt hd)) hg rfl h
theorem xt {x : Operand} {i : Nat} {l : List D} (hx : St.val ⟨n, tm, ow⟩ x = some (.tup l)) (hi : l[i]? = some d) (hd : Nat.blt t n = true) (hg : Gd ops ⟨n, tm, ow⟩ g) (h : WpD P ops r (⟨[], [], d, []⟩ :: acc) ⟨n, (t, d) :: tm, ow⟩ F) :
    WpD P ops (⟨some t, .extract x i, ty, pos, af, g⟩ :: r) acc ⟨n, tm, ow⟩ F := step (lok_extract hx hi (blt_lt hd)) hg rfl h
theorem ln {x : Operand} {xt e : TypeId} {sz by_ : Nat} {full : Bool} {l : List (List D)} [hT : TySl P xt e sz by_] (hx : St.val ⟨n, tm, ow⟩ x = some (.rows full l)) (hd : Nat.blt t n = true) (hg : Gd ops ⟨n, tm, ow⟩ g)
    (h : WpD P ops r (⟨[], [], .int .i64 l.length, []⟩ :: acc) ⟨n, (t, .int .i64 l.length) :: tm, ow⟩ F) : WpD P ops (⟨some t, .call ⟨.builtin .len, #[x], #[xt]⟩, ty, pos, af, g⟩ :: r) acc ⟨n, tm, ow⟩ F := step (lok_len hx (blt_lt hd)) hg rfl h
theorem fa {x : Operand} {xt : TypeId} {f j off fo fn : Nat} {fs : List (Nat × Nat)} [hT : TyS P xt fs] (hx : St.val ⟨n, tm, ow⟩ x = some (.ptr j off)) (hf : fs[f]? = some (fo, fn + 1)) (hd : Nat.blt t n = true) (hg : Gd ops ⟨n, tm, ow⟩ g)
    (h : WpD P ops r (⟨[], [], .ptr j (off + fo), []⟩ :: acc) ⟨n, (t, .ptr j (off + fo)) :: tm, ow⟩ F) : WpD P ops (⟨some t, .fieldAddr xt x f, ty, pos, af, g⟩ :: r) acc ⟨n, tm, ow⟩ F := step (lok_fieldAddr_ptr hx hf (blt_lt hd)) hg rfl h
theorem fap {x : Operand} {xt : TypeId} {f fo fn : Nat} {fs : List (Nat × Nat)} {l : List D} [hT : TyS P xt fs] (hx : St.val ⟨n, tm, ow⟩ x = some (.pp l)) (hf : fs[f]? = some (fo, fn + 1)) (hl : Nat.ble fo l.length = true) (hd : Nat.blt t n = true)
    (hg : Gd ops ⟨n, tm, ow⟩ g) (h : WpD P ops r (⟨[], [], .pp (l.drop fo), []⟩ :: acc) ⟨n, (t, .pp (l.drop fo)) :: tm, ow⟩ F) : WpD P ops (⟨some t, .fieldAddr xt x f, ty, pos, af, g⟩ :: r) acc ⟨n, tm, ow⟩ F :=
  step (lok_fieldAddr_pp hx hf (by simpa using hl) (blt_lt hd)) hg rfl h
theorem ldp {x : Operand} {T : TypeId} {agg : Bool} {m : Nat} {l : List D} [hT : TyF P T agg m] (hx : St.val ⟨n, tm, ow⟩ x = some (.pp l)) (hl : ldD agg m l = some d) (hd : Nat.blt t n = true) (hg : Gd ops ⟨n, tm, ow⟩ g)
    (h : WpD P ops r (⟨[], [], d, []⟩ :: acc) ⟨n, (t, d) :: tm, ow⟩ F) : WpD P ops (⟨some t, .load T x, ty, pos, af, g⟩ :: r) acc ⟨n, tm, ow⟩ F := step (lok_load_pp hx hl (blt_lt hd)) hg rfl h
theorem ld {x : Operand} {T bt : TypeId} {agg : Bool} {m j off : Nat} {l : List D} [hT : TyF P T agg m] (hx : St.val ⟨n, tm, ow⟩ x = some (.ptr j off)) (hj : St.blk ⟨n, tm, ow⟩ j = some (.cells bt l)) (hl : ldD agg m (l.drop off) = some d)
    (ho : Nat.ble off l.length = true) (hd : Nat.blt t n = true) (hg : Gd ops ⟨n, tm, ow⟩ g) (h : WpD P ops r (⟨[j], [], d, []⟩ :: acc) ⟨n, (t, d) :: tm, ow⟩ F) :
    WpD P ops (⟨some t, .load T x, ty, pos, af, g⟩ :: r) acc ⟨n, tm, ow⟩ F := step (lok_load_ptr hx hj hl (by simpa using ho) (blt_lt hd)) hg rfl h
theorem sto {x y : Operand} {T bt : TypeId} {agg : Bool} {m j off : Nat} {l l' : List D} [hT : TyF P T agg m] (hx : St.val ⟨n, tm, ow⟩ x = some (.ptr j off)) (hj : St.blk ⟨n, tm, ow⟩ j = some (.cells bt l)) (hy : St.val ⟨n, tm, ow⟩ y = some d)
    (hm : d.flat.length = m) (hc : (d.flat.all D.cell && off + m ≤ l.length && d.known) = true) (hl : putL l off d.flat = l') (hg : Gd ops ⟨n, tm, ow⟩ g)
    (h : WpD P ops r (⟨[j], [], .any, [(j, some (.cells bt l'))]⟩ :: acc) ⟨n, tm, (j, some (.cells bt l')) :: ow⟩ F) : WpD P ops (⟨none, .store T x y, ty, pos, af, g⟩ :: r) acc ⟨n, tm, ow⟩ F := step (lok_store_ptr hx hj hy hm hc hl) hg rfl h
theorem al (j : Nat) {T : TypeId} {zs : List D} [hZ : TyZ P T zs] (hf : St.freshB ⟨n, tm, ow⟩ j = true) (hd : Nat.blt t n = true) (hg : Gd ops ⟨n, tm, ow⟩ g)
    (h : WpD P ops r (⟨[], [j], .ptr j 0, [(j, some (.cells T zs))]⟩ :: acc) ⟨n, (t, .ptr j 0) :: tm, (j, some (.cells T zs)) :: ow⟩ F) : WpD P ops (⟨some t, .alloc T, ty, pos, af, g⟩ :: r) acc ⟨n, tm, ow⟩ F :=
  step (lok_alloc j (blt_lt hd)) hg (by simpa using hf) h
theorem bx (j : Nat) {T : TypeId} {x : Operand} (hx : St.val ⟨n, tm, ow⟩ x = some d) (ha : d.known = true) (hf : St.freshB ⟨n, tm, ow⟩ j = true) (hd : Nat.blt t n = true) (hg : Gd ops ⟨n, tm, ow⟩ g)
    (h : WpD P ops r (⟨[], [j], .ptr j 0, [(j, some (.cells T d.flat))]⟩ :: acc) ⟨n, (t, .ptr j 0) :: tm, (j, some (.cells T d.flat)) :: ow⟩ F) : WpD P ops (⟨some t, .box T x, ty, pos, af, g⟩ :: r) acc ⟨n, tm, ow⟩ F :=
  step (lok_box j hx ha (blt_lt hd)) hg (by simpa using hf) h
theorem bd {T : TypeId} {parts : Array (Nat × Operand)} {zs ds : List D} {fs : List (Nat × Nat)} {ps : List (Nat × D)} [hZ : TyZ P T zs] [hS : TyS P T fs] (hx : St.valsP ⟨n, tm, ow⟩ parts.toList = some ps) (hb : bldD fs zs ps = some ds)
    (hd : Nat.blt t n = true) (hg : Gd ops ⟨n, tm, ow⟩ g) (h : WpD P ops r (⟨[], [], .agg ds, []⟩ :: acc) ⟨n, (t, .agg ds) :: tm, ow⟩ F) : WpD P ops (⟨some t, .build T parts, ty, pos, af, g⟩ :: r) acc ⟨n, tm, ow⟩ F :=
  step (lok_build hx hb (blt_lt hd)) hg rfl h
theorem bs {T e : TypeId} {len sz by_ : Nat} {parts : Array (Nat × Operand)} {zs : List D} {ps : List (Nat × D)} {l : List (List D)} [hT : TySl P T e sz by_] [hZ : TyZ P e zs] (hx : St.valsP ⟨n, tm, ow⟩ parts.toList = some ps)
    (hl : bsD sz 0 ps = some l) (hn : (Nat.beq ps.length len && Nat.ble (len * sz) 16777216) = true) (hd : Nat.blt t n = true) (hg : Gd ops ⟨n, tm, ow⟩ g) (h : WpD P ops r (⟨[], [], .rows true l, []⟩ :: acc) ⟨n, (t, .rows true l) :: tm, ow⟩ F) :
    WpD P ops (⟨some t, .buildSlice T len parts, ty, pos, af, g⟩ :: r) acc ⟨n, tm, ow⟩ F := step (lok_slice_lit hx hl hn (blt_lt hd)) hg rfl h
theorem ia {x y : Operand} {T e : TypeId} {sz by_ : Nat} {k : IntKind} {i : Int} {full : Bool} {l : List (List D)} [hT : TySl P T e sz by_] (m : Nat) (row : List D) (hx : St.val ⟨n, tm, ow⟩ x = some (.rows full l)) (hy : St.val ⟨n, tm, ow⟩ y = some (.int k i))
    (hi : i = (m : Int)) (hm : l[m]? = some row) (hrow : row.length = sz) (hd : Nat.blt t n = true) (hg : Gd ops ⟨n, tm, ow⟩ g) (h : WpD P ops r (⟨[], [], .pp row, []⟩ :: acc) ⟨n, (t, .pp row) :: tm, ow⟩ F) :
    WpD P ops (⟨some t, .indexAddr T x y, ty, pos, af, g⟩ :: r) acc ⟨n, tm, ow⟩ F := step (lok_indexAddr hx hy hi hm hrow (blt_lt hd)) hg rfl h
theorem cmb {op : BinOp} {x y : Operand} {xt yt : TypeId} {a b c : Bool} [hT : TyB P xt] (hx : St.val ⟨n, tm, ow⟩ x = some (.bool a)) (hy : St.val ⟨n, tm, ow⟩ y = some (.bool b)) (hb : cmpBool op a b = some c) (hd : Nat.blt t n = true)
    (hg : Gd ops ⟨n, tm, ow⟩ g) (h : WpD P ops r (⟨[], [], .bool c, []⟩ :: acc) ⟨n, (t, .bool c) :: tm, ow⟩ F) : WpD P ops (⟨some t, .binOp op xt x y yt, ty, pos, af, g⟩ :: r) acc ⟨n, tm, ow⟩ F := step (lok_cmpB hx hy hb (blt_lt hd)) hg rfl h
theorem cms {op : BinOp} {x y : Operand} {xt yt : TypeId} {l m : List D} {ks : List Nat} {b c : Bool} [hT : TyEq P xt ks] (hx : St.val ⟨n, tm, ow⟩ x = some (.agg l)) (hy : St.val ⟨n, tm, ow⟩ y = some (.agg m)) (hb : eqDs ks l m = some b) (hc : cmpEq op b = some c)
    (hd : Nat.blt t n = true) (hg : Gd ops ⟨n, tm, ow⟩ g) (h : WpD P ops r (⟨[], [], .bool c, []⟩ :: acc) ⟨n, (t, .bool c) :: tm, ow⟩ F) : WpD P ops (⟨some t, .binOp op xt x y yt, ty, pos, af, g⟩ :: r) acc ⟨n, tm, ow⟩ F :=
  step (lok_cmpS hx hy hb hc (blt_lt hd)) hg rfl h
theorem cl {y : Operand} {xs : Array Operand} {ats : Array TypeId} {f : FuncId} {ds caps : List D} (hy : St.val ⟨n, tm, ow⟩ y = some (.fn f caps)) (hx : St.vals ⟨n, tm, ow⟩ xs.toList = some ds) (hs : FnP P f (ds ++ caps) d)
    (hp : (D.pureL (ds ++ caps) && d.pureB) = true) (hd : Nat.blt t n = true) (hg : Gd ops ⟨n, tm, ow⟩ g) (h : WpD P ops r (⟨[], [], d, []⟩ :: acc) ⟨n, (t, d) :: tm, ow⟩ F) :
    WpD P ops (⟨some t, .call ⟨.value y, xs, ats⟩, ty, pos, af, g⟩ :: r) acc ⟨n, tm, ow⟩ F := step (lok_call hy hx hs hp (blt_lt hd)) hg rfl h
theorem ifc {x : Operand} {T : TypeId} [hT : TyConc P T] (hx : St.val ⟨n, tm, ow⟩ x = some d) (hd : Nat.blt t n = true) (hg : Gd ops ⟨n, tm, ow⟩ g) (h : WpD P ops r (⟨[], [], .iface T d, []⟩ :: acc) ⟨n, (t, .iface T d) :: tm, ow⟩ F) :
    WpD P ops (⟨some t, .makeInterface T x, ty, pos, af, g⟩ :: r) acc ⟨n, tm, ow⟩ F := step (lok_iface hx (blt_lt hd)) hg rfl h
theorem mkf {fn : FuncId} {xs : Array Operand} {caps : List D} (hx : St.vals ⟨n, tm, ow⟩ xs.toList = some caps) (hd : Nat.blt t n = true) (hg : Gd ops ⟨n, tm, ow⟩ g) (h : WpD P ops r (⟨[], [], .fn fn caps, []⟩ :: acc) ⟨n, (t, .fn fn caps) :: tm, ow⟩ F) :
    WpD P ops (⟨some t, .makeFunc (.func fn) #[] xs, ty, pos, af, g⟩ :: r) acc ⟨n, tm, ow⟩ F := step (lok_func hx (blt_lt hd)) hg rfl h
theorem inv {y : Operand} {xs : Array Operand} {ats : Array TypeId} {name : String} {T : TypeId} {f : FuncId} {ds : List D} {q : D} [hM : Mth P T name f] (hy : St.val ⟨n, tm, ow⟩ y = some (.iface T q)) (hx : St.vals ⟨n, tm, ow⟩ xs.toList = some ds)
    (hs : FnP P f (q :: ds) d) (hp : (D.pureL (q :: ds) && d.pureB) = true) (hd : Nat.blt t n = true) (hg : Gd ops ⟨n, tm, ow⟩ g) (h : WpD P ops r (⟨[], [], d, []⟩ :: acc) ⟨n, (t, d) :: tm, ow⟩ F) :
    WpD P ops (⟨some t, .call ⟨.invoke y name, xs, ats⟩, ty, pos, af, g⟩ :: r) acc ⟨n, tm, ow⟩ F := step (lok_invoke hy hx hs hp (blt_lt hd)) hg rfl h

/-- The slot s bears a bool: both ways. -/
theorem bcase {st : St} (s : Nat) {b : Bool} (_h : st.get s = some (.bool b)) (ht : b = true → WpD P ops r acc st F) (hf : b = false → WpD P ops r acc st F) : WpD P ops r acc st F := by cases b; exact hf rfl; exact ht rfl

theorem reg {id : Nat} {l : List Oper} {Q : Exit → St → Prop} {st : St} (h : WpD P l.toArray l [] st fun _ st' => Q .normal st') : Wp P (.region id l.toArray false) Q st := Wp.region h
theorem regd {id : Nat} {l : List Oper} {Q : Exit → St → Prop} {st : St} (hm : P.follows .mixedOrders = true) (h : WpD P l.toArray l [] st fun es st' => edgesBack l.toArray = true ∧ okDraw l.toArray es = true ∧ Q .normal st') :
    Wp P (.region id l.toArray true) Q st := Wp.draw hm h
end
end Go.Eng
