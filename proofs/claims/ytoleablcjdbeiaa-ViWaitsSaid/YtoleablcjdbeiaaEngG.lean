/- The engine, part G: maps. No program in sight. -/
import Derived.Test.YtoleablcjdbeiaaEngF
namespace Go.Eng
open Go

/-- A type of keys. -/
class TyK (P : Program) (t : TypeId) (o : outParam (Option (List Nat))) : Prop where
  key : match o with
    | none => ∃ k, TyI P t k
    | some ks => TyEq P t ks

/-- The first yes. -/
def fr : List Bool → List MapEntry → Nat → Option (Nat × Value)
  | b :: bs, e :: es, i => if b then some (i, e.val) else fr bs es (i + 1)
  | _, _, _ => none

section
variable {P : Program} {w : World} {ρ : Nat → Loc} {H : GH}

theorem eqKD_int {a b : D} {r : Bool} (h : eqKD none a b = some r) : ∃ k x y, a = .int k x ∧ b = .int k y ∧ r = (x == y) := by
  unfold eqKD at h
  split at h
  · rename_i k x k' y _
    split at h
    · rename_i hk; subst hk; cases h; exact ⟨k, x, y, rfl, rfl, rfl⟩
    · cases h
  · rename_i ks _ _ h1; cases h1
  · cases h
theorem eqKD_agg {ks : List Nat} {a b : D} {r : Bool} (h : eqKD (some ks) a b = some r) : ∃ l m, a = .agg l ∧ b = .agg m ∧ eqDs ks l m = some r := by
  unfold eqKD at h
  split at h
  · rename_i h1; cases h1
  · rename_i ks' l m h1; cases h1; exact ⟨l, m, rfl, rfl, h⟩
  · cases h

theorem findNow_int {k : IntKind} {x : Int} {ik : IntKind} : ∀ (es : List MapEntry) (l : List (D × D)) (bs : List Bool) (i : Nat), es.length = l.length → (l.map fun e => eqKD none (.int k x) e.1) = bs.map some →
    (∀ (q : Nat) (p : D × D) (e : MapEntry), l[q]? = some p → es[q]? = some e → Den ρ H p.1 e.key) → Instr.findNow (.int ik) (.int k x) es i = some (fr bs es i)
  | [], [], [], _, _, _, _ => rfl
  | [], _ :: _, _, _, h, _, _ => by simp at h
  | _ :: _, [], _, _, h, _, _ => by simp at h
  | [], [], _ :: _, _, _, h, _ => by simp at h
  | _ :: _, _ :: _, [], _, _, h, _ => by simp at h
  | e :: es, p :: l, b :: bs, i, hl, hb, hd => by
    simp only [List.map_cons, List.cons.injEq] at hb
    obtain ⟨k', x', y, h1, h2, rfl⟩ := eqKD_int hb.1
    cases h1
    have he := hd 0 p e rfl rfl
    rw [h2] at he
    have ih := findNow_int (ik := ik) es l bs (i + 1) (by simpa using hl) hb.2 (fun q p e h1 h2 => hd (q + 1) p e (by simpa using h1) (by simpa using h2))
    simp only [Instr.findNow, he.int_inv, Instr.sameNow, if_true, fr]
    cases hxy : x == y
    · simpa using ih
    · simp

theorem findAsking_run {kt : TypeId} {kv : Value} : ∀ (es : List MapEntry) (bs : List Bool) (i : Nat), es.length = bs.length →
    (∀ (q : Nat) (b : Bool) (e : MapEntry), bs[q]? = some b → es[q]? = some e → (Op.equal kt kv e.key).run P w = .ok b w) → (Instr.findAsking kt kv es i).run P w = .ok (fr bs es i) w
  | [], [], _, _, _ => rfl
  | [], _ :: _, _, h, _ => by simp at h
  | _ :: _, [], _, h, _ => by simp at h
  | e :: es, b :: bs, i, hl, hq => by
    have h0 := hq 0 b e rfl rfl
    have ih := findAsking_run es bs (i + 1) (by simpa using hl) (fun q b e h1 h2 => hq (q + 1) b e (by simpa using h1) (by simpa using h2))
    simp only [Instr.findAsking, Sem.run_bind, h0, Result.andThen_ok, fr]
    cases b
    · simpa using ih
    · simp

theorem equal_agg {kt : TypeId} {ks : List Nat} (hT : TyEq P kt ks) {l m : List D} {u v : Value} (ha : Den ρ H (.agg l) u) (hb : Den ρ H (.agg m) v) {r : Bool} (h : eqDs ks l m = some r) : (Op.equal kt u v).run P w = .ok r w := by
  obtain ⟨us, rfl, h2, h3⟩ := ha.agg_inv
  obtain ⟨vs, rfl, h5, h6⟩ := hb.agg_inv
  have hr := eqFields_run (P := P) (w := w) h3 h2 h6 h5 9998 (P.fieldsOf kt).toList ks 0 r hT.flat (by simpa using h)
  have hr2 := run_equalIn_struct (P := P) w 9999 kt us vs hT.und hT.held
  rw [hr] at hr2
  simpa [Op.equal, Op.maxDepth] using hr2

theorem findKey_run {kt : TypeId} {o : Option (List Nat)} (hK : TyK P kt o) {kd : D} {kv : Value} (hk : Den ρ H kd kv) {es : Array MapEntry} {l : List (D × D)} {bs : List Bool} (hl : es.size = l.length)
    (hb : (l.map fun e => eqKD o kd e.1) = bs.map some) (hd : ∀ (q : Nat) (p : D × D) (e : MapEntry), l[q]? = some p → es[q]? = some e → Den ρ H p.1 e.key) (hcell : (∃ k x, kd = .int k x) ∨ ∃ m, kd = .agg m) :
    (Instr.findKey kt kv es.toList).run P w = .ok (fr bs es.toList 0) w := by
  have hlen : bs.length = l.length := by have := congrArg List.length hb; simpa using this.symm
  have hd' : ∀ (q : Nat) (p : D × D) (e : MapEntry), l[q]? = some p → es.toList[q]? = some e → Den ρ H p.1 e.key := fun q p e h1 h2 => hd q p e h1 (by simpa using h2)
  cases o with
  | none =>
    obtain ⟨k0, hI⟩ := hK.key
    by_cases hne : l = []
    · subst hne
      have h0 : es.toList = [] := by have : es.size = 0 := by simpa using hl
                                     simpa using this
      have : bs = [] := by simpa using hlen
      subst this
      simp [Instr.findKey, run_underlying hI.und, h0, Instr.findNow, fr]
    · obtain ⟨p, l', rfl⟩ : ∃ p l', l = p :: l' := by cases l with | nil => exact absurd rfl hne | cons p l' => exact ⟨p, l', rfl⟩
      cases hbs : bs with
      | nil => rw [hbs] at hlen; simp at hlen
      | cons b bs' =>
        have hb0 := hb
        rw [hbs] at hb0
        simp only [List.map_cons, List.cons.injEq] at hb0
        obtain ⟨k, x, y, h1, _, _⟩ := eqKD_int hb0.1
        subst h1
        have := findNow_int (ρ := ρ) (H := H) (k := k) (x := x) (ik := k0) es.toList (p :: l') bs 0 (by simpa using hl) hb hd'
        rw [hk.int_inv, ← hbs]
        simp [Instr.findKey, run_underlying hI.und, this]
  | some ks =>
    have hT : TyEq P kt ks := hK.key
    by_cases hne : es.toList = []
    · have : l = [] := by have : es.size = 0 := by simpa using hne
                          exact List.length_eq_zero_iff.1 (by omega)
      subst this
      have : bs = [] := by simpa using hlen
      subst this
      simp [Instr.findKey, run_underlying hT.und, hne, Instr.findNow, fr]
    · obtain ⟨e, es', he⟩ : ∃ e es', es.toList = e :: es' := by cases h : es.toList with | nil => exact absurd h hne | cons p l' => exact ⟨p, l', rfl⟩
      have hnow : Instr.findNow (.struct (P.fieldsOf kt)) kv es.toList 0 = none := by
        rw [he]; simp [Instr.findNow, Instr.sameNow]
      have hask := findAsking_run (P := P) (w := w) (kt := kt) (kv := kv) es.toList bs 0 (by simp; omega) (fun q b e h1 h2 => by
        have hql : q < l.length := by rw [← hlen]; exact (List.getElem?_eq_some_iff.1 h1).1
        have h3 := congrArg (·[q]?) hb
        simp only [List.getElem?_map, h1, Option.map_some, List.getElem?_eq_getElem hql] at h3
        obtain ⟨la, lb, rfl, h5, h6⟩ := eqKD_agg (Option.some.inj h3)
        have h7 := hd' q l[q] e (by simp [hql]) h2
        rw [h5] at h7
        exact equal_agg hT hk h7 h6)
      simp only [Instr.findKey, Sem.run_bind, run_underlying hT.und, Result.andThen_ok, hnow, hask]

theorem checkKey_gen (n : Nat) {kt : TypeId} {o : Option (List Nat)} (hK : TyK P kt o) {kd : D} {kv : Value} (hk : Den ρ H kd kv) (em : Bool) (hs : ∀ ks, o = some ks → ∃ l, kd = .agg l ∧ l.length = ks.length) :
    (Instr.checkKey em (n + 2) kt kv).run P w = .ok () w := by
  have plain : ∀ (n : Nat) (T : TypeId) (q : Nat) (v : Value), tyKind P T = some q → (Instr.checkKey em (n + 1) T v).run P w = .ok () w := by
    intro n T q v hq
    unfold tyKind at hq
    split at hq <;> simp at hq <;> rename_i hu <;> simp [Instr.checkKey, run_underlying hu]
  cases o with
  | none =>
    obtain ⟨k0, hI⟩ := hK.key
    exact plain (n + 1) kt 0 kv (by simp [tyKind, hI.und])
  | some ks =>
    have hT : TyEq P kt ks := hK.key
    obtain ⟨l, rfl, hl⟩ := hs ks rfl
    obtain ⟨us, rfl, h2, _⟩ := hk.agg_inv
    have loop : ∀ (fs : List Field) (ks : List Nat) (k : Nat), plainFs P fs ks k = true → k + fs.length ≤ us.size →
        (forIn fs PUnit.unit (fun f _ => (do
          if f.name ≠ "_" then Instr.checkKey em (n + 1) f.type (← part f.type us f.offset)
          pure (ForInStep.yield PUnit.unit) : Sem (ForInStep PUnit)))).run P w = .ok () w := by
      intro fs
      induction fs with
      | nil => intro ks k _ _; simp
      | cons f fs ih =>
        intro ks k h hs
        cases ks with
        | nil => simp [plainFs] at h
        | cons q ks =>
          simp only [plainFs, Bool.and_eq_true, Nat.beq_eq] at h
          obtain ⟨⟨⟨ho, hn⟩, hk⟩, hr⟩ := h
          have hname : f.name ≠ "_" := by simpa using hn
          cases hkd : tyKind P f.type with
          | none => simp [hkd] at hk
          | some r =>
            simp only [List.length_cons] at hs
            have hlt : k < us.size := by omega
            have p1 := part_plain (P := P) (w := w) hkd (show us[f.offset]? = some us[k] by rw [ho]; simp [hlt])
            have ih' := ih ks (k + 1) hr (by omega)
            simp only [List.forIn_cons, Sem.run_bind, if_pos hname, p1, Result.andThen_ok, plain n f.type r us[k] hkd, Sem.run_pure]
            simpa using ih'
    have hfl : ∀ (fs : List Field) (ks : List Nat) (k : Nat), plainFs P fs ks k = true → fs.length = ks.length := by
      intro fs
      induction fs with
      | nil => intro ks k h; cases ks with
        | nil => rfl
        | cons _ _ => simp [plainFs] at h
      | cons f fs ih => intro ks k h; cases ks with
        | nil => simp [plainFs] at h
        | cons q ks => simp only [plainFs, Bool.and_eq_true] at h; simp [ih ks _ h.2]
    have := loop (P.fieldsOf kt).toList ks 0 hT.flat (by rw [hfl _ _ _ hT.flat, h2]; omega)
    unfold Instr.checkKey
    simp only [Sem.run_bind, run_underlying hT.und, Result.andThen_ok]
    simp at this ⊢
    rw [this]
    rfl

theorem checkKey_run {kt : TypeId} {o : Option (List Nat)} (hK : TyK P kt o) {kd : D} {kv : Value} (hk : Den ρ H kd kv) (em : Bool) (hs : ∀ ks, o = some ks → ∃ l, kd = .agg l ∧ l.length = ks.length) :
    (Instr.checkKey em 10000 kt kv).run P w = .ok () w := checkKey_gen 9998 hK hk em hs

section ops
variable {t : Nat} {ty : TypeId} {pos : String} {af : Array Edge} {g : Option (Nat × Bool)} {st : St} {d : D}

theorem lok_makeMap (j : Nat) {T : TypeId} (hd : t < st.n) : LOk P ⟨some t, .makeMap T none, ty, pos, af, g⟩ st ⟨[], [j], .omap j, [(j, some (.map []))]⟩ := by
  intro B st2 ag
  have hfr := ag.fresh j (by simp)
  refine opOk_value (fun s hs => by cases hs; rw [ag.n]; exact hd) ag.fresh fun ρ H a w hR => ?_
  refine ⟨.map (some w.heap.size), w.alloc (.map #[] 0), setLoc ρ j ⟨w.heap.size, 0, 0, true⟩, H, .inl ?_, ?_, GH.le_refl _, fun k hk => setLoc_ne (by simpa using hk), ?_⟩
  · simp [execOp, Instr.makeMap]
  · exact (by simpa [setLoc_eq] using Den.omap (ρ := setLoc ρ j ⟨w.heap.size, 0, 0, true⟩) (H := H) j (by simp [setLoc_eq]))
  · refine hR.wr.alloc_own (b := .map []) (fun k b' hk => hfr.bl k b' hk) ⟨by simp [setLoc_eq], #[], 0, [], ?_, .refl _, rfl, by simp⟩ upd_blk
    rw [setLoc_eq]; exact alloc_new

/-- A new key. -/
def newKey (o : Option (List Nat)) (kd : D) (l : List (D × D)) : Bool := l.all fun e => match eqKD o kd e.1 with | some false => true | _ => false
def keyFits (o : Option (List Nat)) (kd : D) : Bool := match o, kd with | none, .int _ _ => true | some ks, .agg l => Nat.beq l.length ks.length | _, _ => false

theorem fr_none : ∀ (bs : List Bool) (es : List MapEntry) (i : Nat), (∀ b ∈ bs, b = false) → fr bs es i = none
  | [], _, _, _ => by simp [fr]
  | b :: bs, [], _, _ => by simp [fr]
  | b :: bs, e :: es, i, h => by
    have : b = false := h b (.head _)
    subst this
    simp only [fr, Bool.false_eq_true, if_false]
    exact fr_none bs es (i + 1) fun b hb => h b (.tail _ hb)

theorem lok_insert {T kt et : TypeId} {o : Option (List Nat)} {m k v : Operand} {j : Nat} {l : List (D × D)} {kd vd : D} [hT : TyM P T kt et] [hK : TyK P kt o] (hm : st.val m = some (.omap j)) (hj : st.blk j = some (.map l)) (hk : st.val k = some kd)
    (hv : st.val v = some vd) (hc : (newKey o kd l && keyFits o kd) = true) : LOk P ⟨none, .insert T m k v, ty, pos, af, g⟩ st ⟨[], [], .any, [(j, some (.plus o kd vd))]⟩ := by
  intro B st2 ag
  simp only [Bool.and_eq_true] at hc
  refine opOk_value (fun s hs => by cases hs) (by simp) fun ρ H a w hR => ?_
  obtain ⟨hh, h1⟩ := (hR.val ((ag.val m (by simp [Op.operands])).trans hm)).omap_inv
  obtain ⟨l2, hj2, hl2⟩ := ag.plus j o kd vd rfl l hj
  obtain ⟨_, es, clock, l', hb, hperm, hsz, he⟩ := hR.wr.own j _ hj2
  have hkv := hR.val ((ag.val k (by simp [Op.operands])).trans hk)
  have hvv := hR.val ((ag.val v (by simp [Op.operands])).trans hv)
  have hbs : (l'.map fun e => eqKD o kd e.1) = (l'.map fun _ => false).map some := by
    rw [List.map_map]
    refine List.map_congr_left fun e hmem => ?_
    rcases hl2 e (hperm.mem_iff.1 hmem) with hmem | hq
    · have := (List.all_eq_true.1 hc.1) e hmem
      cases hq : eqKD o kd e.1 with
      | none => simp [hq] at this
      | some b => cases b <;> simp [hq] at this ⊢
    · simp [hq]
  have hfits : (∃ k x, kd = .int k x) ∨ ∃ m, kd = .agg m := by
    have := hc.2
    unfold keyFits at this
    split at this
    · exact .inl ⟨_, _, rfl⟩
    · exact .inr ⟨_, rfl⟩
    · cases this
  have hfind := findKey_run (P := P) (w := w) hK hkv hsz hbs (fun q p e hp hq => (he q p.1 p.2 e hp hq).1) hfits
  rw [fr_none _ _ _ (by simp)] at hfind
  have hchk := checkKey_run (P := P) (w := w) hK hkv false (fun ks ho => by
    subst ho
    have := hc.2
    unfold keyFits at this
    split at this
    · rename_i h1; cases h1
    · rename_i h1; cases h1; exact ⟨_, rfl, by simpa using this⟩
    · cases this)
  have hlt : (ρ j).blk < w.heap.size := (hR.wr.own j _ hj2).lt hh
  have hget : (getObj (ρ j).blk).run P w = .ok (.map es clock) w := MapKept.run_getObj_map hb
  refine ⟨undef, { w with heap := w.heap.setIfInBounds (ρ j).blk (.map (es.push { key := a.eval k, val := a.eval v, born := clock }) (clock + 1)) }, ρ, H, .inr ⟨?_, rfl⟩, .pure (.any _), GH.le_refl _, fun _ _ => rfl, ?_⟩
  · have hset := MapKept.run_setObj_map (P := P) (w := w) (.map (es.push { key := a.eval k, val := a.eval v, born := clock }) (clock + 1)) hb
    simp only [execOp, Instr.mapUpdate, Sem.run_bind, run_underlying hT.und, Result.andThen_ok, h1, hget, hchk, hfind, hset, Sem.run_pure]
  · refine hR.wr.write hj2 hh (by simp) (fun q hq => by simp [Ne.symm hq]) rfl rfl rfl (b' := .map (l2 ++ [(kd, vd)])) ⟨hh, _, _, l' ++ [(kd, vd)], by simp [hlt]; exact ⟨rfl, rfl⟩, hperm.append_right _, by simp [hsz], fun i kd' vd' e hi he' => ?_⟩ fun q => ?_
    rotate_left
    · rw [St.app_blk, blkOn_cons]
      by_cases hjq : j = q
      · subst hjq; rw [if_pos rfl, if_pos rfl]; show addP (st2.blk j) kd vd = _; rw [hj2]; rfl
      · rw [if_neg hjq, if_neg hjq]; rfl
    by_cases hil : i < l'.length
    · rw [List.getElem?_append_left hil] at hi
      rw [Array.getElem?_push, if_neg (by omega)] at he'
      exact he i kd' vd' e hi he'
    · rw [List.getElem?_append_right (by omega)] at hi
      have hi0 : i - l'.length = 0 := by
        rcases Nat.eq_zero_or_pos (i - l'.length) with h | h
        · exact h
        · rw [List.getElem?_eq_none (by simp; omega)] at hi; cases hi
      rw [hi0] at hi
      simp at hi
      obtain ⟨rfl, rfl⟩ := hi
      rw [Array.getElem?_push, if_pos (by omega)] at he'
      cases he'
      exact ⟨hkv, hvv⟩

theorem pointwise_bs {κ β : Type} [DecidableEq κ] {o : Option (List Nat)} {ek : κ → D} {ev : β → D} {L : List (κ × β)} {x : κ} (h : ∀ p ∈ L, eqKD o (ek x) (ek p.1) = some (decide (x = p.1))) :
    ((L.map fun p => (ek p.1, ev p.2)).map fun e => eqKD o (ek x) e.1) = (L.map fun p => decide (x = p.1)).map some := by
  rw [List.map_map, List.map_map]
  exact List.map_congr_left fun p hp => h p hp

theorem fr_look {κ β : Type} [DecidableEq κ] {ek : κ → D} {ev : β → D} {x : κ} : ∀ (L : List (κ × β)) (es : List MapEntry) (i : Nat), es.length = L.length →
    (∀ (q : Nat) (p : κ × β) (e : MapEntry), L[q]? = some p → es[q]? = some e → Den ρ H (ev p.2) e.val) →
    match L.lookup x with
    | some y => ∃ q v, fr (L.map fun p => decide (x = p.1)) es i = some (q, v) ∧ Den ρ H (ev y) v
    | none => fr (L.map fun p => decide (x = p.1)) es i = none
  | [], es, i, _, _ => by simp [fr]
  | p :: L, [], _, h, _ => by simp at h
  | (k, y) :: L, e :: es, i, h, hd => by
    have h0 := hd 0 (k, y) e rfl rfl
    by_cases hx : x = k
    · subst hx
      simp only [List.lookup, beq_self_eq_true, List.map_cons, decide_true, fr, if_true]
      exact ⟨i, e.val, rfl, h0⟩
    · have hb : (x == k) = false := by simpa using hx
      simp only [List.lookup, hb, List.map_cons, hx, decide_false, fr, Bool.false_eq_true, if_false]
      exact fr_look (ek := ek) L es (i + 1) (by simpa using h) fun q p e h1 h2 => hd (q + 1) p e (by simpa using h1) (by simpa using h2)

theorem perm_map_inv {α β : Type} {f : α → β} {l m : List β} (h : l.Perm m) : ∀ L : List α, m = L.map f → ∃ L' : List α, L'.Perm L ∧ l = L'.map f := by
  induction h with
  | nil => intro L hL; exact ⟨L, .refl _, hL⟩
  | cons x _ ih =>
    intro L hL
    cases L with
    | nil => cases hL
    | cons y L =>
      simp only [List.map_cons, List.cons.injEq] at hL
      obtain ⟨L', h1, h2⟩ := ih L hL.2
      exact ⟨y :: L', h1.cons y, by rw [List.map_cons, h2, hL.1]⟩
  | swap x y r =>
    intro L hL
    match L, hL with
    | a :: b :: L, hL =>
      simp only [List.map_cons, List.cons.injEq] at hL
      exact ⟨b :: a :: L, .swap a b L, by simp [hL]⟩
  | trans _ _ ih1 ih2 =>
    intro L hL
    obtain ⟨L1, h1, h2⟩ := ih2 L hL
    obtain ⟨L2, h3, h4⟩ := ih1 L1 h2
    exact ⟨L2, h3.trans h1, h4⟩
theorem lookup_perm {κ β : Type} [DecidableEq κ] {x : κ} {L L' : List (κ × β)} (h : L'.Perm L) : (L.map Prod.fst).Nodup → L'.lookup x = L.lookup x := by
  induction h with
  | nil => intro _; rfl
  | cons p _ ih =>
    intro hn
    obtain ⟨k, y⟩ := p
    simp only [List.map_cons, List.nodup_cons] at hn
    simp only [List.lookup, ih hn.2]
  | swap p q r =>
    intro hn
    obtain ⟨k, y⟩ := p
    obtain ⟨k', y'⟩ := q
    simp only [List.map_cons, List.nodup_cons, List.mem_cons, not_or] at hn
    by_cases h1 : x = k
    · subst h1
      have : (x == k') = false := by simpa using hn.1.1
      simp [List.lookup, this]
    · have : (x == k) = false := by simpa using h1
      simp [List.lookup, this]
  | trans _ h2 ih1 ih2 =>
    intro hn
    rw [ih1 ((h2.map Prod.fst).nodup_iff.2 hn), ih2 hn]

def D.isAgg : D → Bool
  | .agg _ => true
  | _ => false
theorem zero_den {T : TypeId} {zs : List D} {agg : Bool} {n : Nat} (hZ : TyZ P T zs) (hF : TyF P T agg n) {d : D} (hd : d.flat = zs) (ha : d.isAgg = agg) {i : TypeInfo} {v : Value} (hi : P.info? T = some i) (hv : i.zero = some v) : Den ρ H d v := by
  obtain ⟨v', hv', hv2⟩ := map_some hZ.zero
  have : v' = v := by rw [hi] at hv'; simp [hv] at hv'; exact hv'.symm
  subst this
  have hform := hZ.form
  rw [hF.und, hv'] at hform
  simp only [Option.map_some, Option.some.injEq] at hform
  have hp : ∀ (k : Nat) (d' : D) (u : Value), zs[k]? = some d' → v'.cells[k]? = some u → Den ρ H d' u := fun k d' u hk hu => by
    have h1 := congrArg (·[k]?) hv2
    have h2 : v'.cells.toList[k]? = some u := by simpa using hu
    simp only [List.getElem?_map, h2, hk, Option.map_some] at h1
    exact .pure (D.ofConst_den (Option.some.inj h1))
  cases agg with
  | true =>
    cases d <;> simp [D.isAgg] at ha
    rename_i l
    simp only [D.flat] at hd
    subst hd
    cases v' <;> simp at hform
    rename_i cs
    exact .agg l cs (by have := congrArg List.length hv2; simpa [Value.cells] using this) hp
  | false =>
    have hfl : d.flat = [d] := by cases d <;> simp [D.isAgg] at ha <;> rfl
    have hc : v'.cells = #[v'] := by cases v' <;> simp at hform <;> rfl
    exact hp 0 d v' (by rw [← hd, hfl]; rfl) (by rw [hc]; rfl)

/-- A look-up, told by what keys and elements stand for. -/
theorem look_run {κ β : Type} [DecidableEq κ] {T kt et : TypeId} {o : Option (List Nat)} {zs : List D} {agg : Bool} {n : Nat} (hT : TyM P T kt et) (hK : TyK P kt o) (hZ : TyZ P et zs) (hF : TyF P et agg n) {ek : κ → D} {ev : β → D} {L : List (κ × β)} {x : κ} {z : β} {kv : Value} {b : Nat} {es : Array MapEntry} {clock : Nat}
    {w : World} (hb : w.heap[b]? = some (.map es clock)) (hsz : es.size = L.length) (he : ∀ (i : Nat) (p : κ × β) (e : MapEntry), L[i]? = some p → es[i]? = some e → Den ρ H (ek p.1) e.key ∧ Den ρ H (ev p.2) e.val)
    (hkv : Den ρ H (ek x) kv) (heq : ∀ p ∈ L, eqKD o (ek x) (ek p.1) = some (decide (x = p.1))) (hfit : keyFits o (ek x) = true) (hz : (ev z).flat = zs) (hz2 : (ev z).isAgg = agg) (ok : Bool) :
    ∃ v, (Instr.lookup T (.map (some b)) kv ok).run P w = .ok (if ok then .tuple #[v, .bool (L.lookup x).isSome] else v) w ∧ Den ρ H (ev ((L.lookup x).getD z)) v := by
  have hfits : (∃ k y, ek x = .int k y) ∨ ∃ m, ek x = .agg m := by
    have := hfit
    unfold keyFits at this
    split at this
    · rename_i h; exact .inl ⟨_, _, h⟩
    · rename_i h; exact .inr ⟨_, h⟩
    · cases this
  have hpt : ∀ (q : Nat) (p : D × D) (e : MapEntry), (L.map fun p => (ek p.1, ev p.2))[q]? = some p → es[q]? = some e → Den ρ H p.1 e.key := by
    intro q p e hp hq
    rw [List.getElem?_map] at hp
    obtain ⟨p', hp', rfl⟩ := map_some hp
    exact (he q p' e hp' hq).1
  have hfind := findKey_run (P := P) (w := w) hK hkv (es := es) (l := L.map fun p => (ek p.1, ev p.2)) (by simpa using hsz) (pointwise_bs heq) hpt hfits
  have hchk := checkKey_run (P := P) (w := w) hK hkv es.isEmpty (fun ks ho => by
    subst ho
    have := hfit
    unfold keyFits at this
    split at this
    · rename_i h1 _; cases h1
    · rename_i h1 h2; cases h1; exact ⟨_, h2, by simpa using this⟩
    · cases this)
  have hget : (getObj b).run P w = .ok (.map es clock) w := MapKept.run_getObj_map hb
  have hl := fr_look (ρ := ρ) (H := H) (ev := ev) (x := x) (ek := ek) L es.toList 0 (by simpa using hsz) (fun q p e h1 h2 => (he q p e h1 (by simpa using h2)).2)
  cases hlx : L.lookup x with
  | some y =>
    rw [hlx] at hl
    obtain ⟨q, v, h1, h2⟩ := hl
    refine ⟨v, ?_, h2⟩
    simp only [Instr.lookup, Sem.run_bind, run_underlying hT.und, Result.andThen_ok, hget, Sem.run_pure, hchk, hfind, h1]
    rfl
  | none =>
    rw [hlx] at hl
    obtain ⟨i, hi, hi2⟩ := map_some hZ.size
    obtain ⟨v, hv, hv2⟩ := map_some hZ.zero
    have hzv : i.zero = some v := by simpa [hi] using hv
    refine ⟨v, ?_, ?_⟩
    · simp only [Instr.lookup, Sem.run_bind, run_underlying hT.und, Result.andThen_ok, hget, Sem.run_pure, hchk, hfind, hl, zeroValue, typeInfo, run_program, hi, hzv]
      rfl
    · exact zero_den hZ hF hz hz2 hi hzv

theorem lok_lookup_own {κ β : Type} [DecidableEq κ] {T kt et : TypeId} {o : Option (List Nat)} {zs : List D} {agg : Bool} {n : Nat} [hT : TyM P T kt et] [hK : TyK P kt o] [hZ : TyZ P et zs] [hF : TyF P et agg n] {m k : Operand} {ok : Bool} {j : Nat} {l : List (D × D)} {kd : D}
    (ek : κ → D) (ev : β → D) (L : List (κ × β)) (x : κ) (z : β) (hm : st.val m = some (.omap j)) (hj : st.blk j = some (.map l)) (hk : st.val k = some kd) (hl : l = L.map fun p => (ek p.1, ev p.2)) (hx : kd = ek x)
    (heq : ∀ p ∈ L, eqKD o (ek x) (ek p.1) = some (decide (x = p.1))) (hnd : (L.map Prod.fst).Nodup) (hfit : keyFits o (ek x) = true) (hz : (ev z).flat = zs) (hz2 : (ev z).isAgg = agg)
    (hd : d = if ok then .tup [ev ((L.lookup x).getD z), .bool (L.lookup x).isSome] else ev ((L.lookup x).getD z)) (ht : t < st.n) : LOk P ⟨some t, .lookup T m k ok, ty, pos, af, g⟩ st ⟨[j], [], d, []⟩ :=
  lok_look ht fun _ st2 ρ H a w ag hR => by
    obtain ⟨hh, h1⟩ := (hR.val ((ag.val m (by simp [Op.operands])).trans hm)).omap_inv
    obtain ⟨_, es, clock, l', hb, hperm, hsz, he⟩ := hR.wr.own j _ ((ag.blk j (by simp)).trans hj)
    have hkv := hR.val ((ag.val k (by simp [Op.operands])).trans hk)
    subst hl hx
    obtain ⟨L', hLp, rfl⟩ := perm_map_inv hperm L rfl
    obtain ⟨v, h2, h3⟩ := look_run (P := P) (ρ := ρ) (H := H) (L := L') (x := x) (z := z) hT hK hZ hF hb (by simpa using hsz) (fun i p e hp hq => he i _ _ e (by rw [List.getElem?_map, hp]; rfl) hq) hkv (fun p hp => heq p (hLp.mem_iff.1 hp)) hfit hz hz2 ok
    rw [lookup_perm hLp hnd] at h2 h3
    refine ⟨if ok then .tuple #[v, .bool (L.lookup x).isSome] else v, by simp only [execOp, h1, Sem.run_bind, h2, Result.andThen_ok, Sem.run_pure], ?_⟩
    subst hd
    cases ok
    · exact h3
    · exact .tup _ _ rfl fun k d u hk hu => by
        match k, hk, hu with
        | 0, hk, hu => simp at hk hu; subst hk; subst hu; exact h3
        | 1, hk, hu => simp at hk hu; subst hk; subst hu; exact .pure (.bool _)
        | k + 2, hk, hu => simp at hk

theorem Den.pmap_inv {l : List (D × D)} {v : Value} (h : Den ρ H (.pmap l) v) : ∃ b es clock, ∃ l' : List (D × D), v = .map (some b) ∧ H b = some (.map es clock) ∧ l'.Perm l ∧ es.size = l'.length ∧
    ∀ (i : Nat) (kd vd : D) (e : MapEntry), l'[i]? = some (kd, vd) → es[i]? = some e → DenP H kd e.key ∧ DenP H vd e.val := by
  cases h with
  | pure h => cases h with | pmap _ l' b es clock hb hp hs hk he => exact ⟨b, es, clock, l', rfl, hb, hp, hs, fun i kd vd e h1 h2 => ⟨hk i kd vd e h1 h2, he i kd vd e h1 h2⟩⟩

theorem lok_lookup_pers {κ β : Type} [DecidableEq κ] {T kt et : TypeId} {o : Option (List Nat)} {zs : List D} {agg : Bool} {n : Nat} [hT : TyM P T kt et] [hK : TyK P kt o] [hZ : TyZ P et zs] [hF : TyF P et agg n] {m k : Operand} {ok : Bool} {l : List (D × D)} {kd : D}
    (ek : κ → D) (ev : β → D) (L : List (κ × β)) (x : κ) (z : β) (hm : st.val m = some (.pmap l)) (hk : st.val k = some kd) (hl : l = L.map fun p => (ek p.1, ev p.2)) (hx : kd = ek x)
    (heq : ∀ p ∈ L, eqKD o (ek x) (ek p.1) = some (decide (x = p.1))) (hnd : (L.map Prod.fst).Nodup) (hfit : keyFits o (ek x) = true) (hz : (ev z).flat = zs) (hz2 : (ev z).isAgg = agg)
    (hd : d = if ok then .tup [ev ((L.lookup x).getD z), .bool (L.lookup x).isSome] else ev ((L.lookup x).getD z)) (ht : t < st.n) : LOk P ⟨some t, .lookup T m k ok, ty, pos, af, g⟩ st ⟨[], [], d, []⟩ :=
  lok_pure ht fun _ st2 ρ H a w ag hR => by
    obtain ⟨b, es, clock, l', h1, hH, hperm, hsz, he⟩ := (hR.val ((ag.val m (by simp [Op.operands])).trans hm)).pmap_inv
    have hb := hR.wr.pers _ _ hH
    have hkv := hR.val ((ag.val k (by simp [Op.operands])).trans hk)
    subst hl hx
    obtain ⟨L', hLp, rfl⟩ := perm_map_inv hperm L rfl
    obtain ⟨v, h2, h3⟩ := look_run (P := P) (ρ := ρ) (H := H) (L := L') (x := x) (z := z) hT hK hZ hF hb (by simpa using hsz) (fun i p e hp hq => by
      have := he i _ _ e (by rw [List.getElem?_map, hp]; rfl) hq
      exact ⟨.pure this.1, .pure this.2⟩) hkv (fun p hp => heq p (hLp.mem_iff.1 hp)) hfit hz hz2 ok
    rw [lookup_perm hLp hnd] at h2 h3
    refine ⟨if ok then .tuple #[v, .bool (L.lookup x).isSome] else v, by simp only [execOp, h1, Sem.run_bind, h2, Result.andThen_ok, Sem.run_pure], ?_⟩
    subst hd
    cases ok
    · exact h3
    · exact .tup _ _ rfl fun k d u hk hu => by
        match k, hk, hu with
        | 0, hk, hu => simp at hk hu; subst hk; subst hu; exact h3
        | 1, hk, hu => simp at hk hu; subst hk; subst hu; exact .pure (.bool _)
        | k + 2, hk, hu => simp at hk

/-- An own map that is left alone from now on. -/
theorem Fz.omap {j : Nat} {l : List (D × D)} (hj : st.blk j = some (.map l)) (hp : (l.all fun e => e.1.pureB && e.2.pureB) = true) : Fz st (.omap j) (.pmap l) := fun B ρ H a w v H' hR hpass hd hle hf => by
  obtain ⟨hh, rfl⟩ := hd.omap_inv
  obtain ⟨_, es, clock, l', hb, hperm, hsz, he⟩ := hR.wr.own j _ hj
  have hnew : B.W.heap.size ≤ (ρ j).blk := by
    rcases hR.wr.new j _ hj hh with h | h
    · exact h
    · rw [hpass] at h; cases h
  have hH := hf (ρ j).blk _ hnew (hR.wr.np j _ hj hh) hb
  have key : ∀ (i : Nat) (kd vd : D) (e : MapEntry), l'[i]? = some (kd, vd) → es[i]? = some e → DenP H' kd e.key ∧ DenP H' vd e.val := fun i kd vd e h1 h2 => by
    obtain ⟨h3, h4⟩ := he i kd vd e h1 h2
    have := (List.all_eq_true.1 hp) _ (hperm.mem_iff.1 (List.mem_of_getElem? h1))
    simp only [Bool.and_eq_true] at this
    exact ⟨(h3.toP this.1).mono hle, (h4.toP this.2).mono hle⟩
  exact .pmap l l' _ es clock hH hperm hsz (fun i kd vd e h1 h2 => (key i kd vd e h1 h2).1) (fun i kd vd e h1 h2 => (key i kd vd e h1 h2).2)
end ops

/-- A look-up in a list. -/
def lookL {κ β : Type} [DecidableEq κ] (L : List (κ × β)) (x : κ) : Option β := @List.lookup κ β instBEqOfDecidableEq x L

section steps
variable {ops : Array Oper} {r : List Oper} {acc : List Eff} {n : Nat} {tm : List (Nat × D)} {ow : List (Nat × Option Blk)} {F : List Eff → St → Prop}
  {t : Nat} {ty : TypeId} {pos : String} {af : Array Edge} {g : Option (Nat × Bool)} {d : D}
theorem mkm (j : Nat) {T : TypeId} (hf : St.freshB ⟨n, tm, ow⟩ j = true) (hd : Nat.blt t n = true) (hg : Gd ops ⟨n, tm, ow⟩ g)
    (h : WpD P ops r (⟨[], [j], .omap j, [(j, some (.map []))]⟩ :: acc) ⟨n, (t, .omap j) :: tm, (j, some (.map [])) :: ow⟩ F) : WpD P ops (⟨some t, .makeMap T none, ty, pos, af, g⟩ :: r) acc ⟨n, tm, ow⟩ F :=
  step (lok_makeMap j (blt_lt hd)) hg (by simpa using hf) h
theorem ins {T kt et : TypeId} {o : Option (List Nat)} {m k v : Operand} {j : Nat} {l : List (D × D)} {kd vd : D} [hT : TyM P T kt et] [hK : TyK P kt o] (hm : St.val ⟨n, tm, ow⟩ m = some (.omap j)) (hj : St.blk ⟨n, tm, ow⟩ j = some (.map l))
    (hk : St.val ⟨n, tm, ow⟩ k = some kd) (hv : St.val ⟨n, tm, ow⟩ v = some vd) (hc : (newKey o kd l && keyFits o kd) = true) (hg : Gd ops ⟨n, tm, ow⟩ g)
    (h : WpD P ops r (⟨[], [], .any, [(j, some (.plus o kd vd))]⟩ :: acc) ⟨n, tm, (j, some (.plus o kd vd)) :: ow⟩ F) : WpD P ops (⟨none, .insert T m k v, ty, pos, af, g⟩ :: r) acc ⟨n, tm, ow⟩ F :=
  step (lok_insert hm hj hk hv hc) hg rfl h
theorem lko {κ β : Type} [DecidableEq κ] {T kt et : TypeId} {o : Option (List Nat)} {zs : List D} {agg : Bool} {n' : Nat} [hT : TyM P T kt et] [hK : TyK P kt o] [hZ : TyZ P et zs] [hF : TyF P et agg n'] {m k : Operand} {ok : Bool} {j : Nat} {l : List (D × D)} {kd : D}
    (ek : κ → D) (ev : β → D) (L : List (κ × β)) (x : κ) (z : β) (hm : St.val ⟨n, tm, ow⟩ m = some (.omap j)) (hj : St.blk ⟨n, tm, ow⟩ j = some (.map l)) (hk : St.val ⟨n, tm, ow⟩ k = some kd) (hl : l = L.map fun p => (ek p.1, ev p.2)) (hx : kd = ek x)
    (heq : ∀ p ∈ L, eqKD o (ek x) (ek p.1) = some (decide (x = p.1))) (hnd : (L.map Prod.fst).Nodup) (hfit : keyFits o (ek x) = true) (hz : (ev z).flat = zs) (hz2 : (ev z).isAgg = agg)
    (hd : d = if ok then .tup [ev ((lookL L x).getD z), .bool (lookL L x).isSome] else ev ((lookL L x).getD z)) (ht : Nat.blt t n = true) (hg : Gd ops ⟨n, tm, ow⟩ g)
    (h : WpD P ops r (⟨[j], [], d, []⟩ :: acc) ⟨n, (t, d) :: tm, ow⟩ F) : WpD P ops (⟨some t, .lookup T m k ok, ty, pos, af, g⟩ :: r) acc ⟨n, tm, ow⟩ F :=
  step (lok_lookup_own ek ev L x z hm hj hk hl hx heq hnd hfit hz hz2 hd (blt_lt ht)) hg rfl h
theorem lkp {κ β : Type} [DecidableEq κ] {T kt et : TypeId} {o : Option (List Nat)} {zs : List D} {agg : Bool} {n' : Nat} [hT : TyM P T kt et] [hK : TyK P kt o] [hZ : TyZ P et zs] [hF : TyF P et agg n'] {m k : Operand} {ok : Bool} {l : List (D × D)} {kd : D}
    (ek : κ → D) (ev : β → D) (L : List (κ × β)) (x : κ) (z : β) (hm : St.val ⟨n, tm, ow⟩ m = some (.pmap l)) (hk : St.val ⟨n, tm, ow⟩ k = some kd) (hl : l = L.map fun p => (ek p.1, ev p.2)) (hx : kd = ek x)
    (heq : ∀ p ∈ L, eqKD o (ek x) (ek p.1) = some (decide (x = p.1))) (hnd : (L.map Prod.fst).Nodup) (hfit : keyFits o (ek x) = true) (hz : (ev z).flat = zs) (hz2 : (ev z).isAgg = agg)
    (hd : d = if ok then .tup [ev ((lookL L x).getD z), .bool (lookL L x).isSome] else ev ((lookL L x).getD z)) (ht : Nat.blt t n = true) (hg : Gd ops ⟨n, tm, ow⟩ g)
    (h : WpD P ops r (⟨[], [], d, []⟩ :: acc) ⟨n, (t, d) :: tm, ow⟩ F) : WpD P ops (⟨some t, .lookup T m k ok, ty, pos, af, g⟩ :: r) acc ⟨n, tm, ow⟩ F :=
  step (lok_lookup_pers ek ev L x z hm hk hl hx heq hnd hfit hz hz2 hd (blt_lt ht)) hg rfl h
end steps
end
end Go.Eng
