/- Walks of layers 17 and 18: what a key asks for. -/
import Derived.Test.YtoleablcjdbeiaaV2
namespace Go.Proofs.Ytoleablcjdbeiaa
open Go.Eng
def insS (k r : Int) : (Int × Int) × List Act4 :=
  if k = 10 then ((1, 0), [(1, 1, 0, 0)]) else if 3 ≤ k ∧ k ≤ 9 then ((0, 0), [emMap k r]) else if k ≠ 1 then ((0, 0), [])
  else if r = 8 ∨ r = 127 ∨ r = 10 ∨ r = 13 ∨ r = 12 ∨ r = 21 ∨ r = 22 ∨ r = 23 then ((0, 0), [emMap k r])
  else if (emMap k r).1 ≠ 2 then ((0, 0), []) else ((0, 0), [emMap k r])
def obS (k r : Int) (dg : Bool) : (Int × Int) × List Act4 :=
  if k = 10 ∨ k = 11 then ((1, 0), [(16, 0, 0, 0)]) else if 3 ≤ k ∧ k ≤ 9 then ((1, 0), [emMap k r]) else if k ≠ 1 then ((1, 0), [])
  else if leadsS r dg > 0 then ((1, 0), [(1, leadsS r dg, 0, 0)]) else if 48 ≤ r ∧ r ≤ 57 then ((1, 0), [(14, 0, 0, r)]) else signS r
def waS (w k r : Int) (dg : Bool) : (Int × Int) × List Act4 :=
  let own : Int := if w = 1 then 100 else if w = 2 then 99 else 121
  if k = 1 ∧ r ≠ own ∧ leadsS r dg = 0 ∧ 48 ≤ r ∧ r ≤ 57 then ((1, w), [(14, 0, 0, r)])
  else let m := if k ≠ 1 then 0 else if r = own then 10 else leadsS r dg
    if m = 0 then ((1, 0), [(16, 0, 0, 0)]) else if w = 3 then ((1, 0), [(1, m, 3, 0)]) else if w = 2 then ((0, 0), [(1, m, 2, 0)]) else ((1, 0), [(1, m, 2, 0)])
theorem actClose {a : Act4} {x y z u : Int} {d : D} (hd : D.agg [.int .i64 x, .int .i64 y, .int .i64 z, .int .i32 u] = d) (h : a = (x, y, z, u)) : d = actD a := by subst hd h; rfl
theorem actClose' {a : Act4} {x y z u : Int} {d : D} (hd : D.agg [.int .i64 x, .int .i64 y, .int .i64 z, .int .i32 u] = d) (h : a = (x, y, z, u)) : actD a = d := by subst hd h; rfl
theorem resC0 {x : (Int × Int) × List Act4} {m o : Int} {d1 d2 : D} (h1 : D.agg [.int .i64 m, .int .i64 o] = d1) (h2 : D.rows true [] = d2) (h : x = ((m, o), [])) : resD x = retD [d1, d2] := by subst h1 h2 h; rfl
theorem resC1 {x : (Int × Int) × List Act4} {m o p q s t : Int} {d1 d2 : D} (h1 : D.agg [.int .i64 m, .int .i64 o] = d1) (h2 : D.rows true [[.int .i64 p, .int .i64 q, .int .i64 s, .int .i32 t]] = d2) (h : x = ((m, o), [(p, q, s, t)])) :
    resD x = retD [d1, d2] := by subst h1 h2 h; rfl
theorem resCx {x y : (Int × Int) × List Act4} {d1 d2 : D} (h1 : viD y.1 = d1) (h2 : D.rows true (y.2.map actR) = d2) (h : x = y) : resD x = retD [d1, d2] := by subst h1 h2 h; rfl
def readsD (m o : Int) : D := if m = 0 then .iface 44 (.agg []) else if o = 0 then .iface 45 (.agg []) else .iface 46 (.int .i64 o)

set_option maxRecDepth 20000 in
theorem f_emMap {k r : Int} : FnP PP 31 [.agg [.int .i64 k, .int .i32 r]] (actD (emMap k r)) := by
  refine FnP.of_body Try.func31 rfl (by kernel_rfl) rfl ?_
  refine Wp.seq ?_
  refine reg ?_
  refine bx 1 rfl rfl rfl rfl .none ?_
  refine al 2 rfl rfl .none ?_
  refine done ?_
  refine Wp.cutK (α := Int) [1, 2] [2] (fun x tl => tl) (fun x tl => (1, some (.cells 29 [.int .i64 k, .int .i32 x])) :: tl) (fun x => x = if k ≠ 1 ∧ k ≠ 2 then 0 else r) rfl rfl ?_ ?_
  · skip
    refine Wp.seq ?_
    refine reg ?_
    first | refine fa rfl rfl rfl .none ?_ | refine fap rfl rfl rfl rfl .none ?_
    first | refine ld rfl rfl rfl rfl rfl .none ?_ | refine ldp rfl rfl rfl .none ?_
    refine cmp rfl rfl rfl rfl .none ?_
    refine mv rfl rfl .none ?_
    refine bcase 8 rfl (fun h8 => ?_) (fun h8 => ?_)
    · skip
      first | refine fa rfl rfl rfl (.want rfl rfl h8) ?_ | refine fap rfl rfl rfl rfl (.want rfl rfl h8) ?_
      first | refine ld rfl rfl rfl rfl rfl (.want rfl rfl h8) ?_ | refine ldp rfl rfl rfl (.want rfl rfl h8) ?_
      refine cmp rfl rfl rfl rfl (.want rfl rfl h8) ?_
      refine pkt rfl h8 rfl rfl .none ?_
      refine done ?_
      refine Wp.cond rfl (fun c1 => ?_) (fun c1 => ?_)
      · skip
        refine reg ?_
        first | refine fa rfl rfl rfl .none ?_ | refine fap rfl rfl rfl rfl .none ?_
        refine sto rfl rfl rfl rfl rfl rfl .none ?_
        refine done ?_
        refine ⟨_, ?_, (by repeat (first | exact trivial | refine ⟨rfl, ?_⟩)), (by repeat (first | exact trivial | refine ⟨rfl, ?_⟩)), rfl⟩ <;> simp_all
      · skip
        refine Wp.skip ?_
        refine ⟨_, ?_, (by repeat (first | exact trivial | refine ⟨rfl, ?_⟩)), (by repeat (first | exact trivial | refine ⟨rfl, ?_⟩)), rfl⟩ <;> simp_all
    · skip
      refine sk rfl rfl h8 rfl ?_
      refine sk rfl rfl h8 rfl ?_
      refine sk rfl rfl h8 rfl ?_
      refine pkf rfl h8 rfl rfl .none ?_
      refine done ?_
      refine Wp.condF rfl rfl ?_
      refine Wp.skip ?_
      refine ⟨_, ?_, (by repeat (first | exact trivial | refine ⟨rfl, ?_⟩)), (by repeat (first | exact trivial | refine ⟨rfl, ?_⟩)), rfl⟩ <;> simp_all
  · intro x hx
    skip
    refine Wp.seq ?_
    refine regd mixed ?_
    refine cl rfl rfl f_bound rfl rfl .none ?_
    first | refine ld rfl rfl rfl rfl rfl .none ?_ | refine ldp rfl rfl rfl .none ?_
    refine lkp keyD actD boundL (k, x) (0, 0, 0, 0) rfl rfl rfl rfl (fun p _ => keyEq _ _) (by decide) rfl rfl rfl rfl rfl .none ?_
    refine mv rfl rfl .none ?_
    refine xt rfl rfl rfl .none ?_
    refine xt rfl rfl rfl .none ?_
    refine al 3 rfl rfl .none ?_
    refine sto rfl rfl rfl rfl rfl rfl .none ?_
    refine asg rfl rfl .none ?_
    refine done ⟨by kernel_rfl, by kernel_rfl, ?_⟩
    refine Wp.seq ?_
    refine Wp.block ?_
    refine Wp.seq ?_
    refine reg ?_
    refine mv rfl rfl .none ?_
    refine asg rfl rfl .none ?_
    refine done ?_
    refine Wp.cond rfl (fun c2 => ?_) (fun c2 => ?_)
    · skip
      refine Wp.seq ?_
      refine reg ?_
      first | refine ld rfl rfl rfl rfl rfl .none ?_ | refine ldp rfl rfl rfl .none ?_
      refine sto rfl rfl rfl rfl rfl rfl .none ?_
      refine done ?_
      refine Wp.ret ?_
      refine Ends.ret (.cons (.cell rfl rfl rfl (Nat.le_of_ble_eq_true rfl) (Fz.pure rfl)) <|  .nil) ?_
      refine actClose' rfl ?_; simp only [emMap, ← hx]; clear hx; generalize lookL boundL (k, x) = o at *; cases o <;> simp_all <;> omega
    · skip
      refine Wp.seq ?_
      refine reg ?_
      first | refine fa rfl rfl rfl .none ?_ | refine fap rfl rfl rfl rfl .none ?_
      first | refine ld rfl rfl rfl rfl rfl .none ?_ | refine ldp rfl rfl rfl .none ?_
      refine cmp rfl rfl rfl rfl .none ?_
      refine mv rfl rfl .none ?_
      refine bcase 27 rfl (fun h27 => ?_) (fun h27 => ?_)
      · skip
        first | refine fa rfl rfl rfl (.want rfl rfl h27) ?_ | refine fap rfl rfl rfl rfl (.want rfl rfl h27) ?_
        first | refine ld rfl rfl rfl rfl rfl (.want rfl rfl h27) ?_ | refine ldp rfl rfl rfl (.want rfl rfl h27) ?_
        refine cl rfl rfl f_glyphIs rfl rfl (.want rfl rfl h27) ?_
        refine pkt rfl h27 rfl rfl .none ?_
        refine mv rfl rfl .none ?_
        refine bcase 32 rfl (fun h32 => ?_) (fun h32 => ?_)
        · skip
          first | refine fa rfl rfl rfl (.want rfl rfl h32) ?_ | refine fap rfl rfl rfl rfl (.want rfl rfl h32) ?_
          first | refine ld rfl rfl rfl rfl rfl (.want rfl rfl h32) ?_ | refine ldp rfl rfl rfl (.want rfl rfl h32) ?_
          refine cmp rfl rfl rfl rfl (.want rfl rfl h32) ?_
          refine mv rfl rfl (.want rfl rfl h32) ?_
          refine bcase 36 rfl (fun h36 => ?_) (fun h36 => ?_)
          · skip
            refine sk rfl rfl h36 rfl ?_
            refine sk rfl rfl h36 rfl ?_
            refine sk rfl rfl h36 rfl ?_
            refine pkt rfl h36 rfl rfl (.want rfl rfl h32) ?_
            refine pkt rfl h32 rfl rfl .none ?_
            refine asg rfl rfl .none ?_
            refine done ?_
            refine Wp.condT rfl rfl ?_
            refine Wp.seq ?_
            refine reg ?_
            first | refine fa rfl rfl rfl .none ?_ | refine fap rfl rfl rfl rfl .none ?_
            first | refine ld rfl rfl rfl rfl rfl .none ?_ | refine ldp rfl rfl rfl .none ?_
            refine bd rfl rfl rfl .none ?_
            refine sto rfl rfl rfl rfl rfl rfl .none ?_
            refine done ?_
            refine Wp.ret ?_
            refine Ends.ret (.cons (.cell rfl rfl rfl (Nat.le_of_ble_eq_true rfl) (Fz.pure rfl)) <|  .nil) ?_
            refine actClose' rfl ?_; simp only [emMap, ← hx]; clear hx; generalize lookL boundL (k, x) = o at *; cases o <;> simp_all <;> omega
          · skip
            first | refine fa rfl rfl rfl (.want rfl rfl h36) ?_ | refine fap rfl rfl rfl rfl (.want rfl rfl h36) ?_
            first | refine ld rfl rfl rfl rfl rfl (.want rfl rfl h36) ?_ | refine ldp rfl rfl rfl (.want rfl rfl h36) ?_
            refine cmp rfl rfl rfl rfl (.want rfl rfl h36) ?_
            refine pkf rfl h36 rfl rfl (.want rfl rfl h32) ?_
            refine pkt rfl h32 rfl rfl .none ?_
            refine asg rfl rfl .none ?_
            refine done ?_
            refine Wp.cond rfl (fun c3 => ?_) (fun c3 => ?_)
            · skip
              refine Wp.seq ?_
              refine reg ?_
              first | refine fa rfl rfl rfl .none ?_ | refine fap rfl rfl rfl rfl .none ?_
              first | refine ld rfl rfl rfl rfl rfl .none ?_ | refine ldp rfl rfl rfl .none ?_
              refine bd rfl rfl rfl .none ?_
              refine sto rfl rfl rfl rfl rfl rfl .none ?_
              refine done ?_
              refine Wp.ret ?_
              refine Ends.ret (.cons (.cell rfl rfl rfl (Nat.le_of_ble_eq_true rfl) (Fz.pure rfl)) <|  .nil) ?_
              refine actClose' rfl ?_; simp only [emMap, ← hx]; clear hx; generalize lookL boundL (k, x) = o at *; cases o <;> simp_all <;> omega
            · skip
              refine Wp.seq ?_
              refine reg ?_
              first | refine fa rfl rfl rfl .none ?_ | refine fap rfl rfl rfl rfl .none ?_
              first | refine ld rfl rfl rfl rfl rfl .none ?_ | refine ldp rfl rfl rfl .none ?_
              refine cmp rfl rfl rfl rfl .none ?_
              refine mv rfl rfl .none ?_
              refine bcase 49 rfl (fun h49 => ?_) (fun h49 => ?_)
              · skip
                first | refine fa rfl rfl rfl (.want rfl rfl h49) ?_ | refine fap rfl rfl rfl rfl (.want rfl rfl h49) ?_
                first | refine ld rfl rfl rfl rfl rfl (.want rfl rfl h49) ?_ | refine ldp rfl rfl rfl (.want rfl rfl h49) ?_
                refine cmp rfl rfl rfl rfl (.want rfl rfl h49) ?_
                refine pkt rfl h49 rfl rfl .none ?_
                refine mv rfl rfl .none ?_
                refine bcase 54 rfl (fun h54 => ?_) (fun h54 => ?_)
                · skip
                  first | refine fa rfl rfl rfl (.want rfl rfl h54) ?_ | refine fap rfl rfl rfl rfl (.want rfl rfl h54) ?_
                  first | refine ld rfl rfl rfl rfl rfl (.want rfl rfl h54) ?_ | refine ldp rfl rfl rfl (.want rfl rfl h54) ?_
                  refine cmp rfl rfl rfl rfl (.want rfl rfl h54) ?_
                  refine pkt rfl h54 rfl rfl .none ?_
                  refine asg rfl rfl .none ?_
                  refine done ?_
                  refine Wp.cond rfl (fun c4 => ?_) (fun c4 => ?_)
                  · skip
                    refine Wp.seq ?_
                    refine reg ?_
                    first | refine fa rfl rfl rfl .none ?_ | refine fap rfl rfl rfl rfl .none ?_
                    first | refine ld rfl rfl rfl rfl rfl .none ?_ | refine ldp rfl rfl rfl .none ?_
                    refine bd rfl rfl rfl .none ?_
                    refine sto rfl rfl rfl rfl rfl rfl .none ?_
                    refine done ?_
                    refine Wp.ret ?_
                    refine Ends.ret (.cons (.cell rfl rfl rfl (Nat.le_of_ble_eq_true rfl) (Fz.pure rfl)) <|  .nil) ?_
                    refine actClose' rfl ?_; simp only [emMap, ← hx]; clear hx; generalize lookL boundL (k, x) = o at *; cases o <;> simp_all <;> omega
                  · skip
                    refine Wp.skip ?_
                    refine Wp.seq ?_
                    refine reg ?_
                    refine bd rfl rfl rfl .none ?_
                    refine sto rfl rfl rfl rfl rfl rfl .none ?_
                    refine done ?_
                    refine Wp.ret ?_
                    refine Ends.ret (.cons (.cell rfl rfl rfl (Nat.le_of_ble_eq_true rfl) (Fz.pure rfl)) <|  .nil) ?_
                    refine actClose' rfl ?_; simp only [emMap, ← hx]; clear hx; generalize lookL boundL (k, x) = o at *; cases o <;> simp_all <;> omega
                · skip
                  refine sk rfl rfl h54 rfl ?_
                  refine sk rfl rfl h54 rfl ?_
                  refine sk rfl rfl h54 rfl ?_
                  refine pkf rfl h54 rfl rfl .none ?_
                  refine asg rfl rfl .none ?_
                  refine done ?_
                  refine Wp.condF rfl rfl ?_
                  refine Wp.skip ?_
                  refine Wp.seq ?_
                  refine reg ?_
                  refine bd rfl rfl rfl .none ?_
                  refine sto rfl rfl rfl rfl rfl rfl .none ?_
                  refine done ?_
                  refine Wp.ret ?_
                  refine Ends.ret (.cons (.cell rfl rfl rfl (Nat.le_of_ble_eq_true rfl) (Fz.pure rfl)) <|  .nil) ?_
                  refine actClose' rfl ?_; simp only [emMap, ← hx]; clear hx; generalize lookL boundL (k, x) = o at *; cases o <;> simp_all <;> omega
              · skip
                refine sk rfl rfl h49 rfl ?_
                refine sk rfl rfl h49 rfl ?_
                refine sk rfl rfl h49 rfl ?_
                refine pkf rfl h49 rfl rfl .none ?_
                refine mv rfl rfl .none ?_
                refine sk rfl rfl rfl rfl ?_
                refine sk rfl rfl rfl rfl ?_
                refine sk rfl rfl rfl rfl ?_
                refine pkf rfl rfl rfl rfl .none ?_
                refine asg rfl rfl .none ?_
                refine done ?_
                refine Wp.condF rfl rfl ?_
                refine Wp.skip ?_
                refine Wp.seq ?_
                refine reg ?_
                refine bd rfl rfl rfl .none ?_
                refine sto rfl rfl rfl rfl rfl rfl .none ?_
                refine done ?_
                refine Wp.ret ?_
                refine Ends.ret (.cons (.cell rfl rfl rfl (Nat.le_of_ble_eq_true rfl) (Fz.pure rfl)) <|  .nil) ?_
                refine actClose' rfl ?_; simp only [emMap, ← hx]; clear hx; generalize lookL boundL (k, x) = o at *; cases o <;> simp_all <;> omega
        · skip
          refine sk rfl rfl h32 rfl ?_
          refine sk rfl rfl h32 rfl ?_
          refine sk rfl rfl h32 rfl ?_
          refine sk rfl rfl h32 rfl ?_
          refine sku rfl rfl rfl ?_
          refine sku rfl rfl rfl ?_
          refine sku rfl rfl rfl ?_
          refine sk rfl rfl h32 rfl ?_
          refine pkf rfl h32 rfl rfl .none ?_
          refine asg rfl rfl .none ?_
          refine done ?_
          refine Wp.condF rfl rfl ?_
          refine Wp.seq ?_
          refine reg ?_
          first | refine fa rfl rfl rfl .none ?_ | refine fap rfl rfl rfl rfl .none ?_
          first | refine ld rfl rfl rfl rfl rfl .none ?_ | refine ldp rfl rfl rfl .none ?_
          refine cmp rfl rfl rfl rfl .none ?_
          refine mv rfl rfl .none ?_
          refine bcase 49 rfl (fun h49 => ?_) (fun h49 => ?_)
          · skip
            first | refine fa rfl rfl rfl (.want rfl rfl h49) ?_ | refine fap rfl rfl rfl rfl (.want rfl rfl h49) ?_
            first | refine ld rfl rfl rfl rfl rfl (.want rfl rfl h49) ?_ | refine ldp rfl rfl rfl (.want rfl rfl h49) ?_
            refine cmp rfl rfl rfl rfl (.want rfl rfl h49) ?_
            refine pkt rfl h49 rfl rfl .none ?_
            refine mv rfl rfl .none ?_
            refine bcase 54 rfl (fun h54 => ?_) (fun h54 => ?_)
            · skip
              first | refine fa rfl rfl rfl (.want rfl rfl h54) ?_ | refine fap rfl rfl rfl rfl (.want rfl rfl h54) ?_
              first | refine ld rfl rfl rfl rfl rfl (.want rfl rfl h54) ?_ | refine ldp rfl rfl rfl (.want rfl rfl h54) ?_
              refine cmp rfl rfl rfl rfl (.want rfl rfl h54) ?_
              refine pkt rfl h54 rfl rfl .none ?_
              refine asg rfl rfl .none ?_
              refine done ?_
              refine Wp.cond rfl (fun c5 => ?_) (fun c5 => ?_)
              · skip
                refine Wp.seq ?_
                refine reg ?_
                first | refine fa rfl rfl rfl .none ?_ | refine fap rfl rfl rfl rfl .none ?_
                first | refine ld rfl rfl rfl rfl rfl .none ?_ | refine ldp rfl rfl rfl .none ?_
                refine bd rfl rfl rfl .none ?_
                refine sto rfl rfl rfl rfl rfl rfl .none ?_
                refine done ?_
                refine Wp.ret ?_
                refine Ends.ret (.cons (.cell rfl rfl rfl (Nat.le_of_ble_eq_true rfl) (Fz.pure rfl)) <|  .nil) ?_
                refine actClose' rfl ?_; simp only [emMap, ← hx]; clear hx; generalize lookL boundL (k, x) = o at *; cases o <;> simp_all <;> omega
              · skip
                refine Wp.skip ?_
                refine Wp.seq ?_
                refine reg ?_
                refine bd rfl rfl rfl .none ?_
                refine sto rfl rfl rfl rfl rfl rfl .none ?_
                refine done ?_
                refine Wp.ret ?_
                refine Ends.ret (.cons (.cell rfl rfl rfl (Nat.le_of_ble_eq_true rfl) (Fz.pure rfl)) <|  .nil) ?_
                refine actClose' rfl ?_; simp only [emMap, ← hx]; clear hx; generalize lookL boundL (k, x) = o at *; cases o <;> simp_all <;> omega
            · skip
              refine sk rfl rfl h54 rfl ?_
              refine sk rfl rfl h54 rfl ?_
              refine sk rfl rfl h54 rfl ?_
              refine pkf rfl h54 rfl rfl .none ?_
              refine asg rfl rfl .none ?_
              refine done ?_
              refine Wp.condF rfl rfl ?_
              refine Wp.skip ?_
              refine Wp.seq ?_
              refine reg ?_
              refine bd rfl rfl rfl .none ?_
              refine sto rfl rfl rfl rfl rfl rfl .none ?_
              refine done ?_
              refine Wp.ret ?_
              refine Ends.ret (.cons (.cell rfl rfl rfl (Nat.le_of_ble_eq_true rfl) (Fz.pure rfl)) <|  .nil) ?_
              refine actClose' rfl ?_; simp only [emMap, ← hx]; clear hx; generalize lookL boundL (k, x) = o at *; cases o <;> simp_all <;> omega
          · skip
            refine sk rfl rfl h49 rfl ?_
            refine sk rfl rfl h49 rfl ?_
            refine sk rfl rfl h49 rfl ?_
            refine pkf rfl h49 rfl rfl .none ?_
            refine mv rfl rfl .none ?_
            refine sk rfl rfl rfl rfl ?_
            refine sk rfl rfl rfl rfl ?_
            refine sk rfl rfl rfl rfl ?_
            refine pkf rfl rfl rfl rfl .none ?_
            refine asg rfl rfl .none ?_
            refine done ?_
            refine Wp.condF rfl rfl ?_
            refine Wp.skip ?_
            refine Wp.seq ?_
            refine reg ?_
            refine bd rfl rfl rfl .none ?_
            refine sto rfl rfl rfl rfl rfl rfl .none ?_
            refine done ?_
            refine Wp.ret ?_
            refine Ends.ret (.cons (.cell rfl rfl rfl (Nat.le_of_ble_eq_true rfl) (Fz.pure rfl)) <|  .nil) ?_
            refine actClose' rfl ?_; simp only [emMap, ← hx]; clear hx; generalize lookL boundL (k, x) = o at *; cases o <;> simp_all <;> omega
      · skip
        refine sk rfl rfl h27 rfl ?_
        refine sk rfl rfl h27 rfl ?_
        refine sk rfl rfl h27 rfl ?_
        refine pkf rfl h27 rfl rfl .none ?_
        refine mv rfl rfl .none ?_
        refine sk rfl rfl rfl rfl ?_
        refine sk rfl rfl rfl rfl ?_
        refine sk rfl rfl rfl rfl ?_
        refine sk rfl rfl rfl rfl ?_
        refine sku rfl rfl rfl ?_
        refine sku rfl rfl rfl ?_
        refine sku rfl rfl rfl ?_
        refine sk rfl rfl rfl rfl ?_
        refine pkf rfl rfl rfl rfl .none ?_
        refine asg rfl rfl .none ?_
        refine done ?_
        refine Wp.condF rfl rfl ?_
        refine Wp.seq ?_
        refine reg ?_
        first | refine fa rfl rfl rfl .none ?_ | refine fap rfl rfl rfl rfl .none ?_
        first | refine ld rfl rfl rfl rfl rfl .none ?_ | refine ldp rfl rfl rfl .none ?_
        refine cmp rfl rfl rfl rfl .none ?_
        refine mv rfl rfl .none ?_
        refine bcase 49 rfl (fun h49 => ?_) (fun h49 => ?_)
        · skip
          first | refine fa rfl rfl rfl (.want rfl rfl h49) ?_ | refine fap rfl rfl rfl rfl (.want rfl rfl h49) ?_
          first | refine ld rfl rfl rfl rfl rfl (.want rfl rfl h49) ?_ | refine ldp rfl rfl rfl (.want rfl rfl h49) ?_
          refine cmp rfl rfl rfl rfl (.want rfl rfl h49) ?_
          refine pkt rfl h49 rfl rfl .none ?_
          refine mv rfl rfl .none ?_
          refine bcase 54 rfl (fun h54 => ?_) (fun h54 => ?_)
          · skip
            first | refine fa rfl rfl rfl (.want rfl rfl h54) ?_ | refine fap rfl rfl rfl rfl (.want rfl rfl h54) ?_
            first | refine ld rfl rfl rfl rfl rfl (.want rfl rfl h54) ?_ | refine ldp rfl rfl rfl (.want rfl rfl h54) ?_
            refine cmp rfl rfl rfl rfl (.want rfl rfl h54) ?_
            refine pkt rfl h54 rfl rfl .none ?_
            refine asg rfl rfl .none ?_
            refine done ?_
            refine Wp.cond rfl (fun c6 => ?_) (fun c6 => ?_)
            · skip
              refine Wp.seq ?_
              refine reg ?_
              first | refine fa rfl rfl rfl .none ?_ | refine fap rfl rfl rfl rfl .none ?_
              first | refine ld rfl rfl rfl rfl rfl .none ?_ | refine ldp rfl rfl rfl .none ?_
              refine bd rfl rfl rfl .none ?_
              refine sto rfl rfl rfl rfl rfl rfl .none ?_
              refine done ?_
              refine Wp.ret ?_
              refine Ends.ret (.cons (.cell rfl rfl rfl (Nat.le_of_ble_eq_true rfl) (Fz.pure rfl)) <|  .nil) ?_
              refine actClose' rfl ?_; simp only [emMap, ← hx]; clear hx; generalize lookL boundL (k, x) = o at *; cases o <;> simp_all <;> omega
            · skip
              refine Wp.skip ?_
              refine Wp.seq ?_
              refine reg ?_
              refine bd rfl rfl rfl .none ?_
              refine sto rfl rfl rfl rfl rfl rfl .none ?_
              refine done ?_
              refine Wp.ret ?_
              refine Ends.ret (.cons (.cell rfl rfl rfl (Nat.le_of_ble_eq_true rfl) (Fz.pure rfl)) <|  .nil) ?_
              refine actClose' rfl ?_; simp only [emMap, ← hx]; clear hx; generalize lookL boundL (k, x) = o at *; cases o <;> simp_all <;> omega
          · skip
            refine sk rfl rfl h54 rfl ?_
            refine sk rfl rfl h54 rfl ?_
            refine sk rfl rfl h54 rfl ?_
            refine pkf rfl h54 rfl rfl .none ?_
            refine asg rfl rfl .none ?_
            refine done ?_
            refine Wp.condF rfl rfl ?_
            refine Wp.skip ?_
            refine Wp.seq ?_
            refine reg ?_
            refine bd rfl rfl rfl .none ?_
            refine sto rfl rfl rfl rfl rfl rfl .none ?_
            refine done ?_
            refine Wp.ret ?_
            refine Ends.ret (.cons (.cell rfl rfl rfl (Nat.le_of_ble_eq_true rfl) (Fz.pure rfl)) <|  .nil) ?_
            refine actClose' rfl ?_; simp only [emMap, ← hx]; clear hx; generalize lookL boundL (k, x) = o at *; cases o <;> simp_all <;> omega
        · skip
          refine sk rfl rfl h49 rfl ?_
          refine sk rfl rfl h49 rfl ?_
          refine sk rfl rfl h49 rfl ?_
          refine pkf rfl h49 rfl rfl .none ?_
          refine mv rfl rfl .none ?_
          refine sk rfl rfl rfl rfl ?_
          refine sk rfl rfl rfl rfl ?_
          refine sk rfl rfl rfl rfl ?_
          refine pkf rfl rfl rfl rfl .none ?_
          refine asg rfl rfl .none ?_
          refine done ?_
          refine Wp.condF rfl rfl ?_
          refine Wp.skip ?_
          refine Wp.seq ?_
          refine reg ?_
          refine bd rfl rfl rfl .none ?_
          refine sto rfl rfl rfl rfl rfl rfl .none ?_
          refine done ?_
          refine Wp.ret ?_
          refine Ends.ret (.cons (.cell rfl rfl rfl (Nat.le_of_ble_eq_true rfl) (Fz.pure rfl)) <|  .nil) ?_
          refine actClose' rfl ?_; simp only [emMap, ← hx]; clear hx; generalize lookL boundL (k, x) = o at *; cases o <;> simp_all <;> omega

set_option maxRecDepth 20000 in
theorem f_reads {m o : Int} : FnP PP 10 [.agg [.int .i64 m, .int .i64 o]] (readsD m o) := by
  refine FnP.of_body Try.func10 rfl (by kernel_rfl) rfl ?_
  refine Wp.seq ?_
  refine reg ?_
  refine bx 1 rfl rfl rfl rfl .none ?_
  refine asg rfl rfl .none ?_
  refine done ?_
  refine Wp.seq ?_
  refine Wp.block ?_
  refine Wp.seq ?_
  refine reg ?_
  first | refine fa rfl rfl rfl .none ?_ | refine fap rfl rfl rfl rfl .none ?_
  first | refine ld rfl rfl rfl rfl rfl .none ?_ | refine ldp rfl rfl rfl .none ?_
  refine cmp rfl rfl rfl rfl .none ?_
  refine asg rfl rfl .none ?_
  refine done ?_
  refine Wp.cond rfl (fun c1 => ?_) (fun c1 => ?_)
  · skip
    refine Wp.seq ?_
    refine reg ?_
    refine bd rfl rfl rfl .none ?_
    refine ifc rfl rfl .none ?_
    refine asg rfl rfl .none ?_
    refine done ?_
    refine Wp.ret ?_
    refine Ends.ret (.cons (.tmp rfl (Fz.pure rfl)) <|  .nil) ?_
    simp_all [readsD, retD]
  · skip
    refine Wp.seq ?_
    refine reg ?_
    first | refine fa rfl rfl rfl .none ?_ | refine fap rfl rfl rfl rfl .none ?_
    first | refine ld rfl rfl rfl rfl rfl .none ?_ | refine ldp rfl rfl rfl .none ?_
    refine cmp rfl rfl rfl rfl .none ?_
    refine asg rfl rfl .none ?_
    refine done ?_
    refine Wp.cond rfl (fun c2 => ?_) (fun c2 => ?_)
    · skip
      refine Wp.seq ?_
      refine reg ?_
      refine bd rfl rfl rfl .none ?_
      refine ifc rfl rfl .none ?_
      refine asg rfl rfl .none ?_
      refine done ?_
      refine Wp.ret ?_
      refine Ends.ret (.cons (.tmp rfl (Fz.pure rfl)) <|  .nil) ?_
      simp_all [readsD, retD]
    · skip
      refine Wp.skip ?_
      refine Wp.seq ?_
      refine reg ?_
      first | refine fa rfl rfl rfl .none ?_ | refine fap rfl rfl rfl rfl .none ?_
      first | refine ld rfl rfl rfl rfl rfl .none ?_ | refine ldp rfl rfl rfl .none ?_
      refine ifc rfl rfl .none ?_
      refine asg rfl rfl .none ?_
      refine done ?_
      refine Wp.ret ?_
      refine Ends.ret (.cons (.tmp rfl (Fz.pure rfl)) <|  .nil) ?_
      simp_all [readsD, retD]

set_option maxRecDepth 20000 in
theorem f_ins {k r : Int} {dg : Bool} : FnP PP 27 [.agg [], .agg [.int .i64 k, .int .i32 r], .bool dg] (resD (insS k r)) := by
  refine FnP.of_body Try.func27 rfl (by kernel_rfl) rfl ?_
  refine Wp.seq ?_
  refine reg ?_
  refine bx 3 rfl rfl rfl rfl .none ?_
  refine bx 4 rfl rfl rfl rfl .none ?_
  refine al 6 rfl rfl .none ?_
  refine asg rfl rfl .none ?_
  refine done ?_
  refine Wp.seq ?_
  refine Wp.block ?_
  refine Wp.seq ?_
  refine reg ?_
  first | refine fa rfl rfl rfl .none ?_ | refine fap rfl rfl rfl rfl .none ?_
  first | refine ld rfl rfl rfl rfl rfl .none ?_ | refine ldp rfl rfl rfl .none ?_
  refine cmp rfl rfl rfl rfl .none ?_
  refine asg rfl rfl .none ?_
  refine done ?_
  refine Wp.cond rfl (fun c1 => ?_) (fun c1 => ?_)
  · skip
    refine Wp.seq ?_
    refine reg ?_
    refine cl rfl rfl f_vcommand rfl rfl .none ?_
    refine cl rfl rfl f_vmove rfl rfl .none ?_
    refine sto rfl rfl rfl rfl rfl rfl .none ?_
    refine asg rfl rfl .none ?_
    refine done ?_
    refine Wp.ret ?_
    refine Ends.ret (.cons (.cell rfl rfl rfl (Nat.le_of_ble_eq_true rfl) (Fz.pure rfl)) <| .cons (.tmp rfl (Fz.pure rfl)) <|  .nil) ?_
    (first | refine resC0 rfl rfl ?_ | refine resC1 rfl rfl ?_); simp only [insS]; simp_all <;> first | omega | exact Prod.ext (by assumption) rfl
  · skip
    refine Wp.seq ?_
    refine reg ?_
    first | refine ld rfl rfl rfl rfl rfl .none ?_ | refine ldp rfl rfl rfl .none ?_
    refine cl rfl rfl f_arrow rfl rfl .none ?_
    refine asg rfl rfl .none ?_
    refine done ?_
    refine Wp.cond rfl (fun c2 => ?_) (fun c2 => ?_)
    · skip
      refine Wp.seq ?_
      refine reg ?_
      refine bd rfl rfl rfl .none ?_
      first | refine ld rfl rfl rfl rfl rfl .none ?_ | refine ldp rfl rfl rfl .none ?_
      refine cl rfl rfl f_emMap rfl rfl .none ?_
      refine bs rfl rfl rfl rfl .none ?_
      refine sto rfl rfl rfl rfl rfl rfl .none ?_
      refine asg rfl rfl .none ?_
      refine done ?_
      refine Wp.ret ?_
      refine Ends.ret (.cons (.cell rfl rfl rfl (Nat.le_of_ble_eq_true rfl) (Fz.pure rfl)) <| .cons (.tmp rfl (Fz.pure rfl)) <|  .nil) ?_
      (first | refine resC0 rfl rfl ?_ | refine resC1 rfl rfl ?_); simp only [insS]; simp_all <;> first | omega | exact Prod.ext (by assumption) rfl
    · skip
      refine Wp.seq ?_
      refine reg ?_
      first | refine fa rfl rfl rfl .none ?_ | refine fap rfl rfl rfl rfl .none ?_
      first | refine ld rfl rfl rfl rfl rfl .none ?_ | refine ldp rfl rfl rfl .none ?_
      refine cmp rfl rfl rfl rfl .none ?_
      refine asg rfl rfl .none ?_
      refine done ?_
      refine Wp.cond rfl (fun c3 => ?_) (fun c3 => ?_)
      · skip
        refine Wp.seq ?_
        refine reg ?_
        refine bd rfl rfl rfl .none ?_
        refine sto rfl rfl rfl rfl rfl rfl .none ?_
        refine asg rfl rfl .none ?_
        refine done ?_
        refine Wp.ret ?_
        refine Ends.ret (.cons (.cell rfl rfl rfl (Nat.le_of_ble_eq_true rfl) (Fz.pure rfl)) <| .cons (.tmp rfl (Fz.pure rfl)) <|  .nil) ?_
        (first | refine resC0 rfl rfl ?_ | refine resC1 rfl rfl ?_); simp only [insS]; simp_all <;> first | omega | exact Prod.ext (by assumption) rfl
      · skip
        refine Wp.skip ?_
        refine Wp.seq ?_
        refine reg ?_
        first | refine ld rfl rfl rfl rfl rfl .none ?_ | refine ldp rfl rfl rfl .none ?_
        refine cl rfl rfl f_emMap rfl rfl .none ?_
        refine al 8 rfl rfl .none ?_
        refine sto rfl rfl rfl rfl rfl rfl .none ?_
        refine done ?_
        refine Wp.seq ?_
        refine Wp.seq ?_
        refine reg ?_
        first | refine fa rfl rfl rfl .none ?_ | refine fap rfl rfl rfl rfl .none ?_
        first | refine ld rfl rfl rfl rfl rfl .none ?_ | refine ldp rfl rfl rfl .none ?_
        refine done ?_
        refine Wp.block ?_
        refine Wp.seq ?_
        refine Wp.seq ?_
        refine reg ?_
        refine cmp rfl rfl rfl rfl .none ?_
        refine asg rfl rfl .none ?_
        refine done ?_
        refine Wp.cond rfl (fun c4 => ?_) (fun c4 => ?_)
        · skip
          refine Wp.skip ?_
          refine Wp.condT rfl c4 ?_
          refine Wp.skip ?_
          refine Wp.seq ?_
          refine regd mixed ?_
          refine bd rfl rfl rfl .none ?_
          first | refine ld rfl rfl rfl rfl rfl .none ?_ | refine ldp rfl rfl rfl .none ?_
          refine bs rfl rfl rfl rfl .none ?_
          refine sto rfl rfl rfl rfl rfl rfl .none ?_
          refine asg rfl rfl .none ?_
          refine done ⟨by kernel_rfl, by kernel_rfl, ?_⟩
          refine Wp.ret ?_
          refine Ends.ret (.cons (.cell rfl rfl rfl (Nat.le_of_ble_eq_true rfl) (Fz.pure rfl)) <| .cons (.tmp rfl (Fz.pure rfl)) <|  .nil) ?_
          (first | refine resC0 rfl rfl ?_ | refine resC1 rfl rfl ?_); simp only [insS]; simp_all <;> first | omega | exact Prod.ext (by assumption) rfl
        · skip
          refine Wp.seq ?_
          refine reg ?_
          refine cmp rfl rfl rfl rfl .none ?_
          refine asg rfl rfl .none ?_
          refine done ?_
          refine Wp.cond rfl (fun c5 => ?_) (fun c5 => ?_)
          · skip
            refine Wp.skip ?_
            refine Wp.condT rfl c5 ?_
            refine Wp.skip ?_
            refine Wp.seq ?_
            refine regd mixed ?_
            refine bd rfl rfl rfl .none ?_
            first | refine ld rfl rfl rfl rfl rfl .none ?_ | refine ldp rfl rfl rfl .none ?_
            refine bs rfl rfl rfl rfl .none ?_
            refine sto rfl rfl rfl rfl rfl rfl .none ?_
            refine asg rfl rfl .none ?_
            refine done ⟨by kernel_rfl, by kernel_rfl, ?_⟩
            refine Wp.ret ?_
            refine Ends.ret (.cons (.cell rfl rfl rfl (Nat.le_of_ble_eq_true rfl) (Fz.pure rfl)) <| .cons (.tmp rfl (Fz.pure rfl)) <|  .nil) ?_
            (first | refine resC0 rfl rfl ?_ | refine resC1 rfl rfl ?_); simp only [insS]; simp_all <;> first | omega | exact Prod.ext (by assumption) rfl
          · skip
            refine Wp.seq ?_
            refine reg ?_
            refine cmp rfl rfl rfl rfl .none ?_
            refine asg rfl rfl .none ?_
            refine done ?_
            refine Wp.cond rfl (fun c6 => ?_) (fun c6 => ?_)
            · skip
              refine Wp.skip ?_
              refine Wp.condT rfl c6 ?_
              refine Wp.skip ?_
              refine Wp.seq ?_
              refine regd mixed ?_
              refine bd rfl rfl rfl .none ?_
              first | refine ld rfl rfl rfl rfl rfl .none ?_ | refine ldp rfl rfl rfl .none ?_
              refine bs rfl rfl rfl rfl .none ?_
              refine sto rfl rfl rfl rfl rfl rfl .none ?_
              refine asg rfl rfl .none ?_
              refine done ⟨by kernel_rfl, by kernel_rfl, ?_⟩
              refine Wp.ret ?_
              refine Ends.ret (.cons (.cell rfl rfl rfl (Nat.le_of_ble_eq_true rfl) (Fz.pure rfl)) <| .cons (.tmp rfl (Fz.pure rfl)) <|  .nil) ?_
              (first | refine resC0 rfl rfl ?_ | refine resC1 rfl rfl ?_); simp only [insS]; simp_all <;> first | omega | exact Prod.ext (by assumption) rfl
            · skip
              refine Wp.seq ?_
              refine reg ?_
              refine cmp rfl rfl rfl rfl .none ?_
              refine asg rfl rfl .none ?_
              refine done ?_
              refine Wp.cond rfl (fun c7 => ?_) (fun c7 => ?_)
              · skip
                refine Wp.skip ?_
                refine Wp.condT rfl c7 ?_
                refine Wp.skip ?_
                refine Wp.seq ?_
                refine regd mixed ?_
                refine bd rfl rfl rfl .none ?_
                first | refine ld rfl rfl rfl rfl rfl .none ?_ | refine ldp rfl rfl rfl .none ?_
                refine bs rfl rfl rfl rfl .none ?_
                refine sto rfl rfl rfl rfl rfl rfl .none ?_
                refine asg rfl rfl .none ?_
                refine done ⟨by kernel_rfl, by kernel_rfl, ?_⟩
                refine Wp.ret ?_
                refine Ends.ret (.cons (.cell rfl rfl rfl (Nat.le_of_ble_eq_true rfl) (Fz.pure rfl)) <| .cons (.tmp rfl (Fz.pure rfl)) <|  .nil) ?_
                (first | refine resC0 rfl rfl ?_ | refine resC1 rfl rfl ?_); simp only [insS]; simp_all <;> first | omega | exact Prod.ext (by assumption) rfl
              · skip
                refine Wp.seq ?_
                refine reg ?_
                refine cmp rfl rfl rfl rfl .none ?_
                refine asg rfl rfl .none ?_
                refine done ?_
                refine Wp.cond rfl (fun c8 => ?_) (fun c8 => ?_)
                · skip
                  refine Wp.skip ?_
                  refine Wp.condT rfl c8 ?_
                  refine Wp.skip ?_
                  refine Wp.seq ?_
                  refine regd mixed ?_
                  refine bd rfl rfl rfl .none ?_
                  first | refine ld rfl rfl rfl rfl rfl .none ?_ | refine ldp rfl rfl rfl .none ?_
                  refine bs rfl rfl rfl rfl .none ?_
                  refine sto rfl rfl rfl rfl rfl rfl .none ?_
                  refine asg rfl rfl .none ?_
                  refine done ⟨by kernel_rfl, by kernel_rfl, ?_⟩
                  refine Wp.ret ?_
                  refine Ends.ret (.cons (.cell rfl rfl rfl (Nat.le_of_ble_eq_true rfl) (Fz.pure rfl)) <| .cons (.tmp rfl (Fz.pure rfl)) <|  .nil) ?_
                  (first | refine resC0 rfl rfl ?_ | refine resC1 rfl rfl ?_); simp only [insS]; simp_all <;> first | omega | exact Prod.ext (by assumption) rfl
                · skip
                  refine Wp.seq ?_
                  refine reg ?_
                  refine cmp rfl rfl rfl rfl .none ?_
                  refine asg rfl rfl .none ?_
                  refine done ?_
                  refine Wp.cond rfl (fun c9 => ?_) (fun c9 => ?_)
                  · skip
                    refine Wp.skip ?_
                    refine Wp.condT rfl c9 ?_
                    refine Wp.skip ?_
                    refine Wp.seq ?_
                    refine regd mixed ?_
                    refine bd rfl rfl rfl .none ?_
                    first | refine ld rfl rfl rfl rfl rfl .none ?_ | refine ldp rfl rfl rfl .none ?_
                    refine bs rfl rfl rfl rfl .none ?_
                    refine sto rfl rfl rfl rfl rfl rfl .none ?_
                    refine asg rfl rfl .none ?_
                    refine done ⟨by kernel_rfl, by kernel_rfl, ?_⟩
                    refine Wp.ret ?_
                    refine Ends.ret (.cons (.cell rfl rfl rfl (Nat.le_of_ble_eq_true rfl) (Fz.pure rfl)) <| .cons (.tmp rfl (Fz.pure rfl)) <|  .nil) ?_
                    (first | refine resC0 rfl rfl ?_ | refine resC1 rfl rfl ?_); simp only [insS]; simp_all <;> first | omega | exact Prod.ext (by assumption) rfl
                  · skip
                    refine Wp.seq ?_
                    refine reg ?_
                    refine cmp rfl rfl rfl rfl .none ?_
                    refine asg rfl rfl .none ?_
                    refine done ?_
                    refine Wp.cond rfl (fun c10 => ?_) (fun c10 => ?_)
                    · skip
                      refine Wp.skip ?_
                      refine Wp.condT rfl c10 ?_
                      refine Wp.skip ?_
                      refine Wp.seq ?_
                      refine regd mixed ?_
                      refine bd rfl rfl rfl .none ?_
                      first | refine ld rfl rfl rfl rfl rfl .none ?_ | refine ldp rfl rfl rfl .none ?_
                      refine bs rfl rfl rfl rfl .none ?_
                      refine sto rfl rfl rfl rfl rfl rfl .none ?_
                      refine asg rfl rfl .none ?_
                      refine done ⟨by kernel_rfl, by kernel_rfl, ?_⟩
                      refine Wp.ret ?_
                      refine Ends.ret (.cons (.cell rfl rfl rfl (Nat.le_of_ble_eq_true rfl) (Fz.pure rfl)) <| .cons (.tmp rfl (Fz.pure rfl)) <|  .nil) ?_
                      (first | refine resC0 rfl rfl ?_ | refine resC1 rfl rfl ?_); simp only [insS]; simp_all <;> first | omega | exact Prod.ext (by assumption) rfl
                    · skip
                      refine reg ?_
                      refine cmp rfl rfl rfl rfl .none ?_
                      refine asg rfl rfl .none ?_
                      refine done ?_
                      refine Wp.cond rfl (fun c11 => ?_) (fun c11 => ?_)
                      · skip
                        refine Wp.skip ?_
                        refine Wp.seq ?_
                        refine regd mixed ?_
                        refine bd rfl rfl rfl .none ?_
                        first | refine ld rfl rfl rfl rfl rfl .none ?_ | refine ldp rfl rfl rfl .none ?_
                        refine bs rfl rfl rfl rfl .none ?_
                        refine sto rfl rfl rfl rfl rfl rfl .none ?_
                        refine asg rfl rfl .none ?_
                        refine done ⟨by kernel_rfl, by kernel_rfl, ?_⟩
                        refine Wp.ret ?_
                        refine Ends.ret (.cons (.cell rfl rfl rfl (Nat.le_of_ble_eq_true rfl) (Fz.pure rfl)) <| .cons (.tmp rfl (Fz.pure rfl)) <|  .nil) ?_
                        (first | refine resC0 rfl rfl ?_ | refine resC1 rfl rfl ?_); simp only [insS]; simp_all <;> first | omega | exact Prod.ext (by assumption) rfl
                      · skip
                        refine Wp.seq ?_
                        refine reg ?_
                        first | refine fa rfl rfl rfl .none ?_ | refine fap rfl rfl rfl rfl .none ?_
                        first | refine ld rfl rfl rfl rfl rfl .none ?_ | refine ldp rfl rfl rfl .none ?_
                        refine cmp rfl rfl rfl rfl .none ?_
                        refine done ?_
                        refine Wp.cond rfl (fun c12 => ?_) (fun c12 => ?_)
                        · skip
                          refine Wp.seq ?_
                          refine reg ?_
                          refine bd rfl rfl rfl .none ?_
                          refine sto rfl rfl rfl rfl rfl rfl .none ?_
                          refine asg rfl rfl .none ?_
                          refine done ?_
                          refine Wp.ret ?_
                          refine Ends.ret (.cons (.cell rfl rfl rfl (Nat.le_of_ble_eq_true rfl) (Fz.pure rfl)) <| .cons (.tmp rfl (Fz.pure rfl)) <|  .nil) ?_
                          (first | refine resC0 rfl rfl ?_ | refine resC1 rfl rfl ?_); simp only [insS]; simp_all <;> first | omega | exact Prod.ext (by assumption) rfl
                        · skip
                          refine Wp.skip ?_
                          refine Wp.seq ?_
                          refine regd mixed ?_
                          refine bd rfl rfl rfl .none ?_
                          first | refine ld rfl rfl rfl rfl rfl .none ?_ | refine ldp rfl rfl rfl .none ?_
                          refine bs rfl rfl rfl rfl .none ?_
                          refine sto rfl rfl rfl rfl rfl rfl .none ?_
                          refine asg rfl rfl .none ?_
                          refine done ⟨by kernel_rfl, by kernel_rfl, ?_⟩
                          refine Wp.ret ?_
                          refine Ends.ret (.cons (.cell rfl rfl rfl (Nat.le_of_ble_eq_true rfl) (Fz.pure rfl)) <| .cons (.tmp rfl (Fz.pure rfl)) <|  .nil) ?_
                          (first | refine resC0 rfl rfl ?_ | refine resC1 rfl rfl ?_); simp only [insS]; simp_all <;> first | omega | exact Prod.ext (by assumption) rfl

set_option maxRecDepth 20000 in
theorem f_ob {k r : Int} {dg : Bool} : FnP PP 38 [.agg [], .agg [.int .i64 k, .int .i32 r], .bool dg] (resD (obS k r dg)) := by
  refine FnP.of_body Try.func38 rfl (by kernel_rfl) rfl ?_
  refine Wp.seq ?_
  refine reg ?_
  refine bx 3 rfl rfl rfl rfl .none ?_
  refine bx 4 rfl rfl rfl rfl .none ?_
  refine al 6 rfl rfl .none ?_
  refine asg rfl rfl .none ?_
  refine done ?_
  refine Wp.seq ?_
  refine Wp.block ?_
  refine Wp.seq ?_
  refine reg ?_
  first | refine fa rfl rfl rfl .none ?_ | refine fap rfl rfl rfl rfl .none ?_
  first | refine ld rfl rfl rfl rfl rfl .none ?_ | refine ldp rfl rfl rfl .none ?_
  refine cmp rfl rfl rfl rfl .none ?_
  refine mv rfl rfl .none ?_
  refine bcase 13 rfl (fun h13 => ?_) (fun h13 => ?_)
  · skip
    refine sk rfl rfl h13 rfl ?_
    refine sk rfl rfl h13 rfl ?_
    refine sk rfl rfl h13 rfl ?_
    refine pkt rfl h13 rfl rfl .none ?_
    refine asg rfl rfl .none ?_
    refine done ?_
    refine Wp.condT rfl rfl ?_
    refine Wp.seq ?_
    refine reg ?_
    refine cl rfl rfl f_vcommand rfl rfl .none ?_
    refine cl rfl rfl f_vact rfl rfl .none ?_
    refine sto rfl rfl rfl rfl rfl rfl .none ?_
    refine asg rfl rfl .none ?_
    refine done ?_
    refine Wp.ret ?_
    refine Ends.ret (.cons (.cell rfl rfl rfl (Nat.le_of_ble_eq_true rfl) (Fz.pure rfl)) <| .cons (.tmp rfl (Fz.pure rfl)) <|  .nil) ?_
    (first | refine resC0 rfl rfl ?_ | refine resC1 rfl rfl ?_ | refine resCx rfl rfl ?_); simp only [obS]; simp_all <;> first | omega | rw [if_neg (by omega), if_neg (by omega)]
  · skip
    first | refine fa rfl rfl rfl (.want rfl rfl h13) ?_ | refine fap rfl rfl rfl rfl (.want rfl rfl h13) ?_
    first | refine ld rfl rfl rfl rfl rfl (.want rfl rfl h13) ?_ | refine ldp rfl rfl rfl (.want rfl rfl h13) ?_
    refine cmp rfl rfl rfl rfl (.want rfl rfl h13) ?_
    refine pkf rfl h13 rfl rfl .none ?_
    refine asg rfl rfl .none ?_
    refine done ?_
    refine Wp.cond rfl (fun c1 => ?_) (fun c1 => ?_)
    · skip
      refine Wp.seq ?_
      refine reg ?_
      refine cl rfl rfl f_vcommand rfl rfl .none ?_
      refine cl rfl rfl f_vact rfl rfl .none ?_
      refine sto rfl rfl rfl rfl rfl rfl .none ?_
      refine asg rfl rfl .none ?_
      refine done ?_
      refine Wp.ret ?_
      refine Ends.ret (.cons (.cell rfl rfl rfl (Nat.le_of_ble_eq_true rfl) (Fz.pure rfl)) <| .cons (.tmp rfl (Fz.pure rfl)) <|  .nil) ?_
      (first | refine resC0 rfl rfl ?_ | refine resC1 rfl rfl ?_ | refine resCx rfl rfl ?_); simp only [obS]; simp_all <;> first | omega | rw [if_neg (by omega), if_neg (by omega)]
    · skip
      refine Wp.seq ?_
      refine reg ?_
      first | refine ld rfl rfl rfl rfl rfl .none ?_ | refine ldp rfl rfl rfl .none ?_
      refine cl rfl rfl f_arrow rfl rfl .none ?_
      refine asg rfl rfl .none ?_
      refine done ?_
      refine Wp.cond rfl (fun c2 => ?_) (fun c2 => ?_)
      · skip
        refine Wp.seq ?_
        refine regd mixed ?_
        refine cl rfl rfl f_vcommand rfl rfl .none ?_
        first | refine ld rfl rfl rfl rfl rfl .none ?_ | refine ldp rfl rfl rfl .none ?_
        refine cl rfl rfl f_emMap rfl rfl .none ?_
        refine bs rfl rfl rfl rfl .none ?_
        refine sto rfl rfl rfl rfl rfl rfl .none ?_
        refine asg rfl rfl .none ?_
        refine done ⟨by kernel_rfl, by kernel_rfl, ?_⟩
        refine Wp.ret ?_
        refine Ends.ret (.cons (.cell rfl rfl rfl (Nat.le_of_ble_eq_true rfl) (Fz.pure rfl)) <| .cons (.tmp rfl (Fz.pure rfl)) <|  .nil) ?_
        (first | refine resC0 rfl rfl ?_ | refine resC1 rfl rfl ?_ | refine resCx rfl rfl ?_); simp only [obS]; simp_all <;> first | omega | rw [if_neg (by omega), if_neg (by omega)]
      · skip
        refine Wp.seq ?_
        refine reg ?_
        first | refine fa rfl rfl rfl .none ?_ | refine fap rfl rfl rfl rfl .none ?_
        first | refine ld rfl rfl rfl rfl rfl .none ?_ | refine ldp rfl rfl rfl .none ?_
        refine cmp rfl rfl rfl rfl .none ?_
        refine asg rfl rfl .none ?_
        refine done ?_
        refine Wp.cond rfl (fun c3 => ?_) (fun c3 => ?_)
        · skip
          refine Wp.seq ?_
          refine reg ?_
          refine cl rfl rfl f_vcommand rfl rfl .none ?_
          refine sto rfl rfl rfl rfl rfl rfl .none ?_
          refine asg rfl rfl .none ?_
          refine done ?_
          refine Wp.ret ?_
          refine Ends.ret (.cons (.cell rfl rfl rfl (Nat.le_of_ble_eq_true rfl) (Fz.pure rfl)) <| .cons (.tmp rfl (Fz.pure rfl)) <|  .nil) ?_
          (first | refine resC0 rfl rfl ?_ | refine resC1 rfl rfl ?_ | refine resCx rfl rfl ?_); simp only [obS]; simp_all <;> first | omega | rw [if_neg (by omega), if_neg (by omega)]
        · skip
          refine Wp.skip ?_
          refine Wp.seq ?_
          refine Wp.seq ?_
          refine reg ?_
          first | refine fa rfl rfl rfl .none ?_ | refine fap rfl rfl rfl rfl .none ?_
          first | refine ld rfl rfl rfl rfl rfl .none ?_ | refine ldp rfl rfl rfl .none ?_
          refine mv rfl rfl .none ?_
          refine cl rfl rfl f_leads rfl rfl .none ?_
          refine asg rfl rfl .none ?_
          refine done ?_
          refine Wp.seq ?_
          refine reg ?_
          refine mv rfl rfl .none ?_
          refine cmp rfl rfl rfl rfl .none ?_
          refine done ?_
          refine Wp.cond rfl (fun c4 => ?_) (fun c4 => ?_)
          · skip
            refine Wp.seq ?_
            refine reg ?_
            refine cl rfl rfl f_vcommand rfl rfl .none ?_
            refine mv rfl rfl .none ?_
            refine cl rfl rfl f_vmove rfl rfl .none ?_
            refine sto rfl rfl rfl rfl rfl rfl .none ?_
            refine asg rfl rfl .none ?_
            refine done ?_
            refine Wp.ret ?_
            refine Ends.ret (.cons (.cell rfl rfl rfl (Nat.le_of_ble_eq_true rfl) (Fz.pure rfl)) <| .cons (.tmp rfl (Fz.pure rfl)) <|  .nil) ?_
            (first | refine resC0 rfl rfl ?_ | refine resC1 rfl rfl ?_ | refine resCx rfl rfl ?_); simp only [obS]; simp_all <;> first | omega | rw [if_neg (by omega), if_neg (by omega)]
          · skip
            refine Wp.skip ?_
            refine Wp.seq ?_
            refine Wp.seq ?_
            refine reg ?_
            first | refine fa rfl rfl rfl .none ?_ | refine fap rfl rfl rfl rfl .none ?_
            first | refine ld rfl rfl rfl rfl rfl .none ?_ | refine ldp rfl rfl rfl .none ?_
            refine cmp rfl rfl rfl rfl .none ?_
            refine mv rfl rfl .none ?_
            refine bcase 44 rfl (fun h44 => ?_) (fun h44 => ?_)
            · skip
              first | refine fa rfl rfl rfl (.want rfl rfl h44) ?_ | refine fap rfl rfl rfl rfl (.want rfl rfl h44) ?_
              first | refine ld rfl rfl rfl rfl rfl (.want rfl rfl h44) ?_ | refine ldp rfl rfl rfl (.want rfl rfl h44) ?_
              refine cmp rfl rfl rfl rfl (.want rfl rfl h44) ?_
              refine pkt rfl h44 rfl rfl .none ?_
              refine done ?_
              refine Wp.cond rfl (fun c5 => ?_) (fun c5 => ?_)
              · skip
                refine Wp.seq ?_
                refine regd mixed ?_
                refine cl rfl rfl f_vcommand rfl rfl .none ?_
                first | refine fa rfl rfl rfl .none ?_ | refine fap rfl rfl rfl rfl .none ?_
                first | refine ld rfl rfl rfl rfl rfl .none ?_ | refine ldp rfl rfl rfl .none ?_
                refine bd rfl rfl rfl .none ?_
                refine bs rfl rfl rfl rfl .none ?_
                refine sto rfl rfl rfl rfl rfl rfl .none ?_
                refine asg rfl rfl .none ?_
                refine done ⟨by kernel_rfl, by kernel_rfl, ?_⟩
                refine Wp.ret ?_
                refine Ends.ret (.cons (.cell rfl rfl rfl (Nat.le_of_ble_eq_true rfl) (Fz.pure rfl)) <| .cons (.tmp rfl (Fz.pure rfl)) <|  .nil) ?_
                (first | refine resC0 rfl rfl ?_ | refine resC1 rfl rfl ?_ | refine resCx rfl rfl ?_); simp only [obS]; simp_all <;> first | omega | rw [if_neg (by omega), if_neg (by omega)]
              · skip
                refine Wp.skip ?_
                refine Wp.seq ?_
                refine reg ?_
                first | refine fa rfl rfl rfl .none ?_ | refine fap rfl rfl rfl rfl .none ?_
                first | refine ld rfl rfl rfl rfl rfl .none ?_ | refine ldp rfl rfl rfl .none ?_
                refine cl rfl rfl f_sign rfl rfl .none ?_
                refine xt rfl rfl rfl .none ?_
                refine xt rfl rfl rfl .none ?_
                refine sto rfl rfl rfl rfl rfl rfl .none ?_
                refine asg rfl rfl .none ?_
                refine done ?_
                refine Wp.ret ?_
                refine Ends.ret (.cons (.cell rfl rfl rfl (Nat.le_of_ble_eq_true rfl) (Fz.pure rfl)) <| .cons (.tmp rfl (Fz.pure rfl)) <|  .nil) ?_
                (first | refine resC0 rfl rfl ?_ | refine resC1 rfl rfl ?_ | refine resCx rfl rfl ?_); simp only [obS]; simp_all <;> first | omega | rw [if_neg (by omega), if_neg (by omega)]
            · skip
              refine sk rfl rfl h44 rfl ?_
              refine sk rfl rfl h44 rfl ?_
              refine sk rfl rfl h44 rfl ?_
              refine pkf rfl h44 rfl rfl .none ?_
              refine done ?_
              refine Wp.condF rfl rfl ?_
              refine Wp.skip ?_
              refine Wp.seq ?_
              refine reg ?_
              first | refine fa rfl rfl rfl .none ?_ | refine fap rfl rfl rfl rfl .none ?_
              first | refine ld rfl rfl rfl rfl rfl .none ?_ | refine ldp rfl rfl rfl .none ?_
              refine cl rfl rfl f_sign rfl rfl .none ?_
              refine xt rfl rfl rfl .none ?_
              refine xt rfl rfl rfl .none ?_
              refine sto rfl rfl rfl rfl rfl rfl .none ?_
              refine asg rfl rfl .none ?_
              refine done ?_
              refine Wp.ret ?_
              refine Ends.ret (.cons (.cell rfl rfl rfl (Nat.le_of_ble_eq_true rfl) (Fz.pure rfl)) <| .cons (.tmp rfl (Fz.pure rfl)) <|  .nil) ?_
              (first | refine resC0 rfl rfl ?_ | refine resC1 rfl rfl ?_ | refine resCx rfl rfl ?_); simp only [obS]; simp_all <;> first | omega | rw [if_neg (by omega), if_neg (by omega)]

set_option maxRecDepth 20000 in
theorem f_wa1 {k r : Int} {dg : Bool} : FnP PP 42 [.int .i64 1, .agg [.int .i64 k, .int .i32 r], .bool dg] (resD (waS 1 k r dg)) := by
  refine FnP.of_body Try.func42 rfl (by kernel_rfl) rfl ?_
  refine Wp.seq ?_
  refine reg ?_
  refine bx 4 rfl rfl rfl rfl .none ?_
  refine al 6 rfl rfl .none ?_
  refine asg rfl rfl .none ?_
  refine done ?_
  refine Wp.seq ?_
  refine reg ?_
  refine mv rfl rfl .none ?_
  refine ix 1 (c := 100) rfl rfl rfl rfl rfl rfl .none ?_
  refine cv 100 rfl (by decide) rfl .none ?_
  refine asg rfl rfl .none ?_
  refine done ?_
  refine Wp.seq ?_
  refine reg ?_
  first | refine fa rfl rfl rfl .none ?_ | refine fap rfl rfl rfl rfl .none ?_
  first | refine ld rfl rfl rfl rfl rfl .none ?_ | refine ldp rfl rfl rfl .none ?_
  refine mv rfl rfl .none ?_
  refine cl rfl rfl f_leads rfl rfl .none ?_
  refine asg rfl rfl .none ?_
  refine done ?_
  refine Wp.seq ?_
  refine Wp.block ?_
  refine Wp.seq ?_
  refine reg ?_
  first | refine fa rfl rfl rfl .none ?_ | refine fap rfl rfl rfl rfl .none ?_
  first | refine ld rfl rfl rfl rfl rfl .none ?_ | refine ldp rfl rfl rfl .none ?_
  refine cmp rfl rfl rfl rfl .none ?_
  refine asg rfl rfl .none ?_
  refine done ?_
  refine Wp.cond rfl (fun c1 => ?_) (fun c1 => ?_)
  · skip
    refine reg ?_
    refine asg rfl rfl .none ?_
    refine done ?_
    refine Wp.seq ?_
    refine Wp.block ?_
    refine Wp.seq ?_
    refine reg ?_
    refine mv rfl rfl .none ?_
    refine cmp rfl rfl rfl rfl .none ?_
    refine asg rfl rfl .none ?_
    refine done ?_
    refine Wp.cond rfl (fun c2 => ?_) (fun c2 => ?_)
    · skip
      refine Wp.seq ?_
      refine reg ?_
      refine cl rfl rfl f_vcommand rfl rfl .none ?_
      refine cl rfl rfl f_vact rfl rfl .none ?_
      refine sto rfl rfl rfl rfl rfl rfl .none ?_
      refine asg rfl rfl .none ?_
      refine done ?_
      refine Wp.ret ?_
      refine Ends.ret (.cons (.cell rfl rfl rfl (Nat.le_of_ble_eq_true rfl) (Fz.pure rfl)) <| .cons (.tmp rfl (Fz.pure rfl)) <|  .nil) ?_
      (first | refine resC0 rfl rfl ?_ | refine resC1 rfl rfl ?_); simp only [waS]; simp_all <;> omega
    · skip
      refine Wp.seq ?_
      refine reg ?_
      refine mv rfl rfl .none ?_
      refine cmp rfl rfl rfl rfl .none ?_
      refine asg rfl rfl .none ?_
      refine done ?_
      refine Wp.condF rfl rfl ?_
      refine Wp.seq ?_
      refine reg ?_
      refine mv rfl rfl .none ?_
      refine cmp rfl rfl rfl rfl .none ?_
      refine asg rfl rfl .none ?_
      refine done ?_
      refine Wp.condF rfl rfl ?_
      refine Wp.skip ?_
      refine Wp.seq ?_
      refine reg ?_
      refine cl rfl rfl f_vcommand rfl rfl .none ?_
      refine mv rfl rfl .none ?_
      refine cl rfl rfl f_vmove rfl rfl .none ?_
      refine sto rfl rfl rfl rfl rfl rfl .none ?_
      refine asg rfl rfl .none ?_
      refine done ?_
      refine Wp.ret ?_
      refine Ends.ret (.cons (.cell rfl rfl rfl (Nat.le_of_ble_eq_true rfl) (Fz.pure rfl)) <| .cons (.tmp rfl (Fz.pure rfl)) <|  .nil) ?_
      (first | refine resC0 rfl rfl ?_ | refine resC1 rfl rfl ?_); simp only [waS]; simp_all <;> omega
  · skip
    refine Wp.seq ?_
    refine reg ?_
    first | refine fa rfl rfl rfl .none ?_ | refine fap rfl rfl rfl rfl .none ?_
    first | refine ld rfl rfl rfl rfl rfl .none ?_ | refine ldp rfl rfl rfl .none ?_
    refine mv rfl rfl .none ?_
    refine cmp rfl rfl rfl rfl .none ?_
    refine asg rfl rfl .none ?_
    refine done ?_
    refine Wp.cond rfl (fun c3 => ?_) (fun c3 => ?_)
    · skip
      refine reg ?_
      refine asg rfl rfl .none ?_
      refine done ?_
      refine Wp.seq ?_
      refine Wp.block ?_
      refine Wp.seq ?_
      refine reg ?_
      refine mv rfl rfl .none ?_
      refine cmp rfl rfl rfl rfl .none ?_
      refine asg rfl rfl .none ?_
      refine done ?_
      refine Wp.cond rfl (fun c4 => ?_) (fun c4 => ?_)
      · skip
        refine Wp.seq ?_
        refine reg ?_
        refine cl rfl rfl f_vcommand rfl rfl .none ?_
        refine cl rfl rfl f_vact rfl rfl .none ?_
        refine sto rfl rfl rfl rfl rfl rfl .none ?_
        refine asg rfl rfl .none ?_
        refine done ?_
        refine Wp.ret ?_
        refine Ends.ret (.cons (.cell rfl rfl rfl (Nat.le_of_ble_eq_true rfl) (Fz.pure rfl)) <| .cons (.tmp rfl (Fz.pure rfl)) <|  .nil) ?_
        (first | refine resC0 rfl rfl ?_ | refine resC1 rfl rfl ?_); simp only [waS]; simp_all <;> omega
      · skip
        refine Wp.seq ?_
        refine reg ?_
        refine mv rfl rfl .none ?_
        refine cmp rfl rfl rfl rfl .none ?_
        refine asg rfl rfl .none ?_
        refine done ?_
        refine Wp.condF rfl rfl ?_
        refine Wp.seq ?_
        refine reg ?_
        refine mv rfl rfl .none ?_
        refine cmp rfl rfl rfl rfl .none ?_
        refine asg rfl rfl .none ?_
        refine done ?_
        refine Wp.condF rfl rfl ?_
        refine Wp.skip ?_
        refine Wp.seq ?_
        refine reg ?_
        refine cl rfl rfl f_vcommand rfl rfl .none ?_
        refine mv rfl rfl .none ?_
        refine cl rfl rfl f_vmove rfl rfl .none ?_
        refine sto rfl rfl rfl rfl rfl rfl .none ?_
        refine asg rfl rfl .none ?_
        refine done ?_
        refine Wp.ret ?_
        refine Ends.ret (.cons (.cell rfl rfl rfl (Nat.le_of_ble_eq_true rfl) (Fz.pure rfl)) <| .cons (.tmp rfl (Fz.pure rfl)) <|  .nil) ?_
        (first | refine resC0 rfl rfl ?_ | refine resC1 rfl rfl ?_); simp only [waS]; simp_all <;> omega
    · skip
      refine Wp.seq ?_
      refine reg ?_
      refine mv rfl rfl .none ?_
      refine cmp rfl rfl rfl rfl .none ?_
      refine mv rfl rfl .none ?_
      refine bcase 29 rfl (fun h29 => ?_) (fun h29 => ?_)
      · skip
        first | refine fa rfl rfl rfl (.want rfl rfl h29) ?_ | refine fap rfl rfl rfl rfl (.want rfl rfl h29) ?_
        first | refine ld rfl rfl rfl rfl rfl (.want rfl rfl h29) ?_ | refine ldp rfl rfl rfl (.want rfl rfl h29) ?_
        refine cmp rfl rfl rfl rfl (.want rfl rfl h29) ?_
        refine pkt rfl h29 rfl rfl .none ?_
        refine mv rfl rfl .none ?_
        refine bcase 34 rfl (fun h34 => ?_) (fun h34 => ?_)
        · skip
          first | refine fa rfl rfl rfl (.want rfl rfl h34) ?_ | refine fap rfl rfl rfl rfl (.want rfl rfl h34) ?_
          first | refine ld rfl rfl rfl rfl rfl (.want rfl rfl h34) ?_ | refine ldp rfl rfl rfl (.want rfl rfl h34) ?_
          refine cmp rfl rfl rfl rfl (.want rfl rfl h34) ?_
          refine pkt rfl h34 rfl rfl .none ?_
          refine asg rfl rfl .none ?_
          refine done ?_
          refine Wp.cond rfl (fun c5 => ?_) (fun c5 => ?_)
          · skip
            refine Wp.seq ?_
            refine regd mixed ?_
            refine mv rfl rfl .none ?_
            refine cl rfl rfl f_vcommand rfl rfl .none ?_
            first | refine fa rfl rfl rfl .none ?_ | refine fap rfl rfl rfl rfl .none ?_
            first | refine ld rfl rfl rfl rfl rfl .none ?_ | refine ldp rfl rfl rfl .none ?_
            refine bd rfl rfl rfl .none ?_
            refine bs rfl rfl rfl rfl .none ?_
            refine sto rfl rfl rfl rfl rfl rfl .none ?_
            refine asg rfl rfl .none ?_
            refine done ⟨by kernel_rfl, by kernel_rfl, ?_⟩
            refine Wp.ret ?_
            refine Ends.ret (.cons (.cell rfl rfl rfl (Nat.le_of_ble_eq_true rfl) (Fz.pure rfl)) <| .cons (.tmp rfl (Fz.pure rfl)) <|  .nil) ?_
            (first | refine resC0 rfl rfl ?_ | refine resC1 rfl rfl ?_); simp only [waS]; simp_all <;> omega
          · skip
            refine Wp.skip ?_
            refine Wp.seq ?_
            refine Wp.block ?_
            refine Wp.seq ?_
            refine reg ?_
            refine mv rfl rfl .none ?_
            refine cmp rfl rfl rfl rfl .none ?_
            refine asg rfl rfl .none ?_
            refine done ?_
            refine Wp.cond rfl (fun c6 => ?_) (fun c6 => ?_)
            · skip
              refine Wp.seq ?_
              refine reg ?_
              refine cl rfl rfl f_vcommand rfl rfl .none ?_
              refine cl rfl rfl f_vact rfl rfl .none ?_
              refine sto rfl rfl rfl rfl rfl rfl .none ?_
              refine asg rfl rfl .none ?_
              refine done ?_
              refine Wp.ret ?_
              refine Ends.ret (.cons (.cell rfl rfl rfl (Nat.le_of_ble_eq_true rfl) (Fz.pure rfl)) <| .cons (.tmp rfl (Fz.pure rfl)) <|  .nil) ?_
              (first | refine resC0 rfl rfl ?_ | refine resC1 rfl rfl ?_); simp only [waS]; simp_all <;> omega
            · skip
              refine Wp.seq ?_
              refine reg ?_
              refine mv rfl rfl .none ?_
              refine cmp rfl rfl rfl rfl .none ?_
              refine asg rfl rfl .none ?_
              refine done ?_
              refine Wp.condF rfl rfl ?_
              refine Wp.seq ?_
              refine reg ?_
              refine mv rfl rfl .none ?_
              refine cmp rfl rfl rfl rfl .none ?_
              refine asg rfl rfl .none ?_
              refine done ?_
              refine Wp.condF rfl rfl ?_
              refine Wp.skip ?_
              refine Wp.seq ?_
              refine reg ?_
              refine cl rfl rfl f_vcommand rfl rfl .none ?_
              refine mv rfl rfl .none ?_
              refine cl rfl rfl f_vmove rfl rfl .none ?_
              refine sto rfl rfl rfl rfl rfl rfl .none ?_
              refine asg rfl rfl .none ?_
              refine done ?_
              refine Wp.ret ?_
              refine Ends.ret (.cons (.cell rfl rfl rfl (Nat.le_of_ble_eq_true rfl) (Fz.pure rfl)) <| .cons (.tmp rfl (Fz.pure rfl)) <|  .nil) ?_
              (first | refine resC0 rfl rfl ?_ | refine resC1 rfl rfl ?_); simp only [waS]; simp_all <;> omega
        · skip
          refine sk rfl rfl h34 rfl ?_
          refine sk rfl rfl h34 rfl ?_
          refine sk rfl rfl h34 rfl ?_
          refine pkf rfl h34 rfl rfl .none ?_
          refine asg rfl rfl .none ?_
          refine done ?_
          refine Wp.condF rfl rfl ?_
          refine Wp.skip ?_
          refine Wp.seq ?_
          refine Wp.block ?_
          refine Wp.seq ?_
          refine reg ?_
          refine mv rfl rfl .none ?_
          refine cmp rfl rfl rfl rfl .none ?_
          refine asg rfl rfl .none ?_
          refine done ?_
          refine Wp.cond rfl (fun c7 => ?_) (fun c7 => ?_)
          · skip
            refine Wp.seq ?_
            refine reg ?_
            refine cl rfl rfl f_vcommand rfl rfl .none ?_
            refine cl rfl rfl f_vact rfl rfl .none ?_
            refine sto rfl rfl rfl rfl rfl rfl .none ?_
            refine asg rfl rfl .none ?_
            refine done ?_
            refine Wp.ret ?_
            refine Ends.ret (.cons (.cell rfl rfl rfl (Nat.le_of_ble_eq_true rfl) (Fz.pure rfl)) <| .cons (.tmp rfl (Fz.pure rfl)) <|  .nil) ?_
            (first | refine resC0 rfl rfl ?_ | refine resC1 rfl rfl ?_); simp only [waS]; simp_all <;> omega
          · skip
            refine Wp.seq ?_
            refine reg ?_
            refine mv rfl rfl .none ?_
            refine cmp rfl rfl rfl rfl .none ?_
            refine asg rfl rfl .none ?_
            refine done ?_
            refine Wp.condF rfl rfl ?_
            refine Wp.seq ?_
            refine reg ?_
            refine mv rfl rfl .none ?_
            refine cmp rfl rfl rfl rfl .none ?_
            refine asg rfl rfl .none ?_
            refine done ?_
            refine Wp.condF rfl rfl ?_
            refine Wp.skip ?_
            refine Wp.seq ?_
            refine reg ?_
            refine cl rfl rfl f_vcommand rfl rfl .none ?_
            refine mv rfl rfl .none ?_
            refine cl rfl rfl f_vmove rfl rfl .none ?_
            refine sto rfl rfl rfl rfl rfl rfl .none ?_
            refine asg rfl rfl .none ?_
            refine done ?_
            refine Wp.ret ?_
            refine Ends.ret (.cons (.cell rfl rfl rfl (Nat.le_of_ble_eq_true rfl) (Fz.pure rfl)) <| .cons (.tmp rfl (Fz.pure rfl)) <|  .nil) ?_
            (first | refine resC0 rfl rfl ?_ | refine resC1 rfl rfl ?_); simp only [waS]; simp_all <;> omega
      · skip
        refine sk rfl rfl h29 rfl ?_
        refine sk rfl rfl h29 rfl ?_
        refine sk rfl rfl h29 rfl ?_
        refine pkf rfl h29 rfl rfl .none ?_
        refine mv rfl rfl .none ?_
        refine sk rfl rfl rfl rfl ?_
        refine sk rfl rfl rfl rfl ?_
        refine sk rfl rfl rfl rfl ?_
        refine pkf rfl rfl rfl rfl .none ?_
        refine asg rfl rfl .none ?_
        refine done ?_
        refine Wp.condF rfl rfl ?_
        refine Wp.skip ?_
        refine Wp.seq ?_
        refine Wp.block ?_
        refine Wp.seq ?_
        refine reg ?_
        refine mv rfl rfl .none ?_
        refine cmp rfl rfl rfl rfl .none ?_
        refine asg rfl rfl .none ?_
        refine done ?_
        refine Wp.cond rfl (fun c8 => ?_) (fun c8 => ?_)
        · skip
          refine Wp.seq ?_
          refine reg ?_
          refine cl rfl rfl f_vcommand rfl rfl .none ?_
          refine cl rfl rfl f_vact rfl rfl .none ?_
          refine sto rfl rfl rfl rfl rfl rfl .none ?_
          refine asg rfl rfl .none ?_
          refine done ?_
          refine Wp.ret ?_
          refine Ends.ret (.cons (.cell rfl rfl rfl (Nat.le_of_ble_eq_true rfl) (Fz.pure rfl)) <| .cons (.tmp rfl (Fz.pure rfl)) <|  .nil) ?_
          (first | refine resC0 rfl rfl ?_ | refine resC1 rfl rfl ?_); simp only [waS]; simp_all <;> omega
        · skip
          refine Wp.seq ?_
          refine reg ?_
          refine mv rfl rfl .none ?_
          refine cmp rfl rfl rfl rfl .none ?_
          refine asg rfl rfl .none ?_
          refine done ?_
          refine Wp.condF rfl rfl ?_
          refine Wp.seq ?_
          refine reg ?_
          refine mv rfl rfl .none ?_
          refine cmp rfl rfl rfl rfl .none ?_
          refine asg rfl rfl .none ?_
          refine done ?_
          refine Wp.condF rfl rfl ?_
          refine Wp.skip ?_
          refine Wp.seq ?_
          refine reg ?_
          refine cl rfl rfl f_vcommand rfl rfl .none ?_
          refine mv rfl rfl .none ?_
          refine cl rfl rfl f_vmove rfl rfl .none ?_
          refine sto rfl rfl rfl rfl rfl rfl .none ?_
          refine asg rfl rfl .none ?_
          refine done ?_
          refine Wp.ret ?_
          refine Ends.ret (.cons (.cell rfl rfl rfl (Nat.le_of_ble_eq_true rfl) (Fz.pure rfl)) <| .cons (.tmp rfl (Fz.pure rfl)) <|  .nil) ?_
          (first | refine resC0 rfl rfl ?_ | refine resC1 rfl rfl ?_); simp only [waS]; simp_all <;> omega

set_option maxRecDepth 20000 in
theorem f_wa2 {k r : Int} {dg : Bool} : FnP PP 42 [.int .i64 2, .agg [.int .i64 k, .int .i32 r], .bool dg] (resD (waS 2 k r dg)) := by
  refine FnP.of_body Try.func42 rfl (by kernel_rfl) rfl ?_
  refine Wp.seq ?_
  refine reg ?_
  refine bx 4 rfl rfl rfl rfl .none ?_
  refine al 6 rfl rfl .none ?_
  refine asg rfl rfl .none ?_
  refine done ?_
  refine Wp.seq ?_
  refine reg ?_
  refine mv rfl rfl .none ?_
  refine ix 2 (c := 99) rfl rfl rfl rfl rfl rfl .none ?_
  refine cv 99 rfl (by decide) rfl .none ?_
  refine asg rfl rfl .none ?_
  refine done ?_
  refine Wp.seq ?_
  refine reg ?_
  first | refine fa rfl rfl rfl .none ?_ | refine fap rfl rfl rfl rfl .none ?_
  first | refine ld rfl rfl rfl rfl rfl .none ?_ | refine ldp rfl rfl rfl .none ?_
  refine mv rfl rfl .none ?_
  refine cl rfl rfl f_leads rfl rfl .none ?_
  refine asg rfl rfl .none ?_
  refine done ?_
  refine Wp.seq ?_
  refine Wp.block ?_
  refine Wp.seq ?_
  refine reg ?_
  first | refine fa rfl rfl rfl .none ?_ | refine fap rfl rfl rfl rfl .none ?_
  first | refine ld rfl rfl rfl rfl rfl .none ?_ | refine ldp rfl rfl rfl .none ?_
  refine cmp rfl rfl rfl rfl .none ?_
  refine asg rfl rfl .none ?_
  refine done ?_
  refine Wp.cond rfl (fun c1 => ?_) (fun c1 => ?_)
  · skip
    refine reg ?_
    refine asg rfl rfl .none ?_
    refine done ?_
    refine Wp.seq ?_
    refine Wp.block ?_
    refine Wp.seq ?_
    refine reg ?_
    refine mv rfl rfl .none ?_
    refine cmp rfl rfl rfl rfl .none ?_
    refine asg rfl rfl .none ?_
    refine done ?_
    refine Wp.cond rfl (fun c2 => ?_) (fun c2 => ?_)
    · skip
      refine Wp.seq ?_
      refine reg ?_
      refine cl rfl rfl f_vcommand rfl rfl .none ?_
      refine cl rfl rfl f_vact rfl rfl .none ?_
      refine sto rfl rfl rfl rfl rfl rfl .none ?_
      refine asg rfl rfl .none ?_
      refine done ?_
      refine Wp.ret ?_
      refine Ends.ret (.cons (.cell rfl rfl rfl (Nat.le_of_ble_eq_true rfl) (Fz.pure rfl)) <| .cons (.tmp rfl (Fz.pure rfl)) <|  .nil) ?_
      (first | refine resC0 rfl rfl ?_ | refine resC1 rfl rfl ?_); simp only [waS]; simp_all <;> omega
    · skip
      refine Wp.seq ?_
      refine reg ?_
      refine mv rfl rfl .none ?_
      refine cmp rfl rfl rfl rfl .none ?_
      refine asg rfl rfl .none ?_
      refine done ?_
      refine Wp.condF rfl rfl ?_
      refine Wp.seq ?_
      refine reg ?_
      refine mv rfl rfl .none ?_
      refine cmp rfl rfl rfl rfl .none ?_
      refine asg rfl rfl .none ?_
      refine done ?_
      refine Wp.condT rfl rfl ?_
      refine Wp.seq ?_
      refine reg ?_
      refine bd rfl rfl rfl .none ?_
      refine mv rfl rfl .none ?_
      refine cl rfl rfl f_vmove rfl rfl .none ?_
      refine sto rfl rfl rfl rfl rfl rfl .none ?_
      refine asg rfl rfl .none ?_
      refine done ?_
      refine Wp.ret ?_
      refine Ends.ret (.cons (.cell rfl rfl rfl (Nat.le_of_ble_eq_true rfl) (Fz.pure rfl)) <| .cons (.tmp rfl (Fz.pure rfl)) <|  .nil) ?_
      (first | refine resC0 rfl rfl ?_ | refine resC1 rfl rfl ?_); simp only [waS]; simp_all <;> omega
  · skip
    refine Wp.seq ?_
    refine reg ?_
    first | refine fa rfl rfl rfl .none ?_ | refine fap rfl rfl rfl rfl .none ?_
    first | refine ld rfl rfl rfl rfl rfl .none ?_ | refine ldp rfl rfl rfl .none ?_
    refine mv rfl rfl .none ?_
    refine cmp rfl rfl rfl rfl .none ?_
    refine asg rfl rfl .none ?_
    refine done ?_
    refine Wp.cond rfl (fun c3 => ?_) (fun c3 => ?_)
    · skip
      refine reg ?_
      refine asg rfl rfl .none ?_
      refine done ?_
      refine Wp.seq ?_
      refine Wp.block ?_
      refine Wp.seq ?_
      refine reg ?_
      refine mv rfl rfl .none ?_
      refine cmp rfl rfl rfl rfl .none ?_
      refine asg rfl rfl .none ?_
      refine done ?_
      refine Wp.cond rfl (fun c4 => ?_) (fun c4 => ?_)
      · skip
        refine Wp.seq ?_
        refine reg ?_
        refine cl rfl rfl f_vcommand rfl rfl .none ?_
        refine cl rfl rfl f_vact rfl rfl .none ?_
        refine sto rfl rfl rfl rfl rfl rfl .none ?_
        refine asg rfl rfl .none ?_
        refine done ?_
        refine Wp.ret ?_
        refine Ends.ret (.cons (.cell rfl rfl rfl (Nat.le_of_ble_eq_true rfl) (Fz.pure rfl)) <| .cons (.tmp rfl (Fz.pure rfl)) <|  .nil) ?_
        (first | refine resC0 rfl rfl ?_ | refine resC1 rfl rfl ?_); simp only [waS]; simp_all <;> omega
      · skip
        refine Wp.seq ?_
        refine reg ?_
        refine mv rfl rfl .none ?_
        refine cmp rfl rfl rfl rfl .none ?_
        refine asg rfl rfl .none ?_
        refine done ?_
        refine Wp.condF rfl rfl ?_
        refine Wp.seq ?_
        refine reg ?_
        refine mv rfl rfl .none ?_
        refine cmp rfl rfl rfl rfl .none ?_
        refine asg rfl rfl .none ?_
        refine done ?_
        refine Wp.condT rfl rfl ?_
        refine Wp.seq ?_
        refine reg ?_
        refine bd rfl rfl rfl .none ?_
        refine mv rfl rfl .none ?_
        refine cl rfl rfl f_vmove rfl rfl .none ?_
        refine sto rfl rfl rfl rfl rfl rfl .none ?_
        refine asg rfl rfl .none ?_
        refine done ?_
        refine Wp.ret ?_
        refine Ends.ret (.cons (.cell rfl rfl rfl (Nat.le_of_ble_eq_true rfl) (Fz.pure rfl)) <| .cons (.tmp rfl (Fz.pure rfl)) <|  .nil) ?_
        (first | refine resC0 rfl rfl ?_ | refine resC1 rfl rfl ?_); simp only [waS]; simp_all <;> omega
    · skip
      refine Wp.seq ?_
      refine reg ?_
      refine mv rfl rfl .none ?_
      refine cmp rfl rfl rfl rfl .none ?_
      refine mv rfl rfl .none ?_
      refine bcase 29 rfl (fun h29 => ?_) (fun h29 => ?_)
      · skip
        first | refine fa rfl rfl rfl (.want rfl rfl h29) ?_ | refine fap rfl rfl rfl rfl (.want rfl rfl h29) ?_
        first | refine ld rfl rfl rfl rfl rfl (.want rfl rfl h29) ?_ | refine ldp rfl rfl rfl (.want rfl rfl h29) ?_
        refine cmp rfl rfl rfl rfl (.want rfl rfl h29) ?_
        refine pkt rfl h29 rfl rfl .none ?_
        refine mv rfl rfl .none ?_
        refine bcase 34 rfl (fun h34 => ?_) (fun h34 => ?_)
        · skip
          first | refine fa rfl rfl rfl (.want rfl rfl h34) ?_ | refine fap rfl rfl rfl rfl (.want rfl rfl h34) ?_
          first | refine ld rfl rfl rfl rfl rfl (.want rfl rfl h34) ?_ | refine ldp rfl rfl rfl (.want rfl rfl h34) ?_
          refine cmp rfl rfl rfl rfl (.want rfl rfl h34) ?_
          refine pkt rfl h34 rfl rfl .none ?_
          refine asg rfl rfl .none ?_
          refine done ?_
          refine Wp.cond rfl (fun c5 => ?_) (fun c5 => ?_)
          · skip
            refine Wp.seq ?_
            refine regd mixed ?_
            refine mv rfl rfl .none ?_
            refine cl rfl rfl f_vcommand rfl rfl .none ?_
            first | refine fa rfl rfl rfl .none ?_ | refine fap rfl rfl rfl rfl .none ?_
            first | refine ld rfl rfl rfl rfl rfl .none ?_ | refine ldp rfl rfl rfl .none ?_
            refine bd rfl rfl rfl .none ?_
            refine bs rfl rfl rfl rfl .none ?_
            refine sto rfl rfl rfl rfl rfl rfl .none ?_
            refine asg rfl rfl .none ?_
            refine done ⟨by kernel_rfl, by kernel_rfl, ?_⟩
            refine Wp.ret ?_
            refine Ends.ret (.cons (.cell rfl rfl rfl (Nat.le_of_ble_eq_true rfl) (Fz.pure rfl)) <| .cons (.tmp rfl (Fz.pure rfl)) <|  .nil) ?_
            (first | refine resC0 rfl rfl ?_ | refine resC1 rfl rfl ?_); simp only [waS]; simp_all <;> omega
          · skip
            refine Wp.skip ?_
            refine Wp.seq ?_
            refine Wp.block ?_
            refine Wp.seq ?_
            refine reg ?_
            refine mv rfl rfl .none ?_
            refine cmp rfl rfl rfl rfl .none ?_
            refine asg rfl rfl .none ?_
            refine done ?_
            refine Wp.cond rfl (fun c6 => ?_) (fun c6 => ?_)
            · skip
              refine Wp.seq ?_
              refine reg ?_
              refine cl rfl rfl f_vcommand rfl rfl .none ?_
              refine cl rfl rfl f_vact rfl rfl .none ?_
              refine sto rfl rfl rfl rfl rfl rfl .none ?_
              refine asg rfl rfl .none ?_
              refine done ?_
              refine Wp.ret ?_
              refine Ends.ret (.cons (.cell rfl rfl rfl (Nat.le_of_ble_eq_true rfl) (Fz.pure rfl)) <| .cons (.tmp rfl (Fz.pure rfl)) <|  .nil) ?_
              (first | refine resC0 rfl rfl ?_ | refine resC1 rfl rfl ?_); simp only [waS]; simp_all <;> omega
            · skip
              refine Wp.seq ?_
              refine reg ?_
              refine mv rfl rfl .none ?_
              refine cmp rfl rfl rfl rfl .none ?_
              refine asg rfl rfl .none ?_
              refine done ?_
              refine Wp.condF rfl rfl ?_
              refine Wp.seq ?_
              refine reg ?_
              refine mv rfl rfl .none ?_
              refine cmp rfl rfl rfl rfl .none ?_
              refine asg rfl rfl .none ?_
              refine done ?_
              refine Wp.condT rfl rfl ?_
              refine Wp.seq ?_
              refine reg ?_
              refine bd rfl rfl rfl .none ?_
              refine mv rfl rfl .none ?_
              refine cl rfl rfl f_vmove rfl rfl .none ?_
              refine sto rfl rfl rfl rfl rfl rfl .none ?_
              refine asg rfl rfl .none ?_
              refine done ?_
              refine Wp.ret ?_
              refine Ends.ret (.cons (.cell rfl rfl rfl (Nat.le_of_ble_eq_true rfl) (Fz.pure rfl)) <| .cons (.tmp rfl (Fz.pure rfl)) <|  .nil) ?_
              (first | refine resC0 rfl rfl ?_ | refine resC1 rfl rfl ?_); simp only [waS]; simp_all <;> omega
        · skip
          refine sk rfl rfl h34 rfl ?_
          refine sk rfl rfl h34 rfl ?_
          refine sk rfl rfl h34 rfl ?_
          refine pkf rfl h34 rfl rfl .none ?_
          refine asg rfl rfl .none ?_
          refine done ?_
          refine Wp.condF rfl rfl ?_
          refine Wp.skip ?_
          refine Wp.seq ?_
          refine Wp.block ?_
          refine Wp.seq ?_
          refine reg ?_
          refine mv rfl rfl .none ?_
          refine cmp rfl rfl rfl rfl .none ?_
          refine asg rfl rfl .none ?_
          refine done ?_
          refine Wp.cond rfl (fun c7 => ?_) (fun c7 => ?_)
          · skip
            refine Wp.seq ?_
            refine reg ?_
            refine cl rfl rfl f_vcommand rfl rfl .none ?_
            refine cl rfl rfl f_vact rfl rfl .none ?_
            refine sto rfl rfl rfl rfl rfl rfl .none ?_
            refine asg rfl rfl .none ?_
            refine done ?_
            refine Wp.ret ?_
            refine Ends.ret (.cons (.cell rfl rfl rfl (Nat.le_of_ble_eq_true rfl) (Fz.pure rfl)) <| .cons (.tmp rfl (Fz.pure rfl)) <|  .nil) ?_
            (first | refine resC0 rfl rfl ?_ | refine resC1 rfl rfl ?_); simp only [waS]; simp_all <;> omega
          · skip
            refine Wp.seq ?_
            refine reg ?_
            refine mv rfl rfl .none ?_
            refine cmp rfl rfl rfl rfl .none ?_
            refine asg rfl rfl .none ?_
            refine done ?_
            refine Wp.condF rfl rfl ?_
            refine Wp.seq ?_
            refine reg ?_
            refine mv rfl rfl .none ?_
            refine cmp rfl rfl rfl rfl .none ?_
            refine asg rfl rfl .none ?_
            refine done ?_
            refine Wp.condT rfl rfl ?_
            refine Wp.seq ?_
            refine reg ?_
            refine bd rfl rfl rfl .none ?_
            refine mv rfl rfl .none ?_
            refine cl rfl rfl f_vmove rfl rfl .none ?_
            refine sto rfl rfl rfl rfl rfl rfl .none ?_
            refine asg rfl rfl .none ?_
            refine done ?_
            refine Wp.ret ?_
            refine Ends.ret (.cons (.cell rfl rfl rfl (Nat.le_of_ble_eq_true rfl) (Fz.pure rfl)) <| .cons (.tmp rfl (Fz.pure rfl)) <|  .nil) ?_
            (first | refine resC0 rfl rfl ?_ | refine resC1 rfl rfl ?_); simp only [waS]; simp_all <;> omega
      · skip
        refine sk rfl rfl h29 rfl ?_
        refine sk rfl rfl h29 rfl ?_
        refine sk rfl rfl h29 rfl ?_
        refine pkf rfl h29 rfl rfl .none ?_
        refine mv rfl rfl .none ?_
        refine sk rfl rfl rfl rfl ?_
        refine sk rfl rfl rfl rfl ?_
        refine sk rfl rfl rfl rfl ?_
        refine pkf rfl rfl rfl rfl .none ?_
        refine asg rfl rfl .none ?_
        refine done ?_
        refine Wp.condF rfl rfl ?_
        refine Wp.skip ?_
        refine Wp.seq ?_
        refine Wp.block ?_
        refine Wp.seq ?_
        refine reg ?_
        refine mv rfl rfl .none ?_
        refine cmp rfl rfl rfl rfl .none ?_
        refine asg rfl rfl .none ?_
        refine done ?_
        refine Wp.cond rfl (fun c8 => ?_) (fun c8 => ?_)
        · skip
          refine Wp.seq ?_
          refine reg ?_
          refine cl rfl rfl f_vcommand rfl rfl .none ?_
          refine cl rfl rfl f_vact rfl rfl .none ?_
          refine sto rfl rfl rfl rfl rfl rfl .none ?_
          refine asg rfl rfl .none ?_
          refine done ?_
          refine Wp.ret ?_
          refine Ends.ret (.cons (.cell rfl rfl rfl (Nat.le_of_ble_eq_true rfl) (Fz.pure rfl)) <| .cons (.tmp rfl (Fz.pure rfl)) <|  .nil) ?_
          (first | refine resC0 rfl rfl ?_ | refine resC1 rfl rfl ?_); simp only [waS]; simp_all <;> omega
        · skip
          refine Wp.seq ?_
          refine reg ?_
          refine mv rfl rfl .none ?_
          refine cmp rfl rfl rfl rfl .none ?_
          refine asg rfl rfl .none ?_
          refine done ?_
          refine Wp.condF rfl rfl ?_
          refine Wp.seq ?_
          refine reg ?_
          refine mv rfl rfl .none ?_
          refine cmp rfl rfl rfl rfl .none ?_
          refine asg rfl rfl .none ?_
          refine done ?_
          refine Wp.condT rfl rfl ?_
          refine Wp.seq ?_
          refine reg ?_
          refine bd rfl rfl rfl .none ?_
          refine mv rfl rfl .none ?_
          refine cl rfl rfl f_vmove rfl rfl .none ?_
          refine sto rfl rfl rfl rfl rfl rfl .none ?_
          refine asg rfl rfl .none ?_
          refine done ?_
          refine Wp.ret ?_
          refine Ends.ret (.cons (.cell rfl rfl rfl (Nat.le_of_ble_eq_true rfl) (Fz.pure rfl)) <| .cons (.tmp rfl (Fz.pure rfl)) <|  .nil) ?_
          (first | refine resC0 rfl rfl ?_ | refine resC1 rfl rfl ?_); simp only [waS]; simp_all <;> omega

set_option maxRecDepth 20000 in
theorem f_wa3 {k r : Int} {dg : Bool} : FnP PP 42 [.int .i64 3, .agg [.int .i64 k, .int .i32 r], .bool dg] (resD (waS 3 k r dg)) := by
  refine FnP.of_body Try.func42 rfl (by kernel_rfl) rfl ?_
  refine Wp.seq ?_
  refine reg ?_
  refine bx 4 rfl rfl rfl rfl .none ?_
  refine al 6 rfl rfl .none ?_
  refine asg rfl rfl .none ?_
  refine done ?_
  refine Wp.seq ?_
  refine reg ?_
  refine mv rfl rfl .none ?_
  refine ix 3 (c := 121) rfl rfl rfl rfl rfl rfl .none ?_
  refine cv 121 rfl (by decide) rfl .none ?_
  refine asg rfl rfl .none ?_
  refine done ?_
  refine Wp.seq ?_
  refine reg ?_
  first | refine fa rfl rfl rfl .none ?_ | refine fap rfl rfl rfl rfl .none ?_
  first | refine ld rfl rfl rfl rfl rfl .none ?_ | refine ldp rfl rfl rfl .none ?_
  refine mv rfl rfl .none ?_
  refine cl rfl rfl f_leads rfl rfl .none ?_
  refine asg rfl rfl .none ?_
  refine done ?_
  refine Wp.seq ?_
  refine Wp.block ?_
  refine Wp.seq ?_
  refine reg ?_
  first | refine fa rfl rfl rfl .none ?_ | refine fap rfl rfl rfl rfl .none ?_
  first | refine ld rfl rfl rfl rfl rfl .none ?_ | refine ldp rfl rfl rfl .none ?_
  refine cmp rfl rfl rfl rfl .none ?_
  refine asg rfl rfl .none ?_
  refine done ?_
  refine Wp.cond rfl (fun c1 => ?_) (fun c1 => ?_)
  · skip
    refine reg ?_
    refine asg rfl rfl .none ?_
    refine done ?_
    refine Wp.seq ?_
    refine Wp.block ?_
    refine Wp.seq ?_
    refine reg ?_
    refine mv rfl rfl .none ?_
    refine cmp rfl rfl rfl rfl .none ?_
    refine asg rfl rfl .none ?_
    refine done ?_
    refine Wp.cond rfl (fun c2 => ?_) (fun c2 => ?_)
    · skip
      refine Wp.seq ?_
      refine reg ?_
      refine cl rfl rfl f_vcommand rfl rfl .none ?_
      refine cl rfl rfl f_vact rfl rfl .none ?_
      refine sto rfl rfl rfl rfl rfl rfl .none ?_
      refine asg rfl rfl .none ?_
      refine done ?_
      refine Wp.ret ?_
      refine Ends.ret (.cons (.cell rfl rfl rfl (Nat.le_of_ble_eq_true rfl) (Fz.pure rfl)) <| .cons (.tmp rfl (Fz.pure rfl)) <|  .nil) ?_
      (first | refine resC0 rfl rfl ?_ | refine resC1 rfl rfl ?_); simp only [waS]; simp_all <;> omega
    · skip
      refine Wp.seq ?_
      refine reg ?_
      refine mv rfl rfl .none ?_
      refine cmp rfl rfl rfl rfl .none ?_
      refine asg rfl rfl .none ?_
      refine done ?_
      refine Wp.condT rfl rfl ?_
      refine Wp.seq ?_
      refine reg ?_
      refine cl rfl rfl f_vcommand rfl rfl .none ?_
      refine mv rfl rfl .none ?_
      refine cl rfl rfl f_vmove rfl rfl .none ?_
      refine sto rfl rfl rfl rfl rfl rfl .none ?_
      refine asg rfl rfl .none ?_
      refine done ?_
      refine Wp.ret ?_
      refine Ends.ret (.cons (.cell rfl rfl rfl (Nat.le_of_ble_eq_true rfl) (Fz.pure rfl)) <| .cons (.tmp rfl (Fz.pure rfl)) <|  .nil) ?_
      (first | refine resC0 rfl rfl ?_ | refine resC1 rfl rfl ?_); simp only [waS]; simp_all <;> omega
  · skip
    refine Wp.seq ?_
    refine reg ?_
    first | refine fa rfl rfl rfl .none ?_ | refine fap rfl rfl rfl rfl .none ?_
    first | refine ld rfl rfl rfl rfl rfl .none ?_ | refine ldp rfl rfl rfl .none ?_
    refine mv rfl rfl .none ?_
    refine cmp rfl rfl rfl rfl .none ?_
    refine asg rfl rfl .none ?_
    refine done ?_
    refine Wp.cond rfl (fun c3 => ?_) (fun c3 => ?_)
    · skip
      refine reg ?_
      refine asg rfl rfl .none ?_
      refine done ?_
      refine Wp.seq ?_
      refine Wp.block ?_
      refine Wp.seq ?_
      refine reg ?_
      refine mv rfl rfl .none ?_
      refine cmp rfl rfl rfl rfl .none ?_
      refine asg rfl rfl .none ?_
      refine done ?_
      refine Wp.cond rfl (fun c4 => ?_) (fun c4 => ?_)
      · skip
        refine Wp.seq ?_
        refine reg ?_
        refine cl rfl rfl f_vcommand rfl rfl .none ?_
        refine cl rfl rfl f_vact rfl rfl .none ?_
        refine sto rfl rfl rfl rfl rfl rfl .none ?_
        refine asg rfl rfl .none ?_
        refine done ?_
        refine Wp.ret ?_
        refine Ends.ret (.cons (.cell rfl rfl rfl (Nat.le_of_ble_eq_true rfl) (Fz.pure rfl)) <| .cons (.tmp rfl (Fz.pure rfl)) <|  .nil) ?_
        (first | refine resC0 rfl rfl ?_ | refine resC1 rfl rfl ?_); simp only [waS]; simp_all <;> omega
      · skip
        refine Wp.seq ?_
        refine reg ?_
        refine mv rfl rfl .none ?_
        refine cmp rfl rfl rfl rfl .none ?_
        refine asg rfl rfl .none ?_
        refine done ?_
        refine Wp.condT rfl rfl ?_
        refine Wp.seq ?_
        refine reg ?_
        refine cl rfl rfl f_vcommand rfl rfl .none ?_
        refine mv rfl rfl .none ?_
        refine cl rfl rfl f_vmove rfl rfl .none ?_
        refine sto rfl rfl rfl rfl rfl rfl .none ?_
        refine asg rfl rfl .none ?_
        refine done ?_
        refine Wp.ret ?_
        refine Ends.ret (.cons (.cell rfl rfl rfl (Nat.le_of_ble_eq_true rfl) (Fz.pure rfl)) <| .cons (.tmp rfl (Fz.pure rfl)) <|  .nil) ?_
        (first | refine resC0 rfl rfl ?_ | refine resC1 rfl rfl ?_); simp only [waS]; simp_all <;> omega
    · skip
      refine Wp.seq ?_
      refine reg ?_
      refine mv rfl rfl .none ?_
      refine cmp rfl rfl rfl rfl .none ?_
      refine mv rfl rfl .none ?_
      refine bcase 29 rfl (fun h29 => ?_) (fun h29 => ?_)
      · skip
        first | refine fa rfl rfl rfl (.want rfl rfl h29) ?_ | refine fap rfl rfl rfl rfl (.want rfl rfl h29) ?_
        first | refine ld rfl rfl rfl rfl rfl (.want rfl rfl h29) ?_ | refine ldp rfl rfl rfl (.want rfl rfl h29) ?_
        refine cmp rfl rfl rfl rfl (.want rfl rfl h29) ?_
        refine pkt rfl h29 rfl rfl .none ?_
        refine mv rfl rfl .none ?_
        refine bcase 34 rfl (fun h34 => ?_) (fun h34 => ?_)
        · skip
          first | refine fa rfl rfl rfl (.want rfl rfl h34) ?_ | refine fap rfl rfl rfl rfl (.want rfl rfl h34) ?_
          first | refine ld rfl rfl rfl rfl rfl (.want rfl rfl h34) ?_ | refine ldp rfl rfl rfl (.want rfl rfl h34) ?_
          refine cmp rfl rfl rfl rfl (.want rfl rfl h34) ?_
          refine pkt rfl h34 rfl rfl .none ?_
          refine asg rfl rfl .none ?_
          refine done ?_
          refine Wp.cond rfl (fun c5 => ?_) (fun c5 => ?_)
          · skip
            refine Wp.seq ?_
            refine regd mixed ?_
            refine mv rfl rfl .none ?_
            refine cl rfl rfl f_vcommand rfl rfl .none ?_
            first | refine fa rfl rfl rfl .none ?_ | refine fap rfl rfl rfl rfl .none ?_
            first | refine ld rfl rfl rfl rfl rfl .none ?_ | refine ldp rfl rfl rfl .none ?_
            refine bd rfl rfl rfl .none ?_
            refine bs rfl rfl rfl rfl .none ?_
            refine sto rfl rfl rfl rfl rfl rfl .none ?_
            refine asg rfl rfl .none ?_
            refine done ⟨by kernel_rfl, by kernel_rfl, ?_⟩
            refine Wp.ret ?_
            refine Ends.ret (.cons (.cell rfl rfl rfl (Nat.le_of_ble_eq_true rfl) (Fz.pure rfl)) <| .cons (.tmp rfl (Fz.pure rfl)) <|  .nil) ?_
            (first | refine resC0 rfl rfl ?_ | refine resC1 rfl rfl ?_); simp only [waS]; simp_all <;> omega
          · skip
            refine Wp.skip ?_
            refine Wp.seq ?_
            refine Wp.block ?_
            refine Wp.seq ?_
            refine reg ?_
            refine mv rfl rfl .none ?_
            refine cmp rfl rfl rfl rfl .none ?_
            refine asg rfl rfl .none ?_
            refine done ?_
            refine Wp.cond rfl (fun c6 => ?_) (fun c6 => ?_)
            · skip
              refine Wp.seq ?_
              refine reg ?_
              refine cl rfl rfl f_vcommand rfl rfl .none ?_
              refine cl rfl rfl f_vact rfl rfl .none ?_
              refine sto rfl rfl rfl rfl rfl rfl .none ?_
              refine asg rfl rfl .none ?_
              refine done ?_
              refine Wp.ret ?_
              refine Ends.ret (.cons (.cell rfl rfl rfl (Nat.le_of_ble_eq_true rfl) (Fz.pure rfl)) <| .cons (.tmp rfl (Fz.pure rfl)) <|  .nil) ?_
              (first | refine resC0 rfl rfl ?_ | refine resC1 rfl rfl ?_); simp only [waS]; simp_all <;> omega
            · skip
              refine Wp.seq ?_
              refine reg ?_
              refine mv rfl rfl .none ?_
              refine cmp rfl rfl rfl rfl .none ?_
              refine asg rfl rfl .none ?_
              refine done ?_
              refine Wp.condT rfl rfl ?_
              refine Wp.seq ?_
              refine reg ?_
              refine cl rfl rfl f_vcommand rfl rfl .none ?_
              refine mv rfl rfl .none ?_
              refine cl rfl rfl f_vmove rfl rfl .none ?_
              refine sto rfl rfl rfl rfl rfl rfl .none ?_
              refine asg rfl rfl .none ?_
              refine done ?_
              refine Wp.ret ?_
              refine Ends.ret (.cons (.cell rfl rfl rfl (Nat.le_of_ble_eq_true rfl) (Fz.pure rfl)) <| .cons (.tmp rfl (Fz.pure rfl)) <|  .nil) ?_
              (first | refine resC0 rfl rfl ?_ | refine resC1 rfl rfl ?_); simp only [waS]; simp_all <;> omega
        · skip
          refine sk rfl rfl h34 rfl ?_
          refine sk rfl rfl h34 rfl ?_
          refine sk rfl rfl h34 rfl ?_
          refine pkf rfl h34 rfl rfl .none ?_
          refine asg rfl rfl .none ?_
          refine done ?_
          refine Wp.condF rfl rfl ?_
          refine Wp.skip ?_
          refine Wp.seq ?_
          refine Wp.block ?_
          refine Wp.seq ?_
          refine reg ?_
          refine mv rfl rfl .none ?_
          refine cmp rfl rfl rfl rfl .none ?_
          refine asg rfl rfl .none ?_
          refine done ?_
          refine Wp.cond rfl (fun c7 => ?_) (fun c7 => ?_)
          · skip
            refine Wp.seq ?_
            refine reg ?_
            refine cl rfl rfl f_vcommand rfl rfl .none ?_
            refine cl rfl rfl f_vact rfl rfl .none ?_
            refine sto rfl rfl rfl rfl rfl rfl .none ?_
            refine asg rfl rfl .none ?_
            refine done ?_
            refine Wp.ret ?_
            refine Ends.ret (.cons (.cell rfl rfl rfl (Nat.le_of_ble_eq_true rfl) (Fz.pure rfl)) <| .cons (.tmp rfl (Fz.pure rfl)) <|  .nil) ?_
            (first | refine resC0 rfl rfl ?_ | refine resC1 rfl rfl ?_); simp only [waS]; simp_all <;> omega
          · skip
            refine Wp.seq ?_
            refine reg ?_
            refine mv rfl rfl .none ?_
            refine cmp rfl rfl rfl rfl .none ?_
            refine asg rfl rfl .none ?_
            refine done ?_
            refine Wp.condT rfl rfl ?_
            refine Wp.seq ?_
            refine reg ?_
            refine cl rfl rfl f_vcommand rfl rfl .none ?_
            refine mv rfl rfl .none ?_
            refine cl rfl rfl f_vmove rfl rfl .none ?_
            refine sto rfl rfl rfl rfl rfl rfl .none ?_
            refine asg rfl rfl .none ?_
            refine done ?_
            refine Wp.ret ?_
            refine Ends.ret (.cons (.cell rfl rfl rfl (Nat.le_of_ble_eq_true rfl) (Fz.pure rfl)) <| .cons (.tmp rfl (Fz.pure rfl)) <|  .nil) ?_
            (first | refine resC0 rfl rfl ?_ | refine resC1 rfl rfl ?_); simp only [waS]; simp_all <;> omega
      · skip
        refine sk rfl rfl h29 rfl ?_
        refine sk rfl rfl h29 rfl ?_
        refine sk rfl rfl h29 rfl ?_
        refine pkf rfl h29 rfl rfl .none ?_
        refine mv rfl rfl .none ?_
        refine sk rfl rfl rfl rfl ?_
        refine sk rfl rfl rfl rfl ?_
        refine sk rfl rfl rfl rfl ?_
        refine pkf rfl rfl rfl rfl .none ?_
        refine asg rfl rfl .none ?_
        refine done ?_
        refine Wp.condF rfl rfl ?_
        refine Wp.skip ?_
        refine Wp.seq ?_
        refine Wp.block ?_
        refine Wp.seq ?_
        refine reg ?_
        refine mv rfl rfl .none ?_
        refine cmp rfl rfl rfl rfl .none ?_
        refine asg rfl rfl .none ?_
        refine done ?_
        refine Wp.cond rfl (fun c8 => ?_) (fun c8 => ?_)
        · skip
          refine Wp.seq ?_
          refine reg ?_
          refine cl rfl rfl f_vcommand rfl rfl .none ?_
          refine cl rfl rfl f_vact rfl rfl .none ?_
          refine sto rfl rfl rfl rfl rfl rfl .none ?_
          refine asg rfl rfl .none ?_
          refine done ?_
          refine Wp.ret ?_
          refine Ends.ret (.cons (.cell rfl rfl rfl (Nat.le_of_ble_eq_true rfl) (Fz.pure rfl)) <| .cons (.tmp rfl (Fz.pure rfl)) <|  .nil) ?_
          (first | refine resC0 rfl rfl ?_ | refine resC1 rfl rfl ?_); simp only [waS]; simp_all <;> omega
        · skip
          refine Wp.seq ?_
          refine reg ?_
          refine mv rfl rfl .none ?_
          refine cmp rfl rfl rfl rfl .none ?_
          refine asg rfl rfl .none ?_
          refine done ?_
          refine Wp.condT rfl rfl ?_
          refine Wp.seq ?_
          refine reg ?_
          refine cl rfl rfl f_vcommand rfl rfl .none ?_
          refine mv rfl rfl .none ?_
          refine cl rfl rfl f_vmove rfl rfl .none ?_
          refine sto rfl rfl rfl rfl rfl rfl .none ?_
          refine asg rfl rfl .none ?_
          refine done ?_
          refine Wp.ret ?_
          refine Ends.ret (.cons (.cell rfl rfl rfl (Nat.le_of_ble_eq_true rfl) (Fz.pure rfl)) <| .cons (.tmp rfl (Fz.pure rfl)) <|  .nil) ?_
          (first | refine resC0 rfl rfl ?_ | refine resC1 rfl rfl ?_); simp only [waS]; simp_all <;> omega

end Go.Proofs.Ytoleablcjdbeiaa