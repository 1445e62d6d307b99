/-
  No cell of these rows narrows 'for every input' (looked for: loops, veiled, ifaces, maps, wideKeys, modest, calm, conditions, laid).
  DERIVED. THE GIVEN ROWS OF THIS SEAT. 4 by the template 'for every input the law returns true; each argument reads behind the call as it read before'; 0 by the template 'total and deterministic' (their statements: YtkcdmmafkpplhaaGreatTotals.lean).
  GIVEN WITH THE SEED: the statements are not yours to turn. If you find one false, say at which input.
  Laid BY PROGRAM, IN A SANDBOX (cutbox-rows.mjs): the forced cells as the released guide's own fill.sh prints them over the translation 347537347a7f0f4a… (all of the seat's roots in one cut). By AI agents, Wed Nov 11 2026. No macro, syntax, notation, axiom, sorry.
-/
import Derived.Test.YtkcdmmafkpplhaaGreatChecked
import GoSem.Claim
import GoSem.ClaimJoined
import GoSem.ClaimMapViews
import Derived.JoinedTies
import Derived.KernelRfl
namespace Go.Proofs.YtkcdmmafkpplhaaGreat
/- THE CELL 'sum', in the pinned program and in every row, IS THE sha256 OF THE DUMP (.gsa) THAT YtkcdmmafkpplhaaGreatProg.lean LOADS. Nothing in Lean hashes anything: it is a label: what it is worth is what the hold of that sum in a sandbox is worth. -/
noncomputable def Tryz.pinned : Pinned := { name := "ytkcdmmafkpplhaagreat", sum := "347537347a7f0f4ab5d07f82aebd92569e0dd5dc850af99872ac78325f30d675", checked := Tryz.checked }
namespace Rows
def none {H : Type} : Left H := { results := [], args := [] }

/-- 'typebarlaw24.EditorRuns': WHATEVER THE INPUT: true; the input reads as it did. -/
def editorRunsSpec : ChangeSpec := { name := "editorRuns", fn := fun _ => fun
  | [d1, d2, d3, d4] => { results := [.lit (.bool true)], args := [d1, d2, d3, d4] }
  | _ => none }
def editorRunsRow : OpenClaim := { program := "ytkcdmmafkpplhaagreat", sum := "347537347a7f0f4ab5d07f82aebd92569e0dd5dc850af99872ac78325f30d675", func := "typebar/typebarlaw24.EditorRuns", spec := "editorRuns", inPlace := ["slices.overlaps[typebar/api.Slot]"], unfollowed := true, recurses := true, plainKeys := false, apart := false }
def EditorRunsSaid : Prop := editorRunsRow.holds Tryz.pinned (OpenSpec.ofChange editorRunsSpec)

/-- ITS FALSE NEIGHBOUR: 'it returns false'. Refute it at one input. -/
def editorRunsWrong : ChangeSpec := { name := "editorRuns", fn := fun _ => fun
  | [d1, d2, d3, d4] => { results := [.lit (.bool false)], args := [d1, d2, d3, d4] }
  | _ => none }
def EditorRunsWrongFalsely : Prop := editorRunsRow.holds Tryz.pinned (OpenSpec.ofChange editorRunsWrong)

/-- 'typebarlaw24.EditorStays': WHATEVER THE INPUT: true; the input reads as it did. -/
def editorStaysSpec : ChangeSpec := { name := "editorStays", fn := fun _ => fun
  | [d1, d2] => { results := [.lit (.bool true)], args := [d1, d2] }
  | _ => none }
def editorStaysRow : OpenClaim := { program := "ytkcdmmafkpplhaagreat", sum := "347537347a7f0f4ab5d07f82aebd92569e0dd5dc850af99872ac78325f30d675", func := "typebar/typebarlaw24.EditorStays", spec := "editorStays", inPlace := ["slices.overlaps[typebar/api.Slot]"], unfollowed := true, recurses := true, plainKeys := false, apart := false }
def EditorStaysSaid : Prop := editorStaysRow.holds Tryz.pinned (OpenSpec.ofChange editorStaysSpec)

/-- ITS FALSE NEIGHBOUR: 'it returns false'. Refute it at one input. -/
def editorStaysWrong : ChangeSpec := { name := "editorStays", fn := fun _ => fun
  | [d1, d2] => { results := [.lit (.bool false)], args := [d1, d2] }
  | _ => none }
def EditorStaysWrongFalsely : Prop := editorStaysRow.holds Tryz.pinned (OpenSpec.ofChange editorStaysWrong)

/-- 'typebarlaw24.EditorTypes': WHATEVER THE INPUT: true; the input reads as it did. -/
def editorTypesSpec : ChangeSpec := { name := "editorTypes", fn := fun _ => fun
  | [d1, d2, d3, d4] => { results := [.lit (.bool true)], args := [d1, d2, d3, d4] }
  | _ => none }
def editorTypesRow : OpenClaim := { program := "ytkcdmmafkpplhaagreat", sum := "347537347a7f0f4ab5d07f82aebd92569e0dd5dc850af99872ac78325f30d675", func := "typebar/typebarlaw24.EditorTypes", spec := "editorTypes", inPlace := ["slices.overlaps[typebar/api.Slot]"], unfollowed := true, recurses := true, plainKeys := false, apart := false }
def EditorTypesSaid : Prop := editorTypesRow.holds Tryz.pinned (OpenSpec.ofChange editorTypesSpec)

/-- ITS FALSE NEIGHBOUR: 'it returns false'. Refute it at one input. -/
def editorTypesWrong : ChangeSpec := { name := "editorTypes", fn := fun _ => fun
  | [d1, d2, d3, d4] => { results := [.lit (.bool false)], args := [d1, d2, d3, d4] }
  | _ => none }
def EditorTypesWrongFalsely : Prop := editorTypesRow.holds Tryz.pinned (OpenSpec.ofChange editorTypesWrong)

/-- 'typebarlaw24.EditorSeeks': WHATEVER THE INPUT: true; the input reads as it did. -/
def editorSeeksSpec : ChangeSpec := { name := "editorSeeks", fn := fun _ => fun
  | [d1, d2] => { results := [.lit (.bool true)], args := [d1, d2] }
  | _ => none }
def editorSeeksRow : OpenClaim := { program := "ytkcdmmafkpplhaagreat", sum := "347537347a7f0f4ab5d07f82aebd92569e0dd5dc850af99872ac78325f30d675", func := "typebar/typebarlaw24.EditorSeeks", spec := "editorSeeks", inPlace := ["slices.overlaps[typebar/api.Slot]"], unfollowed := true, recurses := true, plainKeys := false, apart := false }
def EditorSeeksSaid : Prop := editorSeeksRow.holds Tryz.pinned (OpenSpec.ofChange editorSeeksSpec)

/-- ITS FALSE NEIGHBOUR: 'it returns false'. Refute it at one input. -/
def editorSeeksWrong : ChangeSpec := { name := "editorSeeks", fn := fun _ => fun
  | [d1, d2] => { results := [.lit (.bool false)], args := [d1, d2] }
  | _ => none }
def EditorSeeksWrongFalsely : Prop := editorSeeksRow.holds Tryz.pinned (OpenSpec.ofChange editorSeeksWrong)

/- THE SECOND FORM. 'bulk': how many values and letters a reading holds, each counted each time it is reached (what is shared counts as often as it is met; a slice's spare places count too). A statement '..UptoSaid' is the law's where the arguments, and the package variables that the reading takes, are together of bulk at most 1048576: NARROWER than '..Said'. Prove '..Said' where nothing that the law and all that it calls make is longer than what came in: it says more and counts as full. Else prove '..UptoSaid'. A law counts once. -/
mutual
def uptoBulk {H : Type} : DataW H → Nat
  | .lit (.string bytes) => bytes.length + 1
  | .lit _ => 1
  | .nil => 1
  | .ptr d => uptoBulk d + 1
  | .slice elems spare => uptoBulkAll elems + uptoBulkAll spare + 1
  | .agg parts => uptoBulkAll parts + 1
  | .iface _ d => uptoBulk d + 1
  | .map entries => uptoBulkEntries entries + 1
  | .held _ => 1
def uptoBulkAll {H : Type} : List (DataW H) → Nat
  | [] => 0
  | d :: r => uptoBulk d + uptoBulkAll r
def uptoBulkEntries {H : Type} : List (Lit × DataW H) → Nat
  | [] => 0
  | x :: r => uptoBulkEntry x + uptoBulkEntries r
def uptoBulkEntry {H : Type} : Lit × DataW H → Nat
  | (.string bytes, d) => bytes.length + uptoBulk d + 1
  | (_, d) => uptoBulk d + 1
 end
def uptoSmall : (H : Type) → List (DataW H) → Bool := fun _ ds => decide (uptoBulkAll ds ≤ 1048576)
def OpenSpec.upto (s : _root_.Go.ChangeSpec) : _root_.Go.OpenSpec := { _root_.Go.OpenSpec.ofChange s with cond := some uptoSmall }

/-- 'typebarlaw24.EditorRuns', WHERE WHAT IT READS IS OF BULK AT MOST 1048576: true; the input reads as it did. -/
def editorRunsUptoRow : OpenClaim := { program := "ytkcdmmafkpplhaagreat", sum := "347537347a7f0f4ab5d07f82aebd92569e0dd5dc850af99872ac78325f30d675", func := "typebar/typebarlaw24.EditorRuns", spec := "editorRuns", inPlace := ["slices.overlaps[typebar/api.Slot]"], unfollowed := true, recurses := true, plainKeys := false, apart := false, narrowed := true }
def EditorRunsUptoSaid : Prop := editorRunsUptoRow.holds Tryz.pinned (OpenSpec.upto editorRunsSpec)

/-- 'typebarlaw24.EditorStays', WHERE WHAT IT READS IS OF BULK AT MOST 1048576: true; the input reads as it did. -/
def editorStaysUptoRow : OpenClaim := { program := "ytkcdmmafkpplhaagreat", sum := "347537347a7f0f4ab5d07f82aebd92569e0dd5dc850af99872ac78325f30d675", func := "typebar/typebarlaw24.EditorStays", spec := "editorStays", inPlace := ["slices.overlaps[typebar/api.Slot]"], unfollowed := true, recurses := true, plainKeys := false, apart := false, narrowed := true }
def EditorStaysUptoSaid : Prop := editorStaysUptoRow.holds Tryz.pinned (OpenSpec.upto editorStaysSpec)

/-- 'typebarlaw24.EditorTypes', WHERE WHAT IT READS IS OF BULK AT MOST 1048576: true; the input reads as it did. -/
def editorTypesUptoRow : OpenClaim := { program := "ytkcdmmafkpplhaagreat", sum := "347537347a7f0f4ab5d07f82aebd92569e0dd5dc850af99872ac78325f30d675", func := "typebar/typebarlaw24.EditorTypes", spec := "editorTypes", inPlace := ["slices.overlaps[typebar/api.Slot]"], unfollowed := true, recurses := true, plainKeys := false, apart := false, narrowed := true }
def EditorTypesUptoSaid : Prop := editorTypesUptoRow.holds Tryz.pinned (OpenSpec.upto editorTypesSpec)

/-- 'typebarlaw24.EditorSeeks', WHERE WHAT IT READS IS OF BULK AT MOST 1048576: true; the input reads as it did. -/
def editorSeeksUptoRow : OpenClaim := { program := "ytkcdmmafkpplhaagreat", sum := "347537347a7f0f4ab5d07f82aebd92569e0dd5dc850af99872ac78325f30d675", func := "typebar/typebarlaw24.EditorSeeks", spec := "editorSeeks", inPlace := ["slices.overlaps[typebar/api.Slot]"], unfollowed := true, recurses := true, plainKeys := false, apart := false, narrowed := true }
def EditorSeeksUptoSaid : Prop := editorSeeksUptoRow.holds Tryz.pinned (OpenSpec.upto editorSeeksSpec)

end Rows
end Go.Proofs.YtkcdmmafkpplhaaGreat
