/-
  No cell of these rows narrows 'for every input' (looked for: loops, veiled, ifaces, maps, wideKeys, modest, calm, conditions, laid).
  DERIVED. THE GIVEN ROWS OF THIS SEAT. 7 by the template 'for every input the law returns true; each argument reads behind the call as it read before'; 0 by the template 'total and deterministic' (their statements: YtcohdlochpjnjaaTotals.lean).
  GIVEN WITH THE SEED: the statements are not yours to turn. If you find one false, say at which input.
  Laid BY PROGRAM, IN A SANDBOX (cutbox-rows.mjs): the forced cells as the released guide's own fill.sh prints them over the translation 4c2906aeacc53657… (all of the seat's roots in one cut). By AI agents, Wed Nov 11 2026. No macro, syntax, notation, axiom, sorry.
-/
import Derived.Test.YtcohdlochpjnjaaChecked
import GoSem.Claim
import GoSem.ClaimJoined
import GoSem.ClaimMapViews
import Derived.JoinedTies
import Derived.KernelRfl
namespace Go.Proofs.Ytcohdlochpjnjaa
/- THE CELL 'sum', in the pinned program and in every row, IS THE sha256 OF THE DUMP (.gsa) THAT YtcohdlochpjnjaaProg.lean LOADS. Nothing in Lean hashes anything: it is a label: what it is worth is what the hold of that sum in a sandbox is worth. -/
noncomputable def Try.pinned : Pinned := { name := "ytcohdlochpjnjaa", sum := "4c2906aeacc53657189ce6a3b605ad9655f6e34bc643004c374545767ba9379e", checked := Try.checked }
namespace Rows
def none {H : Type} : Left H := { results := [], args := [] }

/-- 'hopmeshlaw55.RecordDecodes': WHATEVER THE INPUT: true; the input reads as it did. -/
def recordDecodesSpec : ChangeSpec := { name := "recordDecodes", fn := fun _ => fun
  | [d] => { results := [.lit (.bool true)], args := [d] }
  | _ => none }
def recordDecodesRow : OpenClaim := { program := "ytcohdlochpjnjaa", sum := "4c2906aeacc53657189ce6a3b605ad9655f6e34bc643004c374545767ba9379e", func := "hopmesh/hopmeshlaw55.RecordDecodes", spec := "recordDecodes", unfollowed := true, recurses := true, apart := false }
def RecordDecodesSaid : Prop := recordDecodesRow.holds Try.pinned (OpenSpec.ofChange recordDecodesSpec)

/-- ITS FALSE NEIGHBOUR: 'it returns false'. Refute it at one input. -/
def recordDecodesWrong : ChangeSpec := { name := "recordDecodes", fn := fun _ => fun
  | [d] => { results := [.lit (.bool false)], args := [d] }
  | _ => none }
def RecordDecodesWrongFalsely : Prop := recordDecodesRow.holds Try.pinned (OpenSpec.ofChange recordDecodesWrong)

/-- 'hopmeshlaw55.RecordEncodes': WHATEVER THE INPUT: true; the input reads as it did. -/
def recordEncodesSpec : ChangeSpec := { name := "recordEncodes", fn := fun _ => fun
  | [d] => { results := [.lit (.bool true)], args := [d] }
  | _ => none }
def recordEncodesRow : OpenClaim := { program := "ytcohdlochpjnjaa", sum := "4c2906aeacc53657189ce6a3b605ad9655f6e34bc643004c374545767ba9379e", func := "hopmesh/hopmeshlaw55.RecordEncodes", spec := "recordEncodes", unfollowed := true, recurses := true, apart := false }
def RecordEncodesSaid : Prop := recordEncodesRow.holds Try.pinned (OpenSpec.ofChange recordEncodesSpec)

/-- ITS FALSE NEIGHBOUR: 'it returns false'. Refute it at one input. -/
def recordEncodesWrong : ChangeSpec := { name := "recordEncodes", fn := fun _ => fun
  | [d] => { results := [.lit (.bool false)], args := [d] }
  | _ => none }
def RecordEncodesWrongFalsely : Prop := recordEncodesRow.holds Try.pinned (OpenSpec.ofChange recordEncodesWrong)

/-- 'hopmeshlaw55.RecordReturns': WHATEVER THE INPUT: true; the input reads as it did. -/
def recordReturnsSpec : ChangeSpec := { name := "recordReturns", fn := fun _ => fun
  | [d1, d2] => { results := [.lit (.bool true)], args := [d1, d2] }
  | _ => none }
def recordReturnsRow : OpenClaim := { program := "ytcohdlochpjnjaa", sum := "4c2906aeacc53657189ce6a3b605ad9655f6e34bc643004c374545767ba9379e", func := "hopmesh/hopmeshlaw55.RecordReturns", spec := "recordReturns", unfollowed := true, recurses := true, apart := false }
def RecordReturnsSaid : Prop := recordReturnsRow.holds Try.pinned (OpenSpec.ofChange recordReturnsSpec)

/-- ITS FALSE NEIGHBOUR: 'it returns false'. Refute it at one input. -/
def recordReturnsWrong : ChangeSpec := { name := "recordReturns", fn := fun _ => fun
  | [d1, d2] => { results := [.lit (.bool false)], args := [d1, d2] }
  | _ => none }
def RecordReturnsWrongFalsely : Prop := recordReturnsRow.holds Try.pinned (OpenSpec.ofChange recordReturnsWrong)

/-- 'hopmeshlaw55.RecordRuns': WHATEVER THE INPUT: true; the input reads as it did. -/
def recordRunsSpec : ChangeSpec := { name := "recordRuns", fn := fun _ => fun
  | [d1, d2, d3, d4, d5] => { results := [.lit (.bool true)], args := [d1, d2, d3, d4, d5] }
  | _ => none }
def recordRunsRow : OpenClaim := { program := "ytcohdlochpjnjaa", sum := "4c2906aeacc53657189ce6a3b605ad9655f6e34bc643004c374545767ba9379e", func := "hopmesh/hopmeshlaw55.RecordRuns", spec := "recordRuns", unfollowed := true, recurses := true, apart := false }
def RecordRunsSaid : Prop := recordRunsRow.holds Try.pinned (OpenSpec.ofChange recordRunsSpec)

/-- ITS FALSE NEIGHBOUR: 'it returns false'. Refute it at one input. -/
def recordRunsWrong : ChangeSpec := { name := "recordRuns", fn := fun _ => fun
  | [d1, d2, d3, d4, d5] => { results := [.lit (.bool false)], args := [d1, d2, d3, d4, d5] }
  | _ => none }
def RecordRunsWrongFalsely : Prop := recordRunsRow.holds Try.pinned (OpenSpec.ofChange recordRunsWrong)

/-- 'hopmeshlaw55.RecordAsks': WHATEVER THE INPUT: true; the input reads as it did. -/
def recordAsksSpec : ChangeSpec := { name := "recordAsks", fn := fun _ => fun
  | [d1, d2, d3, d4, d5] => { results := [.lit (.bool true)], args := [d1, d2, d3, d4, d5] }
  | _ => none }
def recordAsksRow : OpenClaim := { program := "ytcohdlochpjnjaa", sum := "4c2906aeacc53657189ce6a3b605ad9655f6e34bc643004c374545767ba9379e", func := "hopmesh/hopmeshlaw55.RecordAsks", spec := "recordAsks", unfollowed := true, recurses := true, apart := false }
def RecordAsksSaid : Prop := recordAsksRow.holds Try.pinned (OpenSpec.ofChange recordAsksSpec)

/-- ITS FALSE NEIGHBOUR: 'it returns false'. Refute it at one input. -/
def recordAsksWrong : ChangeSpec := { name := "recordAsks", fn := fun _ => fun
  | [d1, d2, d3, d4, d5] => { results := [.lit (.bool false)], args := [d1, d2, d3, d4, d5] }
  | _ => none }
def RecordAsksWrongFalsely : Prop := recordAsksRow.holds Try.pinned (OpenSpec.ofChange recordAsksWrong)

/-- 'hopmeshlaw55.RecordCuts': WHATEVER THE INPUT: true; the input reads as it did. -/
def recordCutsSpec : ChangeSpec := { name := "recordCuts", fn := fun _ => fun
  | [d1, d2, d3] => { results := [.lit (.bool true)], args := [d1, d2, d3] }
  | _ => none }
def recordCutsRow : OpenClaim := { program := "ytcohdlochpjnjaa", sum := "4c2906aeacc53657189ce6a3b605ad9655f6e34bc643004c374545767ba9379e", func := "hopmesh/hopmeshlaw55.RecordCuts", spec := "recordCuts", unfollowed := true, recurses := true, apart := false }
def RecordCutsSaid : Prop := recordCutsRow.holds Try.pinned (OpenSpec.ofChange recordCutsSpec)

/-- ITS FALSE NEIGHBOUR: 'it returns false'. Refute it at one input. -/
def recordCutsWrong : ChangeSpec := { name := "recordCuts", fn := fun _ => fun
  | [d1, d2, d3] => { results := [.lit (.bool false)], args := [d1, d2, d3] }
  | _ => none }
def RecordCutsWrongFalsely : Prop := recordCutsRow.holds Try.pinned (OpenSpec.ofChange recordCutsWrong)

/-- 'hopmeshlaw55.RecordHalves': WHATEVER THE INPUT: true; the input reads as it did. -/
def recordHalvesSpec : ChangeSpec := { name := "recordHalves", fn := fun _ => fun
  | [d1, d2] => { results := [.lit (.bool true)], args := [d1, d2] }
  | _ => none }
def recordHalvesRow : OpenClaim := { program := "ytcohdlochpjnjaa", sum := "4c2906aeacc53657189ce6a3b605ad9655f6e34bc643004c374545767ba9379e", func := "hopmesh/hopmeshlaw55.RecordHalves", spec := "recordHalves", unfollowed := true, recurses := true, apart := false }
def RecordHalvesSaid : Prop := recordHalvesRow.holds Try.pinned (OpenSpec.ofChange recordHalvesSpec)

/-- ITS FALSE NEIGHBOUR: 'it returns false'. Refute it at one input. -/
def recordHalvesWrong : ChangeSpec := { name := "recordHalves", fn := fun _ => fun
  | [d1, d2] => { results := [.lit (.bool false)], args := [d1, d2] }
  | _ => none }
def RecordHalvesWrongFalsely : Prop := recordHalvesRow.holds Try.pinned (OpenSpec.ofChange recordHalvesWrong)

/- THE SECOND FORM. 'bulk': how many values and letters a reading holds, each counted each time it is reached (what is shared counts as often as it is met; a slice's spare places count too). A statement '..UptoSaid' is the law's where the arguments, and the package variables that the reading takes, are together of bulk at most 1048576: NARROWER than '..Said'. Prove '..Said' where nothing that the law and all that it calls make is longer than what came in: it says more and counts as full. Else prove '..UptoSaid'. A law counts once. -/
mutual
def uptoBulk {H : Type} : DataW H → Nat
  | .lit (.string bytes) => bytes.length + 1
  | .lit _ => 1
  | .nil => 1
  | .ptr d => uptoBulk d + 1
  | .slice elems spare => uptoBulkAll elems + uptoBulkAll spare + 1
  | .agg parts => uptoBulkAll parts + 1
  | .iface _ d => uptoBulk d + 1
  | .map entries => uptoBulkEntries entries + 1
  | .held _ => 1
def uptoBulkAll {H : Type} : List (DataW H) → Nat
  | [] => 0
  | d :: r => uptoBulk d + uptoBulkAll r
def uptoBulkEntries {H : Type} : List (Lit × DataW H) → Nat
  | [] => 0
  | x :: r => uptoBulkEntry x + uptoBulkEntries r
def uptoBulkEntry {H : Type} : Lit × DataW H → Nat
  | (.string bytes, d) => bytes.length + uptoBulk d + 1
  | (_, d) => uptoBulk d + 1
 end
def uptoSmall : (H : Type) → List (DataW H) → Bool := fun _ ds => decide (uptoBulkAll ds ≤ 1048576)
def OpenSpec.upto (s : _root_.Go.ChangeSpec) : _root_.Go.OpenSpec := { _root_.Go.OpenSpec.ofChange s with cond := some uptoSmall }

/-- 'hopmeshlaw55.RecordDecodes', WHERE WHAT IT READS IS OF BULK AT MOST 1048576: true; the input reads as it did. -/
def recordDecodesUptoRow : OpenClaim := { program := "ytcohdlochpjnjaa", sum := "4c2906aeacc53657189ce6a3b605ad9655f6e34bc643004c374545767ba9379e", func := "hopmesh/hopmeshlaw55.RecordDecodes", spec := "recordDecodes", unfollowed := true, recurses := true, apart := false, narrowed := true }
def RecordDecodesUptoSaid : Prop := recordDecodesUptoRow.holds Try.pinned (OpenSpec.upto recordDecodesSpec)

/-- 'hopmeshlaw55.RecordEncodes', WHERE WHAT IT READS IS OF BULK AT MOST 1048576: true; the input reads as it did. -/
def recordEncodesUptoRow : OpenClaim := { program := "ytcohdlochpjnjaa", sum := "4c2906aeacc53657189ce6a3b605ad9655f6e34bc643004c374545767ba9379e", func := "hopmesh/hopmeshlaw55.RecordEncodes", spec := "recordEncodes", unfollowed := true, recurses := true, apart := false, narrowed := true }
def RecordEncodesUptoSaid : Prop := recordEncodesUptoRow.holds Try.pinned (OpenSpec.upto recordEncodesSpec)

/-- 'hopmeshlaw55.RecordReturns', WHERE WHAT IT READS IS OF BULK AT MOST 1048576: true; the input reads as it did. -/
def recordReturnsUptoRow : OpenClaim := { program := "ytcohdlochpjnjaa", sum := "4c2906aeacc53657189ce6a3b605ad9655f6e34bc643004c374545767ba9379e", func := "hopmesh/hopmeshlaw55.RecordReturns", spec := "recordReturns", unfollowed := true, recurses := true, apart := false, narrowed := true }
def RecordReturnsUptoSaid : Prop := recordReturnsUptoRow.holds Try.pinned (OpenSpec.upto recordReturnsSpec)

/-- 'hopmeshlaw55.RecordRuns', WHERE WHAT IT READS IS OF BULK AT MOST 1048576: true; the input reads as it did. -/
def recordRunsUptoRow : OpenClaim := { program := "ytcohdlochpjnjaa", sum := "4c2906aeacc53657189ce6a3b605ad9655f6e34bc643004c374545767ba9379e", func := "hopmesh/hopmeshlaw55.RecordRuns", spec := "recordRuns", unfollowed := true, recurses := true, apart := false, narrowed := true }
def RecordRunsUptoSaid : Prop := recordRunsUptoRow.holds Try.pinned (OpenSpec.upto recordRunsSpec)

/-- 'hopmeshlaw55.RecordAsks', WHERE WHAT IT READS IS OF BULK AT MOST 1048576: true; the input reads as it did. -/
def recordAsksUptoRow : OpenClaim := { program := "ytcohdlochpjnjaa", sum := "4c2906aeacc53657189ce6a3b605ad9655f6e34bc643004c374545767ba9379e", func := "hopmesh/hopmeshlaw55.RecordAsks", spec := "recordAsks", unfollowed := true, recurses := true, apart := false, narrowed := true }
def RecordAsksUptoSaid : Prop := recordAsksUptoRow.holds Try.pinned (OpenSpec.upto recordAsksSpec)

/-- 'hopmeshlaw55.RecordCuts', WHERE WHAT IT READS IS OF BULK AT MOST 1048576: true; the input reads as it did. -/
def recordCutsUptoRow : OpenClaim := { program := "ytcohdlochpjnjaa", sum := "4c2906aeacc53657189ce6a3b605ad9655f6e34bc643004c374545767ba9379e", func := "hopmesh/hopmeshlaw55.RecordCuts", spec := "recordCuts", unfollowed := true, recurses := true, apart := false, narrowed := true }
def RecordCutsUptoSaid : Prop := recordCutsUptoRow.holds Try.pinned (OpenSpec.upto recordCutsSpec)

/-- 'hopmeshlaw55.RecordHalves', WHERE WHAT IT READS IS OF BULK AT MOST 1048576: true; the input reads as it did. -/
def recordHalvesUptoRow : OpenClaim := { program := "ytcohdlochpjnjaa", sum := "4c2906aeacc53657189ce6a3b605ad9655f6e34bc643004c374545767ba9379e", func := "hopmesh/hopmeshlaw55.RecordHalves", spec := "recordHalves", unfollowed := true, recurses := true, apart := false, narrowed := true }
def RecordHalvesUptoSaid : Prop := recordHalvesUptoRow.holds Try.pinned (OpenSpec.upto recordHalvesSpec)

end Rows
end Go.Proofs.Ytcohdlochpjnjaa
