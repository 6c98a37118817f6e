/-
  No cell of these rows narrows 'for every input' (looked for: loops, veiled, ifaces, maps, wideKeys, modest, calm, conditions, laid).
  DERIVED. THE GIVEN ROWS OF THIS SEAT. 8 by the template 'for every input the law returns true; each argument reads behind the call as it read before'; 0 by the template 'total and deterministic' (their statements: YtkhooomjfjancaaTotals.lean).
  GIVEN WITH THE SEED: the statements are not yours to turn. If you find one false, say at which input.
  Laid BY PROGRAM, IN A SANDBOX (cutbox-rows.mjs): the forced cells as the released guide's own fill.sh prints them over the translation 9ab4ebd5b0cb8fb5… (all of the seat's roots in one cut). By AI agents, Wed Nov 11 2026. No macro, syntax, notation, axiom, sorry.
-/
import Derived.Test.YtkhooomjfjancaaChecked
import GoSem.Claim
import GoSem.ClaimJoined
import GoSem.ClaimMapViews
import Derived.JoinedTies
import Derived.KernelRfl
namespace Go.Proofs.Ytkhooomjfjancaa
/- THE CELL 'sum', in the pinned program and in every row, IS THE sha256 OF THE DUMP (.gsa) THAT YtkhooomjfjancaaProg.lean LOADS. Nothing in Lean hashes anything: it is a label: what it is worth is what the hold of that sum in a sandbox is worth. -/
noncomputable def Try.pinned : Pinned := { name := "ytkhooomjfjancaa", sum := "9ab4ebd5b0cb8fb56a85df540f48040bd1a2df4707c227a87824662c4f3a5e2f", checked := Try.checked }
namespace Rows
def none {H : Type} : Left H := { results := [], args := [] }

/-- 'laws.FnExactFracOf': WHATEVER THE INPUT: true; the input reads as it did. -/
def fnExactFracOfSpec : ChangeSpec := { name := "fnExactFracOf", fn := fun _ => fun
  | [d1, d2] => { results := [.lit (.bool true)], args := [d1, d2] }
  | _ => none }
def fnExactFracOfRow : OpenClaim := { program := "ytkhooomjfjancaa", sum := "9ab4ebd5b0cb8fb56a85df540f48040bd1a2df4707c227a87824662c4f3a5e2f", func := "loop.example/elevators/laws.FnExactFracOf", spec := "fnExactFracOf", apart := false }
def FnExactFracOfSaid : Prop := fnExactFracOfRow.holds Try.pinned (OpenSpec.ofChange fnExactFracOfSpec)

/-- ITS FALSE NEIGHBOUR: 'it returns false'. Refute it at one input. -/
def fnExactFracOfWrong : ChangeSpec := { name := "fnExactFracOf", fn := fun _ => fun
  | [d1, d2] => { results := [.lit (.bool false)], args := [d1, d2] }
  | _ => none }
def FnExactFracOfWrongFalsely : Prop := fnExactFracOfRow.holds Try.pinned (OpenSpec.ofChange fnExactFracOfWrong)

/-- 'laws.FnExactFracLess': WHATEVER THE INPUT: true; the input reads as it did. -/
def fnExactFracLessSpec : ChangeSpec := { name := "fnExactFracLess", fn := fun _ => fun
  | [d1, d2] => { results := [.lit (.bool true)], args := [d1, d2] }
  | _ => none }
def fnExactFracLessRow : OpenClaim := { program := "ytkhooomjfjancaa", sum := "9ab4ebd5b0cb8fb56a85df540f48040bd1a2df4707c227a87824662c4f3a5e2f", func := "loop.example/elevators/laws.FnExactFracLess", spec := "fnExactFracLess", apart := false }
def FnExactFracLessSaid : Prop := fnExactFracLessRow.holds Try.pinned (OpenSpec.ofChange fnExactFracLessSpec)

/-- ITS FALSE NEIGHBOUR: 'it returns false'. Refute it at one input. -/
def fnExactFracLessWrong : ChangeSpec := { name := "fnExactFracLess", fn := fun _ => fun
  | [d1, d2] => { results := [.lit (.bool false)], args := [d1, d2] }
  | _ => none }
def FnExactFracLessWrongFalsely : Prop := fnExactFracLessRow.holds Try.pinned (OpenSpec.ofChange fnExactFracLessWrong)

/-- 'laws.FnExactMeanStops': WHATEVER THE INPUT: true; the input reads as it did. -/
def fnExactMeanStopsSpec : ChangeSpec := { name := "fnExactMeanStops", fn := fun _ => fun
  | [d1, d2] => { results := [.lit (.bool true)], args := [d1, d2] }
  | _ => none }
def fnExactMeanStopsRow : OpenClaim := { program := "ytkhooomjfjancaa", sum := "9ab4ebd5b0cb8fb56a85df540f48040bd1a2df4707c227a87824662c4f3a5e2f", func := "loop.example/elevators/laws.FnExactMeanStops", spec := "fnExactMeanStops", apart := false }
def FnExactMeanStopsSaid : Prop := fnExactMeanStopsRow.holds Try.pinned (OpenSpec.ofChange fnExactMeanStopsSpec)

/-- ITS FALSE NEIGHBOUR: 'it returns false'. Refute it at one input. -/
def fnExactMeanStopsWrong : ChangeSpec := { name := "fnExactMeanStops", fn := fun _ => fun
  | [d1, d2] => { results := [.lit (.bool false)], args := [d1, d2] }
  | _ => none }
def FnExactMeanStopsWrongFalsely : Prop := fnExactMeanStopsRow.holds Try.pinned (OpenSpec.ofChange fnExactMeanStopsWrong)

/-- 'laws.FnExactMeanTop': WHATEVER THE INPUT: true; the input reads as it did. -/
def fnExactMeanTopSpec : ChangeSpec := { name := "fnExactMeanTop", fn := fun _ => fun
  | [d1, d2] => { results := [.lit (.bool true)], args := [d1, d2] }
  | _ => none }
def fnExactMeanTopRow : OpenClaim := { program := "ytkhooomjfjancaa", sum := "9ab4ebd5b0cb8fb56a85df540f48040bd1a2df4707c227a87824662c4f3a5e2f", func := "loop.example/elevators/laws.FnExactMeanTop", spec := "fnExactMeanTop", apart := false }
def FnExactMeanTopSaid : Prop := fnExactMeanTopRow.holds Try.pinned (OpenSpec.ofChange fnExactMeanTopSpec)

/-- ITS FALSE NEIGHBOUR: 'it returns false'. Refute it at one input. -/
def fnExactMeanTopWrong : ChangeSpec := { name := "fnExactMeanTop", fn := fun _ => fun
  | [d1, d2] => { results := [.lit (.bool false)], args := [d1, d2] }
  | _ => none }
def FnExactMeanTopWrongFalsely : Prop := fnExactMeanTopRow.holds Try.pinned (OpenSpec.ofChange fnExactMeanTopWrong)

/-- 'laws.FnFracOf': WHATEVER THE INPUT: true; the input reads as it did. -/
def fnFracOfSpec : ChangeSpec := { name := "fnFracOf", fn := fun _ => fun
  | [d] => { results := [.lit (.bool true)], args := [d] }
  | _ => none }
def fnFracOfRow : OpenClaim := { program := "ytkhooomjfjancaa", sum := "9ab4ebd5b0cb8fb56a85df540f48040bd1a2df4707c227a87824662c4f3a5e2f", func := "loop.example/elevators/laws.FnFracOf", spec := "fnFracOf", apart := false }
def FnFracOfSaid : Prop := fnFracOfRow.holds Try.pinned (OpenSpec.ofChange fnFracOfSpec)

/-- ITS FALSE NEIGHBOUR: 'it returns false'. Refute it at one input. -/
def fnFracOfWrong : ChangeSpec := { name := "fnFracOf", fn := fun _ => fun
  | [d] => { results := [.lit (.bool false)], args := [d] }
  | _ => none }
def FnFracOfWrongFalsely : Prop := fnFracOfRow.holds Try.pinned (OpenSpec.ofChange fnFracOfWrong)

/-- 'laws.FnFracLess': WHATEVER THE INPUT: true; the input reads as it did. -/
def fnFracLessSpec : ChangeSpec := { name := "fnFracLess", fn := fun _ => fun
  | [d] => { results := [.lit (.bool true)], args := [d] }
  | _ => none }
def fnFracLessRow : OpenClaim := { program := "ytkhooomjfjancaa", sum := "9ab4ebd5b0cb8fb56a85df540f48040bd1a2df4707c227a87824662c4f3a5e2f", func := "loop.example/elevators/laws.FnFracLess", spec := "fnFracLess", apart := false }
def FnFracLessSaid : Prop := fnFracLessRow.holds Try.pinned (OpenSpec.ofChange fnFracLessSpec)

/-- ITS FALSE NEIGHBOUR: 'it returns false'. Refute it at one input. -/
def fnFracLessWrong : ChangeSpec := { name := "fnFracLess", fn := fun _ => fun
  | [d] => { results := [.lit (.bool false)], args := [d] }
  | _ => none }
def FnFracLessWrongFalsely : Prop := fnFracLessRow.holds Try.pinned (OpenSpec.ofChange fnFracLessWrong)

/-- 'laws.FnMeanStops': WHATEVER THE INPUT: true; the input reads as it did. -/
def fnMeanStopsSpec : ChangeSpec := { name := "fnMeanStops", fn := fun _ => fun
  | [d] => { results := [.lit (.bool true)], args := [d] }
  | _ => none }
def fnMeanStopsRow : OpenClaim := { program := "ytkhooomjfjancaa", sum := "9ab4ebd5b0cb8fb56a85df540f48040bd1a2df4707c227a87824662c4f3a5e2f", func := "loop.example/elevators/laws.FnMeanStops", spec := "fnMeanStops", apart := false }
def FnMeanStopsSaid : Prop := fnMeanStopsRow.holds Try.pinned (OpenSpec.ofChange fnMeanStopsSpec)

/-- ITS FALSE NEIGHBOUR: 'it returns false'. Refute it at one input. -/
def fnMeanStopsWrong : ChangeSpec := { name := "fnMeanStops", fn := fun _ => fun
  | [d] => { results := [.lit (.bool false)], args := [d] }
  | _ => none }
def FnMeanStopsWrongFalsely : Prop := fnMeanStopsRow.holds Try.pinned (OpenSpec.ofChange fnMeanStopsWrong)

/-- 'laws.FnMeanTop': WHATEVER THE INPUT: true; the input reads as it did. -/
def fnMeanTopSpec : ChangeSpec := { name := "fnMeanTop", fn := fun _ => fun
  | [d] => { results := [.lit (.bool true)], args := [d] }
  | _ => none }
def fnMeanTopRow : OpenClaim := { program := "ytkhooomjfjancaa", sum := "9ab4ebd5b0cb8fb56a85df540f48040bd1a2df4707c227a87824662c4f3a5e2f", func := "loop.example/elevators/laws.FnMeanTop", spec := "fnMeanTop", apart := false }
def FnMeanTopSaid : Prop := fnMeanTopRow.holds Try.pinned (OpenSpec.ofChange fnMeanTopSpec)

/-- ITS FALSE NEIGHBOUR: 'it returns false'. Refute it at one input. -/
def fnMeanTopWrong : ChangeSpec := { name := "fnMeanTop", fn := fun _ => fun
  | [d] => { results := [.lit (.bool false)], args := [d] }
  | _ => none }
def FnMeanTopWrongFalsely : Prop := fnMeanTopRow.holds Try.pinned (OpenSpec.ofChange fnMeanTopWrong)

/- THE SECOND FORM. 'bulk': how many values and letters a reading holds, each counted each time it is reached (what is shared counts as often as it is met; a slice's spare places count too). A statement '..UptoSaid' is the law's where the arguments, and the package variables that the reading takes, are together of bulk at most 1048576: NARROWER than '..Said'. Prove '..Said' where nothing that the law and all that it calls make is longer than what came in: it says more and counts as full. Else prove '..UptoSaid'. A law counts once. -/
mutual
def uptoBulk {H : Type} : DataW H → Nat
  | .lit (.string bytes) => bytes.length + 1
  | .lit _ => 1
  | .nil => 1
  | .ptr d => uptoBulk d + 1
  | .slice elems spare => uptoBulkAll elems + uptoBulkAll spare + 1
  | .agg parts => uptoBulkAll parts + 1
  | .iface _ d => uptoBulk d + 1
  | .map entries => uptoBulkEntries entries + 1
  | .held _ => 1
def uptoBulkAll {H : Type} : List (DataW H) → Nat
  | [] => 0
  | d :: r => uptoBulk d + uptoBulkAll r
def uptoBulkEntries {H : Type} : List (Lit × DataW H) → Nat
  | [] => 0
  | x :: r => uptoBulkEntry x + uptoBulkEntries r
def uptoBulkEntry {H : Type} : Lit × DataW H → Nat
  | (.string bytes, d) => bytes.length + uptoBulk d + 1
  | (_, d) => uptoBulk d + 1
 end
def uptoSmall : (H : Type) → List (DataW H) → Bool := fun _ ds => decide (uptoBulkAll ds ≤ 1048576)
def OpenSpec.upto (s : _root_.Go.ChangeSpec) : _root_.Go.OpenSpec := { _root_.Go.OpenSpec.ofChange s with cond := some uptoSmall }

/-- 'laws.FnExactFracOf', WHERE WHAT IT READS IS OF BULK AT MOST 1048576: true; the input reads as it did. -/
def fnExactFracOfUptoRow : OpenClaim := { program := "ytkhooomjfjancaa", sum := "9ab4ebd5b0cb8fb56a85df540f48040bd1a2df4707c227a87824662c4f3a5e2f", func := "loop.example/elevators/laws.FnExactFracOf", spec := "fnExactFracOf", apart := false, narrowed := true }
def FnExactFracOfUptoSaid : Prop := fnExactFracOfUptoRow.holds Try.pinned (OpenSpec.upto fnExactFracOfSpec)

/-- 'laws.FnExactFracLess', WHERE WHAT IT READS IS OF BULK AT MOST 1048576: true; the input reads as it did. -/
def fnExactFracLessUptoRow : OpenClaim := { program := "ytkhooomjfjancaa", sum := "9ab4ebd5b0cb8fb56a85df540f48040bd1a2df4707c227a87824662c4f3a5e2f", func := "loop.example/elevators/laws.FnExactFracLess", spec := "fnExactFracLess", apart := false, narrowed := true }
def FnExactFracLessUptoSaid : Prop := fnExactFracLessUptoRow.holds Try.pinned (OpenSpec.upto fnExactFracLessSpec)

/-- 'laws.FnExactMeanStops', WHERE WHAT IT READS IS OF BULK AT MOST 1048576: true; the input reads as it did. -/
def fnExactMeanStopsUptoRow : OpenClaim := { program := "ytkhooomjfjancaa", sum := "9ab4ebd5b0cb8fb56a85df540f48040bd1a2df4707c227a87824662c4f3a5e2f", func := "loop.example/elevators/laws.FnExactMeanStops", spec := "fnExactMeanStops", apart := false, narrowed := true }
def FnExactMeanStopsUptoSaid : Prop := fnExactMeanStopsUptoRow.holds Try.pinned (OpenSpec.upto fnExactMeanStopsSpec)

/-- 'laws.FnExactMeanTop', WHERE WHAT IT READS IS OF BULK AT MOST 1048576: true; the input reads as it did. -/
def fnExactMeanTopUptoRow : OpenClaim := { program := "ytkhooomjfjancaa", sum := "9ab4ebd5b0cb8fb56a85df540f48040bd1a2df4707c227a87824662c4f3a5e2f", func := "loop.example/elevators/laws.FnExactMeanTop", spec := "fnExactMeanTop", apart := false, narrowed := true }
def FnExactMeanTopUptoSaid : Prop := fnExactMeanTopUptoRow.holds Try.pinned (OpenSpec.upto fnExactMeanTopSpec)

/-- 'laws.FnFracOf', WHERE WHAT IT READS IS OF BULK AT MOST 1048576: true; the input reads as it did. -/
def fnFracOfUptoRow : OpenClaim := { program := "ytkhooomjfjancaa", sum := "9ab4ebd5b0cb8fb56a85df540f48040bd1a2df4707c227a87824662c4f3a5e2f", func := "loop.example/elevators/laws.FnFracOf", spec := "fnFracOf", apart := false, narrowed := true }
def FnFracOfUptoSaid : Prop := fnFracOfUptoRow.holds Try.pinned (OpenSpec.upto fnFracOfSpec)

/-- 'laws.FnFracLess', WHERE WHAT IT READS IS OF BULK AT MOST 1048576: true; the input reads as it did. -/
def fnFracLessUptoRow : OpenClaim := { program := "ytkhooomjfjancaa", sum := "9ab4ebd5b0cb8fb56a85df540f48040bd1a2df4707c227a87824662c4f3a5e2f", func := "loop.example/elevators/laws.FnFracLess", spec := "fnFracLess", apart := false, narrowed := true }
def FnFracLessUptoSaid : Prop := fnFracLessUptoRow.holds Try.pinned (OpenSpec.upto fnFracLessSpec)

/-- 'laws.FnMeanStops', WHERE WHAT IT READS IS OF BULK AT MOST 1048576: true; the input reads as it did. -/
def fnMeanStopsUptoRow : OpenClaim := { program := "ytkhooomjfjancaa", sum := "9ab4ebd5b0cb8fb56a85df540f48040bd1a2df4707c227a87824662c4f3a5e2f", func := "loop.example/elevators/laws.FnMeanStops", spec := "fnMeanStops", apart := false, narrowed := true }
def FnMeanStopsUptoSaid : Prop := fnMeanStopsUptoRow.holds Try.pinned (OpenSpec.upto fnMeanStopsSpec)

/-- 'laws.FnMeanTop', WHERE WHAT IT READS IS OF BULK AT MOST 1048576: true; the input reads as it did. -/
def fnMeanTopUptoRow : OpenClaim := { program := "ytkhooomjfjancaa", sum := "9ab4ebd5b0cb8fb56a85df540f48040bd1a2df4707c227a87824662c4f3a5e2f", func := "loop.example/elevators/laws.FnMeanTop", spec := "fnMeanTop", apart := false, narrowed := true }
def FnMeanTopUptoSaid : Prop := fnMeanTopUptoRow.holds Try.pinned (OpenSpec.upto fnMeanTopSpec)

end Rows
end Go.Proofs.Ytkhooomjfjancaa
