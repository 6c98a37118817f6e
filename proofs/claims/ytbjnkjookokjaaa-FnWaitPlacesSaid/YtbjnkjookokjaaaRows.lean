/-
  No cell of these rows narrows 'for every input' (looked for: loops, veiled, ifaces, maps, wideKeys, modest, calm, conditions, laid).
  DERIVED. THE GIVEN ROWS OF THIS SEAT. 8 by the template 'for every input the law returns true; each argument reads behind the call as it read before'; 0 by the template 'total and deterministic' (their statements: YtbjnkjookokjaaaTotals.lean).
  GIVEN WITH THE SEED: the statements are not yours to turn. If you find one false, say at which input.
  Laid BY PROGRAM, IN A SANDBOX (cutbox-rows.mjs): the forced cells as the released guide's own fill.sh prints them over the translation dd903db44c4b0b6f… (all of the seat's roots in one cut). By AI agents, Wed Nov 11 2026. No macro, syntax, notation, axiom, sorry.
-/
import Derived.Test.YtbjnkjookokjaaaChecked
import GoSem.Claim
import GoSem.ClaimJoined
import GoSem.ClaimMapViews
import Derived.JoinedTies
import Derived.KernelRfl
namespace Go.Proofs.Ytbjnkjookokjaaa
/- THE CELL 'sum', in the pinned program and in every row, IS THE sha256 OF THE DUMP (.gsa) THAT YtbjnkjookokjaaaProg.lean LOADS. Nothing in Lean hashes anything: it is a label: what it is worth is what the hold of that sum in a sandbox is worth. -/
noncomputable def Try.pinned : Pinned := { name := "ytbjnkjookokjaaa", sum := "dd903db44c4b0b6f7e084d867714f77a3808a4509d19180a88be28f20a885657", checked := Try.checked }
namespace Rows
def none {H : Type} : Left H := { results := [], args := [] }

/-- 'laws.FnExactOftenOk': WHATEVER THE INPUT: true; the input reads as it did. -/
def fnExactOftenOkSpec : ChangeSpec := { name := "fnExactOftenOk", fn := fun _ => fun
  | [d1, d2] => { results := [.lit (.bool true)], args := [d1, d2] }
  | _ => none }
def fnExactOftenOkRow : OpenClaim := { program := "ytbjnkjookokjaaa", sum := "dd903db44c4b0b6f7e084d867714f77a3808a4509d19180a88be28f20a885657", func := "loop.example/elevators/laws.FnExactOftenOk", spec := "fnExactOftenOk", apart := false }
def FnExactOftenOkSaid : Prop := fnExactOftenOkRow.holds Try.pinned (OpenSpec.ofChange fnExactOftenOkSpec)

/-- ITS FALSE NEIGHBOUR: 'it returns false'. Refute it at one input. -/
def fnExactOftenOkWrong : ChangeSpec := { name := "fnExactOftenOk", fn := fun _ => fun
  | [d1, d2] => { results := [.lit (.bool false)], args := [d1, d2] }
  | _ => none }
def FnExactOftenOkWrongFalsely : Prop := fnExactOftenOkRow.holds Try.pinned (OpenSpec.ofChange fnExactOftenOkWrong)

/-- 'laws.FnExactWaitCost': WHATEVER THE INPUT: true; the input reads as it did. -/
def fnExactWaitCostSpec : ChangeSpec := { name := "fnExactWaitCost", fn := fun _ => fun
  | [d1, d2, d3] => { results := [.lit (.bool true)], args := [d1, d2, d3] }
  | _ => none }
def fnExactWaitCostRow : OpenClaim := { program := "ytbjnkjookokjaaa", sum := "dd903db44c4b0b6f7e084d867714f77a3808a4509d19180a88be28f20a885657", func := "loop.example/elevators/laws.FnExactWaitCost", spec := "fnExactWaitCost", apart := false }
def FnExactWaitCostSaid : Prop := fnExactWaitCostRow.holds Try.pinned (OpenSpec.ofChange fnExactWaitCostSpec)

/-- ITS FALSE NEIGHBOUR: 'it returns false'. Refute it at one input. -/
def fnExactWaitCostWrong : ChangeSpec := { name := "fnExactWaitCost", fn := fun _ => fun
  | [d1, d2, d3] => { results := [.lit (.bool false)], args := [d1, d2, d3] }
  | _ => none }
def FnExactWaitCostWrongFalsely : Prop := fnExactWaitCostRow.holds Try.pinned (OpenSpec.ofChange fnExactWaitCostWrong)

/-- 'laws.FnExactWaitPlaces': WHATEVER THE INPUT: true; the input reads as it did. -/
def fnExactWaitPlacesSpec : ChangeSpec := { name := "fnExactWaitPlaces", fn := fun _ => fun
  | [d1, d2, d3] => { results := [.lit (.bool true)], args := [d1, d2, d3] }
  | _ => none }
def fnExactWaitPlacesRow : OpenClaim := { program := "ytbjnkjookokjaaa", sum := "dd903db44c4b0b6f7e084d867714f77a3808a4509d19180a88be28f20a885657", func := "loop.example/elevators/laws.FnExactWaitPlaces", spec := "fnExactWaitPlaces", apart := false }
def FnExactWaitPlacesSaid : Prop := fnExactWaitPlacesRow.holds Try.pinned (OpenSpec.ofChange fnExactWaitPlacesSpec)

/-- ITS FALSE NEIGHBOUR: 'it returns false'. Refute it at one input. -/
def fnExactWaitPlacesWrong : ChangeSpec := { name := "fnExactWaitPlaces", fn := fun _ => fun
  | [d1, d2, d3] => { results := [.lit (.bool false)], args := [d1, d2, d3] }
  | _ => none }
def FnExactWaitPlacesWrongFalsely : Prop := fnExactWaitPlacesRow.holds Try.pinned (OpenSpec.ofChange fnExactWaitPlacesWrong)

/-- 'laws.FnExactWaitLeast': WHATEVER THE INPUT: true; the input reads as it did. -/
def fnExactWaitLeastSpec : ChangeSpec := { name := "fnExactWaitLeast", fn := fun _ => fun
  | [d1, d2, d3] => { results := [.lit (.bool true)], args := [d1, d2, d3] }
  | _ => none }
def fnExactWaitLeastRow : OpenClaim := { program := "ytbjnkjookokjaaa", sum := "dd903db44c4b0b6f7e084d867714f77a3808a4509d19180a88be28f20a885657", func := "loop.example/elevators/laws.FnExactWaitLeast", spec := "fnExactWaitLeast", apart := false }
def FnExactWaitLeastSaid : Prop := fnExactWaitLeastRow.holds Try.pinned (OpenSpec.ofChange fnExactWaitLeastSpec)

/-- ITS FALSE NEIGHBOUR: 'it returns false'. Refute it at one input. -/
def fnExactWaitLeastWrong : ChangeSpec := { name := "fnExactWaitLeast", fn := fun _ => fun
  | [d1, d2, d3] => { results := [.lit (.bool false)], args := [d1, d2, d3] }
  | _ => none }
def FnExactWaitLeastWrongFalsely : Prop := fnExactWaitLeastRow.holds Try.pinned (OpenSpec.ofChange fnExactWaitLeastWrong)

/-- 'laws.FnOftenOk': WHATEVER THE INPUT: true; the input reads as it did. -/
def fnOftenOkSpec : ChangeSpec := { name := "fnOftenOk", fn := fun _ => fun
  | [d] => { results := [.lit (.bool true)], args := [d] }
  | _ => none }
def fnOftenOkRow : OpenClaim := { program := "ytbjnkjookokjaaa", sum := "dd903db44c4b0b6f7e084d867714f77a3808a4509d19180a88be28f20a885657", func := "loop.example/elevators/laws.FnOftenOk", spec := "fnOftenOk", apart := false }
def FnOftenOkSaid : Prop := fnOftenOkRow.holds Try.pinned (OpenSpec.ofChange fnOftenOkSpec)

/-- ITS FALSE NEIGHBOUR: 'it returns false'. Refute it at one input. -/
def fnOftenOkWrong : ChangeSpec := { name := "fnOftenOk", fn := fun _ => fun
  | [d] => { results := [.lit (.bool false)], args := [d] }
  | _ => none }
def FnOftenOkWrongFalsely : Prop := fnOftenOkRow.holds Try.pinned (OpenSpec.ofChange fnOftenOkWrong)

/-- 'laws.FnWaitCost': WHATEVER THE INPUT: true; the input reads as it did. -/
def fnWaitCostSpec : ChangeSpec := { name := "fnWaitCost", fn := fun _ => fun
  | [d] => { results := [.lit (.bool true)], args := [d] }
  | _ => none }
def fnWaitCostRow : OpenClaim := { program := "ytbjnkjookokjaaa", sum := "dd903db44c4b0b6f7e084d867714f77a3808a4509d19180a88be28f20a885657", func := "loop.example/elevators/laws.FnWaitCost", spec := "fnWaitCost", apart := false }
def FnWaitCostSaid : Prop := fnWaitCostRow.holds Try.pinned (OpenSpec.ofChange fnWaitCostSpec)

/-- ITS FALSE NEIGHBOUR: 'it returns false'. Refute it at one input. -/
def fnWaitCostWrong : ChangeSpec := { name := "fnWaitCost", fn := fun _ => fun
  | [d] => { results := [.lit (.bool false)], args := [d] }
  | _ => none }
def FnWaitCostWrongFalsely : Prop := fnWaitCostRow.holds Try.pinned (OpenSpec.ofChange fnWaitCostWrong)

/-- 'laws.FnWaitLeast': WHATEVER THE INPUT: true; the input reads as it did. -/
def fnWaitLeastSpec : ChangeSpec := { name := "fnWaitLeast", fn := fun _ => fun
  | [d] => { results := [.lit (.bool true)], args := [d] }
  | _ => none }
def fnWaitLeastRow : OpenClaim := { program := "ytbjnkjookokjaaa", sum := "dd903db44c4b0b6f7e084d867714f77a3808a4509d19180a88be28f20a885657", func := "loop.example/elevators/laws.FnWaitLeast", spec := "fnWaitLeast", apart := false }
def FnWaitLeastSaid : Prop := fnWaitLeastRow.holds Try.pinned (OpenSpec.ofChange fnWaitLeastSpec)

/-- ITS FALSE NEIGHBOUR: 'it returns false'. Refute it at one input. -/
def fnWaitLeastWrong : ChangeSpec := { name := "fnWaitLeast", fn := fun _ => fun
  | [d] => { results := [.lit (.bool false)], args := [d] }
  | _ => none }
def FnWaitLeastWrongFalsely : Prop := fnWaitLeastRow.holds Try.pinned (OpenSpec.ofChange fnWaitLeastWrong)

/-- 'laws.FnWaitPlaces': WHATEVER THE INPUT: true; the input reads as it did. -/
def fnWaitPlacesSpec : ChangeSpec := { name := "fnWaitPlaces", fn := fun _ => fun
  | [d] => { results := [.lit (.bool true)], args := [d] }
  | _ => none }
def fnWaitPlacesRow : OpenClaim := { program := "ytbjnkjookokjaaa", sum := "dd903db44c4b0b6f7e084d867714f77a3808a4509d19180a88be28f20a885657", func := "loop.example/elevators/laws.FnWaitPlaces", spec := "fnWaitPlaces", apart := false }
def FnWaitPlacesSaid : Prop := fnWaitPlacesRow.holds Try.pinned (OpenSpec.ofChange fnWaitPlacesSpec)

/-- ITS FALSE NEIGHBOUR: 'it returns false'. Refute it at one input. -/
def fnWaitPlacesWrong : ChangeSpec := { name := "fnWaitPlaces", fn := fun _ => fun
  | [d] => { results := [.lit (.bool false)], args := [d] }
  | _ => none }
def FnWaitPlacesWrongFalsely : Prop := fnWaitPlacesRow.holds Try.pinned (OpenSpec.ofChange fnWaitPlacesWrong)

/- THE SECOND FORM. 'bulk': how many values and letters a reading holds, each counted each time it is reached (what is shared counts as often as it is met; a slice's spare places count too). A statement '..UptoSaid' is the law's where the arguments, and the package variables that the reading takes, are together of bulk at most 1048576: NARROWER than '..Said'. Prove '..Said' where nothing that the law and all that it calls make is longer than what came in: it says more and counts as full. Else prove '..UptoSaid'. A law counts once. -/
mutual
def uptoBulk {H : Type} : DataW H → Nat
  | .lit (.string bytes) => bytes.length + 1
  | .lit _ => 1
  | .nil => 1
  | .ptr d => uptoBulk d + 1
  | .slice elems spare => uptoBulkAll elems + uptoBulkAll spare + 1
  | .agg parts => uptoBulkAll parts + 1
  | .iface _ d => uptoBulk d + 1
  | .map entries => uptoBulkEntries entries + 1
  | .held _ => 1
def uptoBulkAll {H : Type} : List (DataW H) → Nat
  | [] => 0
  | d :: r => uptoBulk d + uptoBulkAll r
def uptoBulkEntries {H : Type} : List (Lit × DataW H) → Nat
  | [] => 0
  | x :: r => uptoBulkEntry x + uptoBulkEntries r
def uptoBulkEntry {H : Type} : Lit × DataW H → Nat
  | (.string bytes, d) => bytes.length + uptoBulk d + 1
  | (_, d) => uptoBulk d + 1
 end
def uptoSmall : (H : Type) → List (DataW H) → Bool := fun _ ds => decide (uptoBulkAll ds ≤ 1048576)
def OpenSpec.upto (s : _root_.Go.ChangeSpec) : _root_.Go.OpenSpec := { _root_.Go.OpenSpec.ofChange s with cond := some uptoSmall }

/-- 'laws.FnExactOftenOk', WHERE WHAT IT READS IS OF BULK AT MOST 1048576: true; the input reads as it did. -/
def fnExactOftenOkUptoRow : OpenClaim := { program := "ytbjnkjookokjaaa", sum := "dd903db44c4b0b6f7e084d867714f77a3808a4509d19180a88be28f20a885657", func := "loop.example/elevators/laws.FnExactOftenOk", spec := "fnExactOftenOk", apart := false, narrowed := true }
def FnExactOftenOkUptoSaid : Prop := fnExactOftenOkUptoRow.holds Try.pinned (OpenSpec.upto fnExactOftenOkSpec)

/-- 'laws.FnExactWaitCost', WHERE WHAT IT READS IS OF BULK AT MOST 1048576: true; the input reads as it did. -/
def fnExactWaitCostUptoRow : OpenClaim := { program := "ytbjnkjookokjaaa", sum := "dd903db44c4b0b6f7e084d867714f77a3808a4509d19180a88be28f20a885657", func := "loop.example/elevators/laws.FnExactWaitCost", spec := "fnExactWaitCost", apart := false, narrowed := true }
def FnExactWaitCostUptoSaid : Prop := fnExactWaitCostUptoRow.holds Try.pinned (OpenSpec.upto fnExactWaitCostSpec)

/-- 'laws.FnExactWaitPlaces', WHERE WHAT IT READS IS OF BULK AT MOST 1048576: true; the input reads as it did. -/
def fnExactWaitPlacesUptoRow : OpenClaim := { program := "ytbjnkjookokjaaa", sum := "dd903db44c4b0b6f7e084d867714f77a3808a4509d19180a88be28f20a885657", func := "loop.example/elevators/laws.FnExactWaitPlaces", spec := "fnExactWaitPlaces", apart := false, narrowed := true }
def FnExactWaitPlacesUptoSaid : Prop := fnExactWaitPlacesUptoRow.holds Try.pinned (OpenSpec.upto fnExactWaitPlacesSpec)

/-- 'laws.FnExactWaitLeast', WHERE WHAT IT READS IS OF BULK AT MOST 1048576: true; the input reads as it did. -/
def fnExactWaitLeastUptoRow : OpenClaim := { program := "ytbjnkjookokjaaa", sum := "dd903db44c4b0b6f7e084d867714f77a3808a4509d19180a88be28f20a885657", func := "loop.example/elevators/laws.FnExactWaitLeast", spec := "fnExactWaitLeast", apart := false, narrowed := true }
def FnExactWaitLeastUptoSaid : Prop := fnExactWaitLeastUptoRow.holds Try.pinned (OpenSpec.upto fnExactWaitLeastSpec)

/-- 'laws.FnOftenOk', WHERE WHAT IT READS IS OF BULK AT MOST 1048576: true; the input reads as it did. -/
def fnOftenOkUptoRow : OpenClaim := { program := "ytbjnkjookokjaaa", sum := "dd903db44c4b0b6f7e084d867714f77a3808a4509d19180a88be28f20a885657", func := "loop.example/elevators/laws.FnOftenOk", spec := "fnOftenOk", apart := false, narrowed := true }
def FnOftenOkUptoSaid : Prop := fnOftenOkUptoRow.holds Try.pinned (OpenSpec.upto fnOftenOkSpec)

/-- 'laws.FnWaitCost', WHERE WHAT IT READS IS OF BULK AT MOST 1048576: true; the input reads as it did. -/
def fnWaitCostUptoRow : OpenClaim := { program := "ytbjnkjookokjaaa", sum := "dd903db44c4b0b6f7e084d867714f77a3808a4509d19180a88be28f20a885657", func := "loop.example/elevators/laws.FnWaitCost", spec := "fnWaitCost", apart := false, narrowed := true }
def FnWaitCostUptoSaid : Prop := fnWaitCostUptoRow.holds Try.pinned (OpenSpec.upto fnWaitCostSpec)

/-- 'laws.FnWaitLeast', WHERE WHAT IT READS IS OF BULK AT MOST 1048576: true; the input reads as it did. -/
def fnWaitLeastUptoRow : OpenClaim := { program := "ytbjnkjookokjaaa", sum := "dd903db44c4b0b6f7e084d867714f77a3808a4509d19180a88be28f20a885657", func := "loop.example/elevators/laws.FnWaitLeast", spec := "fnWaitLeast", apart := false, narrowed := true }
def FnWaitLeastUptoSaid : Prop := fnWaitLeastUptoRow.holds Try.pinned (OpenSpec.upto fnWaitLeastSpec)

/-- 'laws.FnWaitPlaces', WHERE WHAT IT READS IS OF BULK AT MOST 1048576: true; the input reads as it did. -/
def fnWaitPlacesUptoRow : OpenClaim := { program := "ytbjnkjookokjaaa", sum := "dd903db44c4b0b6f7e084d867714f77a3808a4509d19180a88be28f20a885657", func := "loop.example/elevators/laws.FnWaitPlaces", spec := "fnWaitPlaces", apart := false, narrowed := true }
def FnWaitPlacesUptoSaid : Prop := fnWaitPlacesUptoRow.holds Try.pinned (OpenSpec.upto fnWaitPlacesSpec)

end Rows
end Go.Proofs.Ytbjnkjookokjaaa
