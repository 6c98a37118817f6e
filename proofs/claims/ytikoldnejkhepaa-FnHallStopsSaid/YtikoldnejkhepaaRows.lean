/-
  No cell of these rows narrows 'for every input' (looked for: loops, veiled, ifaces, maps, wideKeys, modest, calm, conditions, laid).
  DERIVED. THE GIVEN ROWS OF THIS SEAT. 10 by the template 'for every input the law returns true; each argument reads behind the call as it read before'; 0 by the template 'total and deterministic' (their statements: YtikoldnejkhepaaTotals.lean).
  GIVEN WITH THE SEED: the statements are not yours to turn. If you find one false, say at which input.
  Laid BY PROGRAM, IN A SANDBOX (cutbox-rows.mjs): the forced cells as the released guide's own fill.sh prints them over the translation f39f8632903ee77f… (all of the seat's roots in one cut). By AI agents, Wed Nov 11 2026. No macro, syntax, notation, axiom, sorry.
-/
import Derived.Test.YtikoldnejkhepaaChecked
import GoSem.Claim
import GoSem.ClaimJoined
import GoSem.ClaimMapViews
import Derived.JoinedTies
import Derived.KernelRfl
namespace Go.Proofs.Ytikoldnejkhepaa
/- THE CELL 'sum', in the pinned program and in every row, IS THE sha256 OF THE DUMP (.gsa) THAT YtikoldnejkhepaaProg.lean LOADS. Nothing in Lean hashes anything: it is a label: what it is worth is what the hold of that sum in a sandbox is worth. -/
noncomputable def Try.pinned : Pinned := { name := "ytikoldnejkhepaa", sum := "f39f8632903ee77ff1f64fc3b07d524fbaba0f3c8667fac13d3921e640cedc99", checked := Try.checked }
namespace Rows
def none {H : Type} : Left H := { results := [], args := [] }

/-- 'laws.FnExactHallOk': WHATEVER THE INPUT: true; the input reads as it did. -/
def fnExactHallOkSpec : ChangeSpec := { name := "fnExactHallOk", fn := fun _ => fun
  | [d1, d2] => { results := [.lit (.bool true)], args := [d1, d2] }
  | _ => none }
def fnExactHallOkRow : OpenClaim := { program := "ytikoldnejkhepaa", sum := "f39f8632903ee77ff1f64fc3b07d524fbaba0f3c8667fac13d3921e640cedc99", func := "loop.example/elevators/laws.FnExactHallOk", spec := "fnExactHallOk", apart := false }
def FnExactHallOkSaid : Prop := fnExactHallOkRow.holds Try.pinned (OpenSpec.ofChange fnExactHallOkSpec)

/-- ITS FALSE NEIGHBOUR: 'it returns false'. Refute it at one input. -/
def fnExactHallOkWrong : ChangeSpec := { name := "fnExactHallOk", fn := fun _ => fun
  | [d1, d2] => { results := [.lit (.bool false)], args := [d1, d2] }
  | _ => none }
def FnExactHallOkWrongFalsely : Prop := fnExactHallOkRow.holds Try.pinned (OpenSpec.ofChange fnExactHallOkWrong)

/-- 'laws.FnExactHallFits': WHATEVER THE INPUT: true; the input reads as it did. -/
def fnExactHallFitsSpec : ChangeSpec := { name := "fnExactHallFits", fn := fun _ => fun
  | [d1, d2, d3] => { results := [.lit (.bool true)], args := [d1, d2, d3] }
  | _ => none }
def fnExactHallFitsRow : OpenClaim := { program := "ytikoldnejkhepaa", sum := "f39f8632903ee77ff1f64fc3b07d524fbaba0f3c8667fac13d3921e640cedc99", func := "loop.example/elevators/laws.FnExactHallFits", spec := "fnExactHallFits", apart := false }
def FnExactHallFitsSaid : Prop := fnExactHallFitsRow.holds Try.pinned (OpenSpec.ofChange fnExactHallFitsSpec)

/-- ITS FALSE NEIGHBOUR: 'it returns false'. Refute it at one input. -/
def fnExactHallFitsWrong : ChangeSpec := { name := "fnExactHallFits", fn := fun _ => fun
  | [d1, d2, d3] => { results := [.lit (.bool false)], args := [d1, d2, d3] }
  | _ => none }
def FnExactHallFitsWrongFalsely : Prop := fnExactHallFitsRow.holds Try.pinned (OpenSpec.ofChange fnExactHallFitsWrong)

/-- 'laws.FnExactGoalMany': WHATEVER THE INPUT: true; the input reads as it did. -/
def fnExactGoalManySpec : ChangeSpec := { name := "fnExactGoalMany", fn := fun _ => fun
  | [d1, d2] => { results := [.lit (.bool true)], args := [d1, d2] }
  | _ => none }
def fnExactGoalManyRow : OpenClaim := { program := "ytikoldnejkhepaa", sum := "f39f8632903ee77ff1f64fc3b07d524fbaba0f3c8667fac13d3921e640cedc99", func := "loop.example/elevators/laws.FnExactGoalMany", spec := "fnExactGoalMany", apart := false }
def FnExactGoalManySaid : Prop := fnExactGoalManyRow.holds Try.pinned (OpenSpec.ofChange fnExactGoalManySpec)

/-- ITS FALSE NEIGHBOUR: 'it returns false'. Refute it at one input. -/
def fnExactGoalManyWrong : ChangeSpec := { name := "fnExactGoalMany", fn := fun _ => fun
  | [d1, d2] => { results := [.lit (.bool false)], args := [d1, d2] }
  | _ => none }
def FnExactGoalManyWrongFalsely : Prop := fnExactGoalManyRow.holds Try.pinned (OpenSpec.ofChange fnExactGoalManyWrong)

/-- 'laws.FnExactHallStops': WHATEVER THE INPUT: true; the input reads as it did. -/
def fnExactHallStopsSpec : ChangeSpec := { name := "fnExactHallStops", fn := fun _ => fun
  | [d1, d2, d3] => { results := [.lit (.bool true)], args := [d1, d2, d3] }
  | _ => none }
def fnExactHallStopsRow : OpenClaim := { program := "ytikoldnejkhepaa", sum := "f39f8632903ee77ff1f64fc3b07d524fbaba0f3c8667fac13d3921e640cedc99", func := "loop.example/elevators/laws.FnExactHallStops", spec := "fnExactHallStops", apart := false }
def FnExactHallStopsSaid : Prop := fnExactHallStopsRow.holds Try.pinned (OpenSpec.ofChange fnExactHallStopsSpec)

/-- ITS FALSE NEIGHBOUR: 'it returns false'. Refute it at one input. -/
def fnExactHallStopsWrong : ChangeSpec := { name := "fnExactHallStops", fn := fun _ => fun
  | [d1, d2, d3] => { results := [.lit (.bool false)], args := [d1, d2, d3] }
  | _ => none }
def FnExactHallStopsWrongFalsely : Prop := fnExactHallStopsRow.holds Try.pinned (OpenSpec.ofChange fnExactHallStopsWrong)

/-- 'laws.FnExactHallBest': WHATEVER THE INPUT: true; the input reads as it did. -/
def fnExactHallBestSpec : ChangeSpec := { name := "fnExactHallBest", fn := fun _ => fun
  | [d1, d2] => { results := [.lit (.bool true)], args := [d1, d2] }
  | _ => none }
def fnExactHallBestRow : OpenClaim := { program := "ytikoldnejkhepaa", sum := "f39f8632903ee77ff1f64fc3b07d524fbaba0f3c8667fac13d3921e640cedc99", func := "loop.example/elevators/laws.FnExactHallBest", spec := "fnExactHallBest", recurses := true, apart := false }
def FnExactHallBestSaid : Prop := fnExactHallBestRow.holds Try.pinned (OpenSpec.ofChange fnExactHallBestSpec)

/-- ITS FALSE NEIGHBOUR: 'it returns false'. Refute it at one input. -/
def fnExactHallBestWrong : ChangeSpec := { name := "fnExactHallBest", fn := fun _ => fun
  | [d1, d2] => { results := [.lit (.bool false)], args := [d1, d2] }
  | _ => none }
def FnExactHallBestWrongFalsely : Prop := fnExactHallBestRow.holds Try.pinned (OpenSpec.ofChange fnExactHallBestWrong)

/-- 'laws.FnHallOk': WHATEVER THE INPUT: true; the input reads as it did. -/
def fnHallOkSpec : ChangeSpec := { name := "fnHallOk", fn := fun _ => fun
  | [d] => { results := [.lit (.bool true)], args := [d] }
  | _ => none }
def fnHallOkRow : OpenClaim := { program := "ytikoldnejkhepaa", sum := "f39f8632903ee77ff1f64fc3b07d524fbaba0f3c8667fac13d3921e640cedc99", func := "loop.example/elevators/laws.FnHallOk", spec := "fnHallOk", apart := false }
def FnHallOkSaid : Prop := fnHallOkRow.holds Try.pinned (OpenSpec.ofChange fnHallOkSpec)

/-- ITS FALSE NEIGHBOUR: 'it returns false'. Refute it at one input. -/
def fnHallOkWrong : ChangeSpec := { name := "fnHallOk", fn := fun _ => fun
  | [d] => { results := [.lit (.bool false)], args := [d] }
  | _ => none }
def FnHallOkWrongFalsely : Prop := fnHallOkRow.holds Try.pinned (OpenSpec.ofChange fnHallOkWrong)

/-- 'laws.FnHallFits': WHATEVER THE INPUT: true; the input reads as it did. -/
def fnHallFitsSpec : ChangeSpec := { name := "fnHallFits", fn := fun _ => fun
  | [d] => { results := [.lit (.bool true)], args := [d] }
  | _ => none }
def fnHallFitsRow : OpenClaim := { program := "ytikoldnejkhepaa", sum := "f39f8632903ee77ff1f64fc3b07d524fbaba0f3c8667fac13d3921e640cedc99", func := "loop.example/elevators/laws.FnHallFits", spec := "fnHallFits", apart := false }
def FnHallFitsSaid : Prop := fnHallFitsRow.holds Try.pinned (OpenSpec.ofChange fnHallFitsSpec)

/-- ITS FALSE NEIGHBOUR: 'it returns false'. Refute it at one input. -/
def fnHallFitsWrong : ChangeSpec := { name := "fnHallFits", fn := fun _ => fun
  | [d] => { results := [.lit (.bool false)], args := [d] }
  | _ => none }
def FnHallFitsWrongFalsely : Prop := fnHallFitsRow.holds Try.pinned (OpenSpec.ofChange fnHallFitsWrong)

/-- 'laws.FnGoalMany': WHATEVER THE INPUT: true; the input reads as it did. -/
def fnGoalManySpec : ChangeSpec := { name := "fnGoalMany", fn := fun _ => fun
  | [d] => { results := [.lit (.bool true)], args := [d] }
  | _ => none }
def fnGoalManyRow : OpenClaim := { program := "ytikoldnejkhepaa", sum := "f39f8632903ee77ff1f64fc3b07d524fbaba0f3c8667fac13d3921e640cedc99", func := "loop.example/elevators/laws.FnGoalMany", spec := "fnGoalMany", apart := false }
def FnGoalManySaid : Prop := fnGoalManyRow.holds Try.pinned (OpenSpec.ofChange fnGoalManySpec)

/-- ITS FALSE NEIGHBOUR: 'it returns false'. Refute it at one input. -/
def fnGoalManyWrong : ChangeSpec := { name := "fnGoalMany", fn := fun _ => fun
  | [d] => { results := [.lit (.bool false)], args := [d] }
  | _ => none }
def FnGoalManyWrongFalsely : Prop := fnGoalManyRow.holds Try.pinned (OpenSpec.ofChange fnGoalManyWrong)

/-- 'laws.FnHallStops': WHATEVER THE INPUT: true; the input reads as it did. -/
def fnHallStopsSpec : ChangeSpec := { name := "fnHallStops", fn := fun _ => fun
  | [d] => { results := [.lit (.bool true)], args := [d] }
  | _ => none }
def fnHallStopsRow : OpenClaim := { program := "ytikoldnejkhepaa", sum := "f39f8632903ee77ff1f64fc3b07d524fbaba0f3c8667fac13d3921e640cedc99", func := "loop.example/elevators/laws.FnHallStops", spec := "fnHallStops", recurses := true, apart := false }
def FnHallStopsSaid : Prop := fnHallStopsRow.holds Try.pinned (OpenSpec.ofChange fnHallStopsSpec)

/-- ITS FALSE NEIGHBOUR: 'it returns false'. Refute it at one input. -/
def fnHallStopsWrong : ChangeSpec := { name := "fnHallStops", fn := fun _ => fun
  | [d] => { results := [.lit (.bool false)], args := [d] }
  | _ => none }
def FnHallStopsWrongFalsely : Prop := fnHallStopsRow.holds Try.pinned (OpenSpec.ofChange fnHallStopsWrong)

/-- 'laws.FnHallBest': WHATEVER THE INPUT: true; the input reads as it did. -/
def fnHallBestSpec : ChangeSpec := { name := "fnHallBest", fn := fun _ => fun
  | [d] => { results := [.lit (.bool true)], args := [d] }
  | _ => none }
def fnHallBestRow : OpenClaim := { program := "ytikoldnejkhepaa", sum := "f39f8632903ee77ff1f64fc3b07d524fbaba0f3c8667fac13d3921e640cedc99", func := "loop.example/elevators/laws.FnHallBest", spec := "fnHallBest", recurses := true, apart := false }
def FnHallBestSaid : Prop := fnHallBestRow.holds Try.pinned (OpenSpec.ofChange fnHallBestSpec)

/-- ITS FALSE NEIGHBOUR: 'it returns false'. Refute it at one input. -/
def fnHallBestWrong : ChangeSpec := { name := "fnHallBest", fn := fun _ => fun
  | [d] => { results := [.lit (.bool false)], args := [d] }
  | _ => none }
def FnHallBestWrongFalsely : Prop := fnHallBestRow.holds Try.pinned (OpenSpec.ofChange fnHallBestWrong)

/- THE SECOND FORM. 'bulk': how many values and letters a reading holds, each counted each time it is reached (what is shared counts as often as it is met; a slice's spare places count too). A statement '..UptoSaid' is the law's where the arguments, and the package variables that the reading takes, are together of bulk at most 1048576: NARROWER than '..Said'. Prove '..Said' where nothing that the law and all that it calls make is longer than what came in: it says more and counts as full. Else prove '..UptoSaid'. A law counts once. -/
mutual
def uptoBulk {H : Type} : DataW H → Nat
  | .lit (.string bytes) => bytes.length + 1
  | .lit _ => 1
  | .nil => 1
  | .ptr d => uptoBulk d + 1
  | .slice elems spare => uptoBulkAll elems + uptoBulkAll spare + 1
  | .agg parts => uptoBulkAll parts + 1
  | .iface _ d => uptoBulk d + 1
  | .map entries => uptoBulkEntries entries + 1
  | .held _ => 1
def uptoBulkAll {H : Type} : List (DataW H) → Nat
  | [] => 0
  | d :: r => uptoBulk d + uptoBulkAll r
def uptoBulkEntries {H : Type} : List (Lit × DataW H) → Nat
  | [] => 0
  | x :: r => uptoBulkEntry x + uptoBulkEntries r
def uptoBulkEntry {H : Type} : Lit × DataW H → Nat
  | (.string bytes, d) => bytes.length + uptoBulk d + 1
  | (_, d) => uptoBulk d + 1
 end
def uptoSmall : (H : Type) → List (DataW H) → Bool := fun _ ds => decide (uptoBulkAll ds ≤ 1048576)
def OpenSpec.upto (s : _root_.Go.ChangeSpec) : _root_.Go.OpenSpec := { _root_.Go.OpenSpec.ofChange s with cond := some uptoSmall }

/-- 'laws.FnExactHallOk', WHERE WHAT IT READS IS OF BULK AT MOST 1048576: true; the input reads as it did. -/
def fnExactHallOkUptoRow : OpenClaim := { program := "ytikoldnejkhepaa", sum := "f39f8632903ee77ff1f64fc3b07d524fbaba0f3c8667fac13d3921e640cedc99", func := "loop.example/elevators/laws.FnExactHallOk", spec := "fnExactHallOk", apart := false, narrowed := true }
def FnExactHallOkUptoSaid : Prop := fnExactHallOkUptoRow.holds Try.pinned (OpenSpec.upto fnExactHallOkSpec)

/-- 'laws.FnExactHallFits', WHERE WHAT IT READS IS OF BULK AT MOST 1048576: true; the input reads as it did. -/
def fnExactHallFitsUptoRow : OpenClaim := { program := "ytikoldnejkhepaa", sum := "f39f8632903ee77ff1f64fc3b07d524fbaba0f3c8667fac13d3921e640cedc99", func := "loop.example/elevators/laws.FnExactHallFits", spec := "fnExactHallFits", apart := false, narrowed := true }
def FnExactHallFitsUptoSaid : Prop := fnExactHallFitsUptoRow.holds Try.pinned (OpenSpec.upto fnExactHallFitsSpec)

/-- 'laws.FnExactGoalMany', WHERE WHAT IT READS IS OF BULK AT MOST 1048576: true; the input reads as it did. -/
def fnExactGoalManyUptoRow : OpenClaim := { program := "ytikoldnejkhepaa", sum := "f39f8632903ee77ff1f64fc3b07d524fbaba0f3c8667fac13d3921e640cedc99", func := "loop.example/elevators/laws.FnExactGoalMany", spec := "fnExactGoalMany", apart := false, narrowed := true }
def FnExactGoalManyUptoSaid : Prop := fnExactGoalManyUptoRow.holds Try.pinned (OpenSpec.upto fnExactGoalManySpec)

/-- 'laws.FnExactHallStops', WHERE WHAT IT READS IS OF BULK AT MOST 1048576: true; the input reads as it did. -/
def fnExactHallStopsUptoRow : OpenClaim := { program := "ytikoldnejkhepaa", sum := "f39f8632903ee77ff1f64fc3b07d524fbaba0f3c8667fac13d3921e640cedc99", func := "loop.example/elevators/laws.FnExactHallStops", spec := "fnExactHallStops", apart := false, narrowed := true }
def FnExactHallStopsUptoSaid : Prop := fnExactHallStopsUptoRow.holds Try.pinned (OpenSpec.upto fnExactHallStopsSpec)

/-- 'laws.FnExactHallBest', WHERE WHAT IT READS IS OF BULK AT MOST 1048576: true; the input reads as it did. -/
def fnExactHallBestUptoRow : OpenClaim := { program := "ytikoldnejkhepaa", sum := "f39f8632903ee77ff1f64fc3b07d524fbaba0f3c8667fac13d3921e640cedc99", func := "loop.example/elevators/laws.FnExactHallBest", spec := "fnExactHallBest", recurses := true, apart := false, narrowed := true }
def FnExactHallBestUptoSaid : Prop := fnExactHallBestUptoRow.holds Try.pinned (OpenSpec.upto fnExactHallBestSpec)

/-- 'laws.FnHallOk', WHERE WHAT IT READS IS OF BULK AT MOST 1048576: true; the input reads as it did. -/
def fnHallOkUptoRow : OpenClaim := { program := "ytikoldnejkhepaa", sum := "f39f8632903ee77ff1f64fc3b07d524fbaba0f3c8667fac13d3921e640cedc99", func := "loop.example/elevators/laws.FnHallOk", spec := "fnHallOk", apart := false, narrowed := true }
def FnHallOkUptoSaid : Prop := fnHallOkUptoRow.holds Try.pinned (OpenSpec.upto fnHallOkSpec)

/-- 'laws.FnHallFits', WHERE WHAT IT READS IS OF BULK AT MOST 1048576: true; the input reads as it did. -/
def fnHallFitsUptoRow : OpenClaim := { program := "ytikoldnejkhepaa", sum := "f39f8632903ee77ff1f64fc3b07d524fbaba0f3c8667fac13d3921e640cedc99", func := "loop.example/elevators/laws.FnHallFits", spec := "fnHallFits", apart := false, narrowed := true }
def FnHallFitsUptoSaid : Prop := fnHallFitsUptoRow.holds Try.pinned (OpenSpec.upto fnHallFitsSpec)

/-- 'laws.FnGoalMany', WHERE WHAT IT READS IS OF BULK AT MOST 1048576: true; the input reads as it did. -/
def fnGoalManyUptoRow : OpenClaim := { program := "ytikoldnejkhepaa", sum := "f39f8632903ee77ff1f64fc3b07d524fbaba0f3c8667fac13d3921e640cedc99", func := "loop.example/elevators/laws.FnGoalMany", spec := "fnGoalMany", apart := false, narrowed := true }
def FnGoalManyUptoSaid : Prop := fnGoalManyUptoRow.holds Try.pinned (OpenSpec.upto fnGoalManySpec)

/-- 'laws.FnHallStops', WHERE WHAT IT READS IS OF BULK AT MOST 1048576: true; the input reads as it did. -/
def fnHallStopsUptoRow : OpenClaim := { program := "ytikoldnejkhepaa", sum := "f39f8632903ee77ff1f64fc3b07d524fbaba0f3c8667fac13d3921e640cedc99", func := "loop.example/elevators/laws.FnHallStops", spec := "fnHallStops", recurses := true, apart := false, narrowed := true }
def FnHallStopsUptoSaid : Prop := fnHallStopsUptoRow.holds Try.pinned (OpenSpec.upto fnHallStopsSpec)

/-- 'laws.FnHallBest', WHERE WHAT IT READS IS OF BULK AT MOST 1048576: true; the input reads as it did. -/
def fnHallBestUptoRow : OpenClaim := { program := "ytikoldnejkhepaa", sum := "f39f8632903ee77ff1f64fc3b07d524fbaba0f3c8667fac13d3921e640cedc99", func := "loop.example/elevators/laws.FnHallBest", spec := "fnHallBest", recurses := true, apart := false, narrowed := true }
def FnHallBestUptoSaid : Prop := fnHallBestUptoRow.holds Try.pinned (OpenSpec.upto fnHallBestSpec)

end Rows
end Go.Proofs.Ytikoldnejkhepaa
