/-
  No cell of these rows narrows 'for every input' (looked for: loops, veiled, ifaces, maps, wideKeys, modest, calm, conditions, laid).
  DERIVED. THE GIVEN ROWS OF THIS SEAT. 12 by the template 'for every input the law returns true; each argument reads behind the call as it read before'; 0 by the template 'total and deterministic' (their statements: YtpcdedigblijbaaTotals.lean).
  GIVEN WITH THE SEED: the statements are not yours to turn. If you find one false, say at which input.
  Laid BY PROGRAM, IN A SANDBOX (cutbox-rows.mjs): the forced cells as the released guide's own fill.sh prints them over the translation 8e3c48b06cd5570a… (all of the seat's roots in one cut). By AI agents, Wed Nov 11 2026. No macro, syntax, notation, axiom, sorry.
-/
import Derived.Test.YtpcdedigblijbaaChecked
import GoSem.Claim
import GoSem.ClaimJoined
import GoSem.ClaimMapViews
import Derived.JoinedTies
import Derived.KernelRfl
namespace Go.Proofs.Ytpcdedigblijbaa
/- THE CELL 'sum', in the pinned program and in every row, IS THE sha256 OF THE DUMP (.gsa) THAT YtpcdedigblijbaaProg.lean LOADS. Nothing in Lean hashes anything: it is a label: what it is worth is what the hold of that sum in a sandbox is worth. -/
noncomputable def Try.pinned : Pinned := { name := "ytpcdedigblijbaa", sum := "8e3c48b06cd5570a8d6946442aa0ade75dbb975f2a8cfca6939db5ecc4054d20", checked := Try.checked }
namespace Rows
def none {H : Type} : Left H := { results := [], args := [] }

/-- 'laws.FnExactTwinValid': WHATEVER THE INPUT: true; the input reads as it did. -/
def fnExactTwinValidSpec : ChangeSpec := { name := "fnExactTwinValid", fn := fun _ => fun
  | [d] => { results := [.lit (.bool true)], args := [d] }
  | _ => none }
def fnExactTwinValidRow : OpenClaim := { program := "ytpcdedigblijbaa", sum := "8e3c48b06cd5570a8d6946442aa0ade75dbb975f2a8cfca6939db5ecc4054d20", func := "loop.example/elevators/laws.FnExactTwinValid", spec := "fnExactTwinValid", apart := false }
def FnExactTwinValidSaid : Prop := fnExactTwinValidRow.holds Try.pinned (OpenSpec.ofChange fnExactTwinValidSpec)

/-- ITS FALSE NEIGHBOUR: 'it returns false'. Refute it at one input. -/
def fnExactTwinValidWrong : ChangeSpec := { name := "fnExactTwinValid", fn := fun _ => fun
  | [d] => { results := [.lit (.bool false)], args := [d] }
  | _ => none }
def FnExactTwinValidWrongFalsely : Prop := fnExactTwinValidRow.holds Try.pinned (OpenSpec.ofChange fnExactTwinValidWrong)

/-- 'laws.FnExactTwinFor': WHATEVER THE INPUT: true; the input reads as it did. -/
def fnExactTwinForSpec : ChangeSpec := { name := "fnExactTwinFor", fn := fun _ => fun
  | [d1, d2, d3] => { results := [.lit (.bool true)], args := [d1, d2, d3] }
  | _ => none }
def fnExactTwinForRow : OpenClaim := { program := "ytpcdedigblijbaa", sum := "8e3c48b06cd5570a8d6946442aa0ade75dbb975f2a8cfca6939db5ecc4054d20", func := "loop.example/elevators/laws.FnExactTwinFor", spec := "fnExactTwinFor", apart := false }
def FnExactTwinForSaid : Prop := fnExactTwinForRow.holds Try.pinned (OpenSpec.ofChange fnExactTwinForSpec)

/-- ITS FALSE NEIGHBOUR: 'it returns false'. Refute it at one input. -/
def fnExactTwinForWrong : ChangeSpec := { name := "fnExactTwinFor", fn := fun _ => fun
  | [d1, d2, d3] => { results := [.lit (.bool false)], args := [d1, d2, d3] }
  | _ => none }
def FnExactTwinForWrongFalsely : Prop := fnExactTwinForRow.holds Try.pinned (OpenSpec.ofChange fnExactTwinForWrong)

/-- 'laws.FnExactTwinDo': WHATEVER THE INPUT: true; the input reads as it did. -/
def fnExactTwinDoSpec : ChangeSpec := { name := "fnExactTwinDo", fn := fun _ => fun
  | [d1, d2] => { results := [.lit (.bool true)], args := [d1, d2] }
  | _ => none }
def fnExactTwinDoRow : OpenClaim := { program := "ytpcdedigblijbaa", sum := "8e3c48b06cd5570a8d6946442aa0ade75dbb975f2a8cfca6939db5ecc4054d20", func := "loop.example/elevators/laws.FnExactTwinDo", spec := "fnExactTwinDo", apart := false }
def FnExactTwinDoSaid : Prop := fnExactTwinDoRow.holds Try.pinned (OpenSpec.ofChange fnExactTwinDoSpec)

/-- ITS FALSE NEIGHBOUR: 'it returns false'. Refute it at one input. -/
def fnExactTwinDoWrong : ChangeSpec := { name := "fnExactTwinDo", fn := fun _ => fun
  | [d1, d2] => { results := [.lit (.bool false)], args := [d1, d2] }
  | _ => none }
def FnExactTwinDoWrongFalsely : Prop := fnExactTwinDoRow.holds Try.pinned (OpenSpec.ofChange fnExactTwinDoWrong)

/-- 'laws.FnExactTwinWay': WHATEVER THE INPUT: true; the input reads as it did. -/
def fnExactTwinWaySpec : ChangeSpec := { name := "fnExactTwinWay", fn := fun _ => fun
  | [d1, d2, d3] => { results := [.lit (.bool true)], args := [d1, d2, d3] }
  | _ => none }
def fnExactTwinWayRow : OpenClaim := { program := "ytpcdedigblijbaa", sum := "8e3c48b06cd5570a8d6946442aa0ade75dbb975f2a8cfca6939db5ecc4054d20", func := "loop.example/elevators/laws.FnExactTwinWay", spec := "fnExactTwinWay", apart := false }
def FnExactTwinWaySaid : Prop := fnExactTwinWayRow.holds Try.pinned (OpenSpec.ofChange fnExactTwinWaySpec)

/-- ITS FALSE NEIGHBOUR: 'it returns false'. Refute it at one input. -/
def fnExactTwinWayWrong : ChangeSpec := { name := "fnExactTwinWay", fn := fun _ => fun
  | [d1, d2, d3] => { results := [.lit (.bool false)], args := [d1, d2, d3] }
  | _ => none }
def FnExactTwinWayWrongFalsely : Prop := fnExactTwinWayRow.holds Try.pinned (OpenSpec.ofChange fnExactTwinWayWrong)

/-- 'laws.FnExactTwinRun': WHATEVER THE INPUT: true; the input reads as it did. -/
def fnExactTwinRunSpec : ChangeSpec := { name := "fnExactTwinRun", fn := fun _ => fun
  | [d1, d2] => { results := [.lit (.bool true)], args := [d1, d2] }
  | _ => none }
def fnExactTwinRunRow : OpenClaim := { program := "ytpcdedigblijbaa", sum := "8e3c48b06cd5570a8d6946442aa0ade75dbb975f2a8cfca6939db5ecc4054d20", func := "loop.example/elevators/laws.FnExactTwinRun", spec := "fnExactTwinRun", apart := false }
def FnExactTwinRunSaid : Prop := fnExactTwinRunRow.holds Try.pinned (OpenSpec.ofChange fnExactTwinRunSpec)

/-- ITS FALSE NEIGHBOUR: 'it returns false'. Refute it at one input. -/
def fnExactTwinRunWrong : ChangeSpec := { name := "fnExactTwinRun", fn := fun _ => fun
  | [d1, d2] => { results := [.lit (.bool false)], args := [d1, d2] }
  | _ => none }
def FnExactTwinRunWrongFalsely : Prop := fnExactTwinRunRow.holds Try.pinned (OpenSpec.ofChange fnExactTwinRunWrong)

/-- 'laws.FnExactTwinServe': WHATEVER THE INPUT: true; the input reads as it did. -/
def fnExactTwinServeSpec : ChangeSpec := { name := "fnExactTwinServe", fn := fun _ => fun
  | [d1, d2, d3] => { results := [.lit (.bool true)], args := [d1, d2, d3] }
  | _ => none }
def fnExactTwinServeRow : OpenClaim := { program := "ytpcdedigblijbaa", sum := "8e3c48b06cd5570a8d6946442aa0ade75dbb975f2a8cfca6939db5ecc4054d20", func := "loop.example/elevators/laws.FnExactTwinServe", spec := "fnExactTwinServe", apart := false }
def FnExactTwinServeSaid : Prop := fnExactTwinServeRow.holds Try.pinned (OpenSpec.ofChange fnExactTwinServeSpec)

/-- ITS FALSE NEIGHBOUR: 'it returns false'. Refute it at one input. -/
def fnExactTwinServeWrong : ChangeSpec := { name := "fnExactTwinServe", fn := fun _ => fun
  | [d1, d2, d3] => { results := [.lit (.bool false)], args := [d1, d2, d3] }
  | _ => none }
def FnExactTwinServeWrongFalsely : Prop := fnExactTwinServeRow.holds Try.pinned (OpenSpec.ofChange fnExactTwinServeWrong)

/-- 'laws.FnTwinValid': WHATEVER THE INPUT: true; the input reads as it did. -/
def fnTwinValidSpec : ChangeSpec := { name := "fnTwinValid", fn := fun _ => fun
  | [d] => { results := [.lit (.bool true)], args := [d] }
  | _ => none }
def fnTwinValidRow : OpenClaim := { program := "ytpcdedigblijbaa", sum := "8e3c48b06cd5570a8d6946442aa0ade75dbb975f2a8cfca6939db5ecc4054d20", func := "loop.example/elevators/laws.FnTwinValid", spec := "fnTwinValid", apart := false }
def FnTwinValidSaid : Prop := fnTwinValidRow.holds Try.pinned (OpenSpec.ofChange fnTwinValidSpec)

/-- ITS FALSE NEIGHBOUR: 'it returns false'. Refute it at one input. -/
def fnTwinValidWrong : ChangeSpec := { name := "fnTwinValid", fn := fun _ => fun
  | [d] => { results := [.lit (.bool false)], args := [d] }
  | _ => none }
def FnTwinValidWrongFalsely : Prop := fnTwinValidRow.holds Try.pinned (OpenSpec.ofChange fnTwinValidWrong)

/-- 'laws.FnTwinDo': WHATEVER THE INPUT: true; the input reads as it did. -/
def fnTwinDoSpec : ChangeSpec := { name := "fnTwinDo", fn := fun _ => fun
  | [d] => { results := [.lit (.bool true)], args := [d] }
  | _ => none }
def fnTwinDoRow : OpenClaim := { program := "ytpcdedigblijbaa", sum := "8e3c48b06cd5570a8d6946442aa0ade75dbb975f2a8cfca6939db5ecc4054d20", func := "loop.example/elevators/laws.FnTwinDo", spec := "fnTwinDo", apart := false }
def FnTwinDoSaid : Prop := fnTwinDoRow.holds Try.pinned (OpenSpec.ofChange fnTwinDoSpec)

/-- ITS FALSE NEIGHBOUR: 'it returns false'. Refute it at one input. -/
def fnTwinDoWrong : ChangeSpec := { name := "fnTwinDo", fn := fun _ => fun
  | [d] => { results := [.lit (.bool false)], args := [d] }
  | _ => none }
def FnTwinDoWrongFalsely : Prop := fnTwinDoRow.holds Try.pinned (OpenSpec.ofChange fnTwinDoWrong)

/-- 'laws.FnTwinRun': WHATEVER THE INPUT: true; the input reads as it did. -/
def fnTwinRunSpec : ChangeSpec := { name := "fnTwinRun", fn := fun _ => fun
  | [d] => { results := [.lit (.bool true)], args := [d] }
  | _ => none }
def fnTwinRunRow : OpenClaim := { program := "ytpcdedigblijbaa", sum := "8e3c48b06cd5570a8d6946442aa0ade75dbb975f2a8cfca6939db5ecc4054d20", func := "loop.example/elevators/laws.FnTwinRun", spec := "fnTwinRun", apart := false }
def FnTwinRunSaid : Prop := fnTwinRunRow.holds Try.pinned (OpenSpec.ofChange fnTwinRunSpec)

/-- ITS FALSE NEIGHBOUR: 'it returns false'. Refute it at one input. -/
def fnTwinRunWrong : ChangeSpec := { name := "fnTwinRun", fn := fun _ => fun
  | [d] => { results := [.lit (.bool false)], args := [d] }
  | _ => none }
def FnTwinRunWrongFalsely : Prop := fnTwinRunRow.holds Try.pinned (OpenSpec.ofChange fnTwinRunWrong)

/-- 'laws.FnTwinFor': WHATEVER THE INPUT: true; the input reads as it did. -/
def fnTwinForSpec : ChangeSpec := { name := "fnTwinFor", fn := fun _ => fun
  | [d] => { results := [.lit (.bool true)], args := [d] }
  | _ => none }
def fnTwinForRow : OpenClaim := { program := "ytpcdedigblijbaa", sum := "8e3c48b06cd5570a8d6946442aa0ade75dbb975f2a8cfca6939db5ecc4054d20", func := "loop.example/elevators/laws.FnTwinFor", spec := "fnTwinFor", apart := false }
def FnTwinForSaid : Prop := fnTwinForRow.holds Try.pinned (OpenSpec.ofChange fnTwinForSpec)

/-- ITS FALSE NEIGHBOUR: 'it returns false'. Refute it at one input. -/
def fnTwinForWrong : ChangeSpec := { name := "fnTwinFor", fn := fun _ => fun
  | [d] => { results := [.lit (.bool false)], args := [d] }
  | _ => none }
def FnTwinForWrongFalsely : Prop := fnTwinForRow.holds Try.pinned (OpenSpec.ofChange fnTwinForWrong)

/-- 'laws.FnTwinWay': WHATEVER THE INPUT: true; the input reads as it did. -/
def fnTwinWaySpec : ChangeSpec := { name := "fnTwinWay", fn := fun _ => fun
  | [d] => { results := [.lit (.bool true)], args := [d] }
  | _ => none }
def fnTwinWayRow : OpenClaim := { program := "ytpcdedigblijbaa", sum := "8e3c48b06cd5570a8d6946442aa0ade75dbb975f2a8cfca6939db5ecc4054d20", func := "loop.example/elevators/laws.FnTwinWay", spec := "fnTwinWay", apart := false }
def FnTwinWaySaid : Prop := fnTwinWayRow.holds Try.pinned (OpenSpec.ofChange fnTwinWaySpec)

/-- ITS FALSE NEIGHBOUR: 'it returns false'. Refute it at one input. -/
def fnTwinWayWrong : ChangeSpec := { name := "fnTwinWay", fn := fun _ => fun
  | [d] => { results := [.lit (.bool false)], args := [d] }
  | _ => none }
def FnTwinWayWrongFalsely : Prop := fnTwinWayRow.holds Try.pinned (OpenSpec.ofChange fnTwinWayWrong)

/-- 'laws.FnTwinServe': WHATEVER THE INPUT: true; the input reads as it did. -/
def fnTwinServeSpec : ChangeSpec := { name := "fnTwinServe", fn := fun _ => fun
  | [d] => { results := [.lit (.bool true)], args := [d] }
  | _ => none }
def fnTwinServeRow : OpenClaim := { program := "ytpcdedigblijbaa", sum := "8e3c48b06cd5570a8d6946442aa0ade75dbb975f2a8cfca6939db5ecc4054d20", func := "loop.example/elevators/laws.FnTwinServe", spec := "fnTwinServe", apart := false }
def FnTwinServeSaid : Prop := fnTwinServeRow.holds Try.pinned (OpenSpec.ofChange fnTwinServeSpec)

/-- ITS FALSE NEIGHBOUR: 'it returns false'. Refute it at one input. -/
def fnTwinServeWrong : ChangeSpec := { name := "fnTwinServe", fn := fun _ => fun
  | [d] => { results := [.lit (.bool false)], args := [d] }
  | _ => none }
def FnTwinServeWrongFalsely : Prop := fnTwinServeRow.holds Try.pinned (OpenSpec.ofChange fnTwinServeWrong)

/- THE SECOND FORM. 'bulk': how many values and letters a reading holds, each counted each time it is reached (what is shared counts as often as it is met; a slice's spare places count too). A statement '..UptoSaid' is the law's where the arguments, and the package variables that the reading takes, are together of bulk at most 1048576: NARROWER than '..Said'. Prove '..Said' where nothing that the law and all that it calls make is longer than what came in: it says more and counts as full. Else prove '..UptoSaid'. A law counts once. -/
mutual
def uptoBulk {H : Type} : DataW H → Nat
  | .lit (.string bytes) => bytes.length + 1
  | .lit _ => 1
  | .nil => 1
  | .ptr d => uptoBulk d + 1
  | .slice elems spare => uptoBulkAll elems + uptoBulkAll spare + 1
  | .agg parts => uptoBulkAll parts + 1
  | .iface _ d => uptoBulk d + 1
  | .map entries => uptoBulkEntries entries + 1
  | .held _ => 1
def uptoBulkAll {H : Type} : List (DataW H) → Nat
  | [] => 0
  | d :: r => uptoBulk d + uptoBulkAll r
def uptoBulkEntries {H : Type} : List (Lit × DataW H) → Nat
  | [] => 0
  | x :: r => uptoBulkEntry x + uptoBulkEntries r
def uptoBulkEntry {H : Type} : Lit × DataW H → Nat
  | (.string bytes, d) => bytes.length + uptoBulk d + 1
  | (_, d) => uptoBulk d + 1
 end
def uptoSmall : (H : Type) → List (DataW H) → Bool := fun _ ds => decide (uptoBulkAll ds ≤ 1048576)
def OpenSpec.upto (s : _root_.Go.ChangeSpec) : _root_.Go.OpenSpec := { _root_.Go.OpenSpec.ofChange s with cond := some uptoSmall }

/-- 'laws.FnExactTwinValid', WHERE WHAT IT READS IS OF BULK AT MOST 1048576: true; the input reads as it did. -/
def fnExactTwinValidUptoRow : OpenClaim := { program := "ytpcdedigblijbaa", sum := "8e3c48b06cd5570a8d6946442aa0ade75dbb975f2a8cfca6939db5ecc4054d20", func := "loop.example/elevators/laws.FnExactTwinValid", spec := "fnExactTwinValid", apart := false, narrowed := true }
def FnExactTwinValidUptoSaid : Prop := fnExactTwinValidUptoRow.holds Try.pinned (OpenSpec.upto fnExactTwinValidSpec)

/-- 'laws.FnExactTwinFor', WHERE WHAT IT READS IS OF BULK AT MOST 1048576: true; the input reads as it did. -/
def fnExactTwinForUptoRow : OpenClaim := { program := "ytpcdedigblijbaa", sum := "8e3c48b06cd5570a8d6946442aa0ade75dbb975f2a8cfca6939db5ecc4054d20", func := "loop.example/elevators/laws.FnExactTwinFor", spec := "fnExactTwinFor", apart := false, narrowed := true }
def FnExactTwinForUptoSaid : Prop := fnExactTwinForUptoRow.holds Try.pinned (OpenSpec.upto fnExactTwinForSpec)

/-- 'laws.FnExactTwinDo', WHERE WHAT IT READS IS OF BULK AT MOST 1048576: true; the input reads as it did. -/
def fnExactTwinDoUptoRow : OpenClaim := { program := "ytpcdedigblijbaa", sum := "8e3c48b06cd5570a8d6946442aa0ade75dbb975f2a8cfca6939db5ecc4054d20", func := "loop.example/elevators/laws.FnExactTwinDo", spec := "fnExactTwinDo", apart := false, narrowed := true }
def FnExactTwinDoUptoSaid : Prop := fnExactTwinDoUptoRow.holds Try.pinned (OpenSpec.upto fnExactTwinDoSpec)

/-- 'laws.FnExactTwinWay', WHERE WHAT IT READS IS OF BULK AT MOST 1048576: true; the input reads as it did. -/
def fnExactTwinWayUptoRow : OpenClaim := { program := "ytpcdedigblijbaa", sum := "8e3c48b06cd5570a8d6946442aa0ade75dbb975f2a8cfca6939db5ecc4054d20", func := "loop.example/elevators/laws.FnExactTwinWay", spec := "fnExactTwinWay", apart := false, narrowed := true }
def FnExactTwinWayUptoSaid : Prop := fnExactTwinWayUptoRow.holds Try.pinned (OpenSpec.upto fnExactTwinWaySpec)

/-- 'laws.FnExactTwinRun', WHERE WHAT IT READS IS OF BULK AT MOST 1048576: true; the input reads as it did. -/
def fnExactTwinRunUptoRow : OpenClaim := { program := "ytpcdedigblijbaa", sum := "8e3c48b06cd5570a8d6946442aa0ade75dbb975f2a8cfca6939db5ecc4054d20", func := "loop.example/elevators/laws.FnExactTwinRun", spec := "fnExactTwinRun", apart := false, narrowed := true }
def FnExactTwinRunUptoSaid : Prop := fnExactTwinRunUptoRow.holds Try.pinned (OpenSpec.upto fnExactTwinRunSpec)

/-- 'laws.FnExactTwinServe', WHERE WHAT IT READS IS OF BULK AT MOST 1048576: true; the input reads as it did. -/
def fnExactTwinServeUptoRow : OpenClaim := { program := "ytpcdedigblijbaa", sum := "8e3c48b06cd5570a8d6946442aa0ade75dbb975f2a8cfca6939db5ecc4054d20", func := "loop.example/elevators/laws.FnExactTwinServe", spec := "fnExactTwinServe", apart := false, narrowed := true }
def FnExactTwinServeUptoSaid : Prop := fnExactTwinServeUptoRow.holds Try.pinned (OpenSpec.upto fnExactTwinServeSpec)

/-- 'laws.FnTwinValid', WHERE WHAT IT READS IS OF BULK AT MOST 1048576: true; the input reads as it did. -/
def fnTwinValidUptoRow : OpenClaim := { program := "ytpcdedigblijbaa", sum := "8e3c48b06cd5570a8d6946442aa0ade75dbb975f2a8cfca6939db5ecc4054d20", func := "loop.example/elevators/laws.FnTwinValid", spec := "fnTwinValid", apart := false, narrowed := true }
def FnTwinValidUptoSaid : Prop := fnTwinValidUptoRow.holds Try.pinned (OpenSpec.upto fnTwinValidSpec)

/-- 'laws.FnTwinDo', WHERE WHAT IT READS IS OF BULK AT MOST 1048576: true; the input reads as it did. -/
def fnTwinDoUptoRow : OpenClaim := { program := "ytpcdedigblijbaa", sum := "8e3c48b06cd5570a8d6946442aa0ade75dbb975f2a8cfca6939db5ecc4054d20", func := "loop.example/elevators/laws.FnTwinDo", spec := "fnTwinDo", apart := false, narrowed := true }
def FnTwinDoUptoSaid : Prop := fnTwinDoUptoRow.holds Try.pinned (OpenSpec.upto fnTwinDoSpec)

/-- 'laws.FnTwinRun', WHERE WHAT IT READS IS OF BULK AT MOST 1048576: true; the input reads as it did. -/
def fnTwinRunUptoRow : OpenClaim := { program := "ytpcdedigblijbaa", sum := "8e3c48b06cd5570a8d6946442aa0ade75dbb975f2a8cfca6939db5ecc4054d20", func := "loop.example/elevators/laws.FnTwinRun", spec := "fnTwinRun", apart := false, narrowed := true }
def FnTwinRunUptoSaid : Prop := fnTwinRunUptoRow.holds Try.pinned (OpenSpec.upto fnTwinRunSpec)

/-- 'laws.FnTwinFor', WHERE WHAT IT READS IS OF BULK AT MOST 1048576: true; the input reads as it did. -/
def fnTwinForUptoRow : OpenClaim := { program := "ytpcdedigblijbaa", sum := "8e3c48b06cd5570a8d6946442aa0ade75dbb975f2a8cfca6939db5ecc4054d20", func := "loop.example/elevators/laws.FnTwinFor", spec := "fnTwinFor", apart := false, narrowed := true }
def FnTwinForUptoSaid : Prop := fnTwinForUptoRow.holds Try.pinned (OpenSpec.upto fnTwinForSpec)

/-- 'laws.FnTwinWay', WHERE WHAT IT READS IS OF BULK AT MOST 1048576: true; the input reads as it did. -/
def fnTwinWayUptoRow : OpenClaim := { program := "ytpcdedigblijbaa", sum := "8e3c48b06cd5570a8d6946442aa0ade75dbb975f2a8cfca6939db5ecc4054d20", func := "loop.example/elevators/laws.FnTwinWay", spec := "fnTwinWay", apart := false, narrowed := true }
def FnTwinWayUptoSaid : Prop := fnTwinWayUptoRow.holds Try.pinned (OpenSpec.upto fnTwinWaySpec)

/-- 'laws.FnTwinServe', WHERE WHAT IT READS IS OF BULK AT MOST 1048576: true; the input reads as it did. -/
def fnTwinServeUptoRow : OpenClaim := { program := "ytpcdedigblijbaa", sum := "8e3c48b06cd5570a8d6946442aa0ade75dbb975f2a8cfca6939db5ecc4054d20", func := "loop.example/elevators/laws.FnTwinServe", spec := "fnTwinServe", apart := false, narrowed := true }
def FnTwinServeUptoSaid : Prop := fnTwinServeUptoRow.holds Try.pinned (OpenSpec.upto fnTwinServeSpec)

end Rows
end Go.Proofs.Ytpcdedigblijbaa
