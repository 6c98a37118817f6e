/-
  NARROWER THAN 'FOR EVERY INPUT', by the rows' own cells (each row's printed sentence says how): FnExactFireStep: laid · FnExactFireRun: laid · FnFireStep: laid · FnFireBack: laid · FnFireRun: laid.
  DERIVED. THE GIVEN ROWS OF THIS SEAT. 5 by the template 'for every input the law returns true; each argument reads behind the call as it read before'; 0 by the template 'total and deterministic' (their statements: YtmoifakcjmdghaaDoorTotals.lean).
  GIVEN WITH THE SEED: the statements are not yours to turn. If you find one false, say at which input.
  Laid BY PROGRAM, IN A SANDBOX (cutbox-rows.mjs): the forced cells as the released guide's own fill.sh prints them over the translation 0d36ea53ee91a274… (all of the seat's roots in one cut). By AI agents, Wed Nov 11 2026. No macro, syntax, notation, axiom, sorry.
-/
import Derived.Test.YtmoifakcjmdghaaDoorChecked
import GoSem.Claim
import GoSem.ClaimJoined
import GoSem.ClaimMapViews
import Derived.JoinedTies
import Derived.KernelRfl
namespace Go.Proofs.YtmoifakcjmdghaaDoor
/- THE CELL 'sum', in the pinned program and in every row, IS THE sha256 OF THE DUMP (.gsa) THAT YtmoifakcjmdghaaDoorProg.lean LOADS. Nothing in Lean hashes anything: it is a label: what it is worth is what the hold of that sum in a sandbox is worth. -/
noncomputable def Tryd.pinned : Pinned := { name := "ytmoifakcjmdghaadoor", sum := "0d36ea53ee91a27420a7cc349b9609ea002a6f6626db4e95e975271968eb2f65", checked := Tryd.checked }
namespace Rows
def none {H : Type} : Left H := { results := [], args := [] }

/- WHAT THE LISTED PACKAGE-LEVEL VARIABLES READ AS WHEN THE CALL BEGINS. Each datum BY PROGRAM (the guide's laid-datum.mjs) off the statement by which the dump's own 'gosem.cut.vars' lays the variable. In a bare row this is a premise. The card (YtmoifakcjmdghaaDoorCards.lean) ties it to the program's text. -/
def laid_loop_example_elevators_impl_fireModes {H : Type} : DataW H := .agg [.agg [.lit (.int .i64 1), .lit (.int .i64 0), .lit (.int .i64 0), .lit (.int .i64 0), .lit (.int .i64 0)], .agg [.lit (.int .i64 1), .lit (.int .i64 2), .lit (.int .i64 1), .lit (.int .i64 1), .lit (.int .i64 1)], .agg [.lit (.int .i64 2), .lit (.int .i64 2), .lit (.int .i64 3), .lit (.int .i64 2), .lit (.int .i64 0)], .agg [.lit (.int .i64 3), .lit (.int .i64 3), .lit (.int .i64 3), .lit (.int .i64 1), .lit (.int .i64 3)]]

/-- 'laws.FnExactFireStep': WHATEVER THE INPUT: true; the input reads as it did. -/
def fnExactFireStepSpec : ChangeSpec := { name := "fnExactFireStep", vars := ["loop.example/elevators/impl.fireModes"], fn := fun _ => fun
  | [d1, d2, g1] => { results := [.lit (.bool true)], args := [d1, d2], vars := [g1] }
  | _ => none }
def fnExactFireStepRow : OpenClaim := { program := "ytmoifakcjmdghaadoor", sum := "0d36ea53ee91a27420a7cc349b9609ea002a6f6626db4e95e975271968eb2f65", func := "loop.example/elevators/laws.FnExactFireStep", spec := "fnExactFireStep", named := ["loop.example/elevators/impl.fireModes"], apart := false, laid := [("loop.example/elevators/impl.fireModes", laid_loop_example_elevators_impl_fireModes)] }
def FnExactFireStepSaid : Prop := fnExactFireStepRow.holds Tryd.pinned (OpenSpec.ofChange fnExactFireStepSpec)

/-- ITS FALSE NEIGHBOUR: 'it returns false'. Refute it at one input. -/
def fnExactFireStepWrong : ChangeSpec := { name := "fnExactFireStep", vars := ["loop.example/elevators/impl.fireModes"], fn := fun _ => fun
  | [d1, d2, g1] => { results := [.lit (.bool false)], args := [d1, d2], vars := [g1] }
  | _ => none }
def FnExactFireStepWrongFalsely : Prop := fnExactFireStepRow.holds Tryd.pinned (OpenSpec.ofChange fnExactFireStepWrong)

/-- 'laws.FnExactFireRun': WHATEVER THE INPUT: true; the input reads as it did. -/
def fnExactFireRunSpec : ChangeSpec := { name := "fnExactFireRun", vars := ["loop.example/elevators/impl.fireModes"], fn := fun _ => fun
  | [d1, d2, g1] => { results := [.lit (.bool true)], args := [d1, d2], vars := [g1] }
  | _ => none }
def fnExactFireRunRow : OpenClaim := { program := "ytmoifakcjmdghaadoor", sum := "0d36ea53ee91a27420a7cc349b9609ea002a6f6626db4e95e975271968eb2f65", func := "loop.example/elevators/laws.FnExactFireRun", spec := "fnExactFireRun", named := ["loop.example/elevators/impl.fireModes"], apart := false, laid := [("loop.example/elevators/impl.fireModes", laid_loop_example_elevators_impl_fireModes)] }
def FnExactFireRunSaid : Prop := fnExactFireRunRow.holds Tryd.pinned (OpenSpec.ofChange fnExactFireRunSpec)

/-- ITS FALSE NEIGHBOUR: 'it returns false'. Refute it at one input. -/
def fnExactFireRunWrong : ChangeSpec := { name := "fnExactFireRun", vars := ["loop.example/elevators/impl.fireModes"], fn := fun _ => fun
  | [d1, d2, g1] => { results := [.lit (.bool false)], args := [d1, d2], vars := [g1] }
  | _ => none }
def FnExactFireRunWrongFalsely : Prop := fnExactFireRunRow.holds Tryd.pinned (OpenSpec.ofChange fnExactFireRunWrong)

/-- 'laws.FnFireStep': WHATEVER THE INPUT: true; the input reads as it did. -/
def fnFireStepSpec : ChangeSpec := { name := "fnFireStep", vars := ["loop.example/elevators/impl.fireModes"], fn := fun _ => fun
  | [d, g1] => { results := [.lit (.bool true)], args := [d], vars := [g1] }
  | _ => none }
def fnFireStepRow : OpenClaim := { program := "ytmoifakcjmdghaadoor", sum := "0d36ea53ee91a27420a7cc349b9609ea002a6f6626db4e95e975271968eb2f65", func := "loop.example/elevators/laws.FnFireStep", spec := "fnFireStep", named := ["loop.example/elevators/impl.fireModes"], apart := false, laid := [("loop.example/elevators/impl.fireModes", laid_loop_example_elevators_impl_fireModes)] }
def FnFireStepSaid : Prop := fnFireStepRow.holds Tryd.pinned (OpenSpec.ofChange fnFireStepSpec)

/-- ITS FALSE NEIGHBOUR: 'it returns false'. Refute it at one input. -/
def fnFireStepWrong : ChangeSpec := { name := "fnFireStep", vars := ["loop.example/elevators/impl.fireModes"], fn := fun _ => fun
  | [d, g1] => { results := [.lit (.bool false)], args := [d], vars := [g1] }
  | _ => none }
def FnFireStepWrongFalsely : Prop := fnFireStepRow.holds Tryd.pinned (OpenSpec.ofChange fnFireStepWrong)

/-- 'laws.FnFireBack': WHATEVER THE INPUT: true; the input reads as it did. -/
def fnFireBackSpec : ChangeSpec := { name := "fnFireBack", vars := ["loop.example/elevators/impl.fireModes"], fn := fun _ => fun
  | [d, g1] => { results := [.lit (.bool true)], args := [d], vars := [g1] }
  | _ => none }
def fnFireBackRow : OpenClaim := { program := "ytmoifakcjmdghaadoor", sum := "0d36ea53ee91a27420a7cc349b9609ea002a6f6626db4e95e975271968eb2f65", func := "loop.example/elevators/laws.FnFireBack", spec := "fnFireBack", named := ["loop.example/elevators/impl.fireModes"], apart := false, laid := [("loop.example/elevators/impl.fireModes", laid_loop_example_elevators_impl_fireModes)] }
def FnFireBackSaid : Prop := fnFireBackRow.holds Tryd.pinned (OpenSpec.ofChange fnFireBackSpec)

/-- ITS FALSE NEIGHBOUR: 'it returns false'. Refute it at one input. -/
def fnFireBackWrong : ChangeSpec := { name := "fnFireBack", vars := ["loop.example/elevators/impl.fireModes"], fn := fun _ => fun
  | [d, g1] => { results := [.lit (.bool false)], args := [d], vars := [g1] }
  | _ => none }
def FnFireBackWrongFalsely : Prop := fnFireBackRow.holds Tryd.pinned (OpenSpec.ofChange fnFireBackWrong)

/-- 'laws.FnFireRun': WHATEVER THE INPUT: true; the input reads as it did. -/
def fnFireRunSpec : ChangeSpec := { name := "fnFireRun", vars := ["loop.example/elevators/impl.fireModes"], fn := fun _ => fun
  | [d, g1] => { results := [.lit (.bool true)], args := [d], vars := [g1] }
  | _ => none }
def fnFireRunRow : OpenClaim := { program := "ytmoifakcjmdghaadoor", sum := "0d36ea53ee91a27420a7cc349b9609ea002a6f6626db4e95e975271968eb2f65", func := "loop.example/elevators/laws.FnFireRun", spec := "fnFireRun", named := ["loop.example/elevators/impl.fireModes"], apart := false, laid := [("loop.example/elevators/impl.fireModes", laid_loop_example_elevators_impl_fireModes)] }
def FnFireRunSaid : Prop := fnFireRunRow.holds Tryd.pinned (OpenSpec.ofChange fnFireRunSpec)

/-- ITS FALSE NEIGHBOUR: 'it returns false'. Refute it at one input. -/
def fnFireRunWrong : ChangeSpec := { name := "fnFireRun", vars := ["loop.example/elevators/impl.fireModes"], fn := fun _ => fun
  | [d, g1] => { results := [.lit (.bool false)], args := [d], vars := [g1] }
  | _ => none }
def FnFireRunWrongFalsely : Prop := fnFireRunRow.holds Tryd.pinned (OpenSpec.ofChange fnFireRunWrong)

/- THE SECOND FORM. 'bulk': how many values and letters a reading holds, each counted each time it is reached (what is shared counts as often as it is met; a slice's spare places count too). A statement '..UptoSaid' is the law's where the arguments, and the package variables that the reading takes, are together of bulk at most 1048576: NARROWER than '..Said'. Prove '..Said' where nothing that the law and all that it calls make is longer than what came in: it says more and counts as full. Else prove '..UptoSaid'. A law counts once. -/
mutual
def uptoBulk {H : Type} : DataW H → Nat
  | .lit (.string bytes) => bytes.length + 1
  | .lit _ => 1
  | .nil => 1
  | .ptr d => uptoBulk d + 1
  | .slice elems spare => uptoBulkAll elems + uptoBulkAll spare + 1
  | .agg parts => uptoBulkAll parts + 1
  | .iface _ d => uptoBulk d + 1
  | .map entries => uptoBulkEntries entries + 1
  | .held _ => 1
def uptoBulkAll {H : Type} : List (DataW H) → Nat
  | [] => 0
  | d :: r => uptoBulk d + uptoBulkAll r
def uptoBulkEntries {H : Type} : List (Lit × DataW H) → Nat
  | [] => 0
  | x :: r => uptoBulkEntry x + uptoBulkEntries r
def uptoBulkEntry {H : Type} : Lit × DataW H → Nat
  | (.string bytes, d) => bytes.length + uptoBulk d + 1
  | (_, d) => uptoBulk d + 1
 end
def uptoSmall : (H : Type) → List (DataW H) → Bool := fun _ ds => decide (uptoBulkAll ds ≤ 1048576)
def OpenSpec.upto (s : _root_.Go.ChangeSpec) : _root_.Go.OpenSpec := { _root_.Go.OpenSpec.ofChange s with cond := some uptoSmall }

/-- 'laws.FnExactFireStep', WHERE WHAT IT READS IS OF BULK AT MOST 1048576: true; the input reads as it did. -/
def fnExactFireStepUptoRow : OpenClaim := { program := "ytmoifakcjmdghaadoor", sum := "0d36ea53ee91a27420a7cc349b9609ea002a6f6626db4e95e975271968eb2f65", func := "loop.example/elevators/laws.FnExactFireStep", spec := "fnExactFireStep", named := ["loop.example/elevators/impl.fireModes"], apart := false, laid := [("loop.example/elevators/impl.fireModes", laid_loop_example_elevators_impl_fireModes)], narrowed := true }
def FnExactFireStepUptoSaid : Prop := fnExactFireStepUptoRow.holds Tryd.pinned (OpenSpec.upto fnExactFireStepSpec)

/-- 'laws.FnExactFireRun', WHERE WHAT IT READS IS OF BULK AT MOST 1048576: true; the input reads as it did. -/
def fnExactFireRunUptoRow : OpenClaim := { program := "ytmoifakcjmdghaadoor", sum := "0d36ea53ee91a27420a7cc349b9609ea002a6f6626db4e95e975271968eb2f65", func := "loop.example/elevators/laws.FnExactFireRun", spec := "fnExactFireRun", named := ["loop.example/elevators/impl.fireModes"], apart := false, laid := [("loop.example/elevators/impl.fireModes", laid_loop_example_elevators_impl_fireModes)], narrowed := true }
def FnExactFireRunUptoSaid : Prop := fnExactFireRunUptoRow.holds Tryd.pinned (OpenSpec.upto fnExactFireRunSpec)

/-- 'laws.FnFireStep', WHERE WHAT IT READS IS OF BULK AT MOST 1048576: true; the input reads as it did. -/
def fnFireStepUptoRow : OpenClaim := { program := "ytmoifakcjmdghaadoor", sum := "0d36ea53ee91a27420a7cc349b9609ea002a6f6626db4e95e975271968eb2f65", func := "loop.example/elevators/laws.FnFireStep", spec := "fnFireStep", named := ["loop.example/elevators/impl.fireModes"], apart := false, laid := [("loop.example/elevators/impl.fireModes", laid_loop_example_elevators_impl_fireModes)], narrowed := true }
def FnFireStepUptoSaid : Prop := fnFireStepUptoRow.holds Tryd.pinned (OpenSpec.upto fnFireStepSpec)

/-- 'laws.FnFireBack', WHERE WHAT IT READS IS OF BULK AT MOST 1048576: true; the input reads as it did. -/
def fnFireBackUptoRow : OpenClaim := { program := "ytmoifakcjmdghaadoor", sum := "0d36ea53ee91a27420a7cc349b9609ea002a6f6626db4e95e975271968eb2f65", func := "loop.example/elevators/laws.FnFireBack", spec := "fnFireBack", named := ["loop.example/elevators/impl.fireModes"], apart := false, laid := [("loop.example/elevators/impl.fireModes", laid_loop_example_elevators_impl_fireModes)], narrowed := true }
def FnFireBackUptoSaid : Prop := fnFireBackUptoRow.holds Tryd.pinned (OpenSpec.upto fnFireBackSpec)

/-- 'laws.FnFireRun', WHERE WHAT IT READS IS OF BULK AT MOST 1048576: true; the input reads as it did. -/
def fnFireRunUptoRow : OpenClaim := { program := "ytmoifakcjmdghaadoor", sum := "0d36ea53ee91a27420a7cc349b9609ea002a6f6626db4e95e975271968eb2f65", func := "loop.example/elevators/laws.FnFireRun", spec := "fnFireRun", named := ["loop.example/elevators/impl.fireModes"], apart := false, laid := [("loop.example/elevators/impl.fireModes", laid_loop_example_elevators_impl_fireModes)], narrowed := true }
def FnFireRunUptoSaid : Prop := fnFireRunUptoRow.holds Tryd.pinned (OpenSpec.upto fnFireRunSpec)

end Rows
end Go.Proofs.YtmoifakcjmdghaaDoor
