/-
  No cell of these rows narrows 'for every input' (looked for: loops, veiled, ifaces, maps, wideKeys, modest, calm, conditions, laid).
  DERIVED. THE GIVEN ROWS OF THIS SEAT. 6 by the template 'for every input the law returns true; each argument reads behind the call as it read before'; 0 by the template 'total and deterministic' (their statements: YtmekbfjeljfbpaaTotals.lean).
  GIVEN WITH THE SEED: the statements are not yours to turn. If you find one false, say at which input.
  Laid BY PROGRAM, IN A SANDBOX (cutbox-rows.mjs): the forced cells as the released guide's own fill.sh prints them over the translation 74c9a9e5c2f37c3e… (all of the seat's roots in one cut). By AI agents, Wed Nov 11 2026. No macro, syntax, notation, axiom, sorry.
-/
import Derived.Test.YtmekbfjeljfbpaaChecked
import GoSem.Claim
import GoSem.ClaimJoined
import GoSem.ClaimMapViews
import Derived.JoinedTies
import Derived.KernelRfl
namespace Go.Proofs.Ytmekbfjeljfbpaa
/- THE CELL 'sum', in the pinned program and in every row, IS THE sha256 OF THE DUMP (.gsa) THAT YtmekbfjeljfbpaaProg.lean LOADS. Nothing in Lean hashes anything: it is a label: what it is worth is what the hold of that sum in a sandbox is worth. -/
noncomputable def Try.pinned : Pinned := { name := "ytmekbfjeljfbpaa", sum := "74c9a9e5c2f37c3e2341d9ee33c75770cde8b09855a1f0d2ad9478e39edcbff2", checked := Try.checked }
namespace Rows
def none {H : Type} : Left H := { results := [], args := [] }

/-- 'laws.FnExactGroupBest': WHATEVER THE INPUT: true; the input reads as it did. -/
def fnExactGroupBestSpec : ChangeSpec := { name := "fnExactGroupBest", fn := fun _ => fun
  | [d1, d2, d3] => { results := [.lit (.bool true)], args := [d1, d2, d3] }
  | _ => none }
def fnExactGroupBestRow : OpenClaim := { program := "ytmekbfjeljfbpaa", sum := "74c9a9e5c2f37c3e2341d9ee33c75770cde8b09855a1f0d2ad9478e39edcbff2", func := "loop.example/elevators/laws.FnExactGroupBest", spec := "fnExactGroupBest", recurses := true, apart := false }
def FnExactGroupBestSaid : Prop := fnExactGroupBestRow.holds Try.pinned (OpenSpec.ofChange fnExactGroupBestSpec)

/-- ITS FALSE NEIGHBOUR: 'it returns false'. Refute it at one input. -/
def fnExactGroupBestWrong : ChangeSpec := { name := "fnExactGroupBest", fn := fun _ => fun
  | [d1, d2, d3] => { results := [.lit (.bool false)], args := [d1, d2, d3] }
  | _ => none }
def FnExactGroupBestWrongFalsely : Prop := fnExactGroupBestRow.holds Try.pinned (OpenSpec.ofChange fnExactGroupBestWrong)

/-- 'laws.FnExactGroupSum': WHATEVER THE INPUT: true; the input reads as it did. -/
def fnExactGroupSumSpec : ChangeSpec := { name := "fnExactGroupSum", fn := fun _ => fun
  | [d1, d2, d3, d4] => { results := [.lit (.bool true)], args := [d1, d2, d3, d4] }
  | _ => none }
def fnExactGroupSumRow : OpenClaim := { program := "ytmekbfjeljfbpaa", sum := "74c9a9e5c2f37c3e2341d9ee33c75770cde8b09855a1f0d2ad9478e39edcbff2", func := "loop.example/elevators/laws.FnExactGroupSum", spec := "fnExactGroupSum", recurses := true, apart := false }
def FnExactGroupSumSaid : Prop := fnExactGroupSumRow.holds Try.pinned (OpenSpec.ofChange fnExactGroupSumSpec)

/-- ITS FALSE NEIGHBOUR: 'it returns false'. Refute it at one input. -/
def fnExactGroupSumWrong : ChangeSpec := { name := "fnExactGroupSum", fn := fun _ => fun
  | [d1, d2, d3, d4] => { results := [.lit (.bool false)], args := [d1, d2, d3, d4] }
  | _ => none }
def FnExactGroupSumWrongFalsely : Prop := fnExactGroupSumRow.holds Try.pinned (OpenSpec.ofChange fnExactGroupSumWrong)

/-- 'laws.FnGroupSum': WHATEVER THE INPUT: true; the input reads as it did. -/
def fnGroupSumSpec : ChangeSpec := { name := "fnGroupSum", fn := fun _ => fun
  | [d] => { results := [.lit (.bool true)], args := [d] }
  | _ => none }
def fnGroupSumRow : OpenClaim := { program := "ytmekbfjeljfbpaa", sum := "74c9a9e5c2f37c3e2341d9ee33c75770cde8b09855a1f0d2ad9478e39edcbff2", func := "loop.example/elevators/laws.FnGroupSum", spec := "fnGroupSum", recurses := true, apart := false }
def FnGroupSumSaid : Prop := fnGroupSumRow.holds Try.pinned (OpenSpec.ofChange fnGroupSumSpec)

/-- ITS FALSE NEIGHBOUR: 'it returns false'. Refute it at one input. -/
def fnGroupSumWrong : ChangeSpec := { name := "fnGroupSum", fn := fun _ => fun
  | [d] => { results := [.lit (.bool false)], args := [d] }
  | _ => none }
def FnGroupSumWrongFalsely : Prop := fnGroupSumRow.holds Try.pinned (OpenSpec.ofChange fnGroupSumWrong)

/-- 'laws.FnGroupBest': WHATEVER THE INPUT: true; the input reads as it did. -/
def fnGroupBestSpec : ChangeSpec := { name := "fnGroupBest", fn := fun _ => fun
  | [d] => { results := [.lit (.bool true)], args := [d] }
  | _ => none }
def fnGroupBestRow : OpenClaim := { program := "ytmekbfjeljfbpaa", sum := "74c9a9e5c2f37c3e2341d9ee33c75770cde8b09855a1f0d2ad9478e39edcbff2", func := "loop.example/elevators/laws.FnGroupBest", spec := "fnGroupBest", recurses := true, apart := false }
def FnGroupBestSaid : Prop := fnGroupBestRow.holds Try.pinned (OpenSpec.ofChange fnGroupBestSpec)

/-- ITS FALSE NEIGHBOUR: 'it returns false'. Refute it at one input. -/
def fnGroupBestWrong : ChangeSpec := { name := "fnGroupBest", fn := fun _ => fun
  | [d] => { results := [.lit (.bool false)], args := [d] }
  | _ => none }
def FnGroupBestWrongFalsely : Prop := fnGroupBestRow.holds Try.pinned (OpenSpec.ofChange fnGroupBestWrong)

/-- 'laws.FnGroupNear': WHATEVER THE INPUT: true; the input reads as it did. -/
def fnGroupNearSpec : ChangeSpec := { name := "fnGroupNear", fn := fun _ => fun
  | [d] => { results := [.lit (.bool true)], args := [d] }
  | _ => none }
def fnGroupNearRow : OpenClaim := { program := "ytmekbfjeljfbpaa", sum := "74c9a9e5c2f37c3e2341d9ee33c75770cde8b09855a1f0d2ad9478e39edcbff2", func := "loop.example/elevators/laws.FnGroupNear", spec := "fnGroupNear", apart := false }
def FnGroupNearSaid : Prop := fnGroupNearRow.holds Try.pinned (OpenSpec.ofChange fnGroupNearSpec)

/-- ITS FALSE NEIGHBOUR: 'it returns false'. Refute it at one input. -/
def fnGroupNearWrong : ChangeSpec := { name := "fnGroupNear", fn := fun _ => fun
  | [d] => { results := [.lit (.bool false)], args := [d] }
  | _ => none }
def FnGroupNearWrongFalsely : Prop := fnGroupNearRow.holds Try.pinned (OpenSpec.ofChange fnGroupNearWrong)

/-- 'laws.FnGroupLongest': WHATEVER THE INPUT: true; the input reads as it did. -/
def fnGroupLongestSpec : ChangeSpec := { name := "fnGroupLongest", fn := fun _ => fun
  | [d] => { results := [.lit (.bool true)], args := [d] }
  | _ => none }
def fnGroupLongestRow : OpenClaim := { program := "ytmekbfjeljfbpaa", sum := "74c9a9e5c2f37c3e2341d9ee33c75770cde8b09855a1f0d2ad9478e39edcbff2", func := "loop.example/elevators/laws.FnGroupLongest", spec := "fnGroupLongest", apart := false }
def FnGroupLongestSaid : Prop := fnGroupLongestRow.holds Try.pinned (OpenSpec.ofChange fnGroupLongestSpec)

/-- ITS FALSE NEIGHBOUR: 'it returns false'. Refute it at one input. -/
def fnGroupLongestWrong : ChangeSpec := { name := "fnGroupLongest", fn := fun _ => fun
  | [d] => { results := [.lit (.bool false)], args := [d] }
  | _ => none }
def FnGroupLongestWrongFalsely : Prop := fnGroupLongestRow.holds Try.pinned (OpenSpec.ofChange fnGroupLongestWrong)

/- THE SECOND FORM. 'bulk': how many values and letters a reading holds, each counted each time it is reached (what is shared counts as often as it is met; a slice's spare places count too). A statement '..UptoSaid' is the law's where the arguments, and the package variables that the reading takes, are together of bulk at most 1048576: NARROWER than '..Said'. Prove '..Said' where nothing that the law and all that it calls make is longer than what came in: it says more and counts as full. Else prove '..UptoSaid'. A law counts once. -/
mutual
def uptoBulk {H : Type} : DataW H → Nat
  | .lit (.string bytes) => bytes.length + 1
  | .lit _ => 1
  | .nil => 1
  | .ptr d => uptoBulk d + 1
  | .slice elems spare => uptoBulkAll elems + uptoBulkAll spare + 1
  | .agg parts => uptoBulkAll parts + 1
  | .iface _ d => uptoBulk d + 1
  | .map entries => uptoBulkEntries entries + 1
  | .held _ => 1
def uptoBulkAll {H : Type} : List (DataW H) → Nat
  | [] => 0
  | d :: r => uptoBulk d + uptoBulkAll r
def uptoBulkEntries {H : Type} : List (Lit × DataW H) → Nat
  | [] => 0
  | x :: r => uptoBulkEntry x + uptoBulkEntries r
def uptoBulkEntry {H : Type} : Lit × DataW H → Nat
  | (.string bytes, d) => bytes.length + uptoBulk d + 1
  | (_, d) => uptoBulk d + 1
 end
def uptoSmall : (H : Type) → List (DataW H) → Bool := fun _ ds => decide (uptoBulkAll ds ≤ 1048576)
def OpenSpec.upto (s : _root_.Go.ChangeSpec) : _root_.Go.OpenSpec := { _root_.Go.OpenSpec.ofChange s with cond := some uptoSmall }

/-- 'laws.FnExactGroupBest', WHERE WHAT IT READS IS OF BULK AT MOST 1048576: true; the input reads as it did. -/
def fnExactGroupBestUptoRow : OpenClaim := { program := "ytmekbfjeljfbpaa", sum := "74c9a9e5c2f37c3e2341d9ee33c75770cde8b09855a1f0d2ad9478e39edcbff2", func := "loop.example/elevators/laws.FnExactGroupBest", spec := "fnExactGroupBest", recurses := true, apart := false, narrowed := true }
def FnExactGroupBestUptoSaid : Prop := fnExactGroupBestUptoRow.holds Try.pinned (OpenSpec.upto fnExactGroupBestSpec)

/-- 'laws.FnExactGroupSum', WHERE WHAT IT READS IS OF BULK AT MOST 1048576: true; the input reads as it did. -/
def fnExactGroupSumUptoRow : OpenClaim := { program := "ytmekbfjeljfbpaa", sum := "74c9a9e5c2f37c3e2341d9ee33c75770cde8b09855a1f0d2ad9478e39edcbff2", func := "loop.example/elevators/laws.FnExactGroupSum", spec := "fnExactGroupSum", recurses := true, apart := false, narrowed := true }
def FnExactGroupSumUptoSaid : Prop := fnExactGroupSumUptoRow.holds Try.pinned (OpenSpec.upto fnExactGroupSumSpec)

/-- 'laws.FnGroupSum', WHERE WHAT IT READS IS OF BULK AT MOST 1048576: true; the input reads as it did. -/
def fnGroupSumUptoRow : OpenClaim := { program := "ytmekbfjeljfbpaa", sum := "74c9a9e5c2f37c3e2341d9ee33c75770cde8b09855a1f0d2ad9478e39edcbff2", func := "loop.example/elevators/laws.FnGroupSum", spec := "fnGroupSum", recurses := true, apart := false, narrowed := true }
def FnGroupSumUptoSaid : Prop := fnGroupSumUptoRow.holds Try.pinned (OpenSpec.upto fnGroupSumSpec)

/-- 'laws.FnGroupBest', WHERE WHAT IT READS IS OF BULK AT MOST 1048576: true; the input reads as it did. -/
def fnGroupBestUptoRow : OpenClaim := { program := "ytmekbfjeljfbpaa", sum := "74c9a9e5c2f37c3e2341d9ee33c75770cde8b09855a1f0d2ad9478e39edcbff2", func := "loop.example/elevators/laws.FnGroupBest", spec := "fnGroupBest", recurses := true, apart := false, narrowed := true }
def FnGroupBestUptoSaid : Prop := fnGroupBestUptoRow.holds Try.pinned (OpenSpec.upto fnGroupBestSpec)

/-- 'laws.FnGroupNear', WHERE WHAT IT READS IS OF BULK AT MOST 1048576: true; the input reads as it did. -/
def fnGroupNearUptoRow : OpenClaim := { program := "ytmekbfjeljfbpaa", sum := "74c9a9e5c2f37c3e2341d9ee33c75770cde8b09855a1f0d2ad9478e39edcbff2", func := "loop.example/elevators/laws.FnGroupNear", spec := "fnGroupNear", apart := false, narrowed := true }
def FnGroupNearUptoSaid : Prop := fnGroupNearUptoRow.holds Try.pinned (OpenSpec.upto fnGroupNearSpec)

/-- 'laws.FnGroupLongest', WHERE WHAT IT READS IS OF BULK AT MOST 1048576: true; the input reads as it did. -/
def fnGroupLongestUptoRow : OpenClaim := { program := "ytmekbfjeljfbpaa", sum := "74c9a9e5c2f37c3e2341d9ee33c75770cde8b09855a1f0d2ad9478e39edcbff2", func := "loop.example/elevators/laws.FnGroupLongest", spec := "fnGroupLongest", apart := false, narrowed := true }
def FnGroupLongestUptoSaid : Prop := fnGroupLongestUptoRow.holds Try.pinned (OpenSpec.upto fnGroupLongestSpec)

end Rows
end Go.Proofs.Ytmekbfjeljfbpaa
