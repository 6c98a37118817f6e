/- Lists of numbers: toIntS, eqIntS of the laws: contracts. -/
import Derived.Test.YtkhooomjfjancaaFloors
import Derived.Test.YtkhooomjfjancaaBlk
namespace Go.Proofs.Ytkhooomjfjancaa
open Go.ChangeShapes Go.WideShapes Go.ChangeAt Go.RowKit

theorem infoInt : (Try.prog.info? 3).map (fun i => (i.zero, i.size, i.bytes)) = some (some (.int .i64 0), 1, 8) := by kernel_rfl

theorem Ints.drewN {w : World} {A : Option Addr} {n : Nat} {xs : List Int} (h : Ints w A n xs) (m : Nat) : Ints (w.drewN m) A n xs := h

/-- The first k numbers of a row of cells. -/
def Filled1 (cs : Array Value) (n k : Nat) (xs : List Int) : Prop := cs.size = n ∧ ∀ j, j < k → cs[j]? = some (.int .i64 (xs[j]?.getD 0))
theorem Filled1.next {cs : Array Value} {n k : Nat} {xs : List Int} (h : Filled1 cs n k xs) (hk : k < n) : Filled1 (cs.setIfInBounds k (.int .i64 (xs[k]?.getD 0))) n (k + 1) xs := by
  refine ⟨by simpa using h.1, fun j hj => ?_⟩
  have hs := h.1
  by_cases e : j = k
  · subst e
    rw [Array.getElem?_setIfInBounds_self_of_lt (by omega)]
  · rw [Array.getElem?_setIfInBounds_ne (by omega)]; exact h.2 j (by omega)

/-- A slice of numbers in new memory: block g, its cells may be written. -/
def IntsNew (w : World) (xs : List Int) (e : Ending) (w' : World) : Prop :=
  ∃ (g c : Nat), e = .returned (.slice (some ⟨g, 0, none⟩) xs.length c) ∧ w.heap.size ≤ g ∧ Ints w' (some ⟨g, 0, none⟩) xs.length xs ∧ Below w.heap.size w w'

end Go.Proofs.Ytkhooomjfjancaa
