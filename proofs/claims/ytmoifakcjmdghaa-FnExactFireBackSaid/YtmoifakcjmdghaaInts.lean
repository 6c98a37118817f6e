/- Lists of numbers: toIntS, eqIntS of the laws: contracts. -/
import Derived.Test.YtmoifakcjmdghaaFloors
import Derived.Test.YtmoifakcjmdghaaBlk
namespace Go.Proofs.Ytmoifakcjmdghaa
open Go.ChangeShapes Go.WideShapes Go.ChangeAt Go.RowKit

theorem infoInt : (Try.prog.info? 3).map (fun i => (i.zero, i.size, i.bytes)) = some (some (.int .i64 0), 1, 8) := by kernel_rfl

/-- The first k numbers of a row of cells. -/
def Filled1 (cs : Array Value) (n k : Nat) (xs : List Int) : Prop := cs.size = n ∧ ∀ j, j < k → cs[j]? = some (.int .i64 (xs[j]?.getD 0))
theorem Filled1.next {cs : Array Value} {n k : Nat} {xs : List Int} (h : Filled1 cs n k xs) (hk : k < n) : Filled1 (cs.setIfInBounds k (.int .i64 (xs[k]?.getD 0))) n (k + 1) xs := by
  refine ⟨by simpa using h.1, fun j hj => ?_⟩
  have hs := h.1
  by_cases e : j = k
  · subst e
    rw [Array.getElem?_setIfInBounds_self_of_lt (by omega)]
  · rw [Array.getElem?_setIfInBounds_ne (by omega)]; exact h.2 j (by omega)

/-- A slice of numbers in new memory: block g, its cells may be written. -/
def IntsNew (w : World) (xs : List Int) (e : Ending) (w' : World) : Prop :=
  ∃ (g c : Nat), e = .returned (.slice (some ⟨g, 0, none⟩) xs.length c) ∧ w.heap.size ≤ g ∧ Ints w' (some ⟨g, 0, none⟩) xs.length xs ∧ Below w.heap.size w w'

/-- Equal lists are equal. -/
theorem eqInts_any (A A' : Option Addr) (n c c' : Nat) (xs : List Int) (w : World) (hP : Ints w A n xs) (hP' : Ints w A' n xs) :
    Calls Try.prog 8 #[.slice A n c, .slice A' n c'] w (Qt w (.bool true)) := by
  obtain ⟨hl, hm, hc⟩ := hP
  obtain ⟨hl', hm', hc'⟩ := hP'
  have HC := Lib.hid hc
  have HC' := Lib.hid hc'
  clear hl hl' hc hc'
  go_enter Try.func8, Try.ntmps8
  go_wp2
  go_loopw [5] (fun i wr => ∃ k : Nat, k ≤ n ∧ i = .int .i64 k ∧ ∃ m, wr = w.drewN m) (fun i _ => n - (intOf i).toNat)
  case atStart => exact ⟨0, Nat.zero_le _, rfl, 0, rfl⟩
  case round =>
    obtain ⟨k, hk, rfl, m, rfl⟩ := hrel
    by_cases hlt : k < n
    · obtain ⟨b, off, rfl, hb, hcc⟩ := HC.out (by omega)
      obtain ⟨b', off', rfl, hb', hcc'⟩ := HC'.out (by omega)
      have e0 := hcc k hlt
      have e1 := hcc' k hlt
      have hlt' : (k : Int) < (n : Int) := by omega
      clear hcc hcc'
      go_wp2
      try go_quiet (fail)
      all_goals try go_wp2
      all_goals exact ⟨⟨k + 1, by omega, by go_num, _, rfl⟩, by simp [intOf]; omega⟩
    · obtain rfl : k = n := by omega
      go_wp2
      go_ret
      exact qt_drew _ _ _
end Go.Proofs.Ytmoifakcjmdghaa
