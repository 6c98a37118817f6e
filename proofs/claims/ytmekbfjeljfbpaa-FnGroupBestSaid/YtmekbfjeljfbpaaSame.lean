/- sameInts of the laws: contract. -/
import Derived.Test.YtmekbfjeljfbpaaInts
namespace Go.Proofs.Ytmekbfjeljfbpaa
open Go.ChangeShapes Go.WideShapes Go.ChangeAt Go.RowKit

/-- Equal lists are the same. -/
theorem same_any (A A' : Option Addr) (n c c' : Nat) (xs : List Int) (w : World) (hP : Ints w A n xs) (hP' : Ints w A' n xs) :
    Calls Try.prog 21 #[.slice A n c, .slice A' n c'] w (Qt w (.bool true)) := by
  obtain ⟨hl, hm, hc⟩ := hP
  obtain ⟨hl', hm', hc'⟩ := hP'
  have HC := Lib.hid hc
  have HC' := Lib.hid hc'
  clear hl hl' hc hc'
  go_enter Try.func21, Try.ntmps21
  go_wp2
  go_loopw [5] (fun i wr => ∃ k : Nat, k ≤ n ∧ i = .int .i64 k ∧ ∃ m, wr = w.drewN m) (fun i _ => n - (intOf i).toNat)
  case atStart => exact ⟨0, Nat.zero_le _, rfl, 0, rfl⟩
  case round =>
    obtain ⟨k, hk, rfl, m, rfl⟩ := hrel
    by_cases hlt : k < n
    · obtain ⟨b, off, rfl, hb, hcc⟩ := HC.out (by omega)
      obtain ⟨b', off', rfl, hb', hcc'⟩ := HC'.out (by omega)
      have e0 := hcc k hlt
      have e1 := hcc' k hlt
      have hlt' : (k : Int) < (n : Int) := by omega
      clear hcc hcc'
      go_wp2
      try go_quiet (fail)
      all_goals try go_wp2
      all_goals exact ⟨⟨k + 1, by omega, by go_num, _, rfl⟩, by simp [intOf]; omega⟩
    · obtain rfl : k = n := by omega
      go_wp2
      go_ret
      exact qt_drew _ _ _
end Go.Proofs.Ytmekbfjeljfbpaa
