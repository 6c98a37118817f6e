/- Lists within bounds: contract. -/
import Derived.Test.YtmekbfjeljfbpaaInts
namespace Go.Proofs.Ytmekbfjeljfbpaa
open Go.ChangeShapes Go.WideShapes Go.ChangeAt Go.RowKit

/-- All numbers of a list are in a..b; a Bool that the walk does not open. -/
def allB (xs : List Int) (a b : Int) : Bool := decide (∀ k, k < xs.length → a ≤ xs[k]?.getD 0 ∧ xs[k]?.getD 0 ≤ b)
theorem allB_iff {xs : List Int} {a b : Int} : allB xs a b = true ↔ ∀ k, k < xs.length → a ≤ xs[k]?.getD 0 ∧ xs[k]?.getD 0 ≤ b := by simp [allB]
theorem allB_yes {xs : List Int} {a b : Int} {n : Nat} (hn : xs.length = n) (h : ∀ k, k < n → a ≤ xs[k]?.getD 0 ∧ xs[k]?.getD 0 ≤ b) : allB xs a b = true := by rw [allB_iff, hn]; exact h
theorem allB_no {xs : List Int} {a b : Int} {n k : Nat} (hn : xs.length = n) (hk : k < n) (h : xs[k]?.getD 0 < a ∨ b < xs[k]?.getD 0) : allB xs a b = false := by
  cases e : allB xs a b with
  | false => rfl
  | true => have := allB_iff.1 e k (by omega); omega
theorem allB_at {xs : List Int} {a b : Int} {n k : Nat} (h : allB xs a b = true) (hn : xs.length = n) (hk : k < n) : a ≤ xs[k]?.getD 0 ∧ xs[k]?.getD 0 ≤ b := allB_iff.1 h k (by omega)

set_option maxHeartbeats 1000000 in
theorem within_any (A : Option Addr) (n c : Nat) (xs : List Int) (b : Int) (w : World) (h : Ints w A n xs) :
    Calls Try.prog 49 #[.slice A n c, .int .i64 b] w fun e w' => e = .returned (.bool (allB xs 0 (b - 1))) ∧ w = w' := by
  obtain ⟨hl, hm, hc⟩ := h
  have HL := Lib.hid hl
  have HC := Lib.hid hc
  clear hl hc
  go_enter Try.func49, Try.ntmps49
  go_wp2
  go_loop [9] (fun i => ∃ k : Nat, k ≤ n ∧ i = .int .i64 k ∧ ∀ j, j < k → 0 ≤ xs[j]?.getD 0 ∧ xs[j]?.getD 0 < b) (fun i => n - (intOf i).toNat)
  case atStart => exact ⟨0, Nat.zero_le _, rfl, fun j hj => by omega⟩
  case round =>
    obtain ⟨k, hk, rfl, hall⟩ := hrel
    have HA := Lib.hid hall
    clear hall
    by_cases hlt : k < n
    · obtain ⟨q, off, rfl, hb, hcc⟩ := HC.out (by omega)
      obtain ⟨y, hy⟩ : ∃ y, xs[k]?.getD 0 = y := ⟨_, rfl⟩
      have e0 := hcc k hlt
      rw [hy] at e0
      have HY := Lib.hid hy
      clear hcc hy
      have hlt' : (k : Int) < (n : Int) := by omega
      go_wp2
      all_goals first
        | (go_ret
           exact ⟨ret_bool (allB_no HL.out hlt (by rw [HY.out]; omega)).symm, rfl⟩)
        | (go_round
           case rel => exact ⟨k + 1, by omega, by go_num, fun j hj => by
            by_cases e : j = k
            · subst e; rw [HY.out]; omega
            · exact HA.out j (by omega)⟩
           case measure => simp [intOf]; omega)
    · obtain rfl : k = n := by omega
      go_wp2
      go_ret
      exact ⟨ret_bool (allB_yes HL.out (fun j hj => by have := HA.out j hj; omega)).symm, rfl⟩

theorem within_to (A : Option Addr) (n c : Nat) (xs : List Int) (b d : Int) (hb : b = d + 1) (w : World) (h : Ints w A n xs) :
    Calls Try.prog 49 #[.slice A n c, .int .i64 b] w fun e w' => e = .returned (.bool (allB xs 0 d)) ∧ w = w' := by
  have := within_any A n c xs b w h
  rwa [show b - 1 = d by omega] at this

end Go.Proofs.Ytmekbfjeljfbpaa
