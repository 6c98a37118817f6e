/- The places of a number (l14Places): contract; what places cost, in plain words. -/
import Derived.Test.YtbjnkjookokjaaaWaitC
import Derived.Test.YtbjnkjookokjaaaWaitP
import Derived.Test.YtbjnkjookokjaaaNums
namespace Go.Proofs.Ytbjnkjookokjaaa
open Go.ChangeShapes Go.WideShapes Go.ChangeAt Go.RowKit

theorem bits_succ (m k : Nat) : WP.bitsOf m (k + 1) = if m / 2 ^ k % 2 = 1 then WP.bitsOf m k ++ [k] else WP.bitsOf m k := by
  unfold WP.bitsOf
  rw [List.range_succ, List.filter_append]
  by_cases h : m / 2 ^ k % 2 = 1
  · rw [if_pos h]; simp [h]
  · rw [if_neg h]; simp [h]
theorem bits_len (m k : Nat) : (WP.bitsOf m k).length ≤ k := by
  unfold WP.bitsOf
  exact Nat.le_trans (List.length_filter_le _ _) (by simp)

set_option maxHeartbeats 2000000 in
theorem places_any (m : Nat) (hm : m ≤ 255) (w : World) : Calls Try.prog 37 #[.int .i64 (m : Int)] w (NumsOut w (WP.bitsOf m 8)) := by
  have Hz0 := OwnI.made (w := w.alloc (.cells #[] 3)) (base := w.heap.size) (g := w.heap.size) (xs := []) (Nat.le_refl _) (heap_alloc_new w _) (by unfold maxLen; decide)
  have hm0 : 0 ≤ (m : Int) := by omega
  have hm' : (m : Int) ≤ 255 := by omega
  go_enter Try.func37, Try.ntmps37
  go_wp2_with fail
  go_loopw [3, 4] (fun v i wr => ∃ (v0 : Value) (k : Nat), v0 = v ∧ k ≤ 8 ∧ i = .int .i64 k ∧ OwnI wr w.heap.size v0 (nums (WP.bitsOf m k)) ∧ Below w.heap.size w wr) (fun _ i _ => 8 - (intOf i).toNat)
  case atStart => exact ⟨_, 0, rfl, by omega, rfl, Hz0, (Below.refl _ w).alloc (Nat.le_refl _) _⟩
  case round =>
    obtain ⟨v0, k, rfl, hk, rfl, hv, hb⟩ := hrel
    by_cases hlt : k < 8
    · have hlt' : (k : Int) < 8 := by omega
      have hs := bits_succ m k
      have hl := bits_len m k
      have hq : m / 2 ^ k ≤ m := Nat.div_le_self _ _
      have hsh : (m : Int) / 2 ^ k = ((m / 2 ^ k : Nat) : Int) := by rw [Int.natCast_ediv, Int.natCast_pow]; rfl
      obtain ⟨q, hq2⟩ : ∃ q, m / 2 ^ k = q := ⟨_, rfl⟩
      rw [hq2] at hs hq hsh
      have e1 : (q : Int).tmod 2 = ((q % 2 : Nat) : Int) := by rw [Int.tmod_eq_emod_of_nonneg (by omega)]; exact (Int.natCast_emod _ _).symm
      have e2 : ((m : Int) / 2 ^ k).tmod 2 = ((q % 2 : Nat) : Int) := by rw [hsh, e1]
      have e3 : IntKind.i64.wrap (((m : Int) / 2 ^ k).tmod 2) = ((q % 2 : Nat) : Int) := by rw [e2]; exact IntWalk.i64_in _ ⟨by omega, by omega⟩
      have hbs := hb.size
      have hl9 : (nums (WP.bitsOf m k)).length ≤ 9 := by rw [nums_length]; omega
      clear hq2 e1
      have e5 : (q : Int) % 2 = ((q % 2 : Nat) : Int) := (Int.natCast_emod _ _).symm
      by_cases hb1 : q % 2 = 1
      · have HS : Hid (nums (WP.bitsOf m (k + 1)) = nums (WP.bitsOf m k) ++ [(k : Int)]) := Lib.hid (by rw [hs, if_pos hb1, nums_snoc])
        rw [hb1] at e2 e3 e5
        have e6 : ((q : Int) % 2 == 1) = true := by rw [e5]; rfl
        clear hs hl
        go_wp2_with (at_builtin; refine app_int rfl _ _ rfl (w.heap.size) wr.heap.size _ (nums (WP.bitsOf m k)) (k : Int) rfl rfl (hv.alloc _) ?_ ?_ ?_ ?_; (focus (first | (go_simp; done) | (simp; done) | omega | (simp; omega))); (focus (first | (go_simp; done) | (simp; done) | omega | (simp; omega))); (focus (first | (go_simp; done) | (simp; done) | omega | (simp; omega))); intro v1 w1 h1 g1; have zw1 := g1.size; (try simp at zw1))
        exact ⟨⟨_, k + 1, rfl, by omega, by go_num, by rw [HS.out]; exact h1, hb.trans (((Below.refl _ wr).alloc hb.size _).trans g1)⟩, by simp [intOf]; omega⟩
      · have HS : Hid (nums (WP.bitsOf m (k + 1)) = nums (WP.bitsOf m k)) := Lib.hid (by rw [hs, if_neg hb1])
        have hb0 : q % 2 = 0 := by omega
        rw [hb0] at e2 e3 e5
        have e6 : ((q : Int) % 2 == 1) = false := by rw [e5]; rfl
        clear hs hl hb1
        go_wp2
        exact ⟨⟨_, k + 1, rfl, by omega, by go_num, by rw [HS.out]; exact hv, hb⟩, by simp [intOf]; omega⟩
    · obtain rfl : k = 8 := by omega
      go_wp2
      go_ret
      exact ⟨_, rfl, hv, hb⟩
end Go.Proofs.Ytbjnkjookokjaaa
