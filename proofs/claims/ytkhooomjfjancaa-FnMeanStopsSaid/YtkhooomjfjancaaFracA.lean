/- FracOf of the program and of the reference: contracts. -/
import Derived.Test.YtkhooomjfjancaaBase
import Derived.Deep.RegionHeld3
import Derived.Deep.RegionWith
import Derived.Deep.DeepCutAuto
namespace Go.Proofs.Ytkhooomjfjancaa
open Go.ChangeShapes Go.WideShapes Go.ChangeAt Go.RowKit

/-- The greatest common divisor. -/
def gcdI (a b : Int) : Int := (Nat.gcd a.toNat b.toNat : Nat)
theorem gcdI_nat (a b : Nat) : gcdI (a : Int) (b : Int) = ((Nat.gcd a b : Nat) : Int) := by simp [gcdI]
/-- Terms in their bounds. -/
def fracOk (n d : Int) : Prop := 0 ≤ n ∧ n ≤ 1000000 ∧ 1 ≤ d ∧ d ≤ 1000000
instance (n d : Int) : Decidable (fracOk n d) := by unfold fracOk; infer_instance
/-- The fraction in lowest terms. -/
def fracT (n d : Int) : Int × Int × Bool := if fracOk n d then (n / gcdI n d, d / gcdI n d, true) else (0, 0, false)
theorem fracT_no {n d : Int} (h : ¬ fracOk n d) : fracT n d = (0, 0, false) := by simp [fracT, h]
theorem fracT_yes {n d : Int} (h : fracOk n d) : fracT n d = (n / gcdI n d, d / gcdI n d, true) := by simp [fracT, h]
theorem gcd_step (x y : Nat) (_hy : 0 < y) : Nat.gcd y (x % y) = Nat.gcd x y := by
  rw [Nat.gcd_comm x y, Nat.gcd_rec y x, Nat.gcd_comm]
theorem gcdI_pos {n d : Int} (h : fracOk n d) : 1 ≤ gcdI n d := by
  obtain ⟨h1, h2, h3, h4⟩ := h
  have : 0 < Nat.gcd n.toNat d.toNat := Nat.gcd_pos_of_pos_right _ (by omega)
  unfold gcdI
  omega

theorem tmod_nat (x y : Nat) : (x : Int).tmod (y : Int) = ((x % y : Nat) : Int) := by
  rw [Int.tmod_eq_emod_of_nonneg (by omega)]; exact (Int.natCast_emod _ _).symm

theorem gcd_spec (a d : Nat) (w : World) (ha : a ≤ 1000000) (hd1 : 1 ≤ d) (hd2 : d ≤ 1000000) : Calls Try.prog 29 #[.int .i64 a, .int .i64 d] w fun e w' => e = .returned (.int .i64 (gcdI a d)) ∧ w = w' := by
  have ha' : (a : Int) ≤ 1000000 := by omega
  have hd' : (d : Int) ≤ 1000000 := by omega
  rw [gcdI_nat]
  go_enter Try.func29, Try.ntmps29
  go_wp2
  go_loop [0, 1] (fun u v => ∃ x y : Nat, u = .int .i64 x ∧ v = .int .i64 y ∧ Nat.gcd x y = Nat.gcd a d ∧ x ≤ 1000000 ∧ y ≤ 1000000) (fun _ v => (intOf v).toNat)
  case atStart => exact ⟨a, d, rfl, rfl, rfl, ha, hd2⟩
  case round =>
    obtain ⟨x, y, rfl, rfl, hg, hx, hy⟩ := hrel
    have HG := Lib.hid hg
    clear hg
    by_cases hy0 : y = 0
    · subst hy0
      go_wp2
      go_ret
      exact ⟨ret_int (by have := HG.out; rw [Nat.gcd_zero_right] at this; rw [this]), rfl⟩
    · have e0 : ((y : Int) != 0) = true := by simp; omega
      have e1 : ((y : Int) == 0) = false := by simp; omega
      have hy1 : 1 ≤ (y : Int) := by omega
      have hm := Nat.mod_lt x (show 0 < y by omega)
      clear hy0
      go_wp2
      go_round
      case rel => exact ⟨y, x % y, rfl, by simp, by rw [gcd_step x y (by omega)]; exact HG.out, hy, by omega⟩
      case measure => simp [intOf]; omega

set_option maxHeartbeats 1000000 in
theorem frac_impl (n d : Int) (w : World) : Calls Try.prog 12 #[.int .i64 n, .int .i64 d] w fun e w' => e = .returned (.tuple #[.agg #[.int .i64 (fracT n d).1, .int .i64 (fracT n d).2.1], .bool (fracT n d).2.2]) ∧ Below w.heap.size w w' := by
  by_cases h : fracOk n d
  · obtain ⟨h1, h2, h3, h4⟩ := id h
    obtain ⟨a, rfl⟩ := Int.eq_ofNat_of_zero_le h1
    obtain ⟨b, rfl⟩ := Int.eq_ofNat_of_zero_le (show 0 ≤ d by omega)
    have hp := gcdI_pos h
    rw [fracT_yes h, gcdI_nat]
    rw [gcdI_nat] at hp
    go_enter Try.func12, Try.ntmps12
    go_wp2
    go_loopw [6, 7] (fun u v wr => ∃ x y : Nat, u = .int .i64 x ∧ v = .int .i64 y ∧ Nat.gcd x y = Nat.gcd a b ∧ x ≤ 1000000 ∧ y ≤ 1000000 ∧ ∃ m, wr = (w.alloc (.cells #[.int .i64 0, .int .i64 0] 23)).drewN m) (fun _ v _ => (intOf v).toNat)
    case atStart => exact ⟨a, b, rfl, rfl, rfl, by omega, by omega, 0, rfl⟩
    case round =>
      obtain ⟨x, y, rfl, rfl, hg, hx, hy, m, rfl⟩ := hrel
      have HG := Lib.hid hg
      clear hg
      by_cases hy0 : y = 0
      · subst hy0
        have hxg : x = Nat.gcd a b := by have := HG.out; rwa [Nat.gcd_zero_right] at this
        rw [← hxg] at hp
        have HX := Lib.hid hxg
        clear hxg
        have b0 : 0 ≤ (a : Int) / (x : Int) := Int.ediv_nonneg (by omega) (by omega)
        have b1 : (a : Int) / (x : Int) ≤ (a : Int) := Int.ediv_le_self _ (by omega)
        have b2 : 0 ≤ (b : Int) / (x : Int) := Int.ediv_nonneg (by omega) (by omega)
        have b3 : (b : Int) / (x : Int) ≤ (b : Int) := Int.ediv_le_self _ (by omega)
        go_wp2
        try go_region
        all_goals go_wp2
        all_goals refine bodyPost_ret (by simp [results, Try.results12, go_sem, *]; try rfl) rfl ?_
        all_goals refine ⟨?_, by (repeat' (first | (with_reducible exact Below.refl _ _) | (with_reducible assumption) | (with_reducible exact bundrew (by assumption)) | (with_reducible refine balloc ?_ _) | (with_reducible refine bset ?_ _ ?_ _) | (with_reducible refine Below.drew ?_) | (with_reducible refine bdrewN ?_ _) | (with_reducible refine bvia (by assumption) ?_) | (with_reducible refine Below.trans ?_ (by assumption)) | omega | (simp; omega) | (simp; done)))⟩
        all_goals rw [← HX.out]
        all_goals first | rfl | rw [IntWalk.wrap64_in _ ⟨by omega, by omega⟩, IntWalk.wrap64_in _ ⟨by omega, by omega⟩]
      · have e0 : ((y : Int) != 0) = true := by simp; omega
        have e1 : ((y : Int) == 0) = false := by simp; omega
        have hy1 : 1 ≤ (y : Int) := by omega
        have hm := Nat.mod_lt x (show 0 < y by omega)
        have e2 := tmod_nat x y
        clear hy0
        go_wp2
        go_quiet (fail)
        go_wp2
        exact ⟨⟨y, x % y, rfl, by simp, by rw [gcd_step x y (by omega)]; exact HG.out, hy, by omega, _, World.drewN_drewN _ _ _⟩, by simp [intOf]; omega⟩
  · rw [fracT_no h]
    have hx : n < 0 ∨ 1000000 < n ∨ d < 1 ∨ 1000000 < d := by unfold fracOk at h; omega
    clear h
    rcases hx with hx | hx | hx | hx
    all_goals
      go_enter Try.func12, Try.ntmps12
      go_wp2
    all_goals refine bodyPost_ret (by simp [results, Try.results12, go_sem, *]; try rfl) rfl ?_
    all_goals exact ⟨rfl, by (repeat' (first | (with_reducible exact Below.refl _ _) | (with_reducible assumption) | (with_reducible exact bundrew (by assumption)) | (with_reducible refine balloc ?_ _) | (with_reducible refine bset ?_ _ ?_ _) | (with_reducible refine Below.drew ?_) | (with_reducible refine bdrewN ?_ _) | (with_reducible refine bvia (by assumption) ?_) | (with_reducible refine Below.trans ?_ (by assumption)) | omega | (simp; omega) | (simp; done)))⟩

set_option maxHeartbeats 1000000 in
theorem frac_spec (n d : Int) (w : World) : Calls Try.prog 11 #[.int .i64 n, .int .i64 d] w fun e w' => e = .returned (.tuple #[.agg #[.int .i64 (fracT n d).1, .int .i64 (fracT n d).2.1], .bool (fracT n d).2.2]) ∧ Below w.heap.size w w' := by
  by_cases h : fracOk n d
  · obtain ⟨h1, h2, h3, h4⟩ := id h
    obtain ⟨a, rfl⟩ := Int.eq_ofNat_of_zero_le h1
    obtain ⟨b, rfl⟩ := Int.eq_ofNat_of_zero_le (show 0 ≤ d by omega)
    have hp := gcdI_pos h
    rw [fracT_yes h]
    have y1 := inB_yes (show 0 ≤ (a : Int) ∧ (a : Int) ≤ 1000000 from ⟨h1, h2⟩)
    have y2 := inB_yes (show 1 ≤ (b : Int) ∧ (b : Int) ≤ 1000000 from ⟨h3, h4⟩)
    have b0 : 0 ≤ (a : Int) / gcdI a b := Int.ediv_nonneg (by omega) (by omega)
    have b1 : (a : Int) / gcdI a b ≤ (a : Int) := Int.ediv_le_self _ (by omega)
    have b2 : 0 ≤ (b : Int) / gcdI a b := Int.ediv_nonneg (by omega) (by omega)
    have b3 : (b : Int) / gcdI a b ≤ (b : Int) := Int.ediv_le_self _ (by omega)
    go_enter Try.func11, Try.ntmps11
    go_wp2_with (first | (go_at_call 28; refine (l1In_any _ _ _ _).mono ?_; rintro e w' ⟨rfl, rfl⟩) | (go_at_call 29; refine (gcd_spec _ _ _ (by omega) (by omega) (by omega)).mono ?_; rintro e w' ⟨rfl, rfl⟩))
    try go_region
    all_goals go_wp2
    all_goals refine bodyPost_ret (by simp [results, Try.results11, go_sem, *]; try rfl) rfl ?_
    all_goals refine ⟨?_, by (repeat' (first | (with_reducible exact Below.refl _ _) | (with_reducible assumption) | (with_reducible exact bundrew (by assumption)) | (with_reducible refine balloc ?_ _) | (with_reducible refine bset ?_ _ ?_ _) | (with_reducible refine Below.drew ?_) | (with_reducible refine bdrewN ?_ _) | (with_reducible refine bvia (by assumption) ?_) | (with_reducible refine Below.trans ?_ (by assumption)) | omega | (simp; omega) | (simp; done)))⟩
    all_goals first | rfl | rw [IntWalk.wrap64_in _ ⟨by omega, by omega⟩, IntWalk.wrap64_in _ ⟨by omega, by omega⟩]
  · rw [fracT_no h]
    have hx : ¬ inB n 0 1000000 = true ∨ ¬ inB d 1 1000000 = true := by
      simp only [inB, decide_eq_true_eq]; unfold fracOk at h; omega
    clear h
    rcases hx with hx | hx
    · have hx' := bfalse hx
      go_enter Try.func11, Try.ntmps11
      go_wp2_with (go_at_call 28; refine (l1In_any _ _ _ _).mono ?_; rintro e w' ⟨rfl, rfl⟩)
      refine bodyPost_ret (by simp [results, Try.results11, go_sem, *]; try rfl) rfl ?_
      exact ⟨rfl, by (repeat' (first | (with_reducible exact Below.refl _ _) | (with_reducible assumption) | (with_reducible exact bundrew (by assumption)) | (with_reducible refine balloc ?_ _) | (with_reducible refine bset ?_ _ ?_ _) | (with_reducible refine Below.drew ?_) | (with_reducible refine bdrewN ?_ _) | (with_reducible refine bvia (by assumption) ?_) | (with_reducible refine Below.trans ?_ (by assumption)) | omega | (simp; omega) | (simp; done)))⟩
    · have hx' := bfalse hx
      go_enter Try.func11, Try.ntmps11
      go_wp2_with (go_at_call 28; refine (l1In_any _ _ _ _).mono ?_; rintro e w' ⟨rfl, rfl⟩)
      all_goals refine bodyPost_ret (by simp [results, Try.results11, go_sem, *]; try rfl) rfl ?_
      all_goals exact ⟨rfl, by (repeat' (first | (with_reducible exact Below.refl _ _) | (with_reducible assumption) | (with_reducible exact bundrew (by assumption)) | (with_reducible refine balloc ?_ _) | (with_reducible refine bset ?_ _ ?_ _) | (with_reducible refine Below.drew ?_) | (with_reducible refine bdrewN ?_ _) | (with_reducible refine bvia (by assumption) ?_) | (with_reducible refine Below.trans ?_ (by assumption)) | omega | (simp; omega) | (simp; done)))⟩
end Go.Proofs.Ytkhooomjfjancaa
