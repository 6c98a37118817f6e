/- FloorWay of the program and of the reference: contracts. -/
import Derived.Test.YtmekbfjeljfbpaaFvs
namespace Go.Proofs.Ytmekbfjeljfbpaa
open Go.ChangeShapes Go.WideShapes Go.ChangeAt Go.RowKit

theorem isFloor_any (n f : Int) (w : World) : Calls Try.prog 47 #[.int .i64 n, .int .i64 f] w fun e w' => e = .returned (.bool (inB n 0 (f - 1))) ∧ w = w' := by
  go_enter Try.func47, Try.ntmps47
  go_wp2
  all_goals go_ret
  all_goals refine ⟨ret_bool ?_, rfl⟩
  all_goals (rw [Bool.eq_iff_iff]; simp only [inB, decide_eq_true_eq, Bool.false_eq_true, false_iff] at *; omega)

/-- How far two numbers are from each other. -/
def farI (a b : Int) : Int := if a < b then b - a else a - b
theorem farI_in {a b : Int} (h1 : 0 ≤ a ∧ a ≤ 60) (h2 : 0 ≤ b ∧ b ≤ 60) : 0 ≤ farI a b ∧ farI a b ≤ 60 := by unfold farI; split <;> omega
theorem steps_any (a b : Int) (w : World) (h1 : -1000000 ≤ a ∧ a ≤ 1000000) (h2 : -1000000 ≤ b ∧ b ≤ 1000000) : Calls Try.prog 48 #[.int .i64 a, .int .i64 b] w fun e w' => e = .returned (.int .i64 (farI a b)) ∧ w = w' := by
  obtain ⟨h3, h4⟩ := h1
  obtain ⟨h5, h6⟩ := h2
  go_enter Try.func48, Try.ntmps48
  go_wp2
  all_goals go_ret
  all_goals refine ⟨ret_int ?_, rfl⟩
  all_goals (simp only [farI]; split <;> omega)
theorem far_any (a b : Int) (w : World) (h1 : -1000000 ≤ a ∧ a ≤ 1000000) (h2 : -1000000 ≤ b ∧ b ≤ 1000000) : Calls Try.prog 62 #[.int .i64 a, .int .i64 b] w fun e w' => e = .returned (.int .i64 (farI a b)) ∧ w = w' := by
  obtain ⟨h3, h4⟩ := h1
  obtain ⟨h5, h6⟩ := h2
  go_enter Try.func62, Try.ntmps62
  go_wp2
  all_goals go_ret
  all_goals refine ⟨ret_int ?_, rfl⟩
  all_goals (simp only [farI]; first | omega | (split <;> omega))

/-- The way between two floors. -/
def wayI (xs : List Int) (a b : Int) : Int := if fvB xs = true ∧ inB a 0 ((xs.length : Int) - 1) = true ∧ inB b 0 ((xs.length : Int) - 1) = true then farI (xs[a.toNat]?.getD 0) (xs[b.toNat]?.getD 0) else -1
theorem wayI_no {xs : List Int} {a b : Int} (h : ¬ (fvB xs = true ∧ inB a 0 ((xs.length : Int) - 1) = true ∧ inB b 0 ((xs.length : Int) - 1) = true)) : wayI xs a b = -1 := by unfold wayI; rw [if_neg h]
theorem wayI_yes {xs : List Int} {a b n : Nat} (hv : fvB xs = true) (hn : xs.length = n) (ha : a < n) (hb : b < n) : wayI xs a b = farI (xs[a]?.getD 0) (xs[b]?.getD 0) := by
  unfold wayI
  rw [if_pos ⟨hv, inB_yes (by omega), inB_yes (by omega)⟩]
  rfl
theorem wayI_in {xs : List Int} {a b n : Nat} (hv : fvB xs = true) (hn : xs.length = n) (ha : a < n) (hb : b < n) : 0 ≤ wayI xs a b ∧ wayI xs a b ≤ 60 := by
  rw [wayI_yes hv hn ha hb]
  exact farI_in (fv_range (fv_open hv) (by omega)) (fv_range (fv_open hv) (by omega))

set_option maxHeartbeats 2000000 in
theorem way_impl (A : Option Addr) (n c : Nat) (xs : List Int) (a b : Int) (w : World) (h : Ints w A n xs) : Calls Try.prog 26 #[.slice A n c, .int .i64 a, .int .i64 b] w (Qt w (.int .i64 (wayI xs a b))) := by
  have HL := Lib.hid h.1
  cases hv : fvB xs
  · rw [wayI_no (by simp [hv])]
    go_enter Try.func26, Try.ntmps26
    go_wp2_with (first | (go_at_call 46; refine (fv_any _ _ _ xs _ h).mono ?_; rintro e w' ⟨rfl, m, rfl⟩) | (go_at_call 47; refine (isFloor_any _ _ _).mono ?_; rintro e w' ⟨rfl, rfl⟩))
    go_ret
    exact qt_drew _ _ _
  · by_cases ha : inB a 0 ((n : Int) - 1) = true
    · by_cases hb : inB b 0 ((n : Int) - 1) = true
      · obtain ⟨a1, a2⟩ := inB_open ha
        obtain ⟨b1, b2⟩ := inB_open hb
        obtain ⟨i, rfl⟩ := Int.eq_ofNat_of_zero_le a1
        obtain ⟨j, rfl⟩ := Int.eq_ofNat_of_zero_le b1
        have hi : i < n := by omega
        have hj : j < n := by omega
        have hF := wayI_yes hv HL.out hi hj
        obtain ⟨q, off, rfl, hq, hc⟩ := h.2.2 (by omega)
        have c1 := hc i hi
        have c2 := hc j hj
        have r1 := fv_range (fv_open hv) (j := i) (by rw [HL.out]; exact hi)
        have r2 := fv_range (fv_open hv) (j := j) (by rw [HL.out]; exact hj)
        rw [hF]
        obtain ⟨y, hy⟩ : ∃ y, xs[i]?.getD 0 = y := ⟨_, rfl⟩
        obtain ⟨z, hz⟩ : ∃ z, xs[j]?.getD 0 = z := ⟨_, rfl⟩
        rw [hy] at c1 r1 ⊢
        rw [hz] at c2 r2 ⊢
        obtain ⟨r3, r4⟩ := r1
        obtain ⟨r5, r6⟩ := r2
        have C1 := Lib.hid c1
        have C2 := Lib.hid c2
        clear hc hF hy hz c1 c2
        go_enter Try.func26, Try.ntmps26
        go_wp2_with fail
        refine (fv_any _ _ _ xs _ h).mono ?_
        rintro e wr ⟨rfl, m, hm⟩
        have c1 : wr.cell? ⟨q, off + i, none⟩ = some (.int .i64 y) := by rw [hm]; exact C1.out
        have c2 : wr.cell? ⟨q, off + j, none⟩ = some (.int .i64 z) := by rw [hm]; exact C2.out
        have HM := Lib.hid hm
        clear hm
        go_wp2_with (go_at_call 47; refine (isFloor_any _ _ _).mono ?_; rintro e w' ⟨rfl, rfl⟩)
        go_quiet ((go_at_call 48; exact Calls.quiet_of_same (flipW (steps_any _ _ _ (by omega) (by omega)))))
        go_wp2
        go_ret
        exact ⟨rfl, _, by rw [HM.out]; exact World.drewN_drewN _ _ _⟩
      · rw [wayI_no (by rw [HL.out]; simp [hb])]
        have hb' := bfalse hb
        go_enter Try.func26, Try.ntmps26
        go_wp2_with (first | (go_at_call 46; refine (fv_any _ _ _ xs _ h).mono ?_; rintro e w' ⟨rfl, m, rfl⟩) | (go_at_call 47; refine (isFloor_any _ _ _).mono ?_; rintro e w' ⟨rfl, rfl⟩))
        go_ret
        exact qt_drew _ _ _
    · rw [wayI_no (by rw [HL.out]; simp [ha])]
      have ha' := bfalse ha
      go_enter Try.func26, Try.ntmps26
      go_wp2_with (first | (go_at_call 46; refine (fv_any _ _ _ xs _ h).mono ?_; rintro e w' ⟨rfl, m, rfl⟩) | (go_at_call 47; refine (isFloor_any _ _ _).mono ?_; rintro e w' ⟨rfl, rfl⟩))
      go_ret
      exact qt_drew _ _ _

set_option maxHeartbeats 2000000 in
theorem way_spec (A : Option Addr) (n c : Nat) (xs : List Int) (a b : Int) (w : World) (h : Ints w A n xs) : Calls Try.prog 45 #[.slice A n c, .int .i64 a, .int .i64 b] w (Qt w (.int .i64 (wayI xs a b))) := by
  have HL := Lib.hid h.1
  have hm := h.2.1
  have hm' : (n : Int) ≤ 9223372036854775807 := by omega
  have n0 : 0 ≤ (n : Int) := by omega
  cases hv : fvB xs
  · rw [wayI_no (by simp [hv])]
    go_enter Try.func45, Try.ntmps45
    go_wp2_with (first | (go_at_call 43; refine (fvs_any _ _ _ xs _ h).mono ?_; rintro e w' ⟨rfl, m, rfl⟩) | (go_at_call 50; refine (l1In_any _ _ _ _).mono ?_; rintro e w' ⟨rfl, rfl⟩))
    go_ret
    exact qt_drew _ _ _
  · by_cases ha : inB a 0 ((n : Int) - 1) = true
    · by_cases hb : inB b 0 ((n : Int) - 1) = true
      · obtain ⟨a1, a2⟩ := inB_open ha
        obtain ⟨b1, b2⟩ := inB_open hb
        obtain ⟨i, rfl⟩ := Int.eq_ofNat_of_zero_le a1
        obtain ⟨j, rfl⟩ := Int.eq_ofNat_of_zero_le b1
        have hi : i < n := by omega
        have hj : j < n := by omega
        have hF := wayI_yes hv HL.out hi hj
        obtain ⟨q, off, rfl, hq, hc⟩ := h.2.2 (by omega)
        have c1 := hc i hi
        have c2 := hc j hj
        have r1 := fv_range (fv_open hv) (j := i) (by rw [HL.out]; exact hi)
        have r2 := fv_range (fv_open hv) (j := j) (by rw [HL.out]; exact hj)
        rw [hF]
        obtain ⟨y, hy⟩ : ∃ y, xs[i]?.getD 0 = y := ⟨_, rfl⟩
        obtain ⟨z, hz⟩ : ∃ z, xs[j]?.getD 0 = z := ⟨_, rfl⟩
        rw [hy] at c1 r1 ⊢
        rw [hz] at c2 r2 ⊢
        obtain ⟨r3, r4⟩ := r1
        obtain ⟨r5, r6⟩ := r2
        have C1 := Lib.hid c1
        have C2 := Lib.hid c2
        clear hc hF hy hz c1 c2
        go_enter Try.func45, Try.ntmps45
        go_wp2_with fail
        refine (fvs_any _ _ _ xs _ h).mono ?_
        rintro e wr ⟨rfl, m, hm⟩
        have c1 : wr.cell? ⟨q, off + i, none⟩ = some (.int .i64 y) := by rw [hm]; exact C1.out
        have c2 : wr.cell? ⟨q, off + j, none⟩ = some (.int .i64 z) := by rw [hm]; exact C2.out
        have HM := Lib.hid hm
        clear hm
        go_wp2_with (go_at_call 50; refine (l1In_any _ _ _ _).mono ?_; rintro e w' ⟨rfl, rfl⟩)
        go_quiet ((go_at_call 62; exact Calls.quiet_of_same (flipW (far_any _ _ _ (by omega) (by omega)))))
        go_wp2
        go_ret
        exact ⟨rfl, _, by rw [HM.out]; exact World.drewN_drewN _ _ _⟩
      · rw [wayI_no (by rw [HL.out]; simp [hb])]
        have hb' := bfalse hb
        go_enter Try.func45, Try.ntmps45
        go_wp2_with (first | (go_at_call 43; refine (fvs_any _ _ _ xs _ h).mono ?_; rintro e w' ⟨rfl, m, rfl⟩) | (go_at_call 50; refine (l1In_any _ _ _ _).mono ?_; rintro e w' ⟨rfl, rfl⟩))
        go_ret
        exact qt_drew _ _ _
    · rw [wayI_no (by rw [HL.out]; simp [ha])]
      have ha' := bfalse ha
      go_enter Try.func45, Try.ntmps45
      go_wp2_with (first | (go_at_call 43; refine (fvs_any _ _ _ xs _ h).mono ?_; rintro e w' ⟨rfl, m, rfl⟩) | (go_at_call 50; refine (l1In_any _ _ _ _).mono ?_; rintro e w' ⟨rfl, rfl⟩))
      go_ret
      exact qt_drew _ _ _
end Go.Proofs.Ytmekbfjeljfbpaa
