/- TwinFor of the program and of the reference: contracts. -/
import Derived.Test.YtpcdedigblijbaaTwinA
namespace Go.Proofs.Ytpcdedigblijbaa
open Go.ChangeShapes Go.WideShapes Go.ChangeAt Go.RowKit

theorem isFloor_any (n f : Int) (w : World) : Calls Try.prog 44 #[.int .i64 n, .int .i64 f] w fun e w' => e = .returned (.bool (inB n 0 (f - 1))) ∧ w = w' := by
  go_enter Try.func44, Try.ntmps44
  go_wp2
  all_goals go_ret
  all_goals refine ⟨ret_bool ?_, rfl⟩
  all_goals (rw [Bool.eq_iff_iff]; simp only [inB, decide_eq_true_eq, Bool.false_eq_true, false_iff] at *; omega)

/-- How far two numbers are from each other. -/
def farI (a b : Int) : Int := if a < b then b - a else a - b

theorem steps_any (a b : Int) (w : World) (h1 : -1000000 ≤ a ∧ a ≤ 1000000) (h2 : -1000000 ≤ b ∧ b ≤ 1000000) : Calls Try.prog 45 #[.int .i64 a, .int .i64 b] w fun e w' => e = .returned (.int .i64 (farI a b)) ∧ w = w' := by
  obtain ⟨h3, h4⟩ := h1
  obtain ⟨h5, h6⟩ := h2
  go_enter Try.func45, Try.ntmps45
  go_wp2
  all_goals go_ret
  all_goals refine ⟨ret_int ?_, rfl⟩
  all_goals (simp only [farI]; split <;> omega)

theorem far_any (a b : Int) (w : World) (h1 : -1000000 ≤ a ∧ a ≤ 1000000) (h2 : -1000000 ≤ b ∧ b ≤ 1000000) : Calls Try.prog 43 #[.int .i64 a, .int .i64 b] w fun e w' => e = .returned (.int .i64 (farI a b)) ∧ w = w' := by
  obtain ⟨h3, h4⟩ := h1
  obtain ⟨h5, h6⟩ := h2
  go_enter Try.func43, Try.ntmps43
  go_wp2
  all_goals go_ret
  all_goals refine ⟨ret_int ?_, rfl⟩
  all_goals (simp only [farI]; first | omega | (split <;> omega))

theorem tv_open {f l h : Int} (hv : tvB f l h = true) : 2 ≤ f ∧ f ≤ 8 ∧ 0 ≤ l ∧ l < h ∧ h < f := by simpa [tvB] using hv

/-- Which car takes a rider. -/
def tforI (f l h a b : Int) : Int :=
  if ¬ tvB f l h = true ∨ a < 0 ∨ f ≤ a ∨ b < 0 ∨ f ≤ b ∨ a = b then -1
  else if (a < f - 1 ∧ b < f - 1) ∧ (a = 0 ∨ b = 0 ∨ farI l a ≤ farI h a) then 0
  else if 0 < a ∧ 0 < b then 1 else -1

theorem tfor_no {f l h a b : Int} (h0 : ¬ tvB f l h = true ∨ a < 0 ∨ f ≤ a ∨ b < 0 ∨ f ≤ b ∨ a = b) : tforI f l h a b = -1 := by unfold tforI; rw [if_pos h0]

set_option maxHeartbeats 1000000 in
theorem tfor_spec (f l h a b : Int) (w : World) : Calls Try.prog 18 #[.agg #[.int .i64 f, .int .i64 l, .int .i64 h], .int .i64 a, .int .i64 b] w fun e w' => e = .returned (.int .i64 (tforI f l h a b)) ∧ Below w.heap.size w w' := by
  by_cases hv : tvB f l h = true
  · obtain ⟨h1, h2, h3, h4, h5⟩ := tv_open hv
    by_cases hA : inB a 0 (f - 1) = true
    · obtain ⟨h6, h7⟩ := inB_open hA
      by_cases hB : inB b 0 (f - 1) = true
      · obtain ⟨h8, h9⟩ := inB_open hB
        go_enter Try.func18, Try.ntmps18
        go_wp2_with fail
        refine (tv_spec _ _ _ _).mono ?_
        rintro e w1 ⟨rfl, hb1⟩
        have B1 := bstep (n := w.heap.size + 1) (Below.refl _ _) hb1 (by simp)
        obtain ⟨hc1, hf1⟩ := bfacts B1
        go_wp2_with (go_at_call 42; refine (l1In_any _ _ _ _).mono ?_; rintro e w' ⟨rfl, rfl⟩)
        all_goals try go_quiet ((go_at_call 43; exact Calls.quiet_of_same (flipW (far_any _ _ _ (by omega) (by omega)))))
        all_goals go_wp2
        all_goals go_ret
        all_goals refine ⟨ret_int ?_, ?_⟩
        all_goals first | exact ((Below.refl _ _).alloc (Nat.le_refl _) _).trans ((bdrewN B1 _).mono (by simp)) | exact ((Below.refl _ _).alloc (Nat.le_refl _) _).trans (B1.mono (by simp)) | skip
        all_goals (simp only [beq_iff_eq, beq_eq_false_iff_ne, tforI, hv, not_true_eq_false, false_or] at *)
        all_goals (repeat' split)
        all_goals first | rfl | omega
      · go_enter Try.func18, Try.ntmps18
        have hB' := bfalse hB
        go_wp2_with (first | (go_at_call 42; refine (l1In_any _ _ _ _).mono ?_; rintro e w' ⟨rfl, rfl⟩) | (go_at_call 15; refine (tv_spec _ _ _ _).mono ?_; rintro e w1 ⟨rfl, hb1⟩; have B1 := bstep (n := w.heap.size + 1) (Below.refl _ _) hb1 (by simp); obtain ⟨hc1, hf1⟩ := bfacts B1))
        go_ret
        have hx := inB_shut hB
        exact ⟨ret_int (tfor_no (by omega)).symm, ((Below.refl _ _).alloc (Nat.le_refl _) _).trans (B1.mono (by simp))⟩
    · have hA' := bfalse hA
      go_enter Try.func18, Try.ntmps18
      go_wp2_with fail
      refine (tv_spec _ _ _ _).mono ?_
      rintro e w1 ⟨rfl, hb1⟩
      have B1 := bstep (n := w.heap.size + 1) (Below.refl _ _) hb1 (by simp)
      obtain ⟨hc1, hf1⟩ := bfacts B1
      go_wp2_with (go_at_call 42; refine (l1In_any _ _ _ _).mono ?_; rintro e w' ⟨rfl, rfl⟩)
      go_ret
      have hx := inB_shut hA
      exact ⟨ret_int (tfor_no (by omega)).symm, ((Below.refl _ _).alloc (Nat.le_refl _) _).trans (B1.mono (by simp))⟩
  · have hv' := bfalse hv
    go_enter Try.func18, Try.ntmps18
    go_wp2_with fail
    refine (tv_spec _ _ _ _).mono ?_
    rintro e w1 ⟨rfl, hb1⟩
    have B1 := bstep (n := w.heap.size + 1) (Below.refl _ _) hb1 (by simp)
    go_wp2_with fail
    go_ret
    exact ⟨ret_int (tfor_no (.inl hv)).symm, ((Below.refl _ _).alloc (Nat.le_refl _) _).trans (B1.mono (by simp))⟩

set_option maxHeartbeats 1000000 in
theorem tfor_impl_in (f l h a b : Int) (w : World) (hv : tvB f l h = true) (hA : inB a 0 (f - 1) = true) (hB : inB b 0 (f - 1) = true) : Calls Try.prog 19 #[.agg #[.int .i64 f, .int .i64 l, .int .i64 h], .int .i64 a, .int .i64 b] w fun e w' => e = .returned (.int .i64 (tforI f l h a b)) ∧ Below w.heap.size w w' := by
  obtain ⟨h1, h2, h3, h4, h5⟩ := tv_open hv
  obtain ⟨h6, h7⟩ := inB_open hA
  obtain ⟨h8, h9⟩ := inB_open hB
  rcases beq_or a b with ⟨e0, g0⟩ | ⟨e0, g0⟩
  · have hx := tfor_no (f := f) (l := l) (h := h) (a := a) (b := b) (.inr (.inr (.inr (.inr (.inr g0)))))
    clear g0
    have HX := Lib.hid hx
    clear hx
    go_enter Try.func19, Try.ntmps19
    go_wp2_with fail
    refine (tv_impl _ _ _ _).mono ?_
    rintro e w1 ⟨rfl, hb1⟩
    have B1 := bstep (n := w.heap.size + 1) (Below.refl _ _) hb1 (by simp)
    obtain ⟨hc1, hf1⟩ := bfacts B1
    go_wp2_with (go_at_call 44; refine (isFloor_any _ _ _).mono ?_; rintro e w' ⟨rfl, rfl⟩)
    go_ret
    exact ⟨ret_int HX.out.symm, ((Below.refl _ _).alloc (Nat.le_refl _) _).trans (B1.mono (by simp))⟩
  · rcases beq_or a 0 with ⟨e1, g1⟩ | ⟨e1, g1⟩ <;> rcases beq_or b 0 with ⟨e2, g2⟩ | ⟨e2, g2⟩ <;> rcases beq_or a (f - 1) with ⟨e3, g3⟩ | ⟨e3, g3⟩ <;> rcases beq_or b (f - 1) with ⟨e4, g4⟩ | ⟨e4, g4⟩ <;> try omega
    all_goals
      have G1 := Lib.hid g1
      have G2 := Lib.hid g2
      have G3 := Lib.hid g3
      have G4 := Lib.hid g4
      clear g1 g2 g3 g4
      go_enter Try.func19, Try.ntmps19
      go_wp2_with fail
      refine (tv_impl _ _ _ _).mono ?_
      rintro e w1 ⟨rfl, hb1⟩
      have B1 := bstep (n := w.heap.size + 1) (Below.refl _ _) hb1 (by simp)
      obtain ⟨hc1, hf1⟩ := bfacts B1
      go_wp2_with (go_at_call 44; refine (isFloor_any _ _ _).mono ?_; rintro e w' ⟨rfl, rfl⟩)
      try go_quiet ((go_at_call 45; exact Calls.quiet_of_same (flipW (steps_any _ _ _ (by omega) (by omega)))))
      go_wp2
    all_goals go_ret
    all_goals refine ⟨ret_int ?_, ?_⟩
    all_goals first | exact ((Below.refl _ _).alloc (Nat.le_refl _) _).trans ((bdrewN B1 _).mono (by simp)) | exact ((Below.refl _ _).alloc (Nat.le_refl _) _).trans (B1.mono (by simp)) | skip
    all_goals
      have g1 := G1.out
      have g2 := G2.out
      have g3 := G3.out
      have g4 := G4.out
      simp only [tforI, hv, not_true_eq_false, false_or]
      repeat' split
    all_goals first | rfl | omega

theorem tfor_impl (f l h a b : Int) (w : World) : Calls Try.prog 19 #[.agg #[.int .i64 f, .int .i64 l, .int .i64 h], .int .i64 a, .int .i64 b] w fun e w' => e = .returned (.int .i64 (tforI f l h a b)) ∧ Below w.heap.size w w' := by
  by_cases hv : tvB f l h = true
  · by_cases hA : inB a 0 (f - 1) = true
    · by_cases hB : inB b 0 (f - 1) = true
      · exact tfor_impl_in f l h a b w hv hA hB
      · have hB' := bfalse hB
        go_enter Try.func19, Try.ntmps19
        go_wp2_with fail
        refine (tv_impl _ _ _ _).mono ?_
        rintro e w1 ⟨rfl, hb1⟩
        have B1 := bstep (n := w.heap.size + 1) (Below.refl _ _) hb1 (by simp)
        obtain ⟨hc1, hf1⟩ := bfacts B1
        go_wp2_with (go_at_call 44; refine (isFloor_any _ _ _).mono ?_; rintro e w' ⟨rfl, rfl⟩)
        go_ret
        have hx := inB_shut hB
        exact ⟨ret_int (tfor_no (by omega)).symm, ((Below.refl _ _).alloc (Nat.le_refl _) _).trans (B1.mono (by simp))⟩
    · have hA' := bfalse hA
      go_enter Try.func19, Try.ntmps19
      go_wp2_with fail
      refine (tv_impl _ _ _ _).mono ?_
      rintro e w1 ⟨rfl, hb1⟩
      have B1 := bstep (n := w.heap.size + 1) (Below.refl _ _) hb1 (by simp)
      obtain ⟨hc1, hf1⟩ := bfacts B1
      go_wp2_with (go_at_call 44; refine (isFloor_any _ _ _).mono ?_; rintro e w' ⟨rfl, rfl⟩)
      go_ret
      have hx := inB_shut hA
      exact ⟨ret_int (tfor_no (by omega)).symm, ((Below.refl _ _).alloc (Nat.le_refl _) _).trans (B1.mono (by simp))⟩
  · have hv' := bfalse hv
    go_enter Try.func19, Try.ntmps19
    go_wp2_with fail
    refine (tv_impl _ _ _ _).mono ?_
    rintro e w1 ⟨rfl, hb1⟩
    have B1 := bstep (n := w.heap.size + 1) (Below.refl _ _) hb1 (by simp)
    go_wp2_with fail
    go_ret
    exact ⟨ret_int (tfor_no (.inl hv)).symm, ((Below.refl _ _).alloc (Nat.le_refl _) _).trans (B1.mono (by simp))⟩

theorem walk_FnExactTwinFor (f l h a b : Int) (w : World) (_ : (Lit.int .i64 f).wf = true) (_ : (Lit.int .i64 l).wf = true) (_ : (Lit.int .i64 h).wf = true) (_ : (Lit.int .i64 a).wf = true) (_ : (Lit.int .i64 b).wf = true) :
    Calls Try.prog 4 #[.agg #[.int .i64 f, .int .i64 l, .int .i64 h], .int .i64 a, .int .i64 b] w fun e w' => e = .returned (.bool true) ∧ Below w.heap.size w w' := by
  go_enter Try.func4, Try.ntmps4
  go_wp2_with fail
  refine (toTwin_any _ _ _ _).mono ?_
  rintro e w1 ⟨rfl, hb1⟩
  have B1 := bstep (n := w.heap.size + 1) (Below.refl _ _) hb1 (by simp)
  go_wp2_with fail
  refine (tfor_spec _ _ _ _ _ _).mono ?_
  rintro e w2 ⟨rfl, hb2⟩
  have B2 := bstep B1 hb2 (by simp)
  obtain ⟨hc2, hf2⟩ := bfacts B2
  go_wp2_with fail
  refine (toTwin_any _ _ _ _).mono ?_
  rintro e w3 ⟨rfl, hb3⟩
  have B3 := bstep B2 hb3 (by simp)
  clear hc2 hf2
  go_wp2_with fail
  refine (tfor_impl _ _ _ _ _ _).mono ?_
  rintro e w4 ⟨rfl, hb4⟩
  have B4 := bstep B3 hb4 (by simp)
  go_wp2
  go_ret
  exact ⟨rfl, ((Below.refl _ _).alloc (Nat.le_refl _) _).trans (B4.mono (by simp))⟩
end Go.Proofs.Ytpcdedigblijbaa
