/- The two TwinValid functions and toTwin: contracts. -/
import Derived.Test.YtpcdedigblijbaaBase
namespace Go.Proofs.Ytpcdedigblijbaa
open Go.ChangeShapes Go.WideShapes Go.ChangeAt Go.RowKit

/-- A valid shaft, as a Bool that the walk does not open. -/
def tvB (f l h : Int) : Bool := decide (2 ≤ f ∧ f ≤ 8 ∧ 0 ≤ l ∧ l < h ∧ h < f)

theorem tv_impl (f l h : Int) (w : World) : Calls Try.prog 17 #[.agg #[.int .i64 f, .int .i64 l, .int .i64 h]] w fun e w' => e = .returned (.bool (tvB f l h)) ∧ Below w.heap.size w w' := by
  go_enter Try.func17, Try.ntmps17
  go_wp2
  all_goals go_ret
  all_goals refine ⟨ret_bool ?_, by go_grown⟩
  all_goals (rw [Bool.eq_iff_iff]; simp only [tvB, decide_eq_true_eq, Bool.false_eq_true, false_iff] at *; go_arith)

theorem tv_spec (f l h : Int) (w : World) : Calls Try.prog 15 #[.agg #[.int .i64 f, .int .i64 l, .int .i64 h]] w fun e w' => e = .returned (.bool (tvB f l h)) ∧ Below w.heap.size w w' := by
  go_enter Try.func15, Try.ntmps15
  go_wp2_with (go_at_call 42; refine (l1In_any _ _ _ _).mono ?_; rintro e w' ⟨rfl, rfl⟩)
  all_goals go_ret
  all_goals refine ⟨ret_bool ?_, by go_grown⟩
  all_goals (rw [Bool.eq_iff_iff]; simp only [tvB, inB, decide_eq_true_eq, Bool.false_eq_true, false_iff] at *; go_arith)

theorem toTwin_ex (f l h : Int) (w : World) : Calls Try.prog 16 #[.agg #[.int .i64 f, .int .i64 l, .int .i64 h]] w fun e w' => e = .returned (.agg #[.int .i64 f, .int .i64 l, .int .i64 h]) ∧
    ((w.alloc (.cells #[.int .i64 f, .int .i64 l, .int .i64 h] 23)).alloc (.cells #[.int .i64 f, .int .i64 l, .int .i64 h] 25)).alloc (.cells #[.int .i64 f, .int .i64 l, .int .i64 h] 25) = w' := by
  go_enter Try.func16, Try.ntmps16
  go_wp2
  go_returns
  exact ⟨rfl, rfl⟩

theorem toTwin_any (f l h : Int) (w : World) : Calls Try.prog 16 #[.agg #[.int .i64 f, .int .i64 l, .int .i64 h]] w fun e w' => e = .returned (.agg #[.int .i64 f, .int .i64 l, .int .i64 h]) ∧ Below w.heap.size w w' := by
  go_enter Try.func16, Try.ntmps16
  go_wp2
  go_returns
  exact ⟨rfl, by go_grown⟩

theorem walk_FnExactTwinValid (f l h : Int) (w : World) (_ : (Lit.int .i64 f).wf = true) (_ : (Lit.int .i64 l).wf = true) (_ : (Lit.int .i64 h).wf = true) : Calls Try.prog 3 #[.agg #[.int .i64 f, .int .i64 l, .int .i64 h]] w fun e w' => e = .returned (.bool true) ∧ Below w.heap.size w w' := by
  go_enter Try.func3, Try.ntmps3
  go_wp2_with fail
  refine (toTwin_any _ _ _ _).mono ?_
  rintro e w1 ⟨rfl, hb1⟩
  have B1 := bstep (n := w.heap.size + 1) (Below.refl _ _) hb1 (by simp)
  obtain ⟨hc1, hf1⟩ := bfacts B1
  go_wp2_with fail
  refine (tv_spec _ _ _ _).mono ?_
  rintro e w2 ⟨rfl, hb2⟩
  have B2 := bstep B1 hb2 (by simp)
  clear hc1 hf1
  obtain ⟨hc2, hf2⟩ := bfacts B2
  go_wp2_with fail
  refine (toTwin_any _ _ _ _).mono ?_
  rintro e w3 ⟨rfl, hb3⟩
  have B3 := bstep B2 hb3 (by simp)
  clear hc2 hf2
  go_wp2_with fail
  refine (tv_impl _ _ _ _).mono ?_
  rintro e w4 ⟨rfl, hb4⟩
  have B4 := bstep B3 hb4 (by simp)
  go_wp2
  go_ret
  exact ⟨rfl, ((Below.refl _ _).alloc (Nat.le_refl _) _).trans (B4.mono (by simp))⟩
end Go.Proofs.Ytpcdedigblijbaa
