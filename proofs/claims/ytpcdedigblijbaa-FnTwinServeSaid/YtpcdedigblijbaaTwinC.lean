/- TwinDo of the program and of the reference: contracts. -/
import Derived.Test.YtpcdedigblijbaaTwinB
import Derived.Deep.RegionHeld3
import Derived.Deep.RegionWith
import Derived.WalkSpells
namespace Go.Proofs.Ytpcdedigblijbaa
open Go.ChangeShapes Go.WideShapes Go.ChangeAt Go.RowKit

theorem toTwinMove_ex (c t : Int) (w : World) : Calls Try.prog 21 #[.agg #[.int .i64 c, .int .i64 t]] w fun e w' => e = .returned (.agg #[.int .i64 c, .int .i64 t]) ∧
    ((w.alloc (.cells #[.int .i64 c, .int .i64 t] 31)).alloc (.cells #[.int .i64 c, .int .i64 t] 34)).alloc (.cells #[.int .i64 c, .int .i64 t] 34) = w' := by
  go_enter Try.func21, Try.ntmps21
  go_wp2
  go_returns
  exact ⟨rfl, rfl⟩

theorem toTwinMove_any (c t : Int) (w : World) : Calls Try.prog 21 #[.agg #[.int .i64 c, .int .i64 t]] w fun e w' => e = .returned (.agg #[.int .i64 c, .int .i64 t]) ∧ Below w.heap.size w w' := by
  go_enter Try.func21, Try.ntmps21
  go_wp2
  go_returns
  exact ⟨rfl, by go_grown⟩

theorem eqTwin_any (a b c a' b' c' : Int) (w : World) : Calls Try.prog 23 #[.agg #[.int .i64 a, .int .i64 b, .int .i64 c], .agg #[.int .i64 a', .int .i64 b', .int .i64 c']] w fun e w' => e = .returned (.bool (decide (a = a' ∧ b = b' ∧ c = c'))) ∧ Below w.heap.size w w' := by
  go_enter Try.func23, Try.ntmps23
  go_wp2
  all_goals go_ret
  all_goals exact ⟨ret_bool (by first | (simp only [bne_iff_ne, ne_eq, bne_eq_false_iff_eq] at *; simp [*]) | skip), by go_grown⟩

/-- The shaft after a move, and whether it could be done. -/
def tdoT (f l h c t : Int) : Int × Int × Int × Bool :=
  if tvB f l h = true then
    (if c = 0 ∧ tvB f t h = true then (f, t, h, true) else if c = 1 ∧ tvB f l t = true then (f, l, t, true) else (f, l, h, false))
  else (0, 0, 0, false)

set_option maxHeartbeats 1000000 in
theorem tdo_impl (f l h c t : Int) (w : World) : Calls Try.prog 22 #[.agg #[.int .i64 f, .int .i64 l, .int .i64 h], .agg #[.int .i64 c, .int .i64 t]] w fun e w' => e = .returned (.tuple #[.agg #[.int .i64 (tdoT f l h c t).1, .int .i64 (tdoT f l h c t).2.1, .int .i64 (tdoT f l h c t).2.2.1], .bool (tdoT f l h c t).2.2.2]) ∧ Below w.heap.size w w' := by
  go_enter Try.func22, Try.ntmps22
  go_wp2_with (first | (go_at_call 17; go_must (refine (tv_impl _ _ _ _).mono ?_; rintro e w1 ⟨rfl, hbw1⟩; obtain ⟨hcw1, hfw1, -, -, -, hsw1⟩ := bfacts5 hbw1; (try simp only [World.size_drew] at hcw1 hfw1); (try simp at hsw1); have qw10 : w.heap.size < w1.heap.size := (by omega); have rw10 : ∀ m : Nat, w.heap.size < w1.heap.size + m := fun m => (by omega); have qw11 : w.heap.size + 1 < w1.heap.size := (by omega); have rw11 : ∀ m : Nat, w.heap.size + 1 < w1.heap.size + m := fun m => (by omega); have qw12 : w.heap.size + 2 < w1.heap.size := (by omega); have rw12 : ∀ m : Nat, w.heap.size + 2 < w1.heap.size + m := fun m => (by omega))))
  all_goals refine bodyPost_ret (by simp [results, Try.results22, go_sem, *]; try rfl) rfl ?_
  all_goals refine ⟨?_, ?_⟩
  all_goals try (simp only [Bool.not_eq_true', Bool.not_eq_false', beq_iff_eq, beq_eq_false_iff_ne] at *; simp [tdoT, *]; done)
  all_goals (repeat' (first | (with_reducible exact Below.refl _ _) | (with_reducible assumption) | (with_reducible exact bundrew (by assumption)) | (with_reducible refine balloc ?_ _) | (with_reducible refine bset ?_ _ ?_ _) | (with_reducible refine Below.drew ?_) | (with_reducible refine bdrewN ?_ _) | (with_reducible refine bvia (by assumption) ?_) | (with_reducible refine Below.trans ?_ (by assumption)) | omega | (simp; omega) | (simp; done)))

set_option maxHeartbeats 1000000 in
theorem tdo_spec (f l h c t : Int) (w : World) : Calls Try.prog 20 #[.agg #[.int .i64 f, .int .i64 l, .int .i64 h], .agg #[.int .i64 c, .int .i64 t]] w fun e w' => e = .returned (.tuple #[.agg #[.int .i64 (tdoT f l h c t).1, .int .i64 (tdoT f l h c t).2.1, .int .i64 (tdoT f l h c t).2.2.1], .bool (tdoT f l h c t).2.2.2]) ∧ Below w.heap.size w w' := by
  go_enter Try.func20, Try.ntmps20
  go_wp2_with (first | (go_at_call 15; go_must (refine (tv_spec _ _ _ _).mono ?_; rintro e w1 ⟨rfl, hbw1⟩; obtain ⟨hcw1, hfw1, -, -, -, hsw1⟩ := bfacts5 hbw1; (try simp only [World.size_drew] at hcw1 hfw1); (try simp at hsw1); have qw10 : w.heap.size < w1.heap.size := (by omega); have rw10 : ∀ m : Nat, w.heap.size < w1.heap.size + m := fun m => (by omega); have qw11 : w.heap.size + 1 < w1.heap.size := (by omega); have rw11 : ∀ m : Nat, w.heap.size + 1 < w1.heap.size + m := fun m => (by omega); have qw12 : w.heap.size + 2 < w1.heap.size := (by omega); have rw12 : ∀ m : Nat, w.heap.size + 2 < w1.heap.size + m := fun m => (by omega))))
  all_goals refine bodyPost_ret (by simp [results, Try.results20, go_sem, *]; try rfl) rfl ?_
  all_goals refine ⟨?_, ?_⟩
  all_goals try (simp only [Bool.not_eq_true', Bool.not_eq_false', beq_iff_eq, beq_eq_false_iff_ne] at *; simp [tdoT, *]; done)
  all_goals (repeat' (first | (with_reducible exact Below.refl _ _) | (with_reducible assumption) | (with_reducible exact bundrew (by assumption)) | (with_reducible refine balloc ?_ _) | (with_reducible refine bset ?_ _ ?_ _) | (with_reducible refine Below.drew ?_) | (with_reducible refine bdrewN ?_ _) | (with_reducible refine bvia (by assumption) ?_) | (with_reducible refine Below.trans ?_ (by assumption)) | omega | (simp; omega) | (simp; done)))

end Go.Proofs.Ytpcdedigblijbaa
