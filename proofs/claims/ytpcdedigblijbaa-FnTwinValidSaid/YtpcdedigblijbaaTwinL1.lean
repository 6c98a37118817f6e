/- The walk of the law FnTwinValid. -/
import Derived.Test.YtpcdedigblijbaaTwinR
namespace Go.Proofs.Ytpcdedigblijbaa
open Go.ChangeShapes Go.WideShapes Go.ChangeAt Go.RowKit

theorem tv_same (f h : Int) : tvB f h h = false := by
  simp only [tvB, decide_eq_false_iff_not]; omega
theorem tv_low {f l h : Int} (hv : tvB f l h = true) : tvB f 0 h = true := by
  simp only [tvB, decide_eq_true_eq] at *; omega

set_option maxHeartbeats 1000000 in
theorem walk_FnTwinValid (A : Option Addr) (n c : Nat) (g : Nat → Int) (w : World) (hB : Bytes w A n c g) : Calls Try.prog 9 #[.slice A n c] w fun e w' => e = .returned (.bool true) ∧ Below w.heap.size w w' := by
  by_cases hn : 1048576 < n
  · have hn' : (1048576 : Int) < (n : Int) := by omega
    go_enter Try.func9, Try.ntmps9
    go_wp2
    go_ret
    exact ⟨rfl, by (repeat' (first | (with_reducible exact Below.refl _ _) | (with_reducible assumption) | (with_reducible exact bundrew (by assumption)) | (with_reducible refine balloc ?_ _) | (with_reducible refine bset ?_ _ ?_ _) | (with_reducible refine Below.drew ?_) | (with_reducible refine bdrewN ?_ _) | (with_reducible refine bvia (by assumption) ?_) | omega | (simp; omega) | (simp; done)))⟩
  · have hn' : (n : Int) ≤ 1048576 := by omega
    go_enter Try.func9, Try.ntmps9
    go_wp2_with fail
    refine (drawTwinValid_any A n c g _ hB).mono ?_
    rintro e wd ⟨f, l, h, rfl, hbd⟩
    have hs := tv_same f h
    by_cases hv : tvB f l h = true
    · have hl := tv_low hv
      go_wp2_with (first | (go_at_call 17; go_must (refine (tv_impl _ _ _ _).mono ?_; rintro e w1 ⟨rfl, hbw1⟩; obtain ⟨hcw1, hfw1, -, -, -, hsw1⟩ := bfacts5 hbw1; (try simp at hsw1); have qw10 : wd.heap.size < w1.heap.size := (by omega); have rw10 : ∀ m : Nat, wd.heap.size < w1.heap.size + m := fun m => (by omega))) | (go_at_call 15; go_must (refine (tv_spec _ _ _ _).mono ?_; rintro e w1 ⟨rfl, hbw1⟩; obtain ⟨hcw1, hfw1, -, -, -, hsw1⟩ := bfacts5 hbw1; (try simp at hsw1); have qw10 : wd.heap.size < w1.heap.size := (by omega); have rw10 : ∀ m : Nat, wd.heap.size < w1.heap.size + m := fun m => (by omega))) | (go_at_call 36; refine (alive_any _).mono ?_; rintro e w1 ⟨rfl, hb1⟩))
      go_ret
      exact ⟨rfl, by (repeat' (first | (with_reducible exact Below.refl _ _) | (with_reducible assumption) | (with_reducible exact bundrew (by assumption)) | (with_reducible refine balloc ?_ _) | (with_reducible refine bset ?_ _ ?_ _) | (with_reducible refine Below.drew ?_) | (with_reducible refine bdrewN ?_ _) | (with_reducible refine bvia (by assumption) ?_) | omega | (simp; omega) | (simp; done)))⟩
    · have hv' := bfalse hv
      go_wp2_with (first | (go_at_call 17; go_must (refine (tv_impl _ _ _ _).mono ?_; rintro e w1 ⟨rfl, hbw1⟩; obtain ⟨hcw1, hfw1, -, -, -, hsw1⟩ := bfacts5 hbw1; (try simp at hsw1); have qw10 : wd.heap.size < w1.heap.size := (by omega); have rw10 : ∀ m : Nat, wd.heap.size < w1.heap.size + m := fun m => (by omega))) | (go_at_call 15; go_must (refine (tv_spec _ _ _ _).mono ?_; rintro e w1 ⟨rfl, hbw1⟩; obtain ⟨hcw1, hfw1, -, -, -, hsw1⟩ := bfacts5 hbw1; (try simp at hsw1); have qw10 : wd.heap.size < w1.heap.size := (by omega); have rw10 : ∀ m : Nat, wd.heap.size < w1.heap.size + m := fun m => (by omega))) | (go_at_call 36; refine (alive_any _).mono ?_; rintro e w1 ⟨rfl, hb1⟩))
      go_ret
      exact ⟨rfl, by (repeat' (first | (with_reducible exact Below.refl _ _) | (with_reducible assumption) | (with_reducible exact bundrew (by assumption)) | (with_reducible refine balloc ?_ _) | (with_reducible refine bset ?_ _ ?_ _) | (with_reducible refine Below.drew ?_) | (with_reducible refine bdrewN ?_ _) | (with_reducible refine bvia (by assumption) ?_) | omega | (simp; omega) | (simp; done)))⟩
end Go.Proofs.Ytpcdedigblijbaa
