/- The walk of the law FnTwinDo. -/
import Derived.Test.YtpcdedigblijbaaTwinJ1
namespace Go.Proofs.Ytpcdedigblijbaa
open Go.ChangeShapes Go.WideShapes Go.ChangeAt Go.RowKit

theorem tdoT_no {f l h c t : Int} (hv : ¬ tvB f l h = true) : tdoT f l h c t = (0, 0, 0, false) := by simp [tdoT, hv]
theorem tdoT_low {f l h t : Int} (hv : tvB f l h = true) (h1 : tvB f t h = true) : tdoT f l h 0 t = (f, t, h, true) := by simp [tdoT, hv, h1]
theorem tdoT_high {f l h t : Int} (hv : tvB f l h = true) (h1 : tvB f l t = true) : tdoT f l h 1 t = (f, l, t, true) := by simp [tdoT, hv, h1]
theorem tdoT_stay {f l h c t : Int} (hv : tvB f l h = true) (h1 : ¬ (c = 0 ∧ tvB f t h = true)) (h2 : ¬ (c = 1 ∧ tvB f l t = true)) : tdoT f l h c t = (f, l, h, false) := by
  unfold tdoT; rw [if_pos hv, if_neg h1, if_neg h2]

set_option maxRecDepth 100000 in
set_option maxHeartbeats 16000000 in
theorem walk_FnTwinDo (A : Option Addr) (n c : Nat) (g : Nat → Int) (w : World) (hB : Bytes w A n c g) : Calls Try.prog 10 #[.slice A n c] w fun e w' => e = .returned (.bool true) ∧ Below w.heap.size w w' := by
  by_cases hn : 1048576 < n
  · have hn' : (1048576 : Int) < (n : Int) := by omega
    go_enter Try.func10, Try.ntmps10
    go_wp2
    go_ret
    exact ⟨rfl, by (repeat' (first | (with_reducible exact Below.refl _ _) | (with_reducible assumption) | (with_reducible exact bundrew (by assumption)) | (with_reducible refine balloc ?_ _) | (with_reducible refine bset ?_ _ ?_ _) | (with_reducible refine Below.drew ?_) | (with_reducible refine bdrewN ?_ _) | (with_reducible refine bvia (by assumption) ?_) | (with_reducible refine Below.trans ?_ (by assumption)) | omega | (simp; omega) | (simp; done)))⟩
  · have hn' : (n : Int) ≤ 1048576 := by omega
    go_enter Try.func10, Try.ntmps10
    go_wp2_with fail
    refine (drawTwinDo_any A n c g _ hB).mono ?_
    rintro x wd ⟨f, l, h, m, t, rfl, hbd⟩
    have TI := fun w => tdo_impl f l h m t w
    have TS := fun w => tdo_spec f l h m t w
    by_cases hv : tvB f l h = true
    · by_cases hlow : m = 0 ∧ tvB f t h = true
      · obtain ⟨rfl, h1⟩ := hlow
        simp only [tdoT_low hv h1] at TI TS
        have TB := fun w => tdo_impl f t h 0 l w
        simp only [tdoT_low h1 hv] at TB
        have HI := Lib.hid TI
        have HS := Lib.hid TS
        have HB := Lib.hid TB
        clear TI TS TB
        go_wp2_with fail
        refine (HI.out _).mono ?_
        rintro e w1 ⟨rfl, hbw1⟩
        obtain ⟨hcw1, hfw1, -, -, -, hsw1⟩ := bfacts5 hbw1
        try simp only [World.size_drew] at hcw1 hfw1
        try simp at hsw1
        have qw10 : wd.heap.size < w1.heap.size := (by omega)
        have rw10 : ∀ m : Nat, wd.heap.size < w1.heap.size + m := fun m => (by omega)
        have qw11 : wd.heap.size + 1 < w1.heap.size := (by omega)
        have rw11 : ∀ m : Nat, wd.heap.size + 1 < w1.heap.size + m := fun m => (by omega)
        go_wp2_with fail
        refine (HS.out _).mono ?_
        rintro e w2 ⟨rfl, hbw2⟩
        obtain ⟨hcw2, hfw2, -, -, -, hsw2⟩ := bfacts5 hbw2
        try simp only [World.size_drew] at hcw2 hfw2
        try simp at hsw2
        have qw20 : wd.heap.size < w2.heap.size := (by omega)
        have rw20 : ∀ m : Nat, wd.heap.size < w2.heap.size + m := fun m => (by omega)
        have qw21 : wd.heap.size + 1 < w2.heap.size := (by omega)
        have rw21 : ∀ m : Nat, wd.heap.size + 1 < w2.heap.size + m := fun m => (by omega)
        have qw22 : w1.heap.size < w2.heap.size := (by omega)
        have rw22 : ∀ m : Nat, w1.heap.size < w2.heap.size + m := fun m => (by omega)
        go_wp2_with fail
        refine (HB.out _).mono ?_
        rintro e w3 ⟨rfl, hbw3⟩
        obtain ⟨hcw3, hfw3, -, -, -, hsw3⟩ := bfacts5 hbw3
        try simp only [World.size_drew] at hcw3 hfw3
        try simp at hsw3
        have qw30 : wd.heap.size < w3.heap.size := (by omega)
        have rw30 : ∀ m : Nat, wd.heap.size < w3.heap.size + m := fun m => (by omega)
        have qw31 : wd.heap.size + 1 < w3.heap.size := (by omega)
        have rw31 : ∀ m : Nat, wd.heap.size + 1 < w3.heap.size + m := fun m => (by omega)
        have qw32 : w1.heap.size < w3.heap.size := (by omega)
        have rw32 : ∀ m : Nat, w1.heap.size < w3.heap.size + m := fun m => (by omega)
        have qw33 : w2.heap.size < w3.heap.size := (by omega)
        have rw33 : ∀ m : Nat, w2.heap.size < w3.heap.size + m := fun m => (by omega)
        go_wp2_with fail
        refine (tv_impl _ _ _ _).mono ?_
        rintro e w4 ⟨rfl, hbw4⟩
        obtain ⟨hcw4, hfw4, -, -, -, hsw4⟩ := bfacts5 hbw4
        try simp only [World.size_drew] at hcw4 hfw4
        try simp at hsw4
        have qw40 : wd.heap.size < w4.heap.size := (by omega)
        have rw40 : ∀ m : Nat, wd.heap.size < w4.heap.size + m := fun m => (by omega)
        have qw41 : wd.heap.size + 1 < w4.heap.size := (by omega)
        have rw41 : ∀ m : Nat, wd.heap.size + 1 < w4.heap.size + m := fun m => (by omega)
        have qw42 : w1.heap.size < w4.heap.size := (by omega)
        have rw42 : ∀ m : Nat, w1.heap.size < w4.heap.size + m := fun m => (by omega)
        have qw43 : w2.heap.size < w4.heap.size := (by omega)
        have rw43 : ∀ m : Nat, w2.heap.size < w4.heap.size + m := fun m => (by omega)
        have qw44 : w3.heap.size < w4.heap.size := (by omega)
        have rw44 : ∀ m : Nat, w3.heap.size < w4.heap.size + m := fun m => (by omega)
        go_wp2
        go_ret
        exact ⟨rfl, by (repeat' (first | (with_reducible exact Below.refl _ _) | (with_reducible assumption) | (with_reducible exact bundrew (by assumption)) | (with_reducible refine balloc ?_ _) | (with_reducible refine bset ?_ _ ?_ _) | (with_reducible refine Below.drew ?_) | (with_reducible refine bdrewN ?_ _) | (with_reducible refine bvia (by assumption) ?_) | (with_reducible refine Below.trans ?_ (by assumption)) | omega | (simp; omega) | (simp; done)))⟩
      · by_cases hhigh : m = 1 ∧ tvB f l t = true
        · obtain ⟨rfl, h1⟩ := hhigh
          simp only [tdoT_high hv h1] at TI TS
          have TB := fun w => tdo_impl f l t 1 h w
          simp only [tdoT_high h1 hv] at TB
          have HI := Lib.hid TI
          have HS := Lib.hid TS
          have HB := Lib.hid TB
          clear TI TS TB hlow
          have e2 : (l == t) = false := by have := tv_open h1; rw [beq_eq_false_iff_ne]; omega
          rcases beq_or t h with ⟨e1, g1⟩ | ⟨e1, g1⟩
          all_goals
            clear g1
            go_wp2_with fail
            refine (HI.out _).mono ?_
            rintro e w1 ⟨rfl, hbw1⟩
            obtain ⟨hcw1, hfw1, -, -, -, hsw1⟩ := bfacts5 hbw1
            try simp only [World.size_drew] at hcw1 hfw1
            try simp at hsw1
            have qw10 : wd.heap.size < w1.heap.size := (by omega)
            have rw10 : ∀ m : Nat, wd.heap.size < w1.heap.size + m := fun m => (by omega)
            have qw11 : wd.heap.size + 1 < w1.heap.size := (by omega)
            have rw11 : ∀ m : Nat, wd.heap.size + 1 < w1.heap.size + m := fun m => (by omega)
            go_wp2_with fail
            refine (HS.out _).mono ?_
            rintro e w2 ⟨rfl, hbw2⟩
            obtain ⟨hcw2, hfw2, -, -, -, hsw2⟩ := bfacts5 hbw2
            try simp only [World.size_drew] at hcw2 hfw2
            try simp at hsw2
            have qw20 : wd.heap.size < w2.heap.size := (by omega)
            have rw20 : ∀ m : Nat, wd.heap.size < w2.heap.size + m := fun m => (by omega)
            have qw21 : wd.heap.size + 1 < w2.heap.size := (by omega)
            have rw21 : ∀ m : Nat, wd.heap.size + 1 < w2.heap.size + m := fun m => (by omega)
            have qw22 : w1.heap.size < w2.heap.size := (by omega)
            have rw22 : ∀ m : Nat, w1.heap.size < w2.heap.size + m := fun m => (by omega)
            go_wp2_with fail
            refine (HB.out _).mono ?_
            rintro e w3 ⟨rfl, hbw3⟩
            obtain ⟨hcw3, hfw3, -, -, -, hsw3⟩ := bfacts5 hbw3
            try simp only [World.size_drew] at hcw3 hfw3
            try simp at hsw3
            have qw30 : wd.heap.size < w3.heap.size := (by omega)
            have rw30 : ∀ m : Nat, wd.heap.size < w3.heap.size + m := fun m => (by omega)
            have qw31 : wd.heap.size + 1 < w3.heap.size := (by omega)
            have rw31 : ∀ m : Nat, wd.heap.size + 1 < w3.heap.size + m := fun m => (by omega)
            have qw32 : w1.heap.size < w3.heap.size := (by omega)
            have rw32 : ∀ m : Nat, w1.heap.size < w3.heap.size + m := fun m => (by omega)
            have qw33 : w2.heap.size < w3.heap.size := (by omega)
            have rw33 : ∀ m : Nat, w2.heap.size < w3.heap.size + m := fun m => (by omega)
            go_wp2_with fail
            refine (tv_impl _ _ _ _).mono ?_
            rintro e w4 ⟨rfl, hbw4⟩
            obtain ⟨hcw4, hfw4, -, -, -, hsw4⟩ := bfacts5 hbw4
            try simp only [World.size_drew] at hcw4 hfw4
            try simp at hsw4
            have qw40 : wd.heap.size < w4.heap.size := (by omega)
            have rw40 : ∀ m : Nat, wd.heap.size < w4.heap.size + m := fun m => (by omega)
            have qw41 : wd.heap.size + 1 < w4.heap.size := (by omega)
            have rw41 : ∀ m : Nat, wd.heap.size + 1 < w4.heap.size + m := fun m => (by omega)
            have qw42 : w1.heap.size < w4.heap.size := (by omega)
            have rw42 : ∀ m : Nat, w1.heap.size < w4.heap.size + m := fun m => (by omega)
            have qw43 : w2.heap.size < w4.heap.size := (by omega)
            have rw43 : ∀ m : Nat, w2.heap.size < w4.heap.size + m := fun m => (by omega)
            have qw44 : w3.heap.size < w4.heap.size := (by omega)
            have rw44 : ∀ m : Nat, w3.heap.size < w4.heap.size + m := fun m => (by omega)
            go_wp2
            go_ret
            exact ⟨rfl, by (repeat' (first | (with_reducible exact Below.refl _ _) | (with_reducible assumption) | (with_reducible exact bundrew (by assumption)) | (with_reducible refine balloc ?_ _) | (with_reducible refine bset ?_ _ ?_ _) | (with_reducible refine Below.drew ?_) | (with_reducible refine bdrewN ?_ _) | (with_reducible refine bvia (by assumption) ?_) | (with_reducible refine Below.trans ?_ (by assumption)) | omega | (simp; omega) | (simp; done)))⟩
        · simp only [tdoT_stay hv hlow hhigh] at TI TS
          have HI := Lib.hid TI
          have HS := Lib.hid TS
          clear TI TS hlow hhigh
          go_wp2_with fail
          refine (HI.out _).mono ?_
          rintro e w1 ⟨rfl, hbw1⟩
          obtain ⟨hcw1, hfw1, -, -, -, hsw1⟩ := bfacts5 hbw1
          try simp only [World.size_drew] at hcw1 hfw1
          try simp at hsw1
          have qw10 : wd.heap.size < w1.heap.size := (by omega)
          have rw10 : ∀ m : Nat, wd.heap.size < w1.heap.size + m := fun m => (by omega)
          have qw11 : wd.heap.size + 1 < w1.heap.size := (by omega)
          have rw11 : ∀ m : Nat, wd.heap.size + 1 < w1.heap.size + m := fun m => (by omega)
          go_wp2_with fail
          refine (HS.out _).mono ?_
          rintro e w2 ⟨rfl, hbw2⟩
          obtain ⟨hcw2, hfw2, -, -, -, hsw2⟩ := bfacts5 hbw2
          try simp only [World.size_drew] at hcw2 hfw2
          try simp at hsw2
          have qw20 : wd.heap.size < w2.heap.size := (by omega)
          have rw20 : ∀ m : Nat, wd.heap.size < w2.heap.size + m := fun m => (by omega)
          have qw21 : wd.heap.size + 1 < w2.heap.size := (by omega)
          have rw21 : ∀ m : Nat, wd.heap.size + 1 < w2.heap.size + m := fun m => (by omega)
          have qw22 : w1.heap.size < w2.heap.size := (by omega)
          have rw22 : ∀ m : Nat, w1.heap.size < w2.heap.size + m := fun m => (by omega)
          go_wp2_with (go_at_call 36; refine (alive_any _).mono ?_; rintro x w3 ⟨rfl, hb3⟩)
          go_ret
          exact ⟨rfl, by (repeat' (first | (with_reducible exact Below.refl _ _) | (with_reducible assumption) | (with_reducible exact bundrew (by assumption)) | (with_reducible refine balloc ?_ _) | (with_reducible refine bset ?_ _ ?_ _) | (with_reducible refine Below.drew ?_) | (with_reducible refine bdrewN ?_ _) | (with_reducible refine bvia (by assumption) ?_) | (with_reducible refine Below.trans ?_ (by assumption)) | omega | (simp; omega) | (simp; done)))⟩
    · simp only [tdoT_no hv] at TI TS
      have hv' := bfalse hv
      have HI := Lib.hid TI
      have HS := Lib.hid TS
      clear TI TS
      have hcase : (f = 0 ∧ l = 0 ∧ h = 0) ∨ (¬ (0 : Int) = f ∧ ((0 : Int) == f) = false) ∨ (f = 0 ∧ ¬ (0 : Int) = l ∧ ((0 : Int) == l) = false) ∨ (f = 0 ∧ l = 0 ∧ ¬ (0 : Int) = h ∧ ((0 : Int) == h) = false) := by
        simp only [beq_eq_false_iff_ne]
        omega
      rcases hcase with ⟨rfl, rfl, rfl⟩ | ⟨k1, k2⟩ | ⟨rfl, k1, k2⟩ | ⟨rfl, rfl, k1, k2⟩
      all_goals
        go_wp2_with fail
        refine (HI.out _).mono ?_
        rintro e w1 ⟨rfl, hbw1⟩
        obtain ⟨hcw1, hfw1, -, -, -, hsw1⟩ := bfacts5 hbw1
        try simp only [World.size_drew] at hcw1 hfw1
        try simp at hsw1
        have qw10 : wd.heap.size < w1.heap.size := (by omega)
        have rw10 : ∀ m : Nat, wd.heap.size < w1.heap.size + m := fun m => (by omega)
        have qw11 : wd.heap.size + 1 < w1.heap.size := (by omega)
        have rw11 : ∀ m : Nat, wd.heap.size + 1 < w1.heap.size + m := fun m => (by omega)
        go_wp2_with fail
        refine (HS.out _).mono ?_
        rintro e w2 ⟨rfl, hbw2⟩
        obtain ⟨hcw2, hfw2, -, -, -, hsw2⟩ := bfacts5 hbw2
        try simp only [World.size_drew] at hcw2 hfw2
        try simp at hsw2
        have qw20 : wd.heap.size < w2.heap.size := (by omega)
        have rw20 : ∀ m : Nat, wd.heap.size < w2.heap.size + m := fun m => (by omega)
        have qw21 : wd.heap.size + 1 < w2.heap.size := (by omega)
        have rw21 : ∀ m : Nat, wd.heap.size + 1 < w2.heap.size + m := fun m => (by omega)
        have qw22 : w1.heap.size < w2.heap.size := (by omega)
        have rw22 : ∀ m : Nat, w1.heap.size < w2.heap.size + m := fun m => (by omega)
        go_wp2_with (first | (go_at_call 17; go_must (refine (tv_impl _ _ _ _).mono ?_; rintro e w1 ⟨rfl, hbw1⟩; obtain ⟨hcw1, hfw1, -, -, -, hsw1⟩ := bfacts5 hbw1; (try simp only [World.size_drew] at hcw1 hfw1); (try simp at hsw1); have qw10 : wd.heap.size < w1.heap.size := (by omega); have rw10 : ∀ m : Nat, wd.heap.size < w1.heap.size + m := fun m => (by omega))) | (go_at_call 36; refine (alive_any _).mono ?_; rintro x w3 ⟨rfl, hb3⟩))
        go_ret
        exact ⟨rfl, by (repeat' (first | (with_reducible exact Below.refl _ _) | (with_reducible assumption) | (with_reducible exact bundrew (by assumption)) | (with_reducible refine balloc ?_ _) | (with_reducible refine bset ?_ _ ?_ _) | (with_reducible refine Below.drew ?_) | (with_reducible refine bdrewN ?_ _) | (with_reducible refine bvia (by assumption) ?_) | (with_reducible refine Below.trans ?_ (by assumption)) | omega | (simp; omega) | (simp; done)))⟩
end Go.Proofs.Ytpcdedigblijbaa
