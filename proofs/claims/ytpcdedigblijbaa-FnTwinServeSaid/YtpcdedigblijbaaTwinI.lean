/- TwinServe of the program and of the reference: contracts; the walk of the law FnExactTwinServe. -/
import Derived.Test.YtpcdedigblijbaaTwinH
import Derived.Test.YtpcdedigblijbaaTwinG
namespace Go.Proofs.Ytpcdedigblijbaa
open Go.ChangeShapes Go.WideShapes Go.ChangeAt Go.RowKit

/-- The shaft after a rider has been served. -/
def serveT (f l h a b : Int) : Int × Int × Int × Bool :=
  if tvB f l h = true then
    (if tforI f l h a b < 0 then (f, l, h, false) else
      ((trunT (trunT f l h (wayT f l h (tforI f l h a b) a).1).1 (trunT f l h (wayT f l h (tforI f l h a b) a).1).2.1 (trunT f l h (wayT f l h (tforI f l h a b) a).1).2.2 (wayT (trunT f l h (wayT f l h (tforI f l h a b) a).1).1 (trunT f l h (wayT f l h (tforI f l h a b) a).1).2.1 (trunT f l h (wayT f l h (tforI f l h a b) a).1).2.2 (tforI f l h a b) b).1).1,
       (trunT (trunT f l h (wayT f l h (tforI f l h a b) a).1).1 (trunT f l h (wayT f l h (tforI f l h a b) a).1).2.1 (trunT f l h (wayT f l h (tforI f l h a b) a).1).2.2 (wayT (trunT f l h (wayT f l h (tforI f l h a b) a).1).1 (trunT f l h (wayT f l h (tforI f l h a b) a).1).2.1 (trunT f l h (wayT f l h (tforI f l h a b) a).1).2.2 (tforI f l h a b) b).1).2.1,
       (trunT (trunT f l h (wayT f l h (tforI f l h a b) a).1).1 (trunT f l h (wayT f l h (tforI f l h a b) a).1).2.1 (trunT f l h (wayT f l h (tforI f l h a b) a).1).2.2 (wayT (trunT f l h (wayT f l h (tforI f l h a b) a).1).1 (trunT f l h (wayT f l h (tforI f l h a b) a).1).2.1 (trunT f l h (wayT f l h (tforI f l h a b) a).1).2.2 (tforI f l h a b) b).1).2.2, true))
  else (0, 0, 0, false)
theorem serveT_no {f l h a b : Int} (hv : ¬ tvB f l h = true) : serveT f l h a b = (0, 0, 0, false) := by unfold serveT; rw [if_neg hv]
theorem serveT_stay {f l h a b : Int} (hv : tvB f l h = true) (hc : tforI f l h a b < 0) : serveT f l h a b = (f, l, h, false) := by unfold serveT; rw [if_pos hv, if_pos hc]
theorem serveT_yes {f l h a b car : Int} {xs ys : List (Int × Int)} {s t : Int × Int × Int} (hv : tvB f l h = true) (hc : tforI f l h a b = car) (h0 : 0 ≤ car) (hx : (wayT f l h car a).1 = xs) (hs : trunT f l h xs = s) (hy : (wayT s.1 s.2.1 s.2.2 car b).1 = ys) (ht : trunT s.1 s.2.1 s.2.2 ys = t) :
    serveT f l h a b = (t.1, t.2.1, t.2.2, true) := by
  unfold serveT; rw [if_pos hv, hc, if_neg (by omega), hx, hs, hy, ht]

set_option maxHeartbeats 2000000 in
theorem serve_impl (f l h a b : Int) (w : World) : Calls Try.prog 34 #[.agg #[.int .i64 f, .int .i64 l, .int .i64 h], .int .i64 a, .int .i64 b] w fun e w' => e = .returned (.tuple #[.agg #[.int .i64 (serveT f l h a b).1, .int .i64 (serveT f l h a b).2.1, .int .i64 (serveT f l h a b).2.2.1], .bool (serveT f l h a b).2.2.2]) ∧ Below w.heap.size w w' := by
  by_cases hv : tvB f l h = true
  · obtain ⟨car, hcar⟩ : ∃ car, tforI f l h a b = car := ⟨_, rfl⟩
    have TF := fun w => tfor_impl f l h a b w
    rw [hcar] at TF
    have HF := Lib.hid TF
    clear TF
    by_cases hc : car < 0
    · rw [serveT_stay hv (by rw [hcar]; exact hc)]
      clear hcar
      go_enter Try.func34, Try.ntmps34
      go_wp2_with fail
      refine (tv_impl _ _ _ _).mono ?_
      rintro e w1 ⟨rfl, hbw1⟩
      obtain ⟨hcw1, hfw1, -, -, -, hsw1⟩ := bfacts5 hbw1
      try simp only [World.size_drew] at hcw1 hfw1
      try simp at hsw1
      have qw10 : w.heap.size < w1.heap.size := (by omega)
      have rw10 : ∀ m : Nat, w.heap.size < w1.heap.size + m := fun m => (by omega)
      have qw11 : w.heap.size + 1 < w1.heap.size := (by omega)
      have rw11 : ∀ m : Nat, w.heap.size + 1 < w1.heap.size + m := fun m => (by omega)
      go_wp2_with fail
      refine (HF.out _).mono ?_
      rintro e w2 ⟨rfl, hbw2⟩
      obtain ⟨hcw2, hfw2, -, -, -, hsw2⟩ := bfacts5 hbw2
      try simp only [World.size_drew] at hcw2 hfw2
      try simp at hsw2
      have qw20 : w.heap.size < w2.heap.size := (by omega)
      have rw20 : ∀ m : Nat, w.heap.size < w2.heap.size + m := fun m => (by omega)
      have qw21 : w.heap.size + 1 < w2.heap.size := (by omega)
      have rw21 : ∀ m : Nat, w.heap.size + 1 < w2.heap.size + m := fun m => (by omega)
      go_wp2
      refine bodyPost_ret (by simp [results, Try.results34, go_sem, *]; try rfl) rfl ?_
      exact ⟨rfl, by (repeat' (first | (with_reducible exact Below.refl _ _) | (with_reducible assumption) | (with_reducible exact bundrew (by assumption)) | (with_reducible refine balloc ?_ _) | (with_reducible refine bset ?_ _ ?_ _) | (with_reducible refine Below.drew ?_) | (with_reducible refine bdrewN ?_ _) | (with_reducible refine bvia (by assumption) ?_) | (with_reducible refine Below.trans ?_ (by assumption)) | omega | (simp; omega) | (simp; done)))⟩
    · have h0 : 0 ≤ car := by omega
      obtain ⟨xs, hxs⟩ : ∃ xs, (wayT f l h car a).1 = xs := ⟨_, rfl⟩
      obtain ⟨s, hs⟩ : ∃ s, trunT f l h xs = s := ⟨_, rfl⟩
      obtain ⟨ys, hys⟩ : ∃ ys, (wayT s.1 s.2.1 s.2.2 car b).1 = ys := ⟨_, rfl⟩
      obtain ⟨t, ht⟩ : ∃ t, trunT s.1 s.2.1 s.2.2 ys = t := ⟨_, rfl⟩
      rw [serveT_yes hv hcar h0 hxs hs hys ht]
      have W1 := fun w => way_impl f l h car a w
      have W2 := fun w => way_impl s.1 s.2.1 s.2.2 car b w
      have R1 := fun A n c w hP => trun_impl f l h A n c xs w hP
      have R2 := fun A n c w hP => trun_impl s.1 s.2.1 s.2.2 A n c ys w hP
      rw [hxs] at W1
      rw [hys] at W2
      rw [hs] at R1
      rw [ht] at R2
      have HW1 := Lib.hid W1
      have HW2 := Lib.hid W2
      have HR1 := Lib.hid R1
      have HR2 := Lib.hid R2
      clear W1 W2 R1 R2 hxs hs hys ht hcar hc
      obtain ⟨s1, s2, s3⟩ := s
      obtain ⟨t1, t2, t3⟩ := t
      go_enter Try.func34, Try.ntmps34
      go_wp2_with fail
      refine (tv_impl _ _ _ _).mono ?_
      rintro e w1 ⟨rfl, hbw1⟩
      obtain ⟨hcw1, hfw1, -, -, -, hsw1⟩ := bfacts5 hbw1
      try simp only [World.size_drew] at hcw1 hfw1
      try simp at hsw1
      have qw10 : w.heap.size < w1.heap.size := (by omega)
      have rw10 : ∀ m : Nat, w.heap.size < w1.heap.size + m := fun m => (by omega)
      have qw11 : w.heap.size + 1 < w1.heap.size := (by omega)
      have rw11 : ∀ m : Nat, w.heap.size + 1 < w1.heap.size + m := fun m => (by omega)
      go_wp2_with fail
      refine (HF.out _).mono ?_
      rintro e w2 ⟨rfl, hbw2⟩
      obtain ⟨hcw2, hfw2, -, -, -, hsw2⟩ := bfacts5 hbw2
      try simp only [World.size_drew] at hcw2 hfw2
      try simp at hsw2
      have qw20 : w.heap.size < w2.heap.size := (by omega)
      have rw20 : ∀ m : Nat, w.heap.size < w2.heap.size + m := fun m => (by omega)
      have qw21 : w.heap.size + 1 < w2.heap.size := (by omega)
      have rw21 : ∀ m : Nat, w.heap.size + 1 < w2.heap.size + m := fun m => (by omega)
      go_wp2_with fail
      refine (HW1.out _).mono ?_
      rintro e w3 ⟨v3, rfl, o3, hbw3⟩
      obtain ⟨hcw3, hfw3, -, -, -, hsw3⟩ := bfacts5 hbw3
      try simp only [World.size_drew] at hcw3 hfw3
      try simp at hsw3
      have qw30 : w.heap.size < w3.heap.size := (by omega)
      have rw30 : ∀ m : Nat, w.heap.size < w3.heap.size + m := fun m => (by omega)
      have qw31 : w.heap.size + 1 < w3.heap.size := (by omega)
      have rw31 : ∀ m : Nat, w.heap.size + 1 < w3.heap.size + m := fun m => (by omega)
      obtain ⟨A3, c3, rfl⟩ := o3.shape
      go_wp2_with fail
      refine (HR1.out _ _ _ _ o3.pairs.2).mono ?_
      rintro e w4 ⟨rfl, hbw4⟩
      obtain ⟨hcw4, hfw4, -, -, -, hsw4⟩ := bfacts5 hbw4
      try simp only [World.size_drew] at hcw4 hfw4
      try simp at hsw4
      have qw40 : w.heap.size < w4.heap.size := (by omega)
      have rw40 : ∀ m : Nat, w.heap.size < w4.heap.size + m := fun m => (by omega)
      have qw41 : w.heap.size + 1 < w4.heap.size := (by omega)
      have rw41 : ∀ m : Nat, w.heap.size + 1 < w4.heap.size + m := fun m => (by omega)
      go_wp2_with fail
      refine (HW2.out _).mono ?_
      rintro e w5 ⟨v5, rfl, o5, hbw5⟩
      obtain ⟨hcw5, hfw5, -, -, -, hsw5⟩ := bfacts5 hbw5
      try simp only [World.size_drew] at hcw5 hfw5
      try simp at hsw5
      have qw50 : w.heap.size < w5.heap.size := (by omega)
      have rw50 : ∀ m : Nat, w.heap.size < w5.heap.size + m := fun m => (by omega)
      have qw51 : w.heap.size + 1 < w5.heap.size := (by omega)
      have rw51 : ∀ m : Nat, w.heap.size + 1 < w5.heap.size + m := fun m => (by omega)
      have qw52 : w4.heap.size < w5.heap.size := (by omega)
      have rw52 : ∀ m : Nat, w4.heap.size < w5.heap.size + m := fun m => (by omega)
      obtain ⟨A5, c5, rfl⟩ := o5.shape
      go_wp2_with fail
      refine (HR2.out _ _ _ _ o5.pairs.2).mono ?_
      rintro e w6 ⟨rfl, hbw6⟩
      obtain ⟨hcw6, hfw6, -, -, -, hsw6⟩ := bfacts5 hbw6
      try simp only [World.size_drew] at hcw6 hfw6
      try simp at hsw6
      have qw60 : w.heap.size < w6.heap.size := (by omega)
      have rw60 : ∀ m : Nat, w.heap.size < w6.heap.size + m := fun m => (by omega)
      have qw61 : w.heap.size + 1 < w6.heap.size := (by omega)
      have rw61 : ∀ m : Nat, w.heap.size + 1 < w6.heap.size + m := fun m => (by omega)
      have qw62 : w4.heap.size < w6.heap.size := (by omega)
      have rw62 : ∀ m : Nat, w4.heap.size < w6.heap.size + m := fun m => (by omega)
      go_wp2
      refine bodyPost_ret (by simp [results, Try.results34, go_sem, *]; try rfl) rfl ?_
      exact ⟨rfl, by (repeat' (first | (with_reducible exact Below.refl _ _) | (with_reducible assumption) | (with_reducible exact bundrew (by assumption)) | (with_reducible refine balloc ?_ _) | (with_reducible refine bset ?_ _ ?_ _) | (with_reducible refine Below.drew ?_) | (with_reducible refine bdrewN ?_ _) | (with_reducible refine bvia (by assumption) ?_) | (with_reducible refine Below.trans ?_ (by assumption)) | omega | (simp; omega) | (simp; done)))⟩
  · rw [serveT_no hv]
    have hv' := bfalse hv
    go_enter Try.func34, Try.ntmps34
    go_wp2_with fail
    refine (tv_impl _ _ _ _).mono ?_
    rintro e w1 ⟨rfl, hbw1⟩
    obtain ⟨hcw1, hfw1, -, -, -, hsw1⟩ := bfacts5 hbw1
    try simp only [World.size_drew] at hcw1 hfw1
    try simp at hsw1
    have qw10 : w.heap.size < w1.heap.size := (by omega)
    have rw10 : ∀ m : Nat, w.heap.size < w1.heap.size + m := fun m => (by omega)
    have qw11 : w.heap.size + 1 < w1.heap.size := (by omega)
    have rw11 : ∀ m : Nat, w.heap.size + 1 < w1.heap.size + m := fun m => (by omega)
    go_wp2
    refine bodyPost_ret (by simp [results, Try.results34, go_sem, *]; try rfl) rfl ?_
    exact ⟨rfl, by (repeat' (first | (with_reducible exact Below.refl _ _) | (with_reducible assumption) | (with_reducible exact bundrew (by assumption)) | (with_reducible refine balloc ?_ _) | (with_reducible refine bset ?_ _ ?_ _) | (with_reducible refine Below.drew ?_) | (with_reducible refine bdrewN ?_ _) | (with_reducible refine bvia (by assumption) ?_) | (with_reducible refine Below.trans ?_ (by assumption)) | omega | (simp; omega) | (simp; done)))⟩

set_option maxHeartbeats 2000000 in
theorem serve_spec (f l h a b : Int) (w : World) : Calls Try.prog 33 #[.agg #[.int .i64 f, .int .i64 l, .int .i64 h], .int .i64 a, .int .i64 b] w fun e w' => e = .returned (.tuple #[.agg #[.int .i64 (serveT f l h a b).1, .int .i64 (serveT f l h a b).2.1, .int .i64 (serveT f l h a b).2.2.1], .bool (serveT f l h a b).2.2.2]) ∧ Below w.heap.size w w' := by
  by_cases hv : tvB f l h = true
  · obtain ⟨car, hcar⟩ : ∃ car, tforI f l h a b = car := ⟨_, rfl⟩
    have TF := fun w => tfor_spec f l h a b w
    rw [hcar] at TF
    have HF := Lib.hid TF
    clear TF
    by_cases hc : car < 0
    · rw [serveT_stay hv (by rw [hcar]; exact hc)]
      clear hcar
      go_enter Try.func33, Try.ntmps33
      go_wp2_with fail
      refine (tv_spec _ _ _ _).mono ?_
      rintro e w1 ⟨rfl, hbw1⟩
      obtain ⟨hcw1, hfw1, -, -, -, hsw1⟩ := bfacts5 hbw1
      try simp only [World.size_drew] at hcw1 hfw1
      try simp at hsw1
      have qw10 : w.heap.size < w1.heap.size := (by omega)
      have rw10 : ∀ m : Nat, w.heap.size < w1.heap.size + m := fun m => (by omega)
      have qw11 : w.heap.size + 1 < w1.heap.size := (by omega)
      have rw11 : ∀ m : Nat, w.heap.size + 1 < w1.heap.size + m := fun m => (by omega)
      go_wp2_with fail
      refine (HF.out _).mono ?_
      rintro e w2 ⟨rfl, hbw2⟩
      obtain ⟨hcw2, hfw2, -, -, -, hsw2⟩ := bfacts5 hbw2
      try simp only [World.size_drew] at hcw2 hfw2
      try simp at hsw2
      have qw20 : w.heap.size < w2.heap.size := (by omega)
      have rw20 : ∀ m : Nat, w.heap.size < w2.heap.size + m := fun m => (by omega)
      have qw21 : w.heap.size + 1 < w2.heap.size := (by omega)
      have rw21 : ∀ m : Nat, w.heap.size + 1 < w2.heap.size + m := fun m => (by omega)
      go_wp2
      refine bodyPost_ret (by simp [results, Try.results33, go_sem, *]; try rfl) rfl ?_
      exact ⟨rfl, by (repeat' (first | (with_reducible exact Below.refl _ _) | (with_reducible assumption) | (with_reducible exact bundrew (by assumption)) | (with_reducible refine balloc ?_ _) | (with_reducible refine bset ?_ _ ?_ _) | (with_reducible refine Below.drew ?_) | (with_reducible refine bdrewN ?_ _) | (with_reducible refine bvia (by assumption) ?_) | (with_reducible refine Below.trans ?_ (by assumption)) | omega | (simp; omega) | (simp; done)))⟩
    · have h0 : 0 ≤ car := by omega
      obtain ⟨xs, hxs⟩ : ∃ xs, (wayT f l h car a).1 = xs := ⟨_, rfl⟩
      obtain ⟨s, hs⟩ : ∃ s, trunT f l h xs = s := ⟨_, rfl⟩
      obtain ⟨ys, hys⟩ : ∃ ys, (wayT s.1 s.2.1 s.2.2 car b).1 = ys := ⟨_, rfl⟩
      obtain ⟨t, ht⟩ : ∃ t, trunT s.1 s.2.1 s.2.2 ys = t := ⟨_, rfl⟩
      rw [serveT_yes hv hcar h0 hxs hs hys ht]
      have W1 := fun w => way_spec f l h car a w
      have W2 := fun w => way_spec s.1 s.2.1 s.2.2 car b w
      have R1 := fun A n c w hP => trun_spec f l h A n c xs w hP
      have R2 := fun A n c w hP => trun_spec s.1 s.2.1 s.2.2 A n c ys w hP
      rw [hxs] at W1
      rw [hys] at W2
      rw [hs] at R1
      rw [ht] at R2
      have HW1 := Lib.hid W1
      have HW2 := Lib.hid W2
      have HR1 := Lib.hid R1
      have HR2 := Lib.hid R2
      clear W1 W2 R1 R2 hxs hs hys ht hcar hc
      obtain ⟨s1, s2, s3⟩ := s
      obtain ⟨t1, t2, t3⟩ := t
      go_enter Try.func33, Try.ntmps33
      go_wp2_with fail
      refine (tv_spec _ _ _ _).mono ?_
      rintro e w1 ⟨rfl, hbw1⟩
      obtain ⟨hcw1, hfw1, -, -, -, hsw1⟩ := bfacts5 hbw1
      try simp only [World.size_drew] at hcw1 hfw1
      try simp at hsw1
      have qw10 : w.heap.size < w1.heap.size := (by omega)
      have rw10 : ∀ m : Nat, w.heap.size < w1.heap.size + m := fun m => (by omega)
      have qw11 : w.heap.size + 1 < w1.heap.size := (by omega)
      have rw11 : ∀ m : Nat, w.heap.size + 1 < w1.heap.size + m := fun m => (by omega)
      go_wp2_with fail
      refine (HF.out _).mono ?_
      rintro e w2 ⟨rfl, hbw2⟩
      obtain ⟨hcw2, hfw2, -, -, -, hsw2⟩ := bfacts5 hbw2
      try simp only [World.size_drew] at hcw2 hfw2
      try simp at hsw2
      have qw20 : w.heap.size < w2.heap.size := (by omega)
      have rw20 : ∀ m : Nat, w.heap.size < w2.heap.size + m := fun m => (by omega)
      have qw21 : w.heap.size + 1 < w2.heap.size := (by omega)
      have rw21 : ∀ m : Nat, w.heap.size + 1 < w2.heap.size + m := fun m => (by omega)
      go_wp2_with fail
      refine (HW1.out _).mono ?_
      rintro e w3 ⟨v3, rfl, o3, hbw3⟩
      obtain ⟨hcw3, hfw3, -, -, -, hsw3⟩ := bfacts5 hbw3
      try simp only [World.size_drew] at hcw3 hfw3
      try simp at hsw3
      have qw30 : w.heap.size < w3.heap.size := (by omega)
      have rw30 : ∀ m : Nat, w.heap.size < w3.heap.size + m := fun m => (by omega)
      have qw31 : w.heap.size + 1 < w3.heap.size := (by omega)
      have rw31 : ∀ m : Nat, w.heap.size + 1 < w3.heap.size + m := fun m => (by omega)
      obtain ⟨A3, c3, rfl⟩ := o3.shape
      go_wp2_with fail
      refine (HR1.out _ _ _ _ o3.pairs.2).mono ?_
      rintro e w4 ⟨rfl, hbw4⟩
      obtain ⟨hcw4, hfw4, -, -, -, hsw4⟩ := bfacts5 hbw4
      try simp only [World.size_drew] at hcw4 hfw4
      try simp at hsw4
      have qw40 : w.heap.size < w4.heap.size := (by omega)
      have rw40 : ∀ m : Nat, w.heap.size < w4.heap.size + m := fun m => (by omega)
      have qw41 : w.heap.size + 1 < w4.heap.size := (by omega)
      have rw41 : ∀ m : Nat, w.heap.size + 1 < w4.heap.size + m := fun m => (by omega)
      go_wp2_with fail
      refine (HW2.out _).mono ?_
      rintro e w5 ⟨v5, rfl, o5, hbw5⟩
      obtain ⟨hcw5, hfw5, -, -, -, hsw5⟩ := bfacts5 hbw5
      try simp only [World.size_drew] at hcw5 hfw5
      try simp at hsw5
      have qw50 : w.heap.size < w5.heap.size := (by omega)
      have rw50 : ∀ m : Nat, w.heap.size < w5.heap.size + m := fun m => (by omega)
      have qw51 : w.heap.size + 1 < w5.heap.size := (by omega)
      have rw51 : ∀ m : Nat, w.heap.size + 1 < w5.heap.size + m := fun m => (by omega)
      have qw52 : w4.heap.size < w5.heap.size := (by omega)
      have rw52 : ∀ m : Nat, w4.heap.size < w5.heap.size + m := fun m => (by omega)
      obtain ⟨A5, c5, rfl⟩ := o5.shape
      go_wp2_with fail
      refine (HR2.out _ _ _ _ o5.pairs.2).mono ?_
      rintro e w6 ⟨rfl, hbw6⟩
      obtain ⟨hcw6, hfw6, -, -, -, hsw6⟩ := bfacts5 hbw6
      try simp only [World.size_drew] at hcw6 hfw6
      try simp at hsw6
      have qw60 : w.heap.size < w6.heap.size := (by omega)
      have rw60 : ∀ m : Nat, w.heap.size < w6.heap.size + m := fun m => (by omega)
      have qw61 : w.heap.size + 1 < w6.heap.size := (by omega)
      have rw61 : ∀ m : Nat, w.heap.size + 1 < w6.heap.size + m := fun m => (by omega)
      have qw62 : w4.heap.size < w6.heap.size := (by omega)
      have rw62 : ∀ m : Nat, w4.heap.size < w6.heap.size + m := fun m => (by omega)
      go_wp2
      refine bodyPost_ret (by simp [results, Try.results33, go_sem, *]; try rfl) rfl ?_
      exact ⟨rfl, by (repeat' (first | (with_reducible exact Below.refl _ _) | (with_reducible assumption) | (with_reducible exact bundrew (by assumption)) | (with_reducible refine balloc ?_ _) | (with_reducible refine bset ?_ _ ?_ _) | (with_reducible refine Below.drew ?_) | (with_reducible refine bdrewN ?_ _) | (with_reducible refine bvia (by assumption) ?_) | (with_reducible refine Below.trans ?_ (by assumption)) | omega | (simp; omega) | (simp; done)))⟩
  · rw [serveT_no hv]
    have hv' := bfalse hv
    go_enter Try.func33, Try.ntmps33
    go_wp2_with fail
    refine (tv_spec _ _ _ _).mono ?_
    rintro e w1 ⟨rfl, hbw1⟩
    obtain ⟨hcw1, hfw1, -, -, -, hsw1⟩ := bfacts5 hbw1
    try simp only [World.size_drew] at hcw1 hfw1
    try simp at hsw1
    have qw10 : w.heap.size < w1.heap.size := (by omega)
    have rw10 : ∀ m : Nat, w.heap.size < w1.heap.size + m := fun m => (by omega)
    have qw11 : w.heap.size + 1 < w1.heap.size := (by omega)
    have rw11 : ∀ m : Nat, w.heap.size + 1 < w1.heap.size + m := fun m => (by omega)
    go_wp2
    refine bodyPost_ret (by simp [results, Try.results33, go_sem, *]; try rfl) rfl ?_
    exact ⟨rfl, by (repeat' (first | (with_reducible exact Below.refl _ _) | (with_reducible assumption) | (with_reducible exact bundrew (by assumption)) | (with_reducible refine balloc ?_ _) | (with_reducible refine bset ?_ _ ?_ _) | (with_reducible refine Below.drew ?_) | (with_reducible refine bdrewN ?_ _) | (with_reducible refine bvia (by assumption) ?_) | (with_reducible refine Below.trans ?_ (by assumption)) | omega | (simp; omega) | (simp; done)))⟩

set_option maxHeartbeats 2000000 in
theorem walk_FnExactTwinServe (f l h a b : Int) (w : World) (_ : (Lit.int .i64 f).wf = true) (_ : (Lit.int .i64 l).wf = true) (_ : (Lit.int .i64 h).wf = true) (_ : (Lit.int .i64 a).wf = true) (_ : (Lit.int .i64 b).wf = true) :
    Calls Try.prog 8 #[.agg #[.int .i64 f, .int .i64 l, .int .i64 h], .int .i64 a, .int .i64 b] w fun e w' => e = .returned (.bool true) ∧ Below w.heap.size w w' := by
  obtain ⟨r, hr⟩ : ∃ r, serveT f l h a b = r := ⟨_, rfl⟩
  have WI := fun w => serve_impl f l h a b w
  have WS := fun w => serve_spec f l h a b w
  rw [hr] at WI WS
  have HI := Lib.hid WI
  have HS := Lib.hid WS
  clear WI WS hr
  obtain ⟨r1, r2, r3, r4⟩ := r
  go_enter Try.func8, Try.ntmps8
  go_wp2_with fail
  refine (toTwin_any _ _ _ _).mono ?_
  rintro e w1 ⟨rfl, hbw1⟩
  obtain ⟨hcw1, hfw1, -, -, -, hsw1⟩ := bfacts5 hbw1
  try simp only [World.size_drew] at hcw1 hfw1
  try simp at hsw1
  have qw10 : w.heap.size < w1.heap.size := (by omega)
  have rw10 : ∀ m : Nat, w.heap.size < w1.heap.size + m := fun m => (by omega)
  go_wp2_with fail
  refine (HS.out _).mono ?_
  rintro e w2 ⟨rfl, hbw2⟩
  obtain ⟨hcw2, hfw2, -, -, -, hsw2⟩ := bfacts5 hbw2
  try simp only [World.size_drew] at hcw2 hfw2
  try simp at hsw2
  have qw20 : w.heap.size < w2.heap.size := (by omega)
  have rw20 : ∀ m : Nat, w.heap.size < w2.heap.size + m := fun m => (by omega)
  go_wp2_with fail
  refine (toTwin_any _ _ _ _).mono ?_
  rintro e w3 ⟨rfl, hbw3⟩
  obtain ⟨hcw3, hfw3, -, -, -, hsw3⟩ := bfacts5 hbw3
  try simp only [World.size_drew] at hcw3 hfw3
  try simp at hsw3
  have qw30 : w.heap.size < w3.heap.size := (by omega)
  have rw30 : ∀ m : Nat, w.heap.size < w3.heap.size + m := fun m => (by omega)
  have qw31 : w2.heap.size < w3.heap.size := (by omega)
  have rw31 : ∀ m : Nat, w2.heap.size < w3.heap.size + m := fun m => (by omega)
  go_wp2_with fail
  refine (HI.out _).mono ?_
  rintro e w4 ⟨rfl, hbw4⟩
  obtain ⟨hcw4, hfw4, -, -, -, hsw4⟩ := bfacts5 hbw4
  try simp only [World.size_drew] at hcw4 hfw4
  try simp at hsw4
  have qw40 : w.heap.size < w4.heap.size := (by omega)
  have rw40 : ∀ m : Nat, w.heap.size < w4.heap.size + m := fun m => (by omega)
  have qw41 : w2.heap.size < w4.heap.size := (by omega)
  have rw41 : ∀ m : Nat, w2.heap.size < w4.heap.size + m := fun m => (by omega)
  go_wp2_with fail
  refine (eqTwin_any _ _ _ _ _ _ _).mono ?_
  rintro e w5 ⟨rfl, hbw5⟩
  obtain ⟨hcw5, hfw5, -, -, -, hsw5⟩ := bfacts5 hbw5
  try simp only [World.size_drew] at hcw5 hfw5
  try simp at hsw5
  have qw50 : w.heap.size < w5.heap.size := (by omega)
  have rw50 : ∀ m : Nat, w.heap.size < w5.heap.size + m := fun m => (by omega)
  have qw51 : w2.heap.size < w5.heap.size := (by omega)
  have rw51 : ∀ m : Nat, w2.heap.size < w5.heap.size + m := fun m => (by omega)
  have qw52 : w4.heap.size < w5.heap.size := (by omega)
  have rw52 : ∀ m : Nat, w4.heap.size < w5.heap.size + m := fun m => (by omega)
  go_wp2
  go_ret
  exact ⟨rfl, by (repeat' (first | (with_reducible exact Below.refl _ _) | (with_reducible assumption) | (with_reducible exact bundrew (by assumption)) | (with_reducible refine balloc ?_ _) | (with_reducible refine bset ?_ _ ?_ _) | (with_reducible refine Below.drew ?_) | (with_reducible refine bdrewN ?_ _) | (with_reducible refine bvia (by assumption) ?_) | (with_reducible refine Below.trans ?_ (by assumption)) | omega | (simp; omega) | (simp; done)))⟩
end Go.Proofs.Ytpcdedigblijbaa
