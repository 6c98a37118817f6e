/- FracLess of the program and of the reference; the walks of the laws FnExactFracOf and FnExactFracLess. -/
import Derived.Test.YtkhooomjfjancaaFracA
namespace Go.Proofs.Ytkhooomjfjancaa
open Go.ChangeShapes Go.WideShapes Go.ChangeAt Go.RowKit

theorem toFrac_ex (a b : Int) (w : World) : Calls Try.prog 15 #[.agg #[.int .i64 a, .int .i64 b]] w fun e w' => e = .returned (.agg #[.int .i64 a, .int .i64 b]) ∧
    ((w.alloc (.cells #[.int .i64 a, .int .i64 b] 28)).alloc (.cells #[.int .i64 a, .int .i64 b] 23)).alloc (.cells #[.int .i64 a, .int .i64 b] 23) = w' := by
  go_enter Try.func15, Try.ntmps15
  go_wp2
  go_returns
  exact ⟨rfl, rfl⟩

theorem eqFrac_any (a b a' b' : Int) (w : World) : Calls Try.prog 13 #[.agg #[.int .i64 a, .int .i64 b], .agg #[.int .i64 a', .int .i64 b']] w fun e w' => e = .returned (.bool (decide (a = a' ∧ b = b'))) ∧ Below w.heap.size w w' := by
  go_enter Try.func13, Try.ntmps13
  go_wp2
  all_goals go_ret
  all_goals exact ⟨ret_bool (by first | (simp only [bne_iff_ne, ne_eq, bne_eq_false_iff_eq] at *; simp [*]) | skip), by go_grown⟩

/-- The terms of a fraction are in their bounds, as a Bool. -/
def fokB (a b : Int) : Bool := decide (fracOk a b)
theorem fok_open {a b : Int} (h : fokB a b = true) : fracOk a b := by simpa [fokB] using h
theorem fracT_ok (a b : Int) : (fracT a b).2.2 = fokB a b := by
  unfold fracT fokB
  split <;> simp_all

theorem fracValid_any (a b : Int) (w : World) : Calls Try.prog 30 #[.agg #[.int .i64 a, .int .i64 b]] w fun e w' => e = .returned (.bool (fokB a b)) ∧ Below w.heap.size w w' := by
  go_enter Try.func30, Try.ntmps30
  go_wp2
  all_goals go_ret
  all_goals refine ⟨ret_bool ?_, by (repeat' (first | (with_reducible exact Below.refl _ _) | (with_reducible assumption) | (with_reducible exact bundrew (by assumption)) | (with_reducible refine balloc ?_ _) | (with_reducible refine bset ?_ _ ?_ _) | (with_reducible refine Below.drew ?_) | (with_reducible refine bdrewN ?_ _) | (with_reducible refine bvia (by assumption) ?_) | (with_reducible refine Below.trans ?_ (by assumption)) | omega | (simp; omega) | (simp; done)))⟩
  all_goals (rw [Bool.eq_iff_iff]; simp only [fokB, decide_eq_true_eq, Bool.false_eq_true, false_iff] at *; unfold fracOk; omega)

/-- One fraction is less than another one. -/
def flessB (a b c d : Int) : Bool := decide (fracOk a b ∧ fracOk c d ∧ a * d < c * b)
theorem fless_no {a b c d : Int} (h : ¬ (fokB a b = true ∧ fokB c d = true)) : flessB a b c d = false := by
  simp only [fokB, flessB, decide_eq_true_eq, decide_eq_false_iff_not] at *
  rintro ⟨h1, h2, _⟩; exact h ⟨h1, h2⟩
theorem fless_yes {a b c d : Int} (h1 : fokB a b = true) (h2 : fokB c d = true) : flessB a b c d = decide (a * d < c * b) := by
  rw [Bool.eq_iff_iff]
  simp only [fokB, flessB, decide_eq_true_eq] at *
  exact ⟨fun h => h.2.2, fun h => ⟨h1, h2, h⟩⟩
theorem mul_small {a b : Int} (h1 : 0 ≤ a) (h2 : a ≤ 1000000) (h3 : 0 ≤ b) (h4 : b ≤ 1000000) : ∃ x : Int, a * b = x ∧ 0 ≤ x ∧ x ≤ 1000000000000 := by
  have h5 := Int.mul_le_mul h2 h4 h3 (by omega)
  exact ⟨_, rfl, Int.mul_nonneg h1 h3, by omega⟩

set_option maxHeartbeats 1000000 in
theorem fless_impl (a b c d : Int) (w : World) : Calls Try.prog 16 #[.agg #[.int .i64 a, .int .i64 b], .agg #[.int .i64 c, .int .i64 d]] w fun e w' => e = .returned (.bool (flessB a b c d)) ∧ Below w.heap.size w w' := by
  by_cases h1 : fokB a b = true
  · by_cases h2 : fokB c d = true
    · rw [fless_yes h1 h2]
      obtain ⟨p1, p2, p3, p4⟩ := fok_open h1
      obtain ⟨p5, p6, p7, p8⟩ := fok_open h2
      obtain ⟨x, ex, p9, p10⟩ := mul_small p1 p2 (show 0 ≤ d by omega) p8
      obtain ⟨y, ey, p11, p12⟩ := mul_small p5 p6 (show 0 ≤ b by omega) p4
      rw [ex, ey]
      go_enter Try.func16, Try.ntmps16
      go_wp2_with fail
      refine (fracValid_any _ _ _).mono ?_
      rintro e w1 ⟨rfl, hbw1⟩
      obtain ⟨hcw1, hfw1, -, -, -, hsw1⟩ := bfacts5 hbw1
      try simp only [World.size_drew] at hcw1 hfw1
      try simp at hsw1
      have qw10 : w.heap.size < w1.heap.size := (by omega)
      have rw10 : ∀ m : Nat, w.heap.size < w1.heap.size + m := fun m => (by omega)
      have qw11 : w.heap.size + 1 < w1.heap.size := (by omega)
      have rw11 : ∀ m : Nat, w.heap.size + 1 < w1.heap.size + m := fun m => (by omega)
      go_wp2_with fail
      refine (fracValid_any _ _ _).mono ?_
      rintro e w2 ⟨rfl, hbw2⟩
      obtain ⟨hcw2, hfw2, -, -, -, hsw2⟩ := bfacts5 hbw2
      try simp only [World.size_drew] at hcw2 hfw2
      try simp at hsw2
      have qw20 : w.heap.size < w2.heap.size := (by omega)
      have rw20 : ∀ m : Nat, w.heap.size < w2.heap.size + m := fun m => (by omega)
      have qw21 : w.heap.size + 1 < w2.heap.size := (by omega)
      have rw21 : ∀ m : Nat, w.heap.size + 1 < w2.heap.size + m := fun m => (by omega)
      go_wp2
      go_ret
      exact ⟨rfl, by (repeat' (first | (with_reducible exact Below.refl _ _) | (with_reducible assumption) | (with_reducible exact bundrew (by assumption)) | (with_reducible refine balloc ?_ _) | (with_reducible refine bset ?_ _ ?_ _) | (with_reducible refine Below.drew ?_) | (with_reducible refine bdrewN ?_ _) | (with_reducible refine bvia (by assumption) ?_) | (with_reducible refine Below.trans ?_ (by assumption)) | omega | (simp; omega) | (simp; done)))⟩
    · rw [fless_no (fun h => h2 h.2)]
      have h2' := bfalse h2
      go_enter Try.func16, Try.ntmps16
      go_wp2_with fail
      refine (fracValid_any _ _ _).mono ?_
      rintro e w1 ⟨rfl, hbw1⟩
      obtain ⟨hcw1, hfw1, -, -, -, hsw1⟩ := bfacts5 hbw1
      try simp only [World.size_drew] at hcw1 hfw1
      try simp at hsw1
      have qw10 : w.heap.size < w1.heap.size := (by omega)
      have rw10 : ∀ m : Nat, w.heap.size < w1.heap.size + m := fun m => (by omega)
      have qw11 : w.heap.size + 1 < w1.heap.size := (by omega)
      have rw11 : ∀ m : Nat, w.heap.size + 1 < w1.heap.size + m := fun m => (by omega)
      go_wp2_with fail
      refine (fracValid_any _ _ _).mono ?_
      rintro e w2 ⟨rfl, hbw2⟩
      obtain ⟨hcw2, hfw2, -, -, -, hsw2⟩ := bfacts5 hbw2
      try simp only [World.size_drew] at hcw2 hfw2
      try simp at hsw2
      have qw20 : w.heap.size < w2.heap.size := (by omega)
      have rw20 : ∀ m : Nat, w.heap.size < w2.heap.size + m := fun m => (by omega)
      have qw21 : w.heap.size + 1 < w2.heap.size := (by omega)
      have rw21 : ∀ m : Nat, w.heap.size + 1 < w2.heap.size + m := fun m => (by omega)
      go_wp2
      go_ret
      exact ⟨rfl, by (repeat' (first | (with_reducible exact Below.refl _ _) | (with_reducible assumption) | (with_reducible exact bundrew (by assumption)) | (with_reducible refine balloc ?_ _) | (with_reducible refine bset ?_ _ ?_ _) | (with_reducible refine Below.drew ?_) | (with_reducible refine bdrewN ?_ _) | (with_reducible refine bvia (by assumption) ?_) | (with_reducible refine Below.trans ?_ (by assumption)) | omega | (simp; omega) | (simp; done)))⟩
  · rw [fless_no (fun h => h1 h.1)]
    have h1' := bfalse h1
    go_enter Try.func16, Try.ntmps16
    go_wp2_with fail
    refine (fracValid_any _ _ _).mono ?_
    rintro e w1 ⟨rfl, hbw1⟩
    obtain ⟨hcw1, hfw1, -, -, -, hsw1⟩ := bfacts5 hbw1
    try simp only [World.size_drew] at hcw1 hfw1
    try simp at hsw1
    have qw10 : w.heap.size < w1.heap.size := (by omega)
    have rw10 : ∀ m : Nat, w.heap.size < w1.heap.size + m := fun m => (by omega)
    have qw11 : w.heap.size + 1 < w1.heap.size := (by omega)
    have rw11 : ∀ m : Nat, w.heap.size + 1 < w1.heap.size + m := fun m => (by omega)
    go_wp2
    go_ret
    exact ⟨rfl, by (repeat' (first | (with_reducible exact Below.refl _ _) | (with_reducible assumption) | (with_reducible exact bundrew (by assumption)) | (with_reducible refine balloc ?_ _) | (with_reducible refine bset ?_ _ ?_ _) | (with_reducible refine Below.drew ?_) | (with_reducible refine bdrewN ?_ _) | (with_reducible refine bvia (by assumption) ?_) | (with_reducible refine Below.trans ?_ (by assumption)) | omega | (simp; omega) | (simp; done)))⟩

set_option maxHeartbeats 1000000 in
theorem fless_spec (a b c d : Int) (w : World) : Calls Try.prog 14 #[.agg #[.int .i64 a, .int .i64 b], .agg #[.int .i64 c, .int .i64 d]] w fun e w' => e = .returned (.bool (flessB a b c d)) ∧ Below w.heap.size w w' := by
  have q1 := fracT_ok a b
  have q2 := fracT_ok c d
  by_cases h1 : fokB a b = true
  · by_cases h2 : fokB c d = true
    · rw [fless_yes h1 h2]
      obtain ⟨p1, p2, p3, p4⟩ := fok_open h1
      obtain ⟨p5, p6, p7, p8⟩ := fok_open h2
      obtain ⟨x, ex, p9, p10⟩ := mul_small p1 p2 (show 0 ≤ d by omega) p8
      obtain ⟨y, ey, p11, p12⟩ := mul_small p5 p6 (show 0 ≤ b by omega) p4
      rw [ex, ey]
      go_enter Try.func14, Try.ntmps14
      go_wp2_with fail
      refine (frac_spec _ _ _).mono ?_
      rintro e w1 ⟨rfl, hbw1⟩
      obtain ⟨hcw1, hfw1, -, -, -, hsw1⟩ := bfacts5 hbw1
      try simp only [World.size_drew] at hcw1 hfw1
      try simp at hsw1
      have qw10 : w.heap.size < w1.heap.size := (by omega)
      have rw10 : ∀ m : Nat, w.heap.size < w1.heap.size + m := fun m => (by omega)
      have qw11 : w.heap.size + 1 < w1.heap.size := (by omega)
      have rw11 : ∀ m : Nat, w.heap.size + 1 < w1.heap.size + m := fun m => (by omega)
      go_wp2_with fail
      refine (frac_spec _ _ _).mono ?_
      rintro e w2 ⟨rfl, hbw2⟩
      obtain ⟨hcw2, hfw2, -, -, -, hsw2⟩ := bfacts5 hbw2
      try simp only [World.size_drew] at hcw2 hfw2
      try simp at hsw2
      have qw20 : w.heap.size < w2.heap.size := (by omega)
      have rw20 : ∀ m : Nat, w.heap.size < w2.heap.size + m := fun m => (by omega)
      have qw21 : w.heap.size + 1 < w2.heap.size := (by omega)
      have rw21 : ∀ m : Nat, w.heap.size + 1 < w2.heap.size + m := fun m => (by omega)
      have qw22 : w1.heap.size < w2.heap.size := (by omega)
      have rw22 : ∀ m : Nat, w1.heap.size < w2.heap.size + m := fun m => (by omega)
      go_wp2
      go_ret
      exact ⟨rfl, by (repeat' (first | (with_reducible exact Below.refl _ _) | (with_reducible assumption) | (with_reducible exact bundrew (by assumption)) | (with_reducible refine balloc ?_ _) | (with_reducible refine bset ?_ _ ?_ _) | (with_reducible refine Below.drew ?_) | (with_reducible refine bdrewN ?_ _) | (with_reducible refine bvia (by assumption) ?_) | (with_reducible refine Below.trans ?_ (by assumption)) | omega | (simp; omega) | (simp; done)))⟩
    · rw [fless_no (fun h => h2 h.2)]
      have h2' := bfalse h2
      go_enter Try.func14, Try.ntmps14
      go_wp2_with fail
      refine (frac_spec _ _ _).mono ?_
      rintro e w1 ⟨rfl, hbw1⟩
      obtain ⟨hcw1, hfw1, -, -, -, hsw1⟩ := bfacts5 hbw1
      try simp only [World.size_drew] at hcw1 hfw1
      try simp at hsw1
      have qw10 : w.heap.size < w1.heap.size := (by omega)
      have rw10 : ∀ m : Nat, w.heap.size < w1.heap.size + m := fun m => (by omega)
      have qw11 : w.heap.size + 1 < w1.heap.size := (by omega)
      have rw11 : ∀ m : Nat, w.heap.size + 1 < w1.heap.size + m := fun m => (by omega)
      go_wp2_with fail
      refine (frac_spec _ _ _).mono ?_
      rintro e w2 ⟨rfl, hbw2⟩
      obtain ⟨hcw2, hfw2, -, -, -, hsw2⟩ := bfacts5 hbw2
      try simp only [World.size_drew] at hcw2 hfw2
      try simp at hsw2
      have qw20 : w.heap.size < w2.heap.size := (by omega)
      have rw20 : ∀ m : Nat, w.heap.size < w2.heap.size + m := fun m => (by omega)
      have qw21 : w.heap.size + 1 < w2.heap.size := (by omega)
      have rw21 : ∀ m : Nat, w.heap.size + 1 < w2.heap.size + m := fun m => (by omega)
      have qw22 : w1.heap.size < w2.heap.size := (by omega)
      have rw22 : ∀ m : Nat, w1.heap.size < w2.heap.size + m := fun m => (by omega)
      go_wp2
      go_ret
      exact ⟨rfl, by (repeat' (first | (with_reducible exact Below.refl _ _) | (with_reducible assumption) | (with_reducible exact bundrew (by assumption)) | (with_reducible refine balloc ?_ _) | (with_reducible refine bset ?_ _ ?_ _) | (with_reducible refine Below.drew ?_) | (with_reducible refine bdrewN ?_ _) | (with_reducible refine bvia (by assumption) ?_) | (with_reducible refine Below.trans ?_ (by assumption)) | omega | (simp; omega) | (simp; done)))⟩
  · rw [fless_no (fun h => h1 h.1)]
    have h1' := bfalse h1
    go_enter Try.func14, Try.ntmps14
    go_wp2_with fail
    refine (frac_spec _ _ _).mono ?_
    rintro e w1 ⟨rfl, hbw1⟩
    obtain ⟨hcw1, hfw1, -, -, -, hsw1⟩ := bfacts5 hbw1
    try simp only [World.size_drew] at hcw1 hfw1
    try simp at hsw1
    have qw10 : w.heap.size < w1.heap.size := (by omega)
    have rw10 : ∀ m : Nat, w.heap.size < w1.heap.size + m := fun m => (by omega)
    have qw11 : w.heap.size + 1 < w1.heap.size := (by omega)
    have rw11 : ∀ m : Nat, w.heap.size + 1 < w1.heap.size + m := fun m => (by omega)
    go_wp2_with fail
    refine (frac_spec _ _ _).mono ?_
    rintro e w2 ⟨rfl, hbw2⟩
    obtain ⟨hcw2, hfw2, -, -, -, hsw2⟩ := bfacts5 hbw2
    try simp only [World.size_drew] at hcw2 hfw2
    try simp at hsw2
    have qw20 : w.heap.size < w2.heap.size := (by omega)
    have rw20 : ∀ m : Nat, w.heap.size < w2.heap.size + m := fun m => (by omega)
    have qw21 : w.heap.size + 1 < w2.heap.size := (by omega)
    have rw21 : ∀ m : Nat, w.heap.size + 1 < w2.heap.size + m := fun m => (by omega)
    have qw22 : w1.heap.size < w2.heap.size := (by omega)
    have rw22 : ∀ m : Nat, w1.heap.size < w2.heap.size + m := fun m => (by omega)
    go_wp2
    go_ret
    exact ⟨rfl, by (repeat' (first | (with_reducible exact Below.refl _ _) | (with_reducible assumption) | (with_reducible exact bundrew (by assumption)) | (with_reducible refine balloc ?_ _) | (with_reducible refine bset ?_ _ ?_ _) | (with_reducible refine Below.drew ?_) | (with_reducible refine bdrewN ?_ _) | (with_reducible refine bvia (by assumption) ?_) | (with_reducible refine Below.trans ?_ (by assumption)) | omega | (simp; omega) | (simp; done)))⟩

set_option maxHeartbeats 1000000 in
theorem walk_FnExactFracOf (n d : Int) (w : World) (_ : (Lit.int .i64 n).wf = true) (_ : (Lit.int .i64 d).wf = true) :
    Calls Try.prog 3 #[.int .i64 n, .int .i64 d] w fun x w' => x = .returned (.bool true) ∧ Below w.heap.size w w' := by
  go_enter Try.func3, Try.ntmps3
  go_wp2_with fail
  refine (frac_spec _ _ _).mono ?_
  rintro e w1 ⟨rfl, hbw1⟩
  obtain ⟨hcw1, hfw1, -, -, -, hsw1⟩ := bfacts5 hbw1
  try simp only [World.size_drew] at hcw1 hfw1
  try simp at hsw1
  go_wp2_with fail
  refine (frac_impl _ _ _).mono ?_
  rintro e w2 ⟨rfl, hbw2⟩
  obtain ⟨hcw2, hfw2, -, -, -, hsw2⟩ := bfacts5 hbw2
  try simp only [World.size_drew] at hcw2 hfw2
  try simp at hsw2
  have qw20 : w1.heap.size < w2.heap.size := (by omega)
  have rw20 : ∀ m : Nat, w1.heap.size < w2.heap.size + m := fun m => (by omega)
  go_wp2_with fail
  refine (eqFrac_any _ _ _ _ _).mono ?_
  rintro e w3 ⟨rfl, hbw3⟩
  obtain ⟨hcw3, hfw3, -, -, -, hsw3⟩ := bfacts5 hbw3
  try simp only [World.size_drew] at hcw3 hfw3
  try simp at hsw3
  have qw30 : w1.heap.size < w3.heap.size := (by omega)
  have rw30 : ∀ m : Nat, w1.heap.size < w3.heap.size + m := fun m => (by omega)
  have qw31 : w2.heap.size < w3.heap.size := (by omega)
  have rw31 : ∀ m : Nat, w2.heap.size < w3.heap.size + m := fun m => (by omega)
  go_wp2
  go_ret
  exact ⟨rfl, by (repeat' (first | (with_reducible exact Below.refl _ _) | (with_reducible assumption) | (with_reducible exact bundrew (by assumption)) | (with_reducible refine balloc ?_ _) | (with_reducible refine bset ?_ _ ?_ _) | (with_reducible refine Below.drew ?_) | (with_reducible refine bdrewN ?_ _) | (with_reducible refine bvia (by assumption) ?_) | (with_reducible refine Below.trans ?_ (by assumption)) | omega | (simp; omega) | (simp; done)))⟩

set_option maxHeartbeats 2000000 in
theorem walk_FnExactFracLess (a b c d : Int) (w : World) (_ : (Lit.int .i64 a).wf = true) (_ : (Lit.int .i64 b).wf = true) (_ : (Lit.int .i64 c).wf = true) (_ : (Lit.int .i64 d).wf = true) :
    Calls Try.prog 4 #[.agg #[.int .i64 a, .int .i64 b], .agg #[.int .i64 c, .int .i64 d]] w fun x w' => x = .returned (.bool true) ∧ Below w.heap.size w w' := by
  go_enter Try.func4, Try.ntmps4
  go_wp2_with fail
  go_region_held3 (fun w' => w'.cell? ⟨w.heap.size, 0, none⟩ = some (.int .i64 a) ∧ w'.cell? ⟨w.heap.size, 1, none⟩ = some (.int .i64 b) ∧ w'.cell? ⟨w.heap.size + 1, 0, none⟩ = some (.int .i64 c) ∧ w'.cell? ⟨w.heap.size + 1, 1, none⟩ = some (.int .i64 d) ∧ Below w.heap.size w w' ∧ w.heap.size + 2 ≤ w'.heap.size)
    (first | (refine ⟨?_, ?_, ?_, ?_, ?_, ?_⟩ <;> first | (go_simp; done) | (simp; omega) | (repeat' (first | (with_reducible exact Below.refl _ _) | (with_reducible assumption) | (with_reducible exact bundrew (by assumption)) | (with_reducible refine balloc ?_ _) | (with_reducible refine bset ?_ _ ?_ _) | (with_reducible refine Below.drew ?_) | (with_reducible refine bdrewN ?_ _) | (with_reducible refine bvia (by assumption) ?_) | (with_reducible refine Below.trans ?_ (by assumption)) | omega | (simp; omega) | (simp; done)))))
    (first | (go_at_call 15; refine (toFrac_ex _ _ _).mono ?_; rintro e w' ⟨rfl, rfl⟩) | (go_at_call 14; go_must (refine (fless_spec _ _ _ _ _).mono ?_; rintro e w1 ⟨rfl, hbw1⟩; obtain ⟨hcw1, hfw1, -, -, -, hsw1⟩ := bfacts5 hbw1; (try simp only [World.size_drew] at hcw1 hfw1); (try simp at hsw1); have qw10 : w.heap.size < w1.heap.size := (by omega); have rw10 : ∀ m : Nat, w.heap.size < w1.heap.size + m := fun m => (by omega); have qw11 : w.heap.size + 1 < w1.heap.size := (by omega); have rw11 : ∀ m : Nat, w.heap.size + 1 < w1.heap.size + m := fun m => (by omega))))
  all_goals go_wp2_with fail
  all_goals go_region_held3 (fun w' => w'.cell? ⟨w.heap.size, 0, none⟩ = some (.int .i64 a) ∧ w'.cell? ⟨w.heap.size, 1, none⟩ = some (.int .i64 b) ∧ w'.cell? ⟨w.heap.size + 1, 0, none⟩ = some (.int .i64 c) ∧ w'.cell? ⟨w.heap.size + 1, 1, none⟩ = some (.int .i64 d) ∧ Below w.heap.size w w' ∧ w.heap.size + 2 ≤ w'.heap.size)
    (first | (refine ⟨?_, ?_, ?_, ?_, ?_, ?_⟩ <;> first | (go_simp; done) | (simp; omega) | (repeat' (first | (with_reducible exact Below.refl _ _) | (with_reducible assumption) | (with_reducible exact bundrew (by assumption)) | (with_reducible refine balloc ?_ _) | (with_reducible refine bset ?_ _ ?_ _) | (with_reducible refine Below.drew ?_) | (with_reducible refine bdrewN ?_ _) | (with_reducible refine bvia (by assumption) ?_) | (with_reducible refine Below.trans ?_ (by assumption)) | omega | (simp; omega) | (simp; done)))))
    (first | (go_at_call 15; refine (toFrac_ex _ _ _).mono ?_; rintro e w' ⟨rfl, rfl⟩) | (go_at_call 16; go_must (refine (fless_impl _ _ _ _ _).mono ?_; rintro e w1 ⟨rfl, hbw1⟩; obtain ⟨hcw1, hfw1, -, -, -, hsw1⟩ := bfacts5 hbw1; (try simp only [World.size_drew] at hcw1 hfw1); (try simp at hsw1); have qw10 : w.heap.size < w1.heap.size := (by omega); have rw10 : ∀ m : Nat, w.heap.size < w1.heap.size + m := fun m => (by omega); have qw11 : w.heap.size + 1 < w1.heap.size := (by omega); have rw11 : ∀ m : Nat, w.heap.size + 1 < w1.heap.size + m := fun m => (by omega))))
  all_goals go_wp2
  all_goals go_ret
  all_goals exact ⟨rfl, by (repeat' (first | (with_reducible exact Below.refl _ _) | (with_reducible assumption) | (with_reducible exact bundrew (by assumption)) | (with_reducible refine balloc ?_ _) | (with_reducible refine bset ?_ _ ?_ _) | (with_reducible refine Below.drew ?_) | (with_reducible refine bdrewN ?_ _) | (with_reducible refine bvia (by assumption) ?_) | (with_reducible refine Below.trans ?_ (by assumption)) | omega | (simp; omega) | (simp; done)))⟩
end Go.Proofs.Ytkhooomjfjancaa
