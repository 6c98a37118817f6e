/- Powers; MeanStops and MeanTop of the program and of the reference; the walks of their exact laws. -/
import Derived.Test.YtkhooomjfjancaaFracB
namespace Go.Proofs.Ytkhooomjfjancaa
open Go.ChangeShapes Go.WideShapes Go.ChangeAt Go.RowKit

/-- Numbers of floors and riders in their bounds. -/
def partyB (f r : Int) : Bool := decide (1 ≤ f ∧ f ≤ 6 ∧ 1 ≤ r ∧ r ≤ 6)
theorem party_open {f r : Int} (h : partyB f r = true) : 1 ≤ f ∧ f ≤ 6 ∧ 1 ≤ r ∧ r ≤ 6 := by simpa [partyB] using h

theorem party_impl (f r : Int) (w : World) : Calls Try.prog 33 #[.int .i64 f, .int .i64 r] w fun e w' => e = .returned (.bool (partyB f r)) ∧ w = w' := by
  go_enter Try.func33, Try.ntmps33
  go_wp2
  all_goals go_ret
  all_goals refine ⟨ret_bool ?_, rfl⟩
  all_goals (rw [Bool.eq_iff_iff]; simp only [partyB, decide_eq_true_eq, Bool.false_eq_true, false_iff] at *; omega)
theorem party_spec (f r : Int) (w : World) : Calls Try.prog 31 #[.int .i64 f, .int .i64 r] w fun e w' => e = .returned (.bool (partyB f r)) ∧ w = w' := by
  go_enter Try.func31, Try.ntmps31
  go_wp2_with (go_at_call 28; refine (l1In_any _ _ _ _).mono ?_; rintro e w' ⟨rfl, rfl⟩)
  all_goals go_ret
  all_goals refine ⟨ret_bool ?_, rfl⟩
  all_goals (rw [Bool.eq_iff_iff]; simp only [partyB, inB, decide_eq_true_eq, Bool.false_eq_true, false_iff] at *; omega)

/-- A power. -/
def powI (b : Nat) (e : Nat) : Int := ((b ^ e : Nat) : Int)
theorem pow_small : ∀ b : Nat, b ≤ 6 → ∀ e : Nat, e ≤ 6 → b ^ e ≤ 46656 := by decide
theorem powI_zero (b : Nat) : powI b 0 = 1 := by simp [powI]
theorem powI_succ (b e : Nat) : powI b (e + 1) = powI b e * (b : Int) := by simp [powI, Nat.pow_succ]

theorem pow_impl (b e : Nat) (w : World) (hb : b ≤ 6) (he : e ≤ 6) : Calls Try.prog 34 #[.int .i64 b, .int .i64 e] w fun x w' => x = .returned (.int .i64 (powI b e)) ∧ w = w' := by
  have hb' : (b : Int) ≤ 6 := by omega
  have he' : (e : Int) ≤ 6 := by omega
  go_enter Try.func34, Try.ntmps34
  go_wp2
  go_loop [5, 7] (fun x i => ∃ k : Nat, k ≤ e ∧ i = .int .i64 k ∧ x = .int .i64 (powI b k)) (fun _ i => e - (intOf i).toNat)
  case atStart => exact ⟨0, Nat.zero_le _, rfl, by rw [powI_zero]⟩
  case round =>
    obtain ⟨k, hk, rfl, rfl⟩ := hrel
    by_cases hlt : k < e
    · have hlt' : (k : Int) < (e : Int) := by omega
      have p1 : 0 ≤ powI b k * (b : Int) := by rw [← powI_succ]; unfold powI; omega
      have p2 : powI b k * (b : Int) ≤ 46656 := by rw [← powI_succ]; have := pow_small b hb (k + 1) (by omega); unfold powI; omega
      go_wp2
      go_round
      case rel => exact ⟨k + 1, by omega, by go_num, by rw [powI_succ]⟩
      case measure => simp [intOf]; omega
    · obtain rfl : k = e := by omega
      go_wp2
      go_ret
      exact ⟨rfl, rfl⟩

theorem pow_spec (b e : Nat) (w : World) (hb : b ≤ 6) (he : e ≤ 6) : Calls Try.prog 32 #[.int .i64 b, .int .i64 e] w fun x w' => x = .returned (.int .i64 (powI b e)) ∧ w = w' := by
  have hb' : (b : Int) ≤ 6 := by omega
  have he' : (e : Int) ≤ 6 := by omega
  go_enter Try.func32, Try.ntmps32
  go_wp2
  go_loop [5, 6] (fun x i => ∃ k : Nat, k ≤ e ∧ i = .int .i64 k ∧ x = .int .i64 (powI b k)) (fun _ i => e - (intOf i).toNat)
  case atStart => exact ⟨0, Nat.zero_le _, rfl, by rw [powI_zero]⟩
  case round =>
    obtain ⟨k, hk, rfl, rfl⟩ := hrel
    by_cases hlt : k < e
    · have hlt' : (k : Int) < (e : Int) := by omega
      have p1 : 0 ≤ powI b k * (b : Int) := by rw [← powI_succ]; unfold powI; omega
      have p2 : powI b k * (b : Int) ≤ 46656 := by rw [← powI_succ]; have := pow_small b hb (k + 1) (by omega); unfold powI; omega
      go_wp2
      go_round
      case rel => exact ⟨k + 1, by omega, by go_num, by rw [powI_succ]⟩
      case measure => simp [intOf]; omega
    · obtain rfl : k = e := by omega
      go_wp2
      go_ret
      exact ⟨rfl, rfl⟩

/-- The same over whole numbers. -/
def powZ (b e : Int) : Int := powI b.toNat e.toNat
theorem powZ_in {b e : Int} (h1 : 0 ≤ b) (h2 : b ≤ 6) (h3 : 0 ≤ e) (h4 : e ≤ 6) : 0 ≤ powZ b e ∧ powZ b e ≤ 46656 := by
  have := pow_small b.toNat (by omega) e.toNat (by omega)
  unfold powZ powI; omega
theorem powZ_le {b e : Int} (h1 : 1 ≤ b) : powZ (b - 1) e ≤ powZ b e := by
  have := Nat.pow_le_pow_left (show (b - 1).toNat ≤ b.toNat by omega) e.toNat
  unfold powZ powI; omega
theorem powZ_zero {e : Int} (h : 1 ≤ e) : powZ 0 e = 0 := by
  have : 0 < e.toNat := by omega
  unfold powZ powI
  rw [show (0 : Int).toNat = 0 from rfl, Nat.zero_pow this]; rfl
theorem powZ_impl (b e : Int) (w : World) (h1 : 0 ≤ b) (h2 : b ≤ 6) (h3 : 0 ≤ e) (h4 : e ≤ 6) : Calls Try.prog 34 #[.int .i64 b, .int .i64 e] w fun x w' => x = .returned (.int .i64 (powZ b e)) ∧ w = w' := by
  obtain ⟨x, rfl⟩ := Int.eq_ofNat_of_zero_le h1
  obtain ⟨y, rfl⟩ := Int.eq_ofNat_of_zero_le h3
  exact pow_impl x y w (by omega) (by omega)
theorem powZ_spec (b e : Int) (w : World) (h1 : 0 ≤ b) (h2 : b ≤ 6) (h3 : 0 ≤ e) (h4 : e ≤ 6) : Calls Try.prog 32 #[.int .i64 b, .int .i64 e] w fun x w' => x = .returned (.int .i64 (powZ b e)) ∧ w = w' := by
  obtain ⟨x, rfl⟩ := Int.eq_ofNat_of_zero_le h1
  obtain ⟨y, rfl⟩ := Int.eq_ofNat_of_zero_le h3
  exact pow_spec x y w (by omega) (by omega)

/-- The mean number of stops. -/
def stopsT (f r : Int) : Int × Int × Bool := if partyB f r = true then fracT (f * (powZ f r - powZ (f - 1) r)) (powZ f r) else (0, 0, false)
theorem stops_in {f r : Int} (h : partyB f r = true) : 0 ≤ f * (powZ f r - powZ (f - 1) r) ∧ f * (powZ f r - powZ (f - 1) r) ≤ 279936 := by
  obtain ⟨h1, h2, h3, h4⟩ := party_open h
  obtain ⟨p1, p2⟩ := powZ_in (b := f) (e := r) (by omega) h2 (by omega) h4
  obtain ⟨q1, q2⟩ := powZ_in (b := f - 1) (e := r) (by omega) (by omega) (by omega) h4
  have hle := powZ_le (b := f) (e := r) h1
  have h5 := Int.mul_le_mul h2 (show powZ f r - powZ (f - 1) r ≤ 46656 by omega) (by omega) (by omega)
  exact ⟨Int.mul_nonneg (by omega) (by omega), by omega⟩

set_option maxHeartbeats 1000000 in
theorem stops_impl (f r : Int) (w : World) : Calls Try.prog 18 #[.int .i64 f, .int .i64 r] w fun e w' => e = .returned (.tuple #[.agg #[.int .i64 (stopsT f r).1, .int .i64 (stopsT f r).2.1], .bool (stopsT f r).2.2]) ∧ Below w.heap.size w w' := by
  by_cases h : partyB f r = true
  · obtain ⟨h1, h2, h3, h4⟩ := party_open h
    obtain ⟨s1, s2⟩ := stops_in h
    obtain ⟨p1, p2⟩ := powZ_in (b := f) (e := r) (by omega) h2 (by omega) h4
    obtain ⟨q1, q2⟩ := powZ_in (b := f - 1) (e := r) (by omega) (by omega) (by omega) h4
    have hle := powZ_le (b := f) (e := r) h1
    have h0 : 0 ≤ f := by omega
    have h0' : 0 ≤ f - 1 := by omega
    have h2' : f - 1 ≤ 6 := by omega
    have h3' : 0 ≤ r := by omega
    rw [show stopsT f r = fracT (f * (powZ f r - powZ (f - 1) r)) (powZ f r) by unfold stopsT; rw [if_pos h]]
    go_enter Try.func18, Try.ntmps18
    go_wp2_with (go_at_call 33; refine (party_impl _ _ _).mono ?_; rintro e w' ⟨rfl, rfl⟩)
    refine (powZ_impl f r _ h0 h2 h3' h4).mono ?_
    rintro e w' ⟨rfl, rfl⟩
    go_wp2_with fail
    refine (powZ_impl (f - 1) r _ h0' h2' h3' h4).mono ?_
    rintro e w' ⟨rfl, rfl⟩
    go_wp2_with fail
    refine (frac_impl _ _ _).mono ?_
    rintro e w1 ⟨rfl, hbw1⟩
    obtain ⟨hcw1, hfw1, -, -, -, hsw1⟩ := bfacts5 hbw1
    try simp only [World.size_drew] at hcw1 hfw1
    try simp at hsw1
    try have qw10 : w.heap.size < w1.heap.size := (by omega)
    try have rw10 : ∀ m : Nat, w.heap.size < w1.heap.size + m := fun m => (by omega)
    go_wp2
    refine bodyPost_ret (by simp [results, Try.results18, go_sem, *]; try rfl) rfl ?_
    exact ⟨rfl, by (repeat' (first | (with_reducible exact Below.refl _ _) | (with_reducible assumption) | (with_reducible exact bundrew (by assumption)) | (with_reducible refine balloc ?_ _) | (with_reducible refine bset ?_ _ ?_ _) | (with_reducible refine Below.drew ?_) | (with_reducible refine bdrewN ?_ _) | (with_reducible refine bvia (by assumption) ?_) | (with_reducible refine Below.trans ?_ (by assumption)) | omega | (simp; omega) | (simp; done)))⟩
  · rw [show stopsT f r = (0, 0, false) by unfold stopsT; rw [if_neg h]]
    have h' := bfalse h
    go_enter Try.func18, Try.ntmps18
    go_wp2_with (go_at_call 33; refine (party_impl _ _ _).mono ?_; rintro e w' ⟨rfl, rfl⟩)
    refine bodyPost_ret (by simp [results, Try.results18, go_sem, *]; try rfl) rfl ?_
    exact ⟨rfl, by (repeat' (first | (with_reducible exact Below.refl _ _) | (with_reducible assumption) | (with_reducible exact bundrew (by assumption)) | (with_reducible refine balloc ?_ _) | (with_reducible refine bset ?_ _ ?_ _) | (with_reducible refine Below.drew ?_) | (with_reducible refine bdrewN ?_ _) | (with_reducible refine bvia (by assumption) ?_) | (with_reducible refine Below.trans ?_ (by assumption)) | omega | (simp; omega) | (simp; done)))⟩

set_option maxHeartbeats 1000000 in
theorem stops_spec (f r : Int) (w : World) : Calls Try.prog 17 #[.int .i64 f, .int .i64 r] w fun e w' => e = .returned (.tuple #[.agg #[.int .i64 (stopsT f r).1, .int .i64 (stopsT f r).2.1], .bool (stopsT f r).2.2]) ∧ Below w.heap.size w w' := by
  by_cases h : partyB f r = true
  · obtain ⟨h1, h2, h3, h4⟩ := party_open h
    obtain ⟨s1, s2⟩ := stops_in h
    obtain ⟨p1, p2⟩ := powZ_in (b := f) (e := r) (by omega) h2 (by omega) h4
    obtain ⟨q1, q2⟩ := powZ_in (b := f - 1) (e := r) (by omega) (by omega) (by omega) h4
    have hle := powZ_le (b := f) (e := r) h1
    have h0 : 0 ≤ f := by omega
    have h0' : 0 ≤ f - 1 := by omega
    have h2' : f - 1 ≤ 6 := by omega
    have h3' : 0 ≤ r := by omega
    rw [show stopsT f r = fracT (f * (powZ f r - powZ (f - 1) r)) (powZ f r) by unfold stopsT; rw [if_pos h]]
    go_enter Try.func17, Try.ntmps17
    go_wp2_with (go_at_call 31; refine (party_spec _ _ _).mono ?_; rintro e w' ⟨rfl, rfl⟩)
    refine (powZ_spec f r _ h0 h2 h3' h4).mono ?_
    rintro e w' ⟨rfl, rfl⟩
    go_wp2_with fail
    refine (powZ_spec (f - 1) r _ h0' h2' h3' h4).mono ?_
    rintro e w' ⟨rfl, rfl⟩
    go_wp2_with fail
    refine (frac_spec _ _ _).mono ?_
    rintro e w1 ⟨rfl, hbw1⟩
    obtain ⟨hcw1, hfw1, -, -, -, hsw1⟩ := bfacts5 hbw1
    try simp only [World.size_drew] at hcw1 hfw1
    try simp at hsw1
    try have qw10 : w.heap.size < w1.heap.size := (by omega)
    try have rw10 : ∀ m : Nat, w.heap.size < w1.heap.size + m := fun m => (by omega)
    go_wp2
    refine bodyPost_ret (by simp [results, Try.results17, go_sem, *]; try rfl) rfl ?_
    exact ⟨rfl, by (repeat' (first | (with_reducible exact Below.refl _ _) | (with_reducible assumption) | (with_reducible exact bundrew (by assumption)) | (with_reducible refine balloc ?_ _) | (with_reducible refine bset ?_ _ ?_ _) | (with_reducible refine Below.drew ?_) | (with_reducible refine bdrewN ?_ _) | (with_reducible refine bvia (by assumption) ?_) | (with_reducible refine Below.trans ?_ (by assumption)) | omega | (simp; omega) | (simp; done)))⟩
  · rw [show stopsT f r = (0, 0, false) by unfold stopsT; rw [if_neg h]]
    have h' := bfalse h
    go_enter Try.func17, Try.ntmps17
    go_wp2_with (go_at_call 31; refine (party_spec _ _ _).mono ?_; rintro e w' ⟨rfl, rfl⟩)
    refine bodyPost_ret (by simp [results, Try.results17, go_sem, *]; try rfl) rfl ?_
    exact ⟨rfl, by (repeat' (first | (with_reducible exact Below.refl _ _) | (with_reducible assumption) | (with_reducible exact bundrew (by assumption)) | (with_reducible refine balloc ?_ _) | (with_reducible refine bset ?_ _ ?_ _) | (with_reducible refine Below.drew ?_) | (with_reducible refine bdrewN ?_ _) | (with_reducible refine bvia (by assumption) ?_) | (with_reducible refine Below.trans ?_ (by assumption)) | omega | (simp; omega) | (simp; done)))⟩

set_option maxHeartbeats 1000000 in
theorem walk_FnExactMeanStops (f r : Int) (w : World) (_ : (Lit.int .i64 f).wf = true) (_ : (Lit.int .i64 r).wf = true) :
    Calls Try.prog 5 #[.int .i64 f, .int .i64 r] w fun x w' => x = .returned (.bool true) ∧ Below w.heap.size w w' := by
  go_enter Try.func5, Try.ntmps5
  go_wp2_with fail
  refine (stops_spec _ _ _).mono ?_
  rintro e w1 ⟨rfl, hbw1⟩
  obtain ⟨hcw1, hfw1, -, -, -, hsw1⟩ := bfacts5 hbw1
  try simp only [World.size_drew] at hcw1 hfw1
  try simp at hsw1
  go_wp2_with fail
  refine (stops_impl _ _ _).mono ?_
  rintro e w2 ⟨rfl, hbw2⟩
  obtain ⟨hcw2, hfw2, -, -, -, hsw2⟩ := bfacts5 hbw2
  try simp only [World.size_drew] at hcw2 hfw2
  try simp at hsw2
  have qw20 : w1.heap.size < w2.heap.size := (by omega)
  have rw20 : ∀ m : Nat, w1.heap.size < w2.heap.size + m := fun m => (by omega)
  go_wp2_with fail
  refine (eqFrac_any _ _ _ _ _).mono ?_
  rintro e w3 ⟨rfl, hbw3⟩
  obtain ⟨hcw3, hfw3, -, -, -, hsw3⟩ := bfacts5 hbw3
  try simp only [World.size_drew] at hcw3 hfw3
  try simp at hsw3
  have qw30 : w1.heap.size < w3.heap.size := (by omega)
  have rw30 : ∀ m : Nat, w1.heap.size < w3.heap.size + m := fun m => (by omega)
  have qw31 : w2.heap.size < w3.heap.size := (by omega)
  have rw31 : ∀ m : Nat, w2.heap.size < w3.heap.size + m := fun m => (by omega)
  go_wp2
  go_ret
  exact ⟨rfl, by (repeat' (first | (with_reducible exact Below.refl _ _) | (with_reducible assumption) | (with_reducible exact bundrew (by assumption)) | (with_reducible refine balloc ?_ _) | (with_reducible refine bset ?_ _ ?_ _) | (with_reducible refine Below.drew ?_) | (with_reducible refine bdrewN ?_ _) | (with_reducible refine bvia (by assumption) ?_) | (with_reducible refine Below.trans ?_ (by assumption)) | omega | (simp; omega) | (simp; done)))⟩
end Go.Proofs.Ytkhooomjfjancaa
