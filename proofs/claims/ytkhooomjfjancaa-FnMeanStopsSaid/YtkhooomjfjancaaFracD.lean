/- MeanTop of the program and of the reference; the walk of its exact law. -/
import Derived.Test.YtkhooomjfjancaaFracC
namespace Go.Proofs.Ytkhooomjfjancaa
open Go.ChangeShapes Go.WideShapes Go.ChangeAt Go.RowKit

/-- The sum of the first powers. -/
def psum (r : Int) : Nat → Int
  | 0 => 0
  | k + 1 => psum r k + powZ k r
/-- The sum of what is left of P by each of the first powers. -/
def tsum (P r : Int) : Nat → Int
  | 0 => 0
  | k + 1 => tsum P r k + (P - powZ k r)
theorem powZ_mono {a b r : Int} (h : a ≤ b) : powZ a r ≤ powZ b r := by
  have := Nat.pow_le_pow_left (show a.toNat ≤ b.toNat by omega) r.toNat
  unfold powZ powI; omega
theorem psum_in {r : Int} (h3 : 0 ≤ r) (h4 : r ≤ 6) : ∀ k : Nat, k ≤ 6 → 0 ≤ psum r k ∧ psum r k ≤ k * 46656
  | 0, _ => by simp [psum]
  | k + 1, h => by
    have ih := psum_in h3 h4 k (by omega)
    have := powZ_in (b := (k : Int)) (e := r) (by omega) (by omega) h3 h4
    unfold psum; omega
theorem tsum_in {P r : Int} (hP : P ≤ 46656) {n : Nat} (hn : n ≤ 6) (h3 : 0 ≤ r) (h4 : r ≤ 6) (hm : ∀ k : Nat, k ≤ n → powZ k r ≤ P) : ∀ k : Nat, k ≤ n → 0 ≤ tsum P r k ∧ tsum P r k ≤ k * 46656
  | 0, _ => by simp [tsum]
  | k + 1, h => by
    have ih := tsum_in hP hn h3 h4 hm k (by omega)
    have := powZ_in (b := (k : Int)) (e := r) (by omega) (by omega) h3 h4
    have := hm k (by omega)
    unfold tsum; omega
theorem tsum_eq (P r : Int) : ∀ k : Nat, tsum P r k = k * P - psum r k
  | 0 => by simp [tsum, psum]
  | k + 1 => by
    have ih := tsum_eq P r k
    have e : ((k + 1 : Nat) : Int) * P = k * P + P := by rw [Int.natCast_add, Int.add_mul]; simp
    unfold tsum psum; omega
theorem psum_one {r : Int} (h : 1 ≤ r) : psum r 1 = 0 := by
  have := powZ_zero h
  show 0 + powZ ((0 : Nat) : Int) r = 0
  simpa using this

/-- The mean greatest floor. -/
def topT (f : Nat) (r : Int) : Int × Int × Bool := fracT (tsum (powZ f r) r f) (powZ f r)

theorem top_impl (f : Nat) (r : Int) (w : World) (h : partyB f r = true) : Calls Try.prog 20 #[.int .i64 f, .int .i64 r] w fun e w' => e = .returned (.tuple #[.agg #[.int .i64 (topT f r).1, .int .i64 (topT f r).2.1], .bool (topT f r).2.2]) ∧ Below w.heap.size w w' := by
  obtain ⟨h1, h2, h3, h4⟩ := party_open h
  have h0 : 0 ≤ (f : Int) := by omega
  have h3' : 0 ≤ r := by omega
  obtain ⟨p1, p2⟩ := powZ_in (b := (f : Int)) (e := r) h0 h2 h3' h4
  unfold topT
  have HM := Lib.hid (fun (k : Nat) (hk : k ≤ f) => powZ_mono (r := r) (show (k : Int) ≤ f by omega))
  have HT := Lib.hid (tsum_in p2 (show f ≤ 6 by omega) h3' h4 HM.out)
  go_enter Try.func20, Try.ntmps20
  go_wp2_with (go_at_call 33; refine (party_impl _ _ _).mono ?_; rintro e w' ⟨rfl, rfl⟩)
  refine (powZ_impl f r _ h0 h2 h3' h4).mono ?_
  rintro e w' ⟨rfl, rfl⟩
  go_wp2
  go_loop [7, 8] (fun x i => ∃ k : Nat, k ≤ f ∧ i = .int .i64 ((k : Int) + 1) ∧ x = .int .i64 (tsum (powZ f r) r k)) (fun _ i => f + 1 - (intOf i).toNat)
  case atStart => exact ⟨0, Nat.zero_le _, rfl, rfl⟩
  case round =>
    obtain ⟨k, hk, rfl, rfl⟩ := hrel
    by_cases hlt : k < f
    · have hlt' : (k : Int) < (f : Int) := by omega
      obtain ⟨t1, t2⟩ := HT.out k hk
      obtain ⟨q1, q2⟩ := powZ_in (b := (k : Int)) (e := r) (by omega) (by omega) h3' h4
      have q3 := HM.out k hk
      have ek : (k : Int) + 1 - 1 = k := by omega
      go_wp2_with fail
      (try rw [ek])
      refine (powZ_impl k r _ (by omega) (by omega) h3' h4).mono ?_
      rintro e w' ⟨rfl, rfl⟩
      go_wp2
      go_round
      case rel => exact ⟨k + 1, by omega, by go_num, by rw [tsum]⟩
      case measure => simp [intOf]; omega
    · obtain rfl : k = f := by omega
      obtain ⟨t1, t2⟩ := HT.out k hk
      go_wp2_with fail
      refine (frac_impl _ _ _).mono ?_
      rintro e w1 ⟨rfl, hbw1⟩
      obtain ⟨hcw1, hfw1, -, -, -, hsw1⟩ := bfacts5 hbw1
      try simp only [World.size_drew] at hcw1 hfw1
      try simp at hsw1
      try have qw10 : w.heap.size < w1.heap.size := (by omega)
      try have rw10 : ∀ m : Nat, w.heap.size < w1.heap.size + m := fun m => (by omega)
      go_wp2
      refine bodyPost_ret (by simp [results, Try.results20, go_sem, *]; try rfl) rfl ?_
      exact ⟨rfl, by (repeat' (first | (with_reducible exact Below.refl _ _) | (with_reducible assumption) | (with_reducible exact bundrew (by assumption)) | (with_reducible refine balloc ?_ _) | (with_reducible refine bset ?_ _ ?_ _) | (with_reducible refine Below.drew ?_) | (with_reducible refine bdrewN ?_ _) | (with_reducible refine bvia (by assumption) ?_) | (with_reducible refine Below.trans ?_ (by assumption)) | omega | (simp; omega) | (simp; done)))⟩

theorem top_spec (f : Nat) (r : Int) (w : World) (h : partyB f r = true) : Calls Try.prog 19 #[.int .i64 f, .int .i64 r] w fun e w' => e = .returned (.tuple #[.agg #[.int .i64 (topT f r).1, .int .i64 (topT f r).2.1], .bool (topT f r).2.2]) ∧ Below w.heap.size w w' := by
  obtain ⟨h1, h2, h3, h4⟩ := party_open h
  have h0 : 0 ≤ (f : Int) := by omega
  have h3' : 0 ≤ r := by omega
  obtain ⟨p1, p2⟩ := powZ_in (b := (f : Int)) (e := r) h0 h2 h3' h4
  obtain ⟨m1, m2⟩ : 0 ≤ (f : Int) * powZ f r ∧ (f : Int) * powZ f r ≤ 279936 := ⟨Int.mul_nonneg h0 p1, by have := Int.mul_le_mul h2 p2 p1 (by omega); omega⟩
  have HP := Lib.hid (psum_in h3' h4)
  unfold topT
  rw [tsum_eq]
  go_enter Try.func19, Try.ntmps19
  go_wp2_with (go_at_call 31; refine (party_spec _ _ _).mono ?_; rintro e w' ⟨rfl, rfl⟩)
  refine (powZ_spec f r _ h0 h2 h3' h4).mono ?_
  rintro e w' ⟨rfl, rfl⟩
  go_wp2
  go_loop [7, 8] (fun x i => ∃ k : Nat, 1 ≤ k ∧ k ≤ f ∧ i = .int .i64 k ∧ x = .int .i64 ((f : Int) * powZ f r - psum r k)) (fun _ i => f - (intOf i).toNat)
  case atStart => exact ⟨1, by omega, by omega, rfl, by rw [psum_one h3, Int.sub_zero]⟩
  case round =>
    obtain ⟨k, hk1, hk, rfl, rfl⟩ := hrel
    obtain ⟨t1, t2⟩ := HP.out k (by omega)
    have hk' : (k : Int) ≤ (f : Int) := by omega
    by_cases hlt : k < f
    · have hlt' : (k : Int) < (f : Int) := by omega
      obtain ⟨q1, q2⟩ := powZ_in (b := (k : Int)) (e := r) (by omega) (by omega) h3' h4
      go_wp2_with fail
      refine (powZ_spec k r _ (by omega) (by omega) h3' h4).mono ?_
      rintro e w' ⟨rfl, rfl⟩
      go_wp2
      go_round
      case rel => exact ⟨k + 1, by omega, by omega, by go_num, by rw [psum]; congr 1; omega⟩
      case measure => simp [intOf]; omega
    · obtain rfl : k = f := by omega
      go_wp2_with fail
      refine (frac_spec _ _ _).mono ?_
      rintro e w1 ⟨rfl, hbw1⟩
      obtain ⟨hcw1, hfw1, -, -, -, hsw1⟩ := bfacts5 hbw1
      try simp only [World.size_drew] at hcw1 hfw1
      try simp at hsw1
      try have qw10 : w.heap.size < w1.heap.size := (by omega)
      try have rw10 : ∀ m : Nat, w.heap.size < w1.heap.size + m := fun m => (by omega)
      go_wp2
      refine bodyPost_ret (by simp [results, Try.results19, go_sem, *]; try rfl) rfl ?_
      exact ⟨rfl, by (repeat' (first | (with_reducible exact Below.refl _ _) | (with_reducible assumption) | (with_reducible exact bundrew (by assumption)) | (with_reducible refine balloc ?_ _) | (with_reducible refine bset ?_ _ ?_ _) | (with_reducible refine Below.drew ?_) | (with_reducible refine bdrewN ?_ _) | (with_reducible refine bvia (by assumption) ?_) | (with_reducible refine Below.trans ?_ (by assumption)) | omega | (simp; omega) | (simp; done)))⟩

theorem top_impl_no (f r : Int) (w : World) (h : ¬ partyB f r = true) : Calls Try.prog 20 #[.int .i64 f, .int .i64 r] w fun e w' => e = .returned (.tuple #[.agg #[.int .i64 0, .int .i64 0], .bool false]) ∧ Below w.heap.size w w' := by
  have h' := bfalse h
  go_enter Try.func20, Try.ntmps20
  go_wp2_with (go_at_call 33; refine (party_impl _ _ _).mono ?_; rintro e w' ⟨rfl, rfl⟩)
  refine bodyPost_ret (by simp [results, Try.results20, go_sem, *]; try rfl) rfl ?_
  exact ⟨rfl, by (repeat' (first | (with_reducible exact Below.refl _ _) | (with_reducible assumption) | (with_reducible exact bundrew (by assumption)) | (with_reducible refine balloc ?_ _) | (with_reducible refine bset ?_ _ ?_ _) | (with_reducible refine Below.drew ?_) | (with_reducible refine bdrewN ?_ _) | (with_reducible refine bvia (by assumption) ?_) | (with_reducible refine Below.trans ?_ (by assumption)) | omega | (simp; omega) | (simp; done)))⟩
theorem top_spec_no (f r : Int) (w : World) (h : ¬ partyB f r = true) : Calls Try.prog 19 #[.int .i64 f, .int .i64 r] w fun e w' => e = .returned (.tuple #[.agg #[.int .i64 0, .int .i64 0], .bool false]) ∧ Below w.heap.size w w' := by
  have h' := bfalse h
  go_enter Try.func19, Try.ntmps19
  go_wp2_with (go_at_call 31; refine (party_spec _ _ _).mono ?_; rintro e w' ⟨rfl, rfl⟩)
  refine bodyPost_ret (by simp [results, Try.results19, go_sem, *]; try rfl) rfl ?_
  exact ⟨rfl, by (repeat' (first | (with_reducible exact Below.refl _ _) | (with_reducible assumption) | (with_reducible exact bundrew (by assumption)) | (with_reducible refine balloc ?_ _) | (with_reducible refine bset ?_ _ ?_ _) | (with_reducible refine Below.drew ?_) | (with_reducible refine bdrewN ?_ _) | (with_reducible refine bvia (by assumption) ?_) | (with_reducible refine Below.trans ?_ (by assumption)) | omega | (simp; omega) | (simp; done)))⟩

set_option maxHeartbeats 1000000 in
theorem walk_FnExactMeanTop (f r : Int) (w : World) (_ : (Lit.int .i64 f).wf = true) (_ : (Lit.int .i64 r).wf = true) :
    Calls Try.prog 6 #[.int .i64 f, .int .i64 r] w fun x w' => x = .returned (.bool true) ∧ Below w.heap.size w w' := by
  by_cases h : partyB f r = true
  · obtain ⟨h1, h2, h3, h4⟩ := party_open h
    obtain ⟨n, rfl⟩ := Int.eq_ofNat_of_zero_le (show 0 ≤ f by omega)
    go_enter Try.func6, Try.ntmps6
    go_wp2_with fail
    refine (top_spec _ _ _ h).mono ?_
    rintro e w1 ⟨rfl, hbw1⟩
    obtain ⟨hcw1, hfw1, -, -, -, hsw1⟩ := bfacts5 hbw1
    try simp only [World.size_drew] at hcw1 hfw1
    try simp at hsw1
    go_wp2_with fail
    refine (top_impl _ _ _ h).mono ?_
    rintro e w2 ⟨rfl, hbw2⟩
    obtain ⟨hcw2, hfw2, -, -, -, hsw2⟩ := bfacts5 hbw2
    try simp only [World.size_drew] at hcw2 hfw2
    try simp at hsw2
    have qw20 : w1.heap.size < w2.heap.size := (by omega)
    have rw20 : ∀ m : Nat, w1.heap.size < w2.heap.size + m := fun m => (by omega)
    go_wp2_with fail
    refine (eqFrac_any _ _ _ _ _).mono ?_
    rintro e w3 ⟨rfl, hbw3⟩
    obtain ⟨hcw3, hfw3, -, -, -, hsw3⟩ := bfacts5 hbw3
    try simp only [World.size_drew] at hcw3 hfw3
    try simp at hsw3
    have qw30 : w1.heap.size < w3.heap.size := (by omega)
    have rw30 : ∀ m : Nat, w1.heap.size < w3.heap.size + m := fun m => (by omega)
    have qw31 : w2.heap.size < w3.heap.size := (by omega)
    have rw31 : ∀ m : Nat, w2.heap.size < w3.heap.size + m := fun m => (by omega)
    go_wp2
    go_ret
    exact ⟨rfl, by (repeat' (first | (with_reducible exact Below.refl _ _) | (with_reducible assumption) | (with_reducible exact bundrew (by assumption)) | (with_reducible refine balloc ?_ _) | (with_reducible refine bset ?_ _ ?_ _) | (with_reducible refine Below.drew ?_) | (with_reducible refine bdrewN ?_ _) | (with_reducible refine bvia (by assumption) ?_) | (with_reducible refine Below.trans ?_ (by assumption)) | omega | (simp; omega) | (simp; done)))⟩
  · go_enter Try.func6, Try.ntmps6
    go_wp2_with fail
    refine (top_spec_no _ _ _ h).mono ?_
    rintro e w1 ⟨rfl, hbw1⟩
    obtain ⟨hcw1, hfw1, -, -, -, hsw1⟩ := bfacts5 hbw1
    try simp only [World.size_drew] at hcw1 hfw1
    try simp at hsw1
    go_wp2_with fail
    refine (top_impl_no _ _ _ h).mono ?_
    rintro e w2 ⟨rfl, hbw2⟩
    obtain ⟨hcw2, hfw2, -, -, -, hsw2⟩ := bfacts5 hbw2
    try simp only [World.size_drew] at hcw2 hfw2
    try simp at hsw2
    have qw20 : w1.heap.size < w2.heap.size := (by omega)
    have rw20 : ∀ m : Nat, w1.heap.size < w2.heap.size + m := fun m => (by omega)
    go_wp2_with fail
    refine (eqFrac_any _ _ _ _ _).mono ?_
    rintro e w3 ⟨rfl, hbw3⟩
    obtain ⟨hcw3, hfw3, -, -, -, hsw3⟩ := bfacts5 hbw3
    try simp only [World.size_drew] at hcw3 hfw3
    try simp at hsw3
    have qw30 : w1.heap.size < w3.heap.size := (by omega)
    have rw30 : ∀ m : Nat, w1.heap.size < w3.heap.size + m := fun m => (by omega)
    have qw31 : w2.heap.size < w3.heap.size := (by omega)
    have rw31 : ∀ m : Nat, w2.heap.size < w3.heap.size + m := fun m => (by omega)
    go_wp2
    go_ret
    exact ⟨rfl, by (repeat' (first | (with_reducible exact Below.refl _ _) | (with_reducible assumption) | (with_reducible exact bundrew (by assumption)) | (with_reducible refine balloc ?_ _) | (with_reducible refine bset ?_ _ ?_ _) | (with_reducible refine Below.drew ?_) | (with_reducible refine bdrewN ?_ _) | (with_reducible refine bvia (by assumption) ?_) | (with_reducible refine Below.trans ?_ (by assumption)) | omega | (simp; omega) | (simp; done)))⟩
end Go.Proofs.Ytkhooomjfjancaa
