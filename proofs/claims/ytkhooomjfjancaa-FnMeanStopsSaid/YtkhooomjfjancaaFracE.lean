/- Drawn fractions; the walk of the law FnFracOf. -/
import Derived.Test.YtkhooomjfjancaaFracB
import Derived.Test.YtkhooomjfjancaaFracP
import Derived.Test.YtkhooomjfjancaaDraw
import Derived.Test.YtkhooomjfjancaaFloors
namespace Go.Proofs.Ytkhooomjfjancaa
open Go.ChangeShapes Go.WideShapes Go.ChangeAt Go.RowKit

theorem mul_bd {a b A B : Int} (h1 : 0 ≤ a) (h2 : a ≤ A) (h3 : 0 ≤ b) (h4 : b ≤ B) : ∃ p : Int, a * b = p ∧ 0 ≤ p ∧ p ≤ A * B :=
  ⟨_, rfl, Int.mul_nonneg h1 h3, Int.le_trans (Int.mul_le_mul_of_nonneg_right h2 h3) (Int.mul_le_mul_of_nonneg_left h4 (by omega))⟩

/-- Two drawn numbers; only the reader has changed. -/
def FracOut (w : World) (r N : Nat) (e : Ending) (w' : World) : Prop := ∃ a b : Int, e = .returned (.tuple #[.int .i64 a, .int .i64 b]) ∧ 0 ≤ a ∧ a ≤ 468 ∧ -300 ≤ b ∧ b ≤ 240 ∧ Only r w w' ∧ Rd w' r (N + 4)

set_option maxHeartbeats 1000000 in
theorem l20Frac_any (r N : Nat) (w : World) (hR : Rd w r N) (hN : N ≤ 90000) : Calls Try.prog 38 #[.pointer (some ⟨r, 0, none⟩)] w (FracOut w r N) := by
  have hr := hR.lt
  go_enter Try.func38, Try.ntmps38
  go_wp2_with fail
  refine (pick_any r N 12 _ hR (by omega) (by omega) (by omega)).mono ?_
  rintro e w1 ⟨a1, rfl, a10, a11, ow1, rd1⟩
  have sw1 := only_size ow1
  try simp at sw1
  have x0 : 0 ≤ 1 + a1 := by omega
  have x1 : 1 + a1 ≤ 12 := by omega
  go_wp2_with fail
  refine (pick_any r (N + 1) 40 _ rd1 (by omega) (by omega) (by omega)).mono ?_
  rintro e w2 ⟨a2, rfl, a20, a21, ow2, rd2⟩
  have sw2 := only_size ow2
  try simp at sw2
  obtain ⟨p, e1, p0, p1⟩ := mul_bd (A := 12) (B := 39) x0 x1 a20 (by omega)
  go_wp2_with fail
  refine (pick_any r (N + 2) 20 _ rd2 (by omega) (by omega) (by omega)).mono ?_
  rintro e w3 ⟨a3, rfl, a30, a31, ow3, rd3⟩
  have sw3 := only_size ow3
  try simp at sw3
  obtain ⟨q, e2, q0, q1⟩ := mul_bd (a := 1 + a1) (b := 1 + a3) (A := 12) (B := 20) x0 x1 (by omega) (by omega)
  go_wp2_with fail
  refine (pick_any r (N + 3) 20 _ rd3 (by omega) (by omega) (by omega)).mono ?_
  rintro e w4 ⟨a4, rfl, a40, a41, ow4, rd4⟩
  have sw4 := only_size ow4
  try simp at sw4
  have hq : a4 = 19 ∨ a4 < 19 := by omega
  rcases hq with rfl | hq
  · go_wp2
    go_ret2
    exact ⟨_, _, rfl, by omega, by omega, by omega, by omega, by (repeat' (first | (with_reducible exact Only.refl _ _) | (with_reducible assumption) | (with_reducible refine Only.alloc ?_ _) | (with_reducible refine Only.set ?_ _ ?_ _) | (with_reducible refine Only.drew ?_) | (with_reducible refine Only.drewN ?_ _) | (with_reducible refine Only.via (by assumption) ?_) | (refine .inr ?_; omega) | (refine .inr ?_; simp; omega) | omega | (simp; omega) | (simp; done))), rd4⟩
  · have t1 : a4.tdiv 19 = 0 := Int.tdiv_eq_zero_of_lt a40 (by omega)
    have t2 : a4 / 19 = 0 := by omega
    go_wp2
    go_ret2
    exact ⟨_, _, rfl, by omega, by omega, by omega, by omega, by (repeat' (first | (with_reducible exact Only.refl _ _) | (with_reducible assumption) | (with_reducible refine Only.alloc ?_ _) | (with_reducible refine Only.set ?_ _ ?_ _) | (with_reducible refine Only.drew ?_) | (with_reducible refine Only.drewN ?_ _) | (with_reducible refine Only.via (by assumption) ?_) | (refine .inr ?_; omega) | (refine .inr ?_; simp; omega) | omega | (simp; omega) | (simp; done))), rd4⟩

/-- Two drawn numbers, in new memory. -/
def FracDrawn (w : World) (e : Ending) (w' : World) : Prop := ∃ a b : Int, e = .returned (.tuple #[.int .i64 a, .int .i64 b]) ∧ -1000 ≤ a ∧ a ≤ 1000001 ∧ -1000 ≤ b ∧ b ≤ 1000000 ∧ Below w.heap.size w w'

set_option maxHeartbeats 1000000 in
theorem drawFracOf_any (A : Option Addr) (n c : Nat) (g : Nat → Int) (w : World) (h : Bytes w A n c g) : Calls Try.prog 21 #[.slice A n c] w (FracDrawn w) := by
  go_enter Try.func21, Try.ntmps21
  go_wp2_with fail
  refine (open_any A n c g _ h).mono ?_
  rintro e w1 ⟨rfl, hb1, rd1⟩
  have s1 := hb1.size
  have r1 := rd1.lt
  go_wp2_with fail
  refine (odd_any w.heap.size 0 9 _ rd1 (by omega) (by omega) (by omega)).mono ?_
  rintro e w2 ⟨b, rfl, ow2, rd2⟩
  have sw2 := only_size ow2
  try simp at sw2
  cases b
  · go_wp2_with fail
    refine (l20Frac_any w.heap.size 1 _ rd2 (by omega)).mono ?_
    rintro e w3 ⟨x, y, rfl, x0, x1, y0, y1, ow3, rd3⟩
    have sw3 := only_size ow3
    try simp at sw3
    go_wp2
    go_ret2
    exact ⟨_, _, rfl, by omega, by omega, by omega, by omega, by (repeat' (first | (with_reducible exact Below.refl _ _) | (with_reducible assumption) | (with_reducible exact bundrew (by assumption)) | (with_reducible refine balloc ?_ _) | (with_reducible refine bset ?_ _ ?_ _) | (with_reducible refine Below.drew ?_) | (with_reducible refine bdrewN ?_ _) | (with_reducible refine bonly (by assumption) ?_ ?_) | (with_reducible refine bvia (by assumption) ?_) | (with_reducible refine Below.trans ?_ (by assumption)) | omega | (simp; omega) | (simp; done)))⟩
  · go_wp2_with fail
    refine (pick_any w.heap.size 1 3 _ (rd2.above (by first | (exact Below.refl _ _) | go_grown)) (by omega) (by omega) (by omega)).mono ?_
    rintro e w3 ⟨a3, rfl, a30, a31, ow3, rd3⟩
    obtain ⟨cw30, fw30, zw30, yw30, xw30, vw30⟩ := only_facts ow3 (w2.heap.size) (by first | omega | (simp; omega) | (simp; done)) (by omega)
    have sw3 := only_size ow3
    try simp at sw3
    have hc : a3 = 0 ∨ a3 = 1 ∨ a3 = 2 := by omega
    rcases hc with rfl | rfl | rfl
    all_goals
      go_wp2
      go_ret2
      exact ⟨_, _, rfl, by omega, by omega, by omega, by omega, by (repeat' (first | (with_reducible exact Below.refl _ _) | (with_reducible assumption) | (with_reducible exact bundrew (by assumption)) | (with_reducible refine balloc ?_ _) | (with_reducible refine bset ?_ _ ?_ _) | (with_reducible refine Below.drew ?_) | (with_reducible refine bdrewN ?_ _) | (with_reducible refine bonly (by assumption) ?_ ?_) | (with_reducible refine bvia (by assumption) ?_) | (with_reducible refine Below.trans ?_ (by assumption)) | omega | (simp; omega) | (simp; done)))⟩

theorem fracT_low {n d : Int} (h : fracOk n d) : fracT n d = (((FP.low n.toNat d.toNat).1 : Int), ((FP.low n.toNat d.toNat).2 : Int), true) := by
  rw [fracT_yes h]
  obtain ⟨h1, h2, h3, h4⟩ := h
  obtain ⟨N, rfl⟩ := Int.eq_ofNat_of_zero_le h1
  obtain ⟨D, rfl⟩ := Int.eq_ofNat_of_zero_le (show 0 ≤ d by omega)
  simp only [gcdI_nat, FP.low, Int.toNat_natCast, Int.natCast_ediv]
theorem frac_law {n d : Int} (h : fracOk n d) : ∃ P Q : Nat, fracT n d = ((P : Int), (Q : Int), true) ∧ P ≤ 1000000 ∧ 1 ≤ Q ∧ Q ≤ 1000000 ∧ fracT (P : Int) (Q : Int) = ((P : Int), (Q : Int), true) ∧ (P : Int) * d = n * (Q : Int) ∧ ∀ k, 2 ≤ k → ¬ (P % k = 0 ∧ Q % k = 0) := by
  have h0 := h
  obtain ⟨h1, h2, h3, h4⟩ := h
  have hd : 0 < d.toNat := by omega
  have hp := FP.low_pos (n := n.toNat) hd
  have hl := FP.low_le (n := n.toNat) (d := d.toNat)
  refine ⟨_, _, fracT_low h0, by omega, hp, by omega, ?_, ?_, fun k hk => FP.low_no hd hk⟩
  · have := FP.low_again (n := n.toNat) hd
    rw [fracT_low ⟨by omega, by omega, by omega, by omega⟩, Int.toNat_natCast, Int.toNat_natCast, this]
  · have := FP.low_cross (n := n.toNat) hd
    have e1 : (d.toNat : Int) = d := by omega
    have e2 : (n.toNat : Int) = n := by omega
    rw [← e1, ← e2, ← Int.natCast_mul, ← Int.natCast_mul, Int.toNat_natCast, Int.toNat_natCast, this]

set_option maxRecDepth 100000 in
set_option maxHeartbeats 4000000 in
theorem walk_FnFracOf (A : Option Addr) (n c : Nat) (g : Nat → Int) (w : World) (hB : Bytes w A n c g) : Calls Try.prog 7 #[.slice A n c] w fun e w' => e = .returned (.bool true) ∧ Below w.heap.size w w' := by
  by_cases hn : 1048576 < n
  · have hn' : (1048576 : Int) < (n : Int) := by omega
    go_enter Try.func7, Try.ntmps7
    go_wp2
    go_ret
    exact ⟨rfl, by (repeat' (first | (with_reducible exact Below.refl _ _) | (with_reducible assumption) | (with_reducible exact bundrew (by assumption)) | (with_reducible refine balloc ?_ _) | (with_reducible refine bset ?_ _ ?_ _) | (with_reducible refine Below.drew ?_) | (with_reducible refine bdrewN ?_ _) | (with_reducible refine bvia (by assumption) ?_) | (with_reducible refine Below.trans ?_ (by assumption)) | omega | (simp; omega) | (simp; done)))⟩
  · have hn' : (n : Int) ≤ 1048576 := by omega
    go_enter Try.func7, Try.ntmps7
    go_wp2_with fail
    refine (drawFracOf_any A n c g _ hB).mono ?_
    rintro x wd ⟨a, b, rfl, a0, a1, b0, b1, hbd⟩
    have TI := fun w => frac_impl a b w
    have TS := fun w => frac_spec a b w
    by_cases hok : fracOk a b
    · obtain ⟨P, Q, hf, p1, q0, q1, hz, hx, hk⟩ := frac_law hok
      simp only [hf] at TI TS
      have TZ := fun w => frac_impl (P : Int) (Q : Int) w
      simp only [hz] at TZ
      have HI := Lib.hid TI
      have HS := Lib.hid TS
      have HZ := Lib.hid TZ
      have HK := Lib.hid hk
      obtain ⟨o1, o2, o3, o4⟩ := hok
      obtain ⟨u, hu, u0, u1⟩ := mul_bd (a := (P : Int)) (b := b) (A := 1000000) (B := 1000000) (by omega) (by omega) (by omega) (by omega)
      have hu' : a * (Q : Int) = u := by rw [← hx, hu]
      have p1' : (P : Int) ≤ 1000000 := by omega
      have q0' : 1 ≤ (Q : Int) := by omega
      have q1' : (Q : Int) ≤ 1000000 := by omega
      clear TI TS TZ hf hz hk hx
      go_wp2_with fail
      refine (HI.out _).mono ?_
      rintro e w1 ⟨rfl, hbw1⟩
      obtain ⟨hcw1, hfw1, -, -, -, hsw1⟩ := bfacts5 hbw1
      try simp only [World.size_drew] at hcw1 hfw1
      try simp at hsw1
      go_wp2_with fail
      refine (HS.out _).mono ?_
      rintro e w2 ⟨rfl, hbw2⟩
      obtain ⟨hcw2, hfw2, -, -, -, hsw2⟩ := bfacts5 hbw2
      try simp only [World.size_drew] at hcw2 hfw2
      try simp at hsw2
      have qw20 : w1.heap.size < w2.heap.size := (by omega)
      have rw20 : ∀ m : Nat, w1.heap.size < w2.heap.size + m := fun m => (by omega)
      go_wp2_with fail
      go_loop [9] (fun i => ∃ k : Nat, 2 ≤ k ∧ k ≤ 41 ∧ i = .int .i64 k) (fun i => 41 - (intOf i).toNat)
      case atStart => exact ⟨2, by omega, by omega, rfl⟩
      case round =>
        obtain ⟨k, k2, k41, rfl⟩ := hrel
        by_cases hlt : k ≤ 40
        · have hlt' : (k : Int) ≤ 40 := by omega
          have k2' : 2 ≤ (k : Int) := by omega
          have hkk := HK.out k k2
          obtain ⟨s, hs⟩ : ∃ s, P % k = s := ⟨_, rfl⟩
          obtain ⟨t, ht⟩ : ∃ t, Q % k = t := ⟨_, rfl⟩
          have m1 : (P : Int).tmod (k : Int) = (s : Int) := by rw [Int.tmod_eq_emod_of_nonneg (by omega), ← hs]; exact (Int.natCast_emod _ _).symm
          have m2 : (Q : Int).tmod (k : Int) = (t : Int) := by rw [Int.tmod_eq_emod_of_nonneg (by omega), ← ht]; exact (Int.natCast_emod _ _).symm
          have m3 : (P : Int) % (k : Int) = (s : Int) := by rw [← hs]; exact (Int.natCast_emod _ _).symm
          have m4 : (Q : Int) % (k : Int) = (t : Int) := by rw [← ht]; exact (Int.natCast_emod _ _).symm
          rw [hs, ht] at hkk
          clear hs ht
          by_cases hs0 : s = 0
          · subst hs0
            have ht0 : ((t : Int) == 0) = false := by rw [beq_eq_false_iff_ne]; omega
            clear hkk
            go_wp2
            go_round
            case rel => exact ⟨k + 1, by omega, by omega, by go_num⟩
            case measure => simp [intOf]; omega
          · have ht0 : ((s : Int) == 0) = false := by rw [beq_eq_false_iff_ne]; omega
            clear hkk hs0
            go_wp2
            go_round
            case rel => exact ⟨k + 1, by omega, by omega, by go_num⟩
            case measure => simp [intOf]; omega
        · obtain rfl : k = 41 := by omega
          go_wp2_with fail
          refine (HZ.out _).mono ?_
          rintro e w3 ⟨rfl, hbw3⟩
          obtain ⟨hcw3, hfw3, -, -, -, hsw3⟩ := bfacts5 hbw3
          try simp only [World.size_drew] at hcw3 hfw3
          try simp at hsw3
          have qw30 : w1.heap.size < w3.heap.size := (by omega)
          have rw30 : ∀ m : Nat, w1.heap.size < w3.heap.size + m := fun m => (by omega)
          have qw31 : w2.heap.size < w3.heap.size := (by omega)
          have rw31 : ∀ m : Nat, w2.heap.size < w3.heap.size + m := fun m => (by omega)
          go_wp2
          go_ret
          exact ⟨rfl, by (repeat' (first | (with_reducible exact Below.refl _ _) | (with_reducible assumption) | (with_reducible exact bundrew (by assumption)) | (with_reducible refine balloc ?_ _) | (with_reducible refine bset ?_ _ ?_ _) | (with_reducible refine Below.drew ?_) | (with_reducible refine bdrewN ?_ _) | (with_reducible refine bvia (by assumption) ?_) | (with_reducible refine Below.trans ?_ (by assumption)) | omega | (simp; omega) | (simp; done)))⟩
    · simp only [fracT_no hok] at TI TS
      have HI := Lib.hid TI
      have HS := Lib.hid TS
      clear TI TS hok
      go_wp2_with fail
      refine (HI.out _).mono ?_
      rintro e w1 ⟨rfl, hbw1⟩
      obtain ⟨hcw1, hfw1, -, -, -, hsw1⟩ := bfacts5 hbw1
      try simp only [World.size_drew] at hcw1 hfw1
      try simp at hsw1
      go_wp2_with fail
      refine (HS.out _).mono ?_
      rintro e w2 ⟨rfl, hbw2⟩
      obtain ⟨hcw2, hfw2, -, -, -, hsw2⟩ := bfacts5 hbw2
      try simp only [World.size_drew] at hcw2 hfw2
      try simp at hsw2
      have qw20 : w1.heap.size < w2.heap.size := (by omega)
      have rw20 : ∀ m : Nat, w1.heap.size < w2.heap.size + m := fun m => (by omega)
      go_wp2_with (go_at_call 22; refine (alive_any _).mono ?_; rintro x w3 ⟨rfl, hb3⟩)
      go_ret
      exact ⟨rfl, by (repeat' (first | (with_reducible exact Below.refl _ _) | (with_reducible assumption) | (with_reducible exact bundrew (by assumption)) | (with_reducible refine balloc ?_ _) | (with_reducible refine bset ?_ _ ?_ _) | (with_reducible refine Below.drew ?_) | (with_reducible refine bdrewN ?_ _) | (with_reducible refine bvia (by assumption) ?_) | (with_reducible refine Below.trans ?_ (by assumption)) | omega | (simp; omega) | (simp; done)))⟩
end Go.Proofs.Ytkhooomjfjancaa
