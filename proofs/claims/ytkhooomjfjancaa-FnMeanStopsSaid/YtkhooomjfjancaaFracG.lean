/- Drawn parties; the walk of the law FnMeanTop. -/
import Derived.Test.YtkhooomjfjancaaFracF
import Derived.Test.YtkhooomjfjancaaFracD
namespace Go.Proofs.Ytkhooomjfjancaa
open Go.ChangeShapes Go.WideShapes Go.ChangeAt Go.RowKit

/-- Two small drawn numbers, in new memory. -/
def PartyDrawn (w : World) (e : Ending) (w' : World) : Prop := ∃ a b : Nat, e = .returned (.tuple #[.int .i64 (a : Int), .int .i64 (b : Int)]) ∧ a ≤ 7 ∧ b ≤ 7 ∧ Below w.heap.size w w'

set_option maxHeartbeats 1000000 in
theorem drawMeanStops_any (A : Option Addr) (n c : Nat) (g : Nat → Int) (w : World) (h : Bytes w A n c g) : Calls Try.prog 24 #[.slice A n c] w (PartyDrawn w) := by
  go_enter Try.func24, Try.ntmps24
  go_wp2_with fail
  refine (open_any A n c g _ h).mono ?_
  rintro e w1 ⟨rfl, hb1, rd1⟩
  have s1 := hb1.size
  go_wp2_with fail
  refine (pick_any w.heap.size 0 7 _ rd1 (by omega) (by omega) (by omega)).mono ?_
  rintro e w2 ⟨a1, rfl, a10, a11, ow2, rd2⟩
  have sw2 := only_size ow2
  try simp at sw2
  go_wp2_with fail
  refine (pick_any w.heap.size 1 12 _ rd2 (by omega) (by omega) (by omega)).mono ?_
  rintro e w3 ⟨a2, rfl, a20, a21, ow3, rd3⟩
  have sw3 := only_size ow3
  try simp at sw3
  go_wp2_with fail
  refine (pick_any w.heap.size 2 7 _ rd3 (by omega) (by omega) (by omega)).mono ?_
  rintro e w4 ⟨a3, rfl, a30, a31, ow4, rd4⟩
  have sw4 := only_size ow4
  try simp at sw4
  go_wp2_with fail
  refine (pick_any w.heap.size 3 12 _ rd4 (by omega) (by omega) (by omega)).mono ?_
  rintro e w5 ⟨a4, rfl, a40, a41, ow5, rd5⟩
  have sw5 := only_size ow5
  try simp at sw5
  have q2 : ∃ u : Int, a2.tdiv 11 = u ∧ a2 / 11 = u ∧ 0 ≤ u ∧ u ≤ 1 := ⟨a2 / 11, Int.tdiv_eq_ediv_of_nonneg a20, rfl, by omega, by omega⟩
  have q4 : ∃ u : Int, a4.tdiv 11 = u ∧ a4 / 11 = u ∧ 0 ≤ u ∧ u ≤ 1 := ⟨a4 / 11, Int.tdiv_eq_ediv_of_nonneg a40, rfl, by omega, by omega⟩
  obtain ⟨u2, t1, t2, t3, t4⟩ := q2
  obtain ⟨u4, t5, t6, t7, t8⟩ := q4
  obtain ⟨x, hx⟩ := Int.eq_ofNat_of_zero_le (show 0 ≤ a1 + u2 by omega)
  obtain ⟨y, hy⟩ := Int.eq_ofNat_of_zero_le (show 0 ≤ a3 + u4 by omega)
  go_wp2
  go_ret2
  exact ⟨x, y, by first | rfl | (simp only [hx, hy]), by omega, by omega, by (repeat' (first | (with_reducible exact Below.refl _ _) | (with_reducible assumption) | (with_reducible exact bundrew (by assumption)) | (with_reducible refine balloc ?_ _) | (with_reducible refine bset ?_ _ ?_ _) | (with_reducible refine Below.drew ?_) | (with_reducible refine bdrewN ?_ _) | (with_reducible refine bonly (by assumption) ?_ ?_) | (with_reducible refine bvia (by assumption) ?_) | (with_reducible refine Below.trans ?_ (by assumption)) | omega | (simp; omega) | (simp; done)))⟩
theorem drawMeanTop_any (A : Option Addr) (n c : Nat) (g : Nat → Int) (w : World) (h : Bytes w A n c g) : Calls Try.prog 27 #[.slice A n c] w (PartyDrawn w) := by
  go_enter Try.func27, Try.ntmps27
  go_wp2_with fail
  refine (drawMeanStops_any A n c g _ h).mono ?_
  rintro e w1 ⟨a, b, rfl, h1, h2, hb⟩
  go_wp2
  go_ret2
  exact ⟨a, b, rfl, h1, h2, hb⟩

theorem lists_any (b e : Nat) (w : World) (hb : b ≤ 6) (he : e ≤ 6) : Calls Try.prog 25 #[.int .i64 b, .int .i64 e] w fun x w' => x = .returned (.int .i64 ((b ^ e : Nat) : Int)) ∧ w = w' := by
  have hb' : (b : Int) ≤ 6 := by omega
  have he' : (e : Int) ≤ 6 := by omega
  go_enter Try.func25, Try.ntmps25
  go_wp2
  go_loop [5, 6] (fun x i => ∃ k : Nat, k ≤ e ∧ i = .int .i64 k ∧ x = .int .i64 ((b ^ k : Nat) : Int)) (fun _ i => e - (intOf i).toNat)
  case atStart => exact ⟨0, Nat.zero_le _, rfl, by simp⟩
  case round =>
    obtain ⟨k, hk, rfl, rfl⟩ := hrel
    by_cases hlt : k < e
    · have hlt' : (k : Int) < (e : Int) := by omega
      have hp := pow_small b hb k (by omega)
      obtain ⟨p, hp1⟩ : ∃ p, b ^ k = p := ⟨_, rfl⟩
      rw [hp1] at hp
      have e1 : p * b = b ^ (k + 1) := by rw [← hp1, Nat.pow_succ]
      have hq := pow_small b hb (k + 1) (by omega)
      rw [← e1] at hq
      have e2 : (p : Int) * (b : Int) = ((p * b : Nat) : Int) := by simp
      have hq' : ((p * b : Nat) : Int) ≤ 46656 := by omega
      have hq0 : 0 ≤ ((p * b : Nat) : Int) := by omega
      obtain ⟨q, hqq⟩ : ∃ q, p * b = q := ⟨_, rfl⟩
      rw [hqq] at e1 e2 hq' hq0
      rw [hp1]
      have HE := Lib.hid e1
      clear hp1 e1 hqq hq
      go_wp2
      go_round
      case rel => exact ⟨k + 1, by omega, by go_num, by rw [← HE.out]⟩
      case measure => simp [intOf]; omega
    · obtain rfl : k = e := by omega
      go_wp2
      go_ret
      exact ⟨rfl, rfl⟩

theorem powZ_cast (k r : Nat) : powZ (k : Int) (r : Int) = ((k ^ r : Nat) : Int) := by simp [powZ, powI]
theorem tsum_below (f r : Nat) : ∀ k, k ≤ f → tsum (powZ f r) r k = ((FP.below f r k : Nat) : Int)
  | 0, _ => rfl
  | k + 1, h => by
    simp only [tsum, FP.below]
    rw [tsum_below f r k (by omega), powZ_cast, powZ_cast]
    have := Nat.pow_le_pow_left (show k ≤ f by omega) r
    omega
theorem pow_pos' {f r : Nat} (h : 1 ≤ f) : 1 ≤ f ^ r := Nat.pow_pos (by omega)
theorem below_le' (f r : Nat) : ∀ k, FP.below f r k ≤ k * f ^ r
  | 0 => Nat.zero_le _
  | k + 1 => by have := below_le' f r k; simp only [FP.below]; rw [Nat.succ_mul]; omega
theorem top_ok {f r : Nat} (h1 : 1 ≤ f) (h2 : f ≤ 6) (h4 : r ≤ 6) : fracOk ((FP.below f r f : Nat) : Int) ((f ^ r : Nat) : Int) := by
  have h5 := below_le' f r f
  have h6 := pow_small f h2 r h4
  have h7 := pow_pos' (r := r) h1
  have h8 : f * f ^ r ≤ 6 * 46656 := Nat.mul_le_mul h2 h6
  exact ⟨by omega, by omega, by omega, by omega⟩
theorem topT_low {f r : Nat} (h1 : 1 ≤ f) (h2 : f ≤ 6) (h4 : r ≤ 6) : topT f (r : Int) = (((FP.topF f r).1 : Int), ((FP.topF f r).2 : Int), true) ∧ fracT ((FP.below f r f : Nat) : Int) ((f ^ r : Nat) : Int) = (((FP.topF f r).1 : Int), ((FP.topF f r).2 : Int), true) := by
  have h := fracT_low (top_ok h1 h2 h4)
  simp only [Int.toNat_natCast] at h
  refine ⟨?_, h⟩
  unfold topT
  rw [tsum_below f r f (Nat.le_refl _), powZ_cast]
  exact h

theorem top_le {f : Nat} (h : 1 ≤ f) (x : Nat) : ∀ k, FP.top f x k ≤ f
  | 0 => Nat.zero_le _
  | k + 1 => by have := top_le h x k; have := Nat.mod_lt (x / f ^ k) (show f > 0 by omega); simp only [FP.top]; omega
theorem topSum_le {f : Nat} (h : 1 ≤ f) (r : Nat) : ∀ k, FP.topSum f r k ≤ f * k
  | 0 => Nat.zero_le _
  | k + 1 => by have := topSum_le h r k; have := top_le h k r; simp only [FP.topSum]; rw [Nat.mul_succ]; omega
theorem topSum_succ (f r k : Nat) : FP.topSum f r (k + 1) = FP.topSum f r k + FP.top f k r := rfl
theorem top_succ (f x k : Nat) : FP.top f x (k + 1) = max (FP.top f x k) (1 + x / f ^ k % f) := rfl
theorem div_next (f x k : Nat) : x / f ^ (k + 1) = x / f ^ k / f := by rw [Nat.pow_succ, Nat.div_div_eq_div_mul]

set_option maxRecDepth 100000 in
set_option maxHeartbeats 8000000 in
theorem walk_FnMeanTop (A : Option Addr) (n c : Nat) (g : Nat → Int) (w : World) (hB : Bytes w A n c g) : Calls Try.prog 10 #[.slice A n c] w fun e w' => e = .returned (.bool true) ∧ Below w.heap.size w w' := by
  by_cases hn : 1048576 < n
  · have hn' : (1048576 : Int) < (n : Int) := by omega
    go_enter Try.func10, Try.ntmps10
    go_wp2
    go_ret
    exact ⟨rfl, by (repeat' (first | (with_reducible exact Below.refl _ _) | (with_reducible assumption) | (with_reducible exact bundrew (by assumption)) | (with_reducible refine balloc ?_ _) | (with_reducible refine bset ?_ _ ?_ _) | (with_reducible refine Below.drew ?_) | (with_reducible refine bdrewN ?_ _) | (with_reducible refine bvia (by assumption) ?_) | (with_reducible refine Below.trans ?_ (by assumption)) | omega | (simp; omega) | (simp; done)))⟩
  · have hn' : (n : Int) ≤ 1048576 := by omega
    go_enter Try.func10, Try.ntmps10
    go_wp2_with fail
    refine (drawMeanTop_any A n c g _ hB).mono ?_
    rintro x wd ⟨f, r, rfl, hf7, hr7, hbd⟩
    by_cases hp : partyB f r = true
    · obtain ⟨i1, i2, i3, i4⟩ := party_open hp
      have f1 : 1 ≤ f := by omega
      have f6 : f ≤ 6 := by omega
      have r1 : 1 ≤ r := by omega
      have r6 : r ≤ 6 := by omega
      have TI := fun w => top_impl f (r : Int) w hp
      have TS := fun w => top_spec f (r : Int) w hp
      obtain ⟨e1, e2⟩ := topT_low f1 f6 r6
      obtain ⟨l1, l2, l3⟩ := FP.top_law f1 f6 r1 r6
      have TZ := fun w => frac_impl ((FP.below f r f : Nat) : Int) ((f ^ r : Nat) : Int) w
      simp only [e1] at TI TS
      simp only [e2] at TZ
      have HE := Lib.hid (show f ^ r ≤ 300 → FP.topSum f r (f ^ r) = FP.below f r f from fun h => FP.top_eq f1 f6 r1 r6 h)
      have HMore : ∃ (M1 M2 : Int) (bm : Bool), Hid (∀ w, Calls Try.prog 20 #[.int .i64 f, .int .i64 ((r : Int) + 1)] w fun e w' => e = .returned (.tuple #[.agg #[.int .i64 M1, .int .i64 M2], .bool bm]) ∧ Below w.heap.size w w') ∧ (bm = false ∨ flessB M1 M2 ((FP.topF f r).1 : Int) ((FP.topF f r).2 : Int) = false) := by
        rcases l3 with h | h
        · refine ⟨0, 0, false, Lib.hid (fun w => top_impl_no (f : Int) ((r : Int) + 1) w ?_), .inl rfl⟩
          intro hh
          have := party_open hh
          omega
        · by_cases hr : r = 6
          · refine ⟨0, 0, false, Lib.hid (fun w => top_impl_no (f : Int) ((r : Int) + 1) w ?_), .inl rfl⟩
            intro hh
            have := party_open hh
            omega
          · refine ⟨((FP.topF f (r + 1)).1 : Int), ((FP.topF f (r + 1)).2 : Int), true, Lib.hid (fun w => ?_), .inr ?_⟩
            · have hp2 : partyB f ((r : Int) + 1) = true := by simp only [partyB, decide_eq_true_eq]; omega
              have t := top_impl f ((r : Int) + 1) w hp2
              have e3 := (topT_low (r := r + 1) f1 f6 (by omega)).1
              rw [show (((r + 1 : Nat)) : Int) = (r : Int) + 1 by omega] at e3
              simp only [e3] at t
              exact t
            · simp only [flessB, decide_eq_false_iff_not]
              rintro ⟨_, _, h3⟩
              exact h (by exact_mod_cast h3)
      obtain ⟨M1, M2, bm, HMo, hbm⟩ := HMore
      obtain ⟨P, hP⟩ : ∃ P, (FP.topF f r).1 = P := ⟨_, rfl⟩
      obtain ⟨Q, hQ⟩ : ∃ Q, (FP.topF f r).2 = Q := ⟨_, rfl⟩
      rw [hP, hQ] at TI TS TZ hbm
      rw [hP, hQ] at l1 l2
      have hq := (show (FP.topF f r).2 ≤ f ^ r from FP.low_le.2)
      have hpw := pow_small f f6 r r6
      rw [hQ] at hq
      have hall := lists_any f r
      obtain ⟨N, hN⟩ : ∃ N, f ^ r = N := ⟨_, rfl⟩
      rw [hN] at TZ HE hq hpw
      have HL := Lib.hid (fun w => lists_any f r w f6 r6)
      rw [hN] at HL
      have HI := Lib.hid TI
      have HS := Lib.hid TS
      have HZ := Lib.hid TZ
      obtain ⟨fq, m1, m2, m3⟩ := mul_bd (a := (f : Int)) (b := (Q : Int)) (A := 6) (B := 46656) (by omega) (by omega) (by omega) (by omega)
      have l2' : (P : Int) ≤ fq := by rw [← m1]; exact_mod_cast l2
      have l1' : (Q : Int) ≤ (P : Int) := by omega
      have N5 : (N : Int) ≤ 46656 := by omega
      have fi1 : 1 ≤ (f : Int) := by omega
      have fi6 : (f : Int) ≤ 6 := by omega
      have ri6 : (r : Int) ≤ 6 := by omega
      clear TI TS TZ e1 e2 l1 l2 l3 hP hQ hN hall hp i1 i2 i3 i4
      go_wp2_with fail
      refine (HI.out _).mono ?_
      rintro e w1 ⟨rfl, hbw1⟩
      obtain ⟨hcw1, hfw1, -, -, -, hsw1⟩ := bfacts5 hbw1
      try simp only [World.size_drew] at hcw1 hfw1
      try simp at hsw1
      go_wp2_with fail
      refine (HS.out _).mono ?_
      rintro e w2 ⟨rfl, hbw2⟩
      obtain ⟨hcw2, hfw2, -, -, -, hsw2⟩ := bfacts5 hbw2
      try simp only [World.size_drew] at hcw2 hfw2
      try simp at hsw2
      have qw20 : w1.heap.size < w2.heap.size := (by omega)
      have rw20 : ∀ m : Nat, w1.heap.size < w2.heap.size + m := fun m => (by omega)
      go_wp2_with fail
      refine (HL.out _).mono ?_
      rintro x w' ⟨rfl, rfl⟩
      by_cases hN3 : N ≤ 300
      · have hN3' : (N : Int) ≤ 300 := by omega
        have he1 := HE.out hN3
        have TZ := HZ.out
        rw [← he1] at TZ
        have HZ2 := Lib.hid TZ
        have HSum := Lib.hid (topSum_le f1 r)
        clear TZ he1 HZ HE
        go_wp2_with fail
        go_loop [10, 11] (fun s i => ∃ k : Nat, k ≤ N ∧ i = .int .i64 k ∧ s = .int .i64 ((FP.topSum f r k : Nat) : Int)) (fun _ i => N - (intOf i).toNat)
        case atStart => exact ⟨0, Nat.zero_le _, rfl, rfl⟩
        case round =>
          obtain ⟨k, hk, rfl, rfl⟩ := hrel
          by_cases hlt : k < N
          · have hlt' : (k : Int) < (N : Int) := by omega
            have hsm := HSum.out k
            have hsm2 : f * k ≤ 6 * 300 := Nat.mul_le_mul f6 (by omega)
            obtain ⟨S, hS⟩ : ∃ S, FP.topSum f r k = S := ⟨_, rfl⟩
            rw [hS] at hsm
            have HS' := Lib.hid hS
            rw [hS]
            have hs3 : (S : Int) ≤ 1800 := by omega
            clear hsm hsm2 hS
            go_wp2
            go_loop [12, 13, 14] (fun t q i => ∃ j : Nat, j ≤ r ∧ i = .int .i64 j ∧ t = .int .i64 ((FP.top f k j : Nat) : Int) ∧ q = .int .i64 ((k / f ^ j : Nat) : Int)) (fun _ _ i => r - (intOf i).toNat)
            case atStart => exact ⟨0, Nat.zero_le _, rfl, rfl, by simp⟩
            case round =>
              obtain ⟨j, hj, rfl, rfl, rfl⟩ := hrel
              have ht := top_le f1 k j
              obtain ⟨t, ht0⟩ : ∃ t, FP.top f k j = t := ⟨_, rfl⟩
              obtain ⟨q, hq0⟩ : ∃ q, k / f ^ j = q := ⟨_, rfl⟩
              have hqk : q ≤ k := by rw [← hq0]; exact Nat.div_le_self _ _
              rw [ht0] at ht
              rw [ht0, hq0]
              have HT := Lib.hid ht0
              have HQ := Lib.hid hq0
              have ht' : (t : Int) ≤ 6 := by omega
              have hq' : (q : Int) ≤ 300 := by omega
              clear ht0 hq0
              by_cases hjl : j < r
              · have hjl' : (j : Int) < (r : Int) := by omega
                have hm := Nat.mod_lt q (show f > 0 by omega)
                obtain ⟨s, hs⟩ : ∃ s, q % f = s := ⟨_, rfl⟩
                obtain ⟨d, hd⟩ : ∃ d, q / f = d := ⟨_, rfl⟩
                have hdq : d ≤ q := by rw [← hd]; exact Nat.div_le_self _ _
                have n1 : (q : Int).tmod (f : Int) = (s : Int) := by rw [Int.tmod_eq_emod_of_nonneg (by omega), ← hs]; exact (Int.natCast_emod _ _).symm
                have n2 : (q : Int) % (f : Int) = (s : Int) := by rw [← hs]; exact (Int.natCast_emod _ _).symm
                have n3 : (q : Int).tdiv (f : Int) = (d : Int) := by rw [Int.tdiv_eq_ediv_of_nonneg (by omega), ← hd]; exact (Int.natCast_ediv _ _).symm
                have n4 : (q : Int) / (f : Int) = (d : Int) := by rw [← hd]; exact (Int.natCast_ediv _ _).symm
                rw [hs] at hm
                have hs6 : (s : Int) ≤ 6 := by omega
                have hd6 : (d : Int) ≤ 300 := by omega
                have HS2 := Lib.hid hs
                have HD2 := Lib.hid hd
                clear hs hd
                by_cases hmx : (t : Int) ≤ 1 + (s : Int)
                all_goals
                  go_wp2
                  go_round
                  case rel => exact ⟨j + 1, by omega, by go_num, by rw [top_succ, HT.out, HQ.out, HS2.out]; congr 1; omega, by rw [div_next, HQ.out, HD2.out]⟩
                  case measure => simp [intOf]; omega
              · have hjr : j = r := by omega
                subst hjr
                go_wp2
                go_round
                case rel => exact ⟨k + 1, by omega, by go_num, by rw [topSum_succ, HS'.out, HT.out]; go_num⟩
                case measure => simp [intOf]; omega
          · have hkN : k = N := by omega
            subst hkN
            go_wp2_with fail
            refine (HZ2.out _).mono ?_
            rintro e w3 ⟨rfl, hbw3⟩
            obtain ⟨hcw3, hfw3, -, -, -, hsw3⟩ := bfacts5 hbw3
            try simp only [World.size_drew] at hcw3 hfw3
            try simp at hsw3
            have qw30 : w1.heap.size < w3.heap.size := (by omega)
            have rw30 : ∀ m : Nat, w1.heap.size < w3.heap.size + m := fun m => (by omega)
            have qw31 : w2.heap.size < w3.heap.size := (by omega)
            have rw31 : ∀ m : Nat, w2.heap.size < w3.heap.size + m := fun m => (by omega)
            go_wp2_with fail
            refine (HMo.out _).mono ?_
            rintro e w4 ⟨rfl, hbw4⟩
            obtain ⟨hcw4, hfw4, -, -, -, hsw4⟩ := bfacts5 hbw4
            try simp only [World.size_drew] at hcw4 hfw4
            try simp at hsw4
            have qw40 : w1.heap.size < w4.heap.size := (by omega)
            have rw40 : ∀ m : Nat, w1.heap.size < w4.heap.size + m := fun m => (by omega)
            have qw41 : w2.heap.size < w4.heap.size := (by omega)
            have rw41 : ∀ m : Nat, w2.heap.size < w4.heap.size + m := fun m => (by omega)
            have qw42 : w3.heap.size < w4.heap.size := (by omega)
            have rw42 : ∀ m : Nat, w3.heap.size < w4.heap.size + m := fun m => (by omega)
            rcases hbm with rfl | hl
            · go_wp2
              go_ret
              exact ⟨rfl, by (repeat' (first | (with_reducible exact Below.refl _ _) | (with_reducible assumption) | (with_reducible exact bundrew (by assumption)) | (with_reducible refine balloc ?_ _) | (with_reducible refine bset ?_ _ ?_ _) | (with_reducible refine Below.drew ?_) | (with_reducible refine bdrewN ?_ _) | (with_reducible refine bvia (by assumption) ?_) | (with_reducible refine Below.trans ?_ (by assumption)) | omega | (simp; omega) | (simp; done)))⟩
            · cases bm
              · go_wp2
                go_ret
                exact ⟨rfl, by (repeat' (first | (with_reducible exact Below.refl _ _) | (with_reducible assumption) | (with_reducible exact bundrew (by assumption)) | (with_reducible refine balloc ?_ _) | (with_reducible refine bset ?_ _ ?_ _) | (with_reducible refine Below.drew ?_) | (with_reducible refine bdrewN ?_ _) | (with_reducible refine bvia (by assumption) ?_) | (with_reducible refine Below.trans ?_ (by assumption)) | omega | (simp; omega) | (simp; done)))⟩
              · go_wp2_with fail
                refine (fless_impl _ _ _ _ _).mono ?_
                rintro e w5 ⟨rfl, hbw5⟩
                obtain ⟨hcw5, hfw5, -, -, -, hsw5⟩ := bfacts5 hbw5
                try simp only [World.size_drew] at hcw5 hfw5
                try simp at hsw5
                have qw50 : w1.heap.size < w5.heap.size := (by omega)
                have rw50 : ∀ m : Nat, w1.heap.size < w5.heap.size + m := fun m => (by omega)
                have qw51 : w2.heap.size < w5.heap.size := (by omega)
                have rw51 : ∀ m : Nat, w2.heap.size < w5.heap.size + m := fun m => (by omega)
                have qw52 : w3.heap.size < w5.heap.size := (by omega)
                have rw52 : ∀ m : Nat, w3.heap.size < w5.heap.size + m := fun m => (by omega)
                have qw53 : w4.heap.size < w5.heap.size := (by omega)
                have rw53 : ∀ m : Nat, w4.heap.size < w5.heap.size + m := fun m => (by omega)
                go_wp2
                go_ret
                exact ⟨rfl, by (repeat' (first | (with_reducible exact Below.refl _ _) | (with_reducible assumption) | (with_reducible exact bundrew (by assumption)) | (with_reducible refine balloc ?_ _) | (with_reducible refine bset ?_ _ ?_ _) | (with_reducible refine Below.drew ?_) | (with_reducible refine bdrewN ?_ _) | (with_reducible refine bvia (by assumption) ?_) | (with_reducible refine Below.trans ?_ (by assumption)) | omega | (simp; omega) | (simp; done)))⟩
      · have hN3' : 300 < (N : Int) := by omega
        go_wp2_with fail
        refine (HMo.out _).mono ?_
        rintro e w4 ⟨rfl, hbw4⟩
        obtain ⟨hcw4, hfw4, -, -, -, hsw4⟩ := bfacts5 hbw4
        try simp only [World.size_drew] at hcw4 hfw4
        try simp at hsw4
        have qw40 : w1.heap.size < w4.heap.size := (by omega)
        have rw40 : ∀ m : Nat, w1.heap.size < w4.heap.size + m := fun m => (by omega)
        have qw41 : w2.heap.size < w4.heap.size := (by omega)
        have rw41 : ∀ m : Nat, w2.heap.size < w4.heap.size + m := fun m => (by omega)
        rcases hbm with rfl | hl
        · go_wp2
          go_ret
          exact ⟨rfl, by (repeat' (first | (with_reducible exact Below.refl _ _) | (with_reducible assumption) | (with_reducible exact bundrew (by assumption)) | (with_reducible refine balloc ?_ _) | (with_reducible refine bset ?_ _ ?_ _) | (with_reducible refine Below.drew ?_) | (with_reducible refine bdrewN ?_ _) | (with_reducible refine bvia (by assumption) ?_) | (with_reducible refine Below.trans ?_ (by assumption)) | omega | (simp; omega) | (simp; done)))⟩
        · cases bm
          · go_wp2
            go_ret
            exact ⟨rfl, by (repeat' (first | (with_reducible exact Below.refl _ _) | (with_reducible assumption) | (with_reducible exact bundrew (by assumption)) | (with_reducible refine balloc ?_ _) | (with_reducible refine bset ?_ _ ?_ _) | (with_reducible refine Below.drew ?_) | (with_reducible refine bdrewN ?_ _) | (with_reducible refine bvia (by assumption) ?_) | (with_reducible refine Below.trans ?_ (by assumption)) | omega | (simp; omega) | (simp; done)))⟩
          · go_wp2_with fail
            refine (fless_impl _ _ _ _ _).mono ?_
            rintro e w5 ⟨rfl, hbw5⟩
            obtain ⟨hcw5, hfw5, -, -, -, hsw5⟩ := bfacts5 hbw5
            try simp only [World.size_drew] at hcw5 hfw5
            try simp at hsw5
            have qw50 : w1.heap.size < w5.heap.size := (by omega)
            have rw50 : ∀ m : Nat, w1.heap.size < w5.heap.size + m := fun m => (by omega)
            have qw51 : w2.heap.size < w5.heap.size := (by omega)
            have rw51 : ∀ m : Nat, w2.heap.size < w5.heap.size + m := fun m => (by omega)
            have qw52 : w4.heap.size < w5.heap.size := (by omega)
            have rw52 : ∀ m : Nat, w4.heap.size < w5.heap.size + m := fun m => (by omega)
            go_wp2
            go_ret
            exact ⟨rfl, by (repeat' (first | (with_reducible exact Below.refl _ _) | (with_reducible assumption) | (with_reducible exact bundrew (by assumption)) | (with_reducible refine balloc ?_ _) | (with_reducible refine bset ?_ _ ?_ _) | (with_reducible refine Below.drew ?_) | (with_reducible refine bdrewN ?_ _) | (with_reducible refine bvia (by assumption) ?_) | (with_reducible refine Below.trans ?_ (by assumption)) | omega | (simp; omega) | (simp; done)))⟩
    · have TI := fun w => top_impl_no (f : Int) (r : Int) w hp
      have TS := fun w => top_spec_no (f : Int) (r : Int) w hp
      have HI := Lib.hid TI
      have HS := Lib.hid TS
      clear TI TS hp
      go_wp2_with fail
      refine (HI.out _).mono ?_
      rintro e w1 ⟨rfl, hbw1⟩
      obtain ⟨hcw1, hfw1, -, -, -, hsw1⟩ := bfacts5 hbw1
      try simp only [World.size_drew] at hcw1 hfw1
      try simp at hsw1
      go_wp2_with fail
      refine (HS.out _).mono ?_
      rintro e w2 ⟨rfl, hbw2⟩
      obtain ⟨hcw2, hfw2, -, -, -, hsw2⟩ := bfacts5 hbw2
      try simp only [World.size_drew] at hcw2 hfw2
      try simp at hsw2
      have qw20 : w1.heap.size < w2.heap.size := (by omega)
      have rw20 : ∀ m : Nat, w1.heap.size < w2.heap.size + m := fun m => (by omega)
      go_wp2_with (go_at_call 22; refine (alive_any _).mono ?_; rintro x w5 ⟨rfl, hb5⟩)
      go_ret
      exact ⟨rfl, by (repeat' (first | (with_reducible exact Below.refl _ _) | (with_reducible assumption) | (with_reducible exact bundrew (by assumption)) | (with_reducible refine balloc ?_ _) | (with_reducible refine bset ?_ _ ?_ _) | (with_reducible refine Below.drew ?_) | (with_reducible refine bdrewN ?_ _) | (with_reducible refine bvia (by assumption) ?_) | (with_reducible refine Below.trans ?_ (by assumption)) | omega | (simp; omega) | (simp; done)))⟩
end Go.Proofs.Ytkhooomjfjancaa
