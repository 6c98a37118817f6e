/- Lists within bounds; HallOk of the program and of the reference: contracts. -/
import Derived.Test.YtikoldnejkhepaaInts
namespace Go.Proofs.Ytikoldnejkhepaa
open Go.ChangeShapes Go.WideShapes Go.ChangeAt Go.RowKit

/-- All numbers of a list are in a..b; a Bool that the walk does not open. -/
def allB (xs : List Int) (a b : Int) : Bool := decide (∀ k, k < xs.length → a ≤ xs[k]?.getD 0 ∧ xs[k]?.getD 0 ≤ b)
theorem allB_iff {xs : List Int} {a b : Int} : allB xs a b = true ↔ ∀ k, k < xs.length → a ≤ xs[k]?.getD 0 ∧ xs[k]?.getD 0 ≤ b := by simp [allB]
theorem allB_yes {xs : List Int} {a b : Int} {n : Nat} (hn : xs.length = n) (h : ∀ k, k < n → a ≤ xs[k]?.getD 0 ∧ xs[k]?.getD 0 ≤ b) : allB xs a b = true := by rw [allB_iff, hn]; exact h
theorem allB_no {xs : List Int} {a b : Int} {n k : Nat} (hn : xs.length = n) (hk : k < n) (h : xs[k]?.getD 0 < a ∨ b < xs[k]?.getD 0) : allB xs a b = false := by
  cases e : allB xs a b with
  | false => rfl
  | true => have := allB_iff.1 e k (by omega); omega
theorem allB_at {xs : List Int} {a b : Int} {n k : Nat} (h : allB xs a b = true) (hn : xs.length = n) (hk : k < n) : a ≤ xs[k]?.getD 0 ∧ xs[k]?.getD 0 ≤ b := allB_iff.1 h k (by omega)

set_option maxHeartbeats 1000000 in
theorem within_any (A : Option Addr) (n c : Nat) (xs : List Int) (b : Int) (w : World) (h : Ints w A n xs) :
    Calls Try.prog 36 #[.slice A n c, .int .i64 b] w fun e w' => e = .returned (.bool (allB xs 0 (b - 1))) ∧ w = w' := by
  obtain ⟨hl, hm, hc⟩ := h
  have HL := Lib.hid hl
  have HC := Lib.hid hc
  clear hl hc
  go_enter Try.func36, Try.ntmps36
  go_wp2
  go_loop [9] (fun i => ∃ k : Nat, k ≤ n ∧ i = .int .i64 k ∧ ∀ j, j < k → 0 ≤ xs[j]?.getD 0 ∧ xs[j]?.getD 0 < b) (fun i => n - (intOf i).toNat)
  case atStart => exact ⟨0, Nat.zero_le _, rfl, fun j hj => by omega⟩
  case round =>
    obtain ⟨k, hk, rfl, hall⟩ := hrel
    have HA := Lib.hid hall
    clear hall
    by_cases hlt : k < n
    · obtain ⟨q, off, rfl, hb, hcc⟩ := HC.out (by omega)
      obtain ⟨y, hy⟩ : ∃ y, xs[k]?.getD 0 = y := ⟨_, rfl⟩
      have e0 := hcc k hlt
      rw [hy] at e0
      have HY := Lib.hid hy
      clear hcc hy
      have hlt' : (k : Int) < (n : Int) := by omega
      go_wp2
      all_goals first
        | (go_ret
           exact ⟨ret_bool (allB_no HL.out hlt (by rw [HY.out]; omega)).symm, rfl⟩)
        | (go_round
           case rel => exact ⟨k + 1, by omega, by go_num, fun j hj => by
            by_cases e : j = k
            · subst e; rw [HY.out]; omega
            · exact HA.out j (by omega)⟩
           case measure => simp [intOf]; omega)
    · obtain rfl : k = n := by omega
      go_wp2
      go_ret
      exact ⟨ret_bool (allB_yes HL.out (fun j hj => by have := HA.out j hj; omega)).symm, rfl⟩

theorem within_to (A : Option Addr) (n c : Nat) (xs : List Int) (b d : Int) (hb : b = d + 1) (w : World) (h : Ints w A n xs) :
    Calls Try.prog 36 #[.slice A n c, .int .i64 b] w fun e w' => e = .returned (.bool (allB xs 0 d)) ∧ w = w' := by
  have := within_any A n c xs b w h
  rwa [show b - 1 = d by omega] at this

/-- A hall, as a Bool that the walk does not open. -/
def hallB (gs rs : List Int) : Bool := decide (gs.length ≤ 6) && decide (1 ≤ rs.length) && decide (rs.length ≤ 3) && allB gs 0 7 && allB rs 0 8
theorem hallB_iff {gs rs : List Int} : hallB gs rs = true ↔ gs.length ≤ 6 ∧ 1 ≤ rs.length ∧ rs.length ≤ 3 ∧ allB gs 0 7 = true ∧ allB rs 0 8 = true := by
  simp [hallB, and_assoc]
theorem hallB_no {gs rs : List Int} (h : ¬ (gs.length ≤ 6 ∧ 1 ≤ rs.length ∧ rs.length ≤ 3 ∧ allB gs 0 7 = true ∧ allB rs 0 8 = true)) : hallB gs rs = false := by
  cases e : hallB gs rs with
  | false => rfl
  | true => exact absurd (hallB_iff.1 e) h

set_option maxHeartbeats 1000000 in
theorem hallOk_impl (A : Option Addr) (n c : Nat) (gs : List Int) (A' : Option Addr) (n' c' : Nat) (rs : List Int) (w : World) (h : Ints w A n gs) (h' : Ints w A' n' rs) :
    Calls Try.prog 15 #[.slice A n c, .slice A' n' c'] w fun e w' => e = .returned (.bool (hallB gs rs)) ∧ w = w' := by
  have hl := h.1
  have hl' := h'.1
  by_cases h1 : n ≤ 6 ∧ 1 ≤ n' ∧ n' ≤ 3
  · obtain ⟨p1, p2, p3⟩ := h1
    have q1 : (n : Int) ≤ 6 := by omega
    have q2 : 1 ≤ (n' : Int) := by omega
    have q3 : (n' : Int) ≤ 3 := by omega
    have HL := Lib.hid hl
    have HL' := Lib.hid hl'
    clear hl hl'
    cases ha : allB gs 0 7
    · have HH : Hid (hallB gs rs = false) := Lib.hid (hallB_no (fun hh => by rw [ha] at hh; exact absurd hh.2.2.2.1 (by simp)))
      go_enter Try.func15, Try.ntmps15
      go_wp2_with fail
      refine (within_to _ _ _ gs 8 7 rfl _ h).mono ?_
      rintro e w' ⟨rfl, rfl⟩
      go_wp2_with fail
      go_ret
      exact ⟨ret_bool HH.out.symm, rfl⟩
    · have HH : Hid (hallB gs rs = allB rs 0 8) := Lib.hid (by
        have := HL.out
        have := HL'.out
        rw [Bool.eq_iff_iff, hallB_iff]
        constructor
        · exact fun hh => hh.2.2.2.2
        · exact fun hh => ⟨by omega, by omega, by omega, ha, hh⟩)
      go_enter Try.func15, Try.ntmps15
      go_wp2_with fail
      refine (within_to _ _ _ gs 8 7 rfl _ h).mono ?_
      rintro e w' ⟨rfl, rfl⟩
      go_wp2_with fail
      refine (within_to _ _ _ rs 9 8 rfl _ h').mono ?_
      rintro e w' ⟨rfl, rfl⟩
      go_wp2
      go_ret
      exact ⟨ret_bool HH.out.symm, rfl⟩
  · have HH : Hid (hallB gs rs = false) := Lib.hid (hallB_no (fun hh => h1 ⟨by omega, by omega, by omega⟩))
    clear h h' hl hl'
    by_cases p1 : 6 < n
    · have q1 : 6 < (n : Int) := by omega
      go_enter Try.func15, Try.ntmps15
      go_wp2
      go_ret
      exact ⟨ret_bool HH.out.symm, rfl⟩
    · have q1 : (n : Int) ≤ 6 := by omega
      by_cases p2 : n' < 1
      · have q2 : (n' : Int) < 1 := by omega
        go_enter Try.func15, Try.ntmps15
        go_wp2
        go_ret
        exact ⟨ret_bool HH.out.symm, rfl⟩
      · have q2 : 1 ≤ (n' : Int) := by omega
        have q3 : 3 < (n' : Int) := by omega
        go_enter Try.func15, Try.ntmps15
        go_wp2
        go_ret
        exact ⟨ret_bool HH.out.symm, rfl⟩

set_option maxHeartbeats 1000000 in
theorem hallOk_spec (A : Option Addr) (n c : Nat) (gs : List Int) (A' : Option Addr) (n' c' : Nat) (rs : List Int) (w : World) (h : Ints w A n gs) (h' : Ints w A' n' rs) :
    Calls Try.prog 13 #[.slice A n c, .slice A' n' c'] w fun e w' => e = .returned (.bool (hallB gs rs)) ∧ w = w' := by
  obtain ⟨hl, hm, hc⟩ := h
  obtain ⟨hl', hm', hc'⟩ := h'
  have HL := Lib.hid hl
  have HC := Lib.hid hc
  have HL' := Lib.hid hl'
  have HC' := Lib.hid hc'
  clear hl hc hl' hc'
  go_enter Try.func13, Try.ntmps13
  go_wp2
  go_loop [5] (fun i => ∃ k : Nat, k ≤ n ∧ i = .int .i64 k ∧ ∀ j, j < k → 0 ≤ gs[j]?.getD 0 ∧ gs[j]?.getD 0 ≤ 7) (fun i => n - (intOf i).toNat)
  case atStart => exact ⟨0, Nat.zero_le _, rfl, fun j hj => by omega⟩
  case round =>
    obtain ⟨k, hk, rfl, hall⟩ := hrel
    have HA := Lib.hid hall
    clear hall
    by_cases hlt : k < n
    · obtain ⟨q, off, rfl, hb, hcc⟩ := HC.out (by omega)
      obtain ⟨y, hy⟩ : ∃ y, gs[k]?.getD 0 = y := ⟨_, rfl⟩
      have e0 := hcc k hlt
      rw [hy] at e0
      have HY := Lib.hid hy
      clear hcc hy
      have hlt' : (k : Int) < (n : Int) := by omega
      by_cases hi : inB y 0 7 = true
      · go_wp2_with (go_at_call 35; refine (l1In_any _ _ _ _).mono ?_; rintro e w' ⟨rfl, rfl⟩)
        go_round
        case rel => exact ⟨k + 1, by omega, by go_num, fun j hj => by
          by_cases e : j = k
          · subst e; rw [HY.out]; have := inB_open hi; omega
          · exact HA.out j (by omega)⟩
        case measure => simp [intOf]; omega
      · have hi' := bfalse hi
        go_wp2_with (go_at_call 35; refine (l1In_any _ _ _ _).mono ?_; rintro e w' ⟨rfl, rfl⟩)
        go_ret
        exact ⟨ret_bool (hallB_no fun hh => by have := allB_at hh.2.2.2.1 HL.out hlt; rw [HY.out] at this; have := inB_shut hi; omega).symm, rfl⟩
    · obtain rfl : k = n := by omega
      have H1 : Hid (allB gs 0 7 = true) := Lib.hid (allB_yes HL.out HA.out)
      clear HA
      go_wp2
      go_loop [6] (fun i => ∃ k : Nat, k ≤ n' ∧ i = .int .i64 k ∧ ∀ j, j < k → 0 ≤ rs[j]?.getD 0 ∧ rs[j]?.getD 0 ≤ 8) (fun i => n' - (intOf i).toNat)
      case atStart => exact ⟨0, Nat.zero_le _, rfl, fun j hj => by omega⟩
      case round =>
        obtain ⟨i, hi, rfl, hall⟩ := hrel
        have HA := Lib.hid hall
        clear hall
        by_cases hlt2 : i < n'
        · obtain ⟨q, off, rfl, hb, hcc⟩ := HC'.out (by omega)
          obtain ⟨y, hy⟩ : ∃ y, rs[i]?.getD 0 = y := ⟨_, rfl⟩
          have e0 := hcc i hlt2
          rw [hy] at e0
          have HY := Lib.hid hy
          clear hcc hy
          have hlt' : (i : Int) < (n' : Int) := by omega
          by_cases hin : inB y 0 8 = true
          · go_wp2_with (go_at_call 35; refine (l1In_any _ _ _ _).mono ?_; rintro e w' ⟨rfl, rfl⟩)
            go_round
            case rel => exact ⟨i + 1, by omega, by go_num, fun j hj => by
              by_cases e : j = i
              · subst e; rw [HY.out]; have := inB_open hin; omega
              · exact HA.out j (by omega)⟩
            case measure => simp [intOf]; omega
          · have hi' := bfalse hin
            go_wp2_with (go_at_call 35; refine (l1In_any _ _ _ _).mono ?_; rintro e w' ⟨rfl, rfl⟩)
            go_ret
            exact ⟨ret_bool (hallB_no fun hh => by have := allB_at hh.2.2.2.2 HL'.out hlt2; rw [HY.out] at this; have := inB_shut hin; omega).symm, rfl⟩
        · obtain rfl : i = n' := by omega
          have H2 : Hid (allB rs 0 8 = true) := Lib.hid (allB_yes HL'.out HA.out)
          have HH : Hid (hallB gs rs = (decide (k ≤ 6) && inB (i : Int) 1 3)) := Lib.hid (by
            have := HL.out
            have := HL'.out
            rw [Bool.eq_iff_iff, hallB_iff]
            simp only [Bool.and_eq_true, decide_eq_true_eq, inB]
            constructor
            · exact fun hh => ⟨by omega, by omega, by omega⟩
            · exact fun hh => ⟨by omega, by omega, by omega, H1.out, H2.out⟩)
          by_cases h6 : k ≤ 6
          · have h6' : (k : Int) ≤ 6 := by omega
            go_wp2_with (go_at_call 35; refine (l1In_any _ _ _ _).mono ?_; rintro e w' ⟨rfl, rfl⟩)
            go_ret
            exact ⟨ret_bool (by rw [HH.out]; simp [h6]), rfl⟩
          · have h6' : 6 < (k : Int) := by omega
            go_wp2_with (go_at_call 35; refine (l1In_any _ _ _ _).mono ?_; rintro e w' ⟨rfl, rfl⟩)
            go_ret
            exact ⟨ret_bool (by rw [HH.out]; simp [h6]), rfl⟩

set_option maxHeartbeats 2000000 in
theorem walk_FnExactHallOk (A : Option Addr) (n c : Nat) (gs : List Int) (A' : Option Addr) (n' c' : Nat) (rs : List Int) (w : World) (h : Ints w A n gs) (h' : Ints w A' n' rs) :
    Calls Try.prog 3 #[.slice A n c, .slice A' n' c'] w fun e w' => e = .returned (.bool true) ∧ Below w.heap.size w w' := by
  by_cases hn : n ≤ 1048576
  · have hn1 : (n : Int) ≤ 1048576 := by omega
    by_cases hn' : n' ≤ 1048576
    · have hn2 : (n' : Int) ≤ 1048576 := by omega
      go_enter Try.func3, Try.ntmps3
      go_wp2_with fail
      refine (toInts_any A n c gs _ (h.below (by (repeat' (first | (with_reducible exact Below.refl _ _) | (with_reducible assumption) | (with_reducible exact bundrew (by assumption)) | (with_reducible refine balloc ?_ _) | (with_reducible refine bset ?_ _ ?_ _) | (with_reducible refine Below.drew ?_) | (with_reducible refine bdrewN ?_ _) | (with_reducible refine bvia (by assumption) ?_) | (with_reducible refine Below.trans ?_ (by assumption)) | omega | (simp; omega) | (simp; done))))) hn).mono ?_
      rintro e w1 ⟨g1, c1, rfl, hg1, hP1, hbw1⟩
      obtain ⟨hcw1, hfw1, -, -, -, hsw1⟩ := bfacts5 hbw1
      try simp only [World.size_drew] at hcw1 hfw1
      try simp at hsw1
      go_wp2_with fail
      refine (toInts_any A' n' c' rs _ (h'.below (by (repeat' (first | (with_reducible exact Below.refl _ _) | (with_reducible assumption) | (with_reducible exact bundrew (by assumption)) | (with_reducible refine balloc ?_ _) | (with_reducible refine bset ?_ _ ?_ _) | (with_reducible refine Below.drew ?_) | (with_reducible refine bdrewN ?_ _) | (with_reducible refine bvia (by assumption) ?_) | (with_reducible refine Below.trans ?_ (by assumption)) | omega | (simp; omega) | (simp; done))))) hn').mono ?_
      rintro e w2 ⟨g2, c2, rfl, hg2, hP2, hbw2⟩
      obtain ⟨hcw2, hfw2, -, -, -, hsw2⟩ := bfacts5 hbw2
      try simp only [World.size_drew] at hcw2 hfw2
      try simp at hsw2
      go_wp2_with fail
      refine (hallOk_spec _ _ _ gs _ _ _ rs _ (hP1.below (by (repeat' (first | (with_reducible exact Below.refl _ _) | (with_reducible assumption) | (with_reducible exact bundrew (by assumption)) | (with_reducible refine balloc ?_ _) | (with_reducible refine bset ?_ _ ?_ _) | (with_reducible refine Below.drew ?_) | (with_reducible refine bdrewN ?_ _) | (with_reducible refine bvia (by assumption) ?_) | (with_reducible refine Below.trans ?_ (by assumption)) | omega | (simp; omega) | (simp; done))))) hP2).mono ?_
      rintro e w' ⟨rfl, rfl⟩
      go_wp2_with fail
      refine (toInts_any A n c gs _ (h.below (by (repeat' (first | (with_reducible exact Below.refl _ _) | (with_reducible assumption) | (with_reducible exact bundrew (by assumption)) | (with_reducible refine balloc ?_ _) | (with_reducible refine bset ?_ _ ?_ _) | (with_reducible refine Below.drew ?_) | (with_reducible refine bdrewN ?_ _) | (with_reducible refine bvia (by assumption) ?_) | (with_reducible refine Below.trans ?_ (by assumption)) | omega | (simp; omega) | (simp; done))))) hn).mono ?_
      rintro e w3 ⟨g3, c3, rfl, hg3, hP3, hbw3⟩
      obtain ⟨hcw3, hfw3, -, -, -, hsw3⟩ := bfacts5 hbw3
      try simp only [World.size_drew] at hcw3 hfw3
      try simp at hsw3
      go_wp2_with fail
      refine (toInts_any A' n' c' rs _ (h'.below (by (repeat' (first | (with_reducible exact Below.refl _ _) | (with_reducible assumption) | (with_reducible exact bundrew (by assumption)) | (with_reducible refine balloc ?_ _) | (with_reducible refine bset ?_ _ ?_ _) | (with_reducible refine Below.drew ?_) | (with_reducible refine bdrewN ?_ _) | (with_reducible refine bvia (by assumption) ?_) | (with_reducible refine Below.trans ?_ (by assumption)) | omega | (simp; omega) | (simp; done))))) hn').mono ?_
      rintro e w4 ⟨g4, c4, rfl, hg4, hP4, hbw4⟩
      obtain ⟨hcw4, hfw4, -, -, -, hsw4⟩ := bfacts5 hbw4
      try simp only [World.size_drew] at hcw4 hfw4
      try simp at hsw4
      go_wp2_with fail
      refine (hallOk_impl _ _ _ gs _ _ _ rs _ (hP3.below (by (repeat' (first | (with_reducible exact Below.refl _ _) | (with_reducible assumption) | (with_reducible exact bundrew (by assumption)) | (with_reducible refine balloc ?_ _) | (with_reducible refine bset ?_ _ ?_ _) | (with_reducible refine Below.drew ?_) | (with_reducible refine bdrewN ?_ _) | (with_reducible refine bvia (by assumption) ?_) | (with_reducible refine Below.trans ?_ (by assumption)) | omega | (simp; omega) | (simp; done))))) hP4).mono ?_
      rintro e w' ⟨rfl, rfl⟩
      go_wp2_with fail
      refine (toInts_any A n c gs _ (h.below (by (repeat' (first | (with_reducible exact Below.refl _ _) | (with_reducible assumption) | (with_reducible exact bundrew (by assumption)) | (with_reducible refine balloc ?_ _) | (with_reducible refine bset ?_ _ ?_ _) | (with_reducible refine Below.drew ?_) | (with_reducible refine bdrewN ?_ _) | (with_reducible refine bvia (by assumption) ?_) | (with_reducible refine Below.trans ?_ (by assumption)) | omega | (simp; omega) | (simp; done))))) hn).mono ?_
      rintro e w5 ⟨g5, c5, rfl, hg5, hP5, hbw5⟩
      obtain ⟨hcw5, hfw5, -, -, -, hsw5⟩ := bfacts5 hbw5
      try simp only [World.size_drew] at hcw5 hfw5
      try simp at hsw5
      go_wp2_with fail
      refine (eqInts_any _ _ _ _ _ gs _ ((hP3.below (by (repeat' (first | (with_reducible exact Below.refl _ _) | (with_reducible assumption) | (with_reducible exact bundrew (by assumption)) | (with_reducible refine balloc ?_ _) | (with_reducible refine bset ?_ _ ?_ _) | (with_reducible refine Below.drew ?_) | (with_reducible refine bdrewN ?_ _) | (with_reducible refine bvia (by assumption) ?_) | (with_reducible refine Below.trans ?_ (by assumption)) | omega | (simp; omega) | (simp; done))))).below hbw5) hP5).mono ?_
      rintro e w' ⟨rfl, m1, rfl⟩
      go_wp2_with fail
      refine (toInts_any A' n' c' rs _ (h'.below (by (repeat' (first | (with_reducible exact Below.refl _ _) | (with_reducible assumption) | (with_reducible exact bundrew (by assumption)) | (with_reducible refine balloc ?_ _) | (with_reducible refine bset ?_ _ ?_ _) | (with_reducible refine Below.drew ?_) | (with_reducible refine bdrewN ?_ _) | (with_reducible refine bvia (by assumption) ?_) | (with_reducible refine Below.trans ?_ (by assumption)) | omega | (simp; omega) | (simp; done))))) hn').mono ?_
      rintro e w6 ⟨g6, c6, rfl, hg6, hP6, hbw6⟩
      obtain ⟨hcw6, hfw6, -, -, -, hsw6⟩ := bfacts5 hbw6
      try simp only [World.size_drew] at hcw6 hfw6
      try simp at hsw6
      go_wp2_with fail
      refine (eqInts_any _ _ _ _ _ rs _ ((hP4.below (by (repeat' (first | (with_reducible exact Below.refl _ _) | (with_reducible assumption) | (with_reducible exact bundrew (by assumption)) | (with_reducible refine balloc ?_ _) | (with_reducible refine bset ?_ _ ?_ _) | (with_reducible refine Below.drew ?_) | (with_reducible refine bdrewN ?_ _) | (with_reducible refine bvia (by assumption) ?_) | (with_reducible refine Below.trans ?_ (by assumption)) | omega | (simp; omega) | (simp; done))))).below hbw6) hP6).mono ?_
      rintro e w' ⟨rfl, m2, rfl⟩
      go_wp2
      go_ret
      exact ⟨rfl, by (repeat' (first | (with_reducible exact Below.refl _ _) | (with_reducible assumption) | (with_reducible exact bundrew (by assumption)) | (with_reducible refine balloc ?_ _) | (with_reducible refine bset ?_ _ ?_ _) | (with_reducible refine Below.drew ?_) | (with_reducible refine bdrewN ?_ _) | (with_reducible refine bvia (by assumption) ?_) | (with_reducible refine Below.trans ?_ (by assumption)) | omega | (simp; omega) | (simp; done)))⟩
    · have hn2 : (1048576 : Int) < (n' : Int) := by omega
      go_enter Try.func3, Try.ntmps3
      go_wp2
      go_ret
      exact ⟨rfl, by (repeat' (first | (with_reducible exact Below.refl _ _) | (with_reducible assumption) | (with_reducible exact bundrew (by assumption)) | (with_reducible refine balloc ?_ _) | (with_reducible refine bset ?_ _ ?_ _) | (with_reducible refine Below.drew ?_) | (with_reducible refine bdrewN ?_ _) | (with_reducible refine bvia (by assumption) ?_) | (with_reducible refine Below.trans ?_ (by assumption)) | omega | (simp; omega) | (simp; done)))⟩
  · have hn1 : (1048576 : Int) < (n : Int) := by omega
    go_enter Try.func3, Try.ntmps3
    go_wp2
    go_ret
    exact ⟨rfl, by (repeat' (first | (with_reducible exact Below.refl _ _) | (with_reducible assumption) | (with_reducible exact bundrew (by assumption)) | (with_reducible refine balloc ?_ _) | (with_reducible refine bset ?_ _ ?_ _) | (with_reducible refine Below.drew ?_) | (with_reducible refine bdrewN ?_ _) | (with_reducible refine bvia (by assumption) ?_) | (with_reducible refine Below.trans ?_ (by assumption)) | omega | (simp; omega) | (simp; done)))⟩
end Go.Proofs.Ytikoldnejkhepaa
