/- OftenOk of the program and of the reference: contracts; the walk of the law FnExactOftenOk. -/
import Derived.Test.YtbjnkjookokjaaaFvs
namespace Go.Proofs.Ytbjnkjookokjaaa
open Go.ChangeShapes Go.WideShapes Go.ChangeAt Go.RowKit

/-- Numbers of calls for valid floors; a Bool that the walk does not open. -/
def oftB (xs os : List Int) : Bool := fvB xs && decide (os.length = xs.length) && allB os 0 20
theorem oftB_iff {xs os : List Int} : oftB xs os = true ↔ fvB xs = true ∧ os.length = xs.length ∧ allB os 0 20 = true := by simp [oftB, and_assoc]
theorem oftB_no {xs os : List Int} (h : ¬ (fvB xs = true ∧ os.length = xs.length ∧ allB os 0 20 = true)) : oftB xs os = false := by
  cases e : oftB xs os with
  | false => rfl
  | true => exact absurd (oftB_iff.1 e) h

set_option maxHeartbeats 2000000 in
theorem oft_impl (A : Option Addr) (n c : Nat) (xs : List Int) (A' : Option Addr) (n' c' : Nat) (os : List Int) (w : World) (h : Ints w A n xs) (h' : Ints w A' n' os) :
    Calls Try.prog 13 #[.slice A n c, .slice A' n' c'] w (Qt w (.bool (oftB xs os))) := by
  have HL := Lib.hid h.1
  have HL' := Lib.hid h'.1
  cases hf : fvB xs
  · have HF : Hid (oftB xs os = false) := Lib.hid (oftB_no fun e => by rw [hf] at e; exact absurd e.1 (by simp))
    go_enter Try.func13, Try.ntmps13
    go_wp2_with fail
    refine (fv_any _ _ _ xs _ h).mono ?_
    rintro e w' ⟨rfl, m, rfl⟩
    go_wp2
    go_ret
    exact ⟨ret_bool HF.out.symm, _, rfl⟩
  · rcases beq_or (n' : Int) (n : Int) with ⟨e1, g1⟩ | ⟨e1, g1⟩
    · have HF : Hid (oftB xs os = allB os 0 20) := Lib.hid (by
        have := HL.out
        have := HL'.out
        rw [Bool.eq_iff_iff, oftB_iff]
        exact ⟨fun e => e.2.2, fun e => ⟨hf, by omega, e⟩⟩)
      clear g1
      go_enter Try.func13, Try.ntmps13
      go_wp2_with fail
      refine (fv_any _ _ _ xs _ h).mono ?_
      rintro e w' ⟨rfl, m, rfl⟩
      go_wp2_with fail
      refine (within_to _ _ _ os 21 20 rfl _ (h'.drewN m)).mono ?_
      rintro e w' ⟨rfl, rfl⟩
      go_wp2
      go_ret
      exact ⟨ret_bool HF.out.symm, _, rfl⟩
    · have HF : Hid (oftB xs os = false) := Lib.hid (oftB_no fun e => by have := e.2.1; have := HL.out; have := HL'.out; omega)
      clear g1
      go_enter Try.func13, Try.ntmps13
      go_wp2_with fail
      refine (fv_any _ _ _ xs _ h).mono ?_
      rintro e w' ⟨rfl, m, rfl⟩
      go_wp2
      go_ret
      exact ⟨ret_bool HF.out.symm, _, rfl⟩

set_option maxHeartbeats 2000000 in
theorem oft_spec (A : Option Addr) (n c : Nat) (xs : List Int) (A' : Option Addr) (n' c' : Nat) (os : List Int) (w : World) (h : Ints w A n xs) (h' : Ints w A' n' os) :
    Calls Try.prog 11 #[.slice A n c, .slice A' n' c'] w (Qt w (.bool (oftB xs os))) := by
  have HL := Lib.hid h.1
  have HL' := Lib.hid h'.1
  have hm' := h'.2.1
  have HC' := Lib.hid h'.2.2
  go_enter Try.func11, Try.ntmps11
  go_wp2
  go_loop [5] (fun i => ∃ k : Nat, k ≤ n' ∧ i = .int .i64 k ∧ ∀ j, j < k → 0 ≤ os[j]?.getD 0 ∧ os[j]?.getD 0 ≤ 20) (fun i => n' - (intOf i).toNat)
  case atStart => exact ⟨0, Nat.zero_le _, rfl, fun j hj => by omega⟩
  case round =>
    obtain ⟨k, hk, rfl, hall⟩ := hrel
    have HA := Lib.hid hall
    clear hall
    by_cases hlt : k < n'
    · obtain ⟨q, off, rfl, hb, hcc⟩ := HC'.out (by omega)
      obtain ⟨y, hy⟩ : ∃ y, os[k]?.getD 0 = y := ⟨_, rfl⟩
      have e0 := hcc k hlt
      rw [hy] at e0
      have HY := Lib.hid hy
      clear hcc hy
      have hlt' : (k : Int) < (n' : Int) := by omega
      by_cases hi : inB y 0 20 = true
      · go_wp2_with (go_at_call 31; refine (l1In_any _ _ _ _).mono ?_; rintro e w' ⟨rfl, rfl⟩)
        go_round
        case rel => exact ⟨k + 1, by omega, by go_num, fun j hj => by
          by_cases e : j = k
          · subst e; rw [HY.out]; have := inB_open hi; omega
          · exact HA.out j (by omega)⟩
        case measure => simp [intOf]; omega
      · have hi' := bfalse hi
        go_wp2_with (go_at_call 31; refine (l1In_any _ _ _ _).mono ?_; rintro e w' ⟨rfl, rfl⟩)
        go_ret
        exact ⟨ret_bool (oftB_no fun e => by have := allB_at e.2.2 HL'.out hlt; rw [HY.out] at this; have := inB_shut hi; omega).symm, 0, rfl⟩
    · obtain rfl : k = n' := by omega
      have H1 : Hid (allB os 0 20 = true) := Lib.hid (allB_yes HL'.out HA.out)
      cases hf : fvB xs
      · have HF : Hid (oftB xs os = false) := Lib.hid (oftB_no fun e => by rw [hf] at e; exact absurd e.1 (by simp))
        go_wp2_with fail
        refine (fvs_any _ _ _ xs _ h).mono ?_
        rintro e w' ⟨rfl, m, rfl⟩
        go_wp2
        go_ret
        exact ⟨ret_bool HF.out.symm, _, rfl⟩
      · rcases beq_or (k : Int) (n : Int) with ⟨e1, g1⟩ | ⟨e1, g1⟩
        · have HF : Hid (oftB xs os = true) := Lib.hid (oftB_iff.2 ⟨hf, by have := HL.out; have := HL'.out; omega, H1.out⟩)
          clear g1
          go_wp2_with fail
          refine (fvs_any _ _ _ xs _ h).mono ?_
          rintro e w' ⟨rfl, m, rfl⟩
          go_wp2
          go_ret
          exact ⟨ret_bool HF.out.symm, _, rfl⟩
        · have HF : Hid (oftB xs os = false) := Lib.hid (oftB_no fun e => by have := e.2.1; have := HL.out; have := HL'.out; omega)
          clear g1
          go_wp2_with fail
          refine (fvs_any _ _ _ xs _ h).mono ?_
          rintro e w' ⟨rfl, m, rfl⟩
          go_wp2
          go_ret
          exact ⟨ret_bool HF.out.symm, _, rfl⟩

set_option maxHeartbeats 2000000 in
theorem walk_FnExactOftenOk (A0 : Option Addr) (n0 c0 : Nat) (xs : List Int) (A1 : Option Addr) (n1 c1 : Nat) (os : List Int) (w : World) (h0 : Ints w A0 n0 xs) (h1 : Ints w A1 n1 os) :
    Calls Try.prog 3 #[Value.slice A0 n0 c0, Value.slice A1 n1 c1] w fun e w' => e = .returned (.bool true) ∧ Below w.heap.size w w' := by
  by_cases k0 : n0 ≤ 1048576
  · have l0 : (n0 : Int) ≤ 1048576 := by omega
    by_cases k1 : n1 ≤ 1048576
    · have l1 : (n1 : Int) ≤ 1048576 := by omega
      go_enter Try.func3, Try.ntmps3
      go_wp2_with fail
      refine (toIntsC_any A0 n0 c0 xs _ (h0.below (by (repeat' (first | (with_reducible exact Below.refl _ _) | (with_reducible assumption) | (with_reducible exact bundrew (by assumption)) | (with_reducible refine balloc ?_ _) | (with_reducible refine bset ?_ _ ?_ _) | (with_reducible refine Below.drew ?_) | (with_reducible refine bdrewN ?_ _) | (with_reducible refine bvia (by assumption) ?_) | (with_reducible refine Below.trans ?_ (by assumption)) | omega | (simp; omega) | (simp; done))))) k0).mono ?_
      rintro e w1 ⟨g1, rfl, hg1, hP1, hbw1⟩
      obtain ⟨hcw1, hfw1, -, -, -, hsw1⟩ := bfacts5 hbw1
      try simp only [World.size_drew] at hcw1 hfw1
      try simp at hsw1
      go_wp2_with fail
      refine (toIntsC_any A1 n1 c1 os _ (h1.below (by (repeat' (first | (with_reducible exact Below.refl _ _) | (with_reducible assumption) | (with_reducible exact bundrew (by assumption)) | (with_reducible refine balloc ?_ _) | (with_reducible refine bset ?_ _ ?_ _) | (with_reducible refine Below.drew ?_) | (with_reducible refine bdrewN ?_ _) | (with_reducible refine bvia (by assumption) ?_) | (with_reducible refine Below.trans ?_ (by assumption)) | omega | (simp; omega) | (simp; done))))) k1).mono ?_
      rintro e w2 ⟨g2, rfl, hg2, hP2, hbw2⟩
      obtain ⟨hcw2, hfw2, -, -, -, hsw2⟩ := bfacts5 hbw2
      try simp only [World.size_drew] at hcw2 hfw2
      try simp at hsw2
      go_wp2_with fail
      refine (oft_spec _ _ _ xs _ _ _ os _ (hP1.below hbw2) hP2).mono ?_
      rintro e w' ⟨rfl, m3, rfl⟩
      go_wp2_with fail
      refine (toIntsC_any A0 n0 c0 xs _ (h0.below (by (repeat' (first | (with_reducible exact Below.refl _ _) | (with_reducible assumption) | (with_reducible exact bundrew (by assumption)) | (with_reducible refine balloc ?_ _) | (with_reducible refine bset ?_ _ ?_ _) | (with_reducible refine Below.drew ?_) | (with_reducible refine bdrewN ?_ _) | (with_reducible refine bvia (by assumption) ?_) | (with_reducible refine Below.trans ?_ (by assumption)) | omega | (simp; omega) | (simp; done))))) k0).mono ?_
      rintro e w4 ⟨g4, rfl, hg4, hP4, hbw4⟩
      obtain ⟨hcw4, hfw4, -, -, -, hsw4⟩ := bfacts5 hbw4
      try simp only [World.size_drew] at hcw4 hfw4
      try simp at hsw4
      go_wp2_with fail
      refine (toIntsC_any A1 n1 c1 os _ (h1.below (by (repeat' (first | (with_reducible exact Below.refl _ _) | (with_reducible assumption) | (with_reducible exact bundrew (by assumption)) | (with_reducible refine balloc ?_ _) | (with_reducible refine bset ?_ _ ?_ _) | (with_reducible refine Below.drew ?_) | (with_reducible refine bdrewN ?_ _) | (with_reducible refine bvia (by assumption) ?_) | (with_reducible refine Below.trans ?_ (by assumption)) | omega | (simp; omega) | (simp; done))))) k1).mono ?_
      rintro e w5 ⟨g5, rfl, hg5, hP5, hbw5⟩
      obtain ⟨hcw5, hfw5, -, -, -, hsw5⟩ := bfacts5 hbw5
      try simp only [World.size_drew] at hcw5 hfw5
      try simp at hsw5
      go_wp2_with fail
      refine (oft_impl _ _ _ xs _ _ _ os _ (hP4.below hbw5) hP5).mono ?_
      rintro e w' ⟨rfl, m6, rfl⟩
      go_wp2_with fail
      refine (toIntsC_any A0 n0 c0 xs _ (h0.below (by (repeat' (first | (with_reducible exact Below.refl _ _) | (with_reducible assumption) | (with_reducible exact bundrew (by assumption)) | (with_reducible refine balloc ?_ _) | (with_reducible refine bset ?_ _ ?_ _) | (with_reducible refine Below.drew ?_) | (with_reducible refine bdrewN ?_ _) | (with_reducible refine bvia (by assumption) ?_) | (with_reducible refine Below.trans ?_ (by assumption)) | omega | (simp; omega) | (simp; done))))) k0).mono ?_
      rintro e w7 ⟨g7, rfl, hg7, hP7, hbw7⟩
      obtain ⟨hcw7, hfw7, -, -, -, hsw7⟩ := bfacts5 hbw7
      try simp only [World.size_drew] at hcw7 hfw7
      try simp at hsw7
      go_wp2_with fail
      refine (eqInts_any _ _ _ _ _ xs _ (((hP4.below hbw5).drewN m6).below hbw7) hP7).mono ?_
      rintro e w' ⟨rfl, m8, rfl⟩
      go_wp2_with fail
      refine (toIntsC_any A1 n1 c1 os _ (h1.below (by (repeat' (first | (with_reducible exact Below.refl _ _) | (with_reducible assumption) | (with_reducible exact bundrew (by assumption)) | (with_reducible refine balloc ?_ _) | (with_reducible refine bset ?_ _ ?_ _) | (with_reducible refine Below.drew ?_) | (with_reducible refine bdrewN ?_ _) | (with_reducible refine bvia (by assumption) ?_) | (with_reducible refine Below.trans ?_ (by assumption)) | omega | (simp; omega) | (simp; done))))) k1).mono ?_
      rintro e w9 ⟨g9, rfl, hg9, hP9, hbw9⟩
      obtain ⟨hcw9, hfw9, -, -, -, hsw9⟩ := bfacts5 hbw9
      try simp only [World.size_drew] at hcw9 hfw9
      try simp at hsw9
      go_wp2_with fail
      refine (eqInts_any _ _ _ _ _ os _ ((((hP5.drewN m6).below hbw7).drewN m8).below hbw9) hP9).mono ?_
      rintro e w' ⟨rfl, m10, rfl⟩
      go_wp2
      go_ret
      exact ⟨rfl, by (repeat' (first | (with_reducible exact Below.refl _ _) | (with_reducible assumption) | (with_reducible exact bundrew (by assumption)) | (with_reducible refine balloc ?_ _) | (with_reducible refine bset ?_ _ ?_ _) | (with_reducible refine Below.drew ?_) | (with_reducible refine bdrewN ?_ _) | (with_reducible refine bvia (by assumption) ?_) | (with_reducible refine Below.trans ?_ (by assumption)) | omega | (simp; omega) | (simp; done)))⟩
    · have l1 : (1048576 : Int) < (n1 : Int) := by omega
      go_enter Try.func3, Try.ntmps3
      go_wp2
      go_ret
      exact ⟨rfl, by (repeat' (first | (with_reducible exact Below.refl _ _) | (with_reducible assumption) | (with_reducible exact bundrew (by assumption)) | (with_reducible refine balloc ?_ _) | (with_reducible refine bset ?_ _ ?_ _) | (with_reducible refine Below.drew ?_) | (with_reducible refine bdrewN ?_ _) | (with_reducible refine bvia (by assumption) ?_) | (with_reducible refine Below.trans ?_ (by assumption)) | omega | (simp; omega) | (simp; done)))⟩
  · have l0 : (1048576 : Int) < (n0 : Int) := by omega
    go_enter Try.func3, Try.ntmps3
    go_wp2
    go_ret
    exact ⟨rfl, by (repeat' (first | (with_reducible exact Below.refl _ _) | (with_reducible assumption) | (with_reducible exact bundrew (by assumption)) | (with_reducible refine balloc ?_ _) | (with_reducible refine bset ?_ _ ?_ _) | (with_reducible refine Below.drew ?_) | (with_reducible refine bdrewN ?_ _) | (with_reducible refine bvia (by assumption) ?_) | (with_reducible refine Below.trans ?_ (by assumption)) | omega | (simp; omega) | (simp; done)))⟩
end Go.Proofs.Ytbjnkjookokjaaa
