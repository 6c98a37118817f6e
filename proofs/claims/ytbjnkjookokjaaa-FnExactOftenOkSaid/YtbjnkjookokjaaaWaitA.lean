/- FloorsValid of the reference, OftenOk of both: contracts; the walk of the law FnExactOftenOk. -/
import Derived.Test.YtbjnkjookokjaaaWithin
namespace Go.Proofs.Ytbjnkjookokjaaa
open Go.ChangeShapes Go.WideShapes Go.ChangeAt Go.RowKit

theorem fv_up {xs : List Int} (h : FV xs) : ∀ d i, i + d < xs.length → xs[i]?.getD 0 ≤ xs[i + d]?.getD 0
  | 0, i, _ => Int.le_refl _
  | d + 1, i, hi => by
    have h1 := fv_up h d i (by omega)
    have h2 := h.2.2.2.1 (i + d) (by omega)
    rw [show i + (d + 1) = i + d + 1 by omega]
    omega
theorem fv_range {xs : List Int} (h : FV xs) {j : Nat} (hj : j < xs.length) : 0 ≤ xs[j]?.getD 0 ∧ xs[j]?.getD 0 ≤ 60 := by
  have h1 := fv_up h j 0 (by omega)
  have h2 := fv_up h (xs.length - 1 - j) j (by omega)
  rw [show j + (xs.length - 1 - j) = xs.length - 1 by omega] at h2
  rw [Nat.zero_add] at h1
  have := h.2.2.1
  have := h.2.2.2.2
  omega

set_option maxHeartbeats 2000000 in
theorem fvs_any (A : Option Addr) (n c : Nat) (xs : List Int) (w : World) (h : Ints w A n xs) : Calls Try.prog 32 #[.slice A n c] w (Qt w (.bool (fvB xs))) := by
  have HL := Lib.hid h.1
  have hm := h.2.1
  have HI := Lib.hid h
  clear h
  go_enter Try.func32, Try.ntmps32
  go_wp2
  go_loopw [3] (fun i wr => (∃ m, wr = w.drewN m) ∧ ∃ k : Nat, k ≤ n ∧ i = .int .i64 k ∧ (∀ j, j < k → 0 ≤ xs[j]?.getD 0 ∧ xs[j]?.getD 0 ≤ 60) ∧ ∀ j, j + 1 < k → xs[j]?.getD 0 < xs[j + 1]?.getD 0) (fun i _ => n - (intOf i).toNat)
  case atStart => exact ⟨⟨0, rfl⟩, 0, Nat.zero_le _, rfl, fun j hj => by omega, fun j hj => by omega⟩
  case round =>
    obtain ⟨⟨m, hm0⟩, k, hk, rfl, hall, hasc⟩ := hrel
    have HR : Hid (Ints wr A n xs) := Lib.hid (by rw [hm0]; exact HI.out.drewN m)
    have HM := Lib.hid hm0
    have HA := Lib.hid hall
    have HB := Lib.hid hasc
    clear hm0 hall hasc
    by_cases hlt : k < n
    · obtain ⟨q, off, rfl, hb, hcc⟩ := HR.out.2.2 (by omega)
      obtain ⟨y, hy⟩ : ∃ y, xs[k]?.getD 0 = y := ⟨_, rfl⟩
      have e0 := hcc k hlt
      rw [hy] at e0
      have HY := Lib.hid hy
      have hlt' : (k : Int) < (n : Int) := by omega
      clear hy
      by_cases hi : inB y 0 60 = true
      · cases k with
        | zero =>
          have e1 : wr.cell? ⟨q, off, none⟩ = some (.int .i64 y) := by simpa using e0
          have hl0 : (0 : Int) < (n : Int) := by omega
          have hg : decide ((0 : Int) < 0) = false := by decide
          clear hcc
          go_wp2_with fail
          go_quiet ((go_at_call 31; exact Calls.quiet_of_same (flipW (l1In_any _ _ _ _))))
          all_goals go_wp2
          all_goals exact ⟨⟨⟨_, by rw [HM.out]; exact World.drewN_drewN _ _ _⟩, 1, by omega, rfl, fun j hj => by
            obtain rfl : j = 0 := by omega
            rw [HY.out]; have := inB_open hi; omega, fun j hj => by omega⟩, by simp [intOf]; omega⟩
        | succ k =>
          obtain ⟨z, hz⟩ : ∃ z, xs[k]?.getD 0 = z := ⟨_, rfl⟩
          have e1 := hcc k (by omega)
          rw [hz] at e1
          have HZ := Lib.hid hz
          have ew : IntKind.i64.wrap (((k + 1 : Nat) : Int) - 1) = (k : Int) := by rw [IntWalk.i64_in _ ⟨by omega, by omega⟩]; omega
          have ew2 : IntKind.i64.wrap ((k : Int) + 1 - 1) = (k : Int) := by rw [IntWalk.i64_in _ ⟨by omega, by omega⟩]; omega
          have hlt2 : (k : Int) < (n : Int) := by omega
          have hg : 0 < ((k + 1 : Nat) : Int) := by omega
          have hg2 : (0 : Int) < (k : Int) + 1 := by omega
          clear hcc hz
          by_cases hzy : y ≤ z
          · go_wp2_with fail
            go_quiet ((go_at_call 31; exact Calls.quiet_of_same (flipW (l1In_any _ _ _ _))))
            all_goals go_wp2
            all_goals go_ret
            all_goals exact ⟨ret_bool (fv_no fun hv => by have := hv.2.2.2.1 k (by rw [HL.out]; omega); rw [HZ.out, HY.out] at this; omega).symm, _, by rw [HM.out]; exact World.drewN_drewN _ _ _⟩
          · have hzy' : z < y := by omega
            go_wp2_with fail
            go_quiet ((go_at_call 31; exact Calls.quiet_of_same (flipW (l1In_any _ _ _ _))))
            all_goals go_wp2
            all_goals exact ⟨⟨⟨_, by rw [HM.out]; exact World.drewN_drewN _ _ _⟩, k + 1 + 1, by omega, by go_num, fun j hj => by
              by_cases e : j = k + 1
              · subst e; rw [HY.out]; have := inB_open hi; omega
              · exact HA.out j (by omega), fun j hj => by
              by_cases e : j = k
              · subst e; rw [HZ.out, HY.out]; omega
              · exact HB.out j (by omega)⟩, by simp [intOf]; omega⟩
      · have hi' := bfalse hi
        clear hcc
        go_wp2_with fail
        go_quiet ((go_at_call 31; exact Calls.quiet_of_same (flipW (l1In_any _ _ _ _))))
        all_goals go_wp2
        all_goals go_ret
        all_goals exact ⟨ret_bool (fv_no fun hv => by have := fv_range hv (j := k) (by rw [HL.out]; omega); rw [HY.out] at this; have := inB_shut hi; omega).symm, _, by rw [HM.out]; exact World.drewN_drewN _ _ _⟩
    · obtain rfl : k = n := by omega
      by_cases h8 : inB (k : Int) 1 8 = true
      · obtain ⟨u1, u2⟩ := inB_open h8
        obtain ⟨q, off, rfl, hb, hcc⟩ := HR.out.2.2 (by omega)
        obtain ⟨y, hy⟩ : ∃ y, xs[0]?.getD 0 = y := ⟨_, rfl⟩
        have e0 := hcc 0 (by omega)
        rw [hy, Nat.add_zero] at e0
        have HY := Lib.hid hy
        clear hy hcc
        have hl0 : (0 : Int) < (k : Int) := by omega
        rcases beq_or y 0 with ⟨y1, g1⟩ | ⟨y1, g1⟩
        · have HF : Hid (fvB xs = true) := Lib.hid (fv_yes ⟨by rw [HL.out]; omega, by rw [HL.out]; omega, by rw [HY.out, g1], fun i hi => HB.out i (by rw [HL.out] at hi; omega), by rw [HL.out]; exact (HA.out (k - 1) (by omega)).2⟩)
          clear g1
          go_wp2_with (go_at_call 31; refine (l1In_any _ _ _ _).mono ?_; rintro e w' ⟨rfl, rfl⟩)
          go_ret
          exact ⟨ret_bool HF.out.symm, _, HM.out⟩
        · have HF : Hid (fvB xs = false) := Lib.hid (fv_no fun hv => by have := hv.2.2.1; rw [HY.out] at this; omega)
          clear g1
          go_wp2_with (go_at_call 31; refine (l1In_any _ _ _ _).mono ?_; rintro e w' ⟨rfl, rfl⟩)
          go_ret
          exact ⟨ret_bool HF.out.symm, _, HM.out⟩
      · have h8' := bfalse h8
        have HF : Hid (fvB xs = false) := Lib.hid (fv_no fun hv => by have := hv.1; have := hv.2.1; rw [HL.out] at *; have := inB_shut h8; omega)
        go_wp2_with (go_at_call 31; refine (l1In_any _ _ _ _).mono ?_; rintro e w' ⟨rfl, rfl⟩)
        go_ret
        exact ⟨ret_bool HF.out.symm, _, HM.out⟩

/-- Numbers of calls for valid floors; a Bool that the walk does not open. -/
def oftB (xs os : List Int) : Bool := fvB xs && decide (os.length = xs.length) && allB os 0 20
theorem oftB_iff {xs os : List Int} : oftB xs os = true ↔ fvB xs = true ∧ os.length = xs.length ∧ allB os 0 20 = true := by simp [oftB, and_assoc]
theorem oftB_no {xs os : List Int} (h : ¬ (fvB xs = true ∧ os.length = xs.length ∧ allB os 0 20 = true)) : oftB xs os = false := by
  cases e : oftB xs os with
  | false => rfl
  | true => exact absurd (oftB_iff.1 e) h

set_option maxHeartbeats 2000000 in
theorem oft_impl (A : Option Addr) (n c : Nat) (xs : List Int) (A' : Option Addr) (n' c' : Nat) (os : List Int) (w : World) (h : Ints w A n xs) (h' : Ints w A' n' os) :
    Calls Try.prog 13 #[.slice A n c, .slice A' n' c'] w (Qt w (.bool (oftB xs os))) := by
  have HL := Lib.hid h.1
  have HL' := Lib.hid h'.1
  cases hf : fvB xs
  · have HF : Hid (oftB xs os = false) := Lib.hid (oftB_no fun e => by rw [hf] at e; exact absurd e.1 (by simp))
    go_enter Try.func13, Try.ntmps13
    go_wp2_with fail
    refine (fv_any _ _ _ xs _ h).mono ?_
    rintro e w' ⟨rfl, m, rfl⟩
    go_wp2
    go_ret
    exact ⟨ret_bool HF.out.symm, _, rfl⟩
  · rcases beq_or (n' : Int) (n : Int) with ⟨e1, g1⟩ | ⟨e1, g1⟩
    · have HF : Hid (oftB xs os = allB os 0 20) := Lib.hid (by
        have := HL.out
        have := HL'.out
        rw [Bool.eq_iff_iff, oftB_iff]
        exact ⟨fun e => e.2.2, fun e => ⟨hf, by omega, e⟩⟩)
      clear g1
      go_enter Try.func13, Try.ntmps13
      go_wp2_with fail
      refine (fv_any _ _ _ xs _ h).mono ?_
      rintro e w' ⟨rfl, m, rfl⟩
      go_wp2_with fail
      refine (within_to _ _ _ os 21 20 rfl _ (h'.drewN m)).mono ?_
      rintro e w' ⟨rfl, rfl⟩
      go_wp2
      go_ret
      exact ⟨ret_bool HF.out.symm, _, rfl⟩
    · have HF : Hid (oftB xs os = false) := Lib.hid (oftB_no fun e => by have := e.2.1; have := HL.out; have := HL'.out; omega)
      clear g1
      go_enter Try.func13, Try.ntmps13
      go_wp2_with fail
      refine (fv_any _ _ _ xs _ h).mono ?_
      rintro e w' ⟨rfl, m, rfl⟩
      go_wp2
      go_ret
      exact ⟨ret_bool HF.out.symm, _, rfl⟩

set_option maxHeartbeats 2000000 in
theorem oft_spec (A : Option Addr) (n c : Nat) (xs : List Int) (A' : Option Addr) (n' c' : Nat) (os : List Int) (w : World) (h : Ints w A n xs) (h' : Ints w A' n' os) :
    Calls Try.prog 11 #[.slice A n c, .slice A' n' c'] w (Qt w (.bool (oftB xs os))) := by
  have HL := Lib.hid h.1
  have HL' := Lib.hid h'.1
  have hm' := h'.2.1
  have HC' := Lib.hid h'.2.2
  go_enter Try.func11, Try.ntmps11
  go_wp2
  go_loop [5] (fun i => ∃ k : Nat, k ≤ n' ∧ i = .int .i64 k ∧ ∀ j, j < k → 0 ≤ os[j]?.getD 0 ∧ os[j]?.getD 0 ≤ 20) (fun i => n' - (intOf i).toNat)
  case atStart => exact ⟨0, Nat.zero_le _, rfl, fun j hj => by omega⟩
  case round =>
    obtain ⟨k, hk, rfl, hall⟩ := hrel
    have HA := Lib.hid hall
    clear hall
    by_cases hlt : k < n'
    · obtain ⟨q, off, rfl, hb, hcc⟩ := HC'.out (by omega)
      obtain ⟨y, hy⟩ : ∃ y, os[k]?.getD 0 = y := ⟨_, rfl⟩
      have e0 := hcc k hlt
      rw [hy] at e0
      have HY := Lib.hid hy
      clear hcc hy
      have hlt' : (k : Int) < (n' : Int) := by omega
      by_cases hi : inB y 0 20 = true
      · go_wp2_with (go_at_call 31; refine (l1In_any _ _ _ _).mono ?_; rintro e w' ⟨rfl, rfl⟩)
        go_round
        case rel => exact ⟨k + 1, by omega, by go_num, fun j hj => by
          by_cases e : j = k
          · subst e; rw [HY.out]; have := inB_open hi; omega
          · exact HA.out j (by omega)⟩
        case measure => simp [intOf]; omega
      · have hi' := bfalse hi
        go_wp2_with (go_at_call 31; refine (l1In_any _ _ _ _).mono ?_; rintro e w' ⟨rfl, rfl⟩)
        go_ret
        exact ⟨ret_bool (oftB_no fun e => by have := allB_at e.2.2 HL'.out hlt; rw [HY.out] at this; have := inB_shut hi; omega).symm, 0, rfl⟩
    · obtain rfl : k = n' := by omega
      have H1 : Hid (allB os 0 20 = true) := Lib.hid (allB_yes HL'.out HA.out)
      cases hf : fvB xs
      · have HF : Hid (oftB xs os = false) := Lib.hid (oftB_no fun e => by rw [hf] at e; exact absurd e.1 (by simp))
        go_wp2_with fail
        refine (fvs_any _ _ _ xs _ h).mono ?_
        rintro e w' ⟨rfl, m, rfl⟩
        go_wp2
        go_ret
        exact ⟨ret_bool HF.out.symm, _, rfl⟩
      · rcases beq_or (k : Int) (n : Int) with ⟨e1, g1⟩ | ⟨e1, g1⟩
        · have HF : Hid (oftB xs os = true) := Lib.hid (oftB_iff.2 ⟨hf, by have := HL.out; have := HL'.out; omega, H1.out⟩)
          clear g1
          go_wp2_with fail
          refine (fvs_any _ _ _ xs _ h).mono ?_
          rintro e w' ⟨rfl, m, rfl⟩
          go_wp2
          go_ret
          exact ⟨ret_bool HF.out.symm, _, rfl⟩
        · have HF : Hid (oftB xs os = false) := Lib.hid (oftB_no fun e => by have := e.2.1; have := HL.out; have := HL'.out; omega)
          clear g1
          go_wp2_with fail
          refine (fvs_any _ _ _ xs _ h).mono ?_
          rintro e w' ⟨rfl, m, rfl⟩
          go_wp2
          go_ret
          exact ⟨ret_bool HF.out.symm, _, rfl⟩

set_option maxHeartbeats 2000000 in
theorem walk_FnExactOftenOk (A0 : Option Addr) (n0 c0 : Nat) (xs : List Int) (A1 : Option Addr) (n1 c1 : Nat) (os : List Int) (w : World) (h0 : Ints w A0 n0 xs) (h1 : Ints w A1 n1 os) :
    Calls Try.prog 3 #[Value.slice A0 n0 c0, Value.slice A1 n1 c1] w fun e w' => e = .returned (.bool true) ∧ Below w.heap.size w w' := by
  by_cases k0 : n0 ≤ 1048576
  · have l0 : (n0 : Int) ≤ 1048576 := by omega
    by_cases k1 : n1 ≤ 1048576
    · have l1 : (n1 : Int) ≤ 1048576 := by omega
      go_enter Try.func3, Try.ntmps3
      go_wp2_with fail
      refine (toIntsC_any A0 n0 c0 xs _ (h0.below (by (repeat' (first | (with_reducible exact Below.refl _ _) | (with_reducible assumption) | (with_reducible exact bundrew (by assumption)) | (with_reducible refine balloc ?_ _) | (with_reducible refine bset ?_ _ ?_ _) | (with_reducible refine Below.drew ?_) | (with_reducible refine bdrewN ?_ _) | (with_reducible refine bvia (by assumption) ?_) | (with_reducible refine Below.trans ?_ (by assumption)) | omega | (simp; omega) | (simp; done))))) k0).mono ?_
      rintro e w1 ⟨g1, rfl, hg1, hP1, hbw1⟩
      obtain ⟨hcw1, hfw1, -, -, -, hsw1⟩ := bfacts5 hbw1
      try simp only [World.size_drew] at hcw1 hfw1
      try simp at hsw1
      go_wp2_with fail
      refine (toIntsC_any A1 n1 c1 os _ (h1.below (by (repeat' (first | (with_reducible exact Below.refl _ _) | (with_reducible assumption) | (with_reducible exact bundrew (by assumption)) | (with_reducible refine balloc ?_ _) | (with_reducible refine bset ?_ _ ?_ _) | (with_reducible refine Below.drew ?_) | (with_reducible refine bdrewN ?_ _) | (with_reducible refine bvia (by assumption) ?_) | (with_reducible refine Below.trans ?_ (by assumption)) | omega | (simp; omega) | (simp; done))))) k1).mono ?_
      rintro e w2 ⟨g2, rfl, hg2, hP2, hbw2⟩
      obtain ⟨hcw2, hfw2, -, -, -, hsw2⟩ := bfacts5 hbw2
      try simp only [World.size_drew] at hcw2 hfw2
      try simp at hsw2
      go_wp2_with fail
      refine (oft_spec _ _ _ xs _ _ _ os _ (hP1.below hbw2) hP2).mono ?_
      rintro e w' ⟨rfl, m3, rfl⟩
      go_wp2_with fail
      refine (toIntsC_any A0 n0 c0 xs _ (h0.below (by (repeat' (first | (with_reducible exact Below.refl _ _) | (with_reducible assumption) | (with_reducible exact bundrew (by assumption)) | (with_reducible refine balloc ?_ _) | (with_reducible refine bset ?_ _ ?_ _) | (with_reducible refine Below.drew ?_) | (with_reducible refine bdrewN ?_ _) | (with_reducible refine bvia (by assumption) ?_) | (with_reducible refine Below.trans ?_ (by assumption)) | omega | (simp; omega) | (simp; done))))) k0).mono ?_
      rintro e w4 ⟨g4, rfl, hg4, hP4, hbw4⟩
      obtain ⟨hcw4, hfw4, -, -, -, hsw4⟩ := bfacts5 hbw4
      try simp only [World.size_drew] at hcw4 hfw4
      try simp at hsw4
      go_wp2_with fail
      refine (toIntsC_any A1 n1 c1 os _ (h1.below (by (repeat' (first | (with_reducible exact Below.refl _ _) | (with_reducible assumption) | (with_reducible exact bundrew (by assumption)) | (with_reducible refine balloc ?_ _) | (with_reducible refine bset ?_ _ ?_ _) | (with_reducible refine Below.drew ?_) | (with_reducible refine bdrewN ?_ _) | (with_reducible refine bvia (by assumption) ?_) | (with_reducible refine Below.trans ?_ (by assumption)) | omega | (simp; omega) | (simp; done))))) k1).mono ?_
      rintro e w5 ⟨g5, rfl, hg5, hP5, hbw5⟩
      obtain ⟨hcw5, hfw5, -, -, -, hsw5⟩ := bfacts5 hbw5
      try simp only [World.size_drew] at hcw5 hfw5
      try simp at hsw5
      go_wp2_with fail
      refine (oft_impl _ _ _ xs _ _ _ os _ (hP4.below hbw5) hP5).mono ?_
      rintro e w' ⟨rfl, m6, rfl⟩
      go_wp2_with fail
      refine (toIntsC_any A0 n0 c0 xs _ (h0.below (by (repeat' (first | (with_reducible exact Below.refl _ _) | (with_reducible assumption) | (with_reducible exact bundrew (by assumption)) | (with_reducible refine balloc ?_ _) | (with_reducible refine bset ?_ _ ?_ _) | (with_reducible refine Below.drew ?_) | (with_reducible refine bdrewN ?_ _) | (with_reducible refine bvia (by assumption) ?_) | (with_reducible refine Below.trans ?_ (by assumption)) | omega | (simp; omega) | (simp; done))))) k0).mono ?_
      rintro e w7 ⟨g7, rfl, hg7, hP7, hbw7⟩
      obtain ⟨hcw7, hfw7, -, -, -, hsw7⟩ := bfacts5 hbw7
      try simp only [World.size_drew] at hcw7 hfw7
      try simp at hsw7
      go_wp2_with fail
      refine (eqInts_any _ _ _ _ _ xs _ (((hP4.below hbw5).drewN m6).below hbw7) hP7).mono ?_
      rintro e w' ⟨rfl, m8, rfl⟩
      go_wp2_with fail
      refine (toIntsC_any A1 n1 c1 os _ (h1.below (by (repeat' (first | (with_reducible exact Below.refl _ _) | (with_reducible assumption) | (with_reducible exact bundrew (by assumption)) | (with_reducible refine balloc ?_ _) | (with_reducible refine bset ?_ _ ?_ _) | (with_reducible refine Below.drew ?_) | (with_reducible refine bdrewN ?_ _) | (with_reducible refine bvia (by assumption) ?_) | (with_reducible refine Below.trans ?_ (by assumption)) | omega | (simp; omega) | (simp; done))))) k1).mono ?_
      rintro e w9 ⟨g9, rfl, hg9, hP9, hbw9⟩
      obtain ⟨hcw9, hfw9, -, -, -, hsw9⟩ := bfacts5 hbw9
      try simp only [World.size_drew] at hcw9 hfw9
      try simp at hsw9
      go_wp2_with fail
      refine (eqInts_any _ _ _ _ _ os _ ((((hP5.drewN m6).below hbw7).drewN m8).below hbw9) hP9).mono ?_
      rintro e w' ⟨rfl, m10, rfl⟩
      go_wp2
      go_ret
      exact ⟨rfl, by (repeat' (first | (with_reducible exact Below.refl _ _) | (with_reducible assumption) | (with_reducible exact bundrew (by assumption)) | (with_reducible refine balloc ?_ _) | (with_reducible refine bset ?_ _ ?_ _) | (with_reducible refine Below.drew ?_) | (with_reducible refine bdrewN ?_ _) | (with_reducible refine bvia (by assumption) ?_) | (with_reducible refine Below.trans ?_ (by assumption)) | omega | (simp; omega) | (simp; done)))⟩
    · have l1 : (1048576 : Int) < (n1 : Int) := by omega
      go_enter Try.func3, Try.ntmps3
      go_wp2
      go_ret
      exact ⟨rfl, by (repeat' (first | (with_reducible exact Below.refl _ _) | (with_reducible assumption) | (with_reducible exact bundrew (by assumption)) | (with_reducible refine balloc ?_ _) | (with_reducible refine bset ?_ _ ?_ _) | (with_reducible refine Below.drew ?_) | (with_reducible refine bdrewN ?_ _) | (with_reducible refine bvia (by assumption) ?_) | (with_reducible refine Below.trans ?_ (by assumption)) | omega | (simp; omega) | (simp; done)))⟩
  · have l0 : (1048576 : Int) < (n0 : Int) := by omega
    go_enter Try.func3, Try.ntmps3
    go_wp2
    go_ret
    exact ⟨rfl, by (repeat' (first | (with_reducible exact Below.refl _ _) | (with_reducible assumption) | (with_reducible exact bundrew (by assumption)) | (with_reducible refine balloc ?_ _) | (with_reducible refine bset ?_ _ ?_ _) | (with_reducible refine Below.drew ?_) | (with_reducible refine bdrewN ?_ _) | (with_reducible refine bvia (by assumption) ?_) | (with_reducible refine Below.trans ?_ (by assumption)) | omega | (simp; omega) | (simp; done)))⟩
end Go.Proofs.Ytbjnkjookokjaaa
