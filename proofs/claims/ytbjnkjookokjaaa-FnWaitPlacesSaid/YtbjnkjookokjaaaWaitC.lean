/- WaitCost of the reference: contract; the walk of the law FnExactWaitCost. -/
import Derived.Test.YtbjnkjookokjaaaWaitB
namespace Go.Proofs.Ytbjnkjookokjaaa
open Go.ChangeShapes Go.WideShapes Go.ChangeAt Go.RowKit

set_option maxHeartbeats 4000000 in
theorem wc_spec (A : Option Addr) (n c : Nat) (xs : List Int) (A' : Option Addr) (n' c' : Nat) (os : List Int) (A2 : Option Addr) (n2 c2 : Nat) (ps : List Int) (w : World) (h : Ints w A n xs) (h' : Ints w A' n' os) (h2 : Ints w A2 n2 ps) :
    Calls Try.prog 15 #[.slice A n c, .slice A' n' c', .slice A2 n2 c2] w (Qt w (.int .i64 (wcI xs os ps))) := by
  have HL := Lib.hid h.1
  have HL' := Lib.hid h'.1
  have HL2 := Lib.hid h2.1
  have m2 : (n2 : Int) ≤ 9223372036854775807 := by have := h2.2.1; omega
  have hnm := h.2.1
  have O := fun w hx hy => oft_spec A n c xs A' n' c' os w hx hy
  cases hw : wcB xs os ps
  · rw [wcI_no (by simp [hw])]
    cases ho : oftB xs os
    · rw [ho] at O
      have HO := Lib.hid O
      clear O
      go_enter Try.func15, Try.ntmps15
      go_wp2_with (go_at_call 11; refine (HO.out _ h h').mono ?_; rintro e w' ⟨rfl, m, rfl⟩)
      go_ret
      exact qt_drew _ _ _
    · rw [ho] at O
      have HO := Lib.hid O
      clear O
      by_cases q1 : n2 = 0
      · have q1' : ((n2 : Int) == 0) = true := by rw [beq_iff_eq]; omega
        go_enter Try.func15, Try.ntmps15
        go_wp2_with (go_at_call 11; refine (HO.out _ h h').mono ?_; rintro e w' ⟨rfl, m, rfl⟩)
        go_ret
        exact qt_drew _ _ _
      · have q1' : ((n2 : Int) == 0) = false := by rw [beq_eq_false_iff_ne]; omega
        have ha : lfB ps n 8 = false := by
          cases e : lfB ps n 8 with
          | false => rfl
          | true =>
            obtain ⟨z1, z2⟩ := lfB_iff.1 e
            rw [wcB_iff.2 ⟨ho, by rw [HL2.out]; omega, by omega, by rw [HL.out]; exact z1⟩] at hw; cases hw
        go_enter Try.func15, Try.ntmps15
        go_wp2_with (first
          | (go_at_call 11; refine (HO.out _ h h').mono ?_; rintro e w' ⟨rfl, m, rfl⟩)
          | (go_at_call 34; refine (lf_any _ _ _ _ _ _ ps _ _ hnm (h2.drewN _)).mono ?_; rintro e w' ⟨rfl, rfl⟩; rw [ha]))
        go_ret
        exact qt_drew _ _ _
  · rw [wcI_yes hw HL.out]
    obtain ⟨p1, p2, p3, p4⟩ := wcB_iff.1 hw
    obtain ⟨p5, p6, p7⟩ := oftB_iff.1 p1
    rw [p1] at O
    rw [HL.out] at p4
    have HO := Lib.hid O
    have HW := Lib.hid hw
    have HV := Lib.hid p5
    have HA := Lib.hid p4
    have HA' := Lib.hid p7
    have q1' : 1 ≤ (n2 : Int) := by have := HL2.out; omega
    have q2' : (n2 : Int) ≤ 8 := by have := HL2.out; omega
    have n8 : n ≤ 8 := by have := (fv_open p5).2.1; have := HL.out; omega
    have hnn : n' = n := by have := HL'.out; have := HL.out; omega
    subst hnn
    clear p1 p2 p3 p5 p6 p7 hw O
    have q0 : ((n2 : Int) == 0) = false := by rw [beq_eq_false_iff_ne]; omega
    have ha : lfB ps n' 8 = true := lfB_iff.2 ⟨p4, by rw [HL2.out]; omega⟩
    go_enter Try.func15, Try.ntmps15
    go_wp2_with (first
      | (go_at_call 11; refine (HO.out _ h h').mono ?_; rintro e w' ⟨rfl, m0, rfl⟩)
      | (go_at_call 34; refine (lf_any _ _ _ _ _ _ ps _ _ hnm (h2.drewN _)).mono ?_; rintro e w' ⟨rfl, rfl⟩; rw [ha]))
    have HI := Lib.hid (h.drewN m0)
    have HI' := Lib.hid (h'.drewN m0)
    have HI2 := Lib.hid (h2.drewN m0)
    clear h h' h2
    go_loopw [7, 8] (fun x i wr => (∃ m, wr = (w.drewN m0).drewN m) ∧ ∃ k : Nat, k ≤ n' ∧ i = .int .i64 k ∧ x = .int .i64 (wcK xs os ps k)) (fun _ i _ => n' - (intOf i).toNat)
    case atStart => exact ⟨⟨0, rfl⟩, 0, Nat.zero_le _, rfl, rfl⟩
    case round =>
      obtain ⟨⟨m, hm⟩, k, hk, rfl, rfl⟩ := hrel
      have HR : Hid (Ints wr A n' xs) := Lib.hid (by rw [hm]; exact HI.out.drewN m)
      have HR1 : Hid (Ints wr A' n' os) := Lib.hid (by rw [hm]; exact HI'.out.drewN m)
      have HR2 : Hid (Ints wr A2 n2 ps) := Lib.hid (by rw [hm]; exact HI2.out.drewN m)
      have HM := Lib.hid hm
      clear hm
      by_cases hlt : k < n'
      · obtain ⟨q, off, rfl, hb, hcc⟩ := HR1.out.2.2 (by omega)
        obtain ⟨q2, off2, rfl, hb2, hcc2⟩ := HR2.out.2.2 (by omega)
        obtain ⟨u, hu⟩ : ∃ u, os[k]?.getD 0 = u := ⟨_, rfl⟩
        obtain ⟨v, hv⟩ : ∃ v, ps[0]?.getD 0 = v := ⟨_, rfl⟩
        have e0 := hcc k hlt
        have e1 := hcc2 0 (by omega)
        rw [hu] at e0
        rw [hv] at e1
        simp only [Nat.add_zero] at e1
        have hu1 := allB_at HA'.out rfl (show k < os.length by rw [HL'.out]; exact hlt)
        rw [hu] at hu1
        have HU := Lib.hid hu
        have hnz : nearK xs ps k 0 = wayI xs v k := by rw [← hv]; rfl
        have HNZ := Lib.hid hnz
        have HNI := Lib.hid (nearK_in HV.out HL.out HA.out (f := k) hlt (by rw [HL2.out]; omega))
        have hlt' : (k : Int) < (n' : Int) := by omega
        clear hcc hcc2 hu hv hnz
        obtain ⟨wo, hwo⟩ : ∃ wo : World, wo = wr := ⟨_, rfl⟩
        subst hwo
        go_wp2_with (go_at_call 35; refine (way_spec _ _ _ xs _ _ _ HR.out).mono ?_; rintro e w' ⟨rfl, m1, rfl⟩; rw [← HNZ.out])
        go_loopw [9, 10] (fun y i ws => (∃ m, ws = wo.drewN m) ∧ ∃ j : Nat, j ≤ n2 ∧ i = .int .i64 j ∧ y = .int .i64 (nearK xs ps k j)) (fun _ i _ => n2 - (intOf i).toNat)
        case atStart => exact ⟨⟨_, rfl⟩, 0, Nat.zero_le _, rfl, rfl⟩
        case round =>
          obtain ⟨⟨m2, hm2⟩, j, hj, rfl, rfl⟩ := hrel
          have HS : Hid (Ints wr A n' xs) := Lib.hid (by rw [hm2]; exact HR.out.drewN m2)
          have HS2 : Hid (Ints wr (some ⟨q2, off2, none⟩) n2 ps) := Lib.hid (by rw [hm2]; exact HR2.out.drewN m2)
          have e9 : wr.cell? ⟨q, off + k, none⟩ = some (.int .i64 u) := by rw [hm2]; exact e0
          have HM2 := Lib.hid hm2
          clear hm2
          by_cases hjl : j < n2
          · obtain ⟨q3, off3, e3, hb3, hcc3⟩ := HS2.out.2.2 (by omega)
            injection e3 with e3
            injection e3 with e4 e5
            subst e4 e5
            obtain ⟨v, hv⟩ : ∃ v, ps[j]?.getD 0 = v := ⟨_, rfl⟩
            have e2 := hcc3 j hjl
            rw [hv] at e2
            have hns : nearK xs ps k (j + 1) = min (nearK xs ps k j) (wayI xs v k) := by rw [nearK_succ, hv]
            have HNS := Lib.hid hns
            have hjl' : (j : Int) < (n2 : Int) := by omega
            clear hcc3 hv hns
            go_wp2_with (go_at_call 35; refine (way_spec _ _ _ xs _ _ _ HS.out).mono ?_; rintro e w' ⟨rfl, m3, rfl⟩)
            all_goals exact ⟨⟨⟨_, by rw [HM2.out]; exact World.drewN_drewN _ _ _⟩, j + 1, by omega, by go_num, by rw [HNS.out]; first | rfl | (simp only [min_def]; rfl) | (congr 1; omega)⟩, by simp [intOf]; omega⟩
          · obtain rfl : j = n2 := by omega
            have b1 := HNI.out j (by rw [HL2.out]; exact Nat.le_refl _)
            have b2 := mul_in hu1 b1
            have b3 := wcK_in HW.out k (by rw [HL.out]; omega)
            have HNX : Hid (wcK xs os ps (k + 1) = wcK xs os ps k + u * nearK xs ps k j) := Lib.hid (by rw [wcK_succ, HU.out, HL2.out])
            obtain ⟨a, ha⟩ : ∃ a, wcK xs os ps k = a := ⟨_, rfl⟩
            obtain ⟨b, hb⟩ : ∃ b, u * nearK xs ps k j = b := ⟨_, rfl⟩
            rw [ha, hb] at HNX
            rw [ha] at b3 ⊢
            rw [hb] at b2
            have f1 : IntKind.i64.wrap (u * nearK xs ps k j) = b := by rw [hb]; exact IntWalk.i64_in _ ⟨by omega, by omega⟩
            have f2 : IntKind.i64.wrap (a + b) = a + b := IntWalk.i64_in _ ⟨by omega, by omega⟩
            clear ha
            go_wp2
            exact ⟨⟨⟨_, by rw [HM2.out, HM.out]; exact World.drewN_drewN _ _ _⟩, k + 1, by omega, by go_num, by rw [HNX.out]⟩, by simp [intOf]; omega⟩
      · obtain rfl : k = n' := by omega
        go_wp2
        go_ret
        exact ⟨rfl, _, by rw [HM.out]; exact World.drewN_drewN _ _ _⟩

set_option maxHeartbeats 2000000 in
theorem walk_FnExactWaitCost (A0 : Option Addr) (n0 c0 : Nat) (xs : List Int) (A1 : Option Addr) (n1 c1 : Nat) (os : List Int) (A2 : Option Addr) (n2 c2 : Nat) (ps : List Int) (w : World) (h0 : Ints w A0 n0 xs) (h1 : Ints w A1 n1 os) (h2 : Ints w A2 n2 ps) :
    Calls Try.prog 4 #[Value.slice A0 n0 c0, Value.slice A1 n1 c1, Value.slice A2 n2 c2] w fun e w' => e = .returned (.bool true) ∧ Below w.heap.size w w' := by
  by_cases k0 : n0 ≤ 1048576
  · have l0 : (n0 : Int) ≤ 1048576 := by omega
    by_cases k1 : n1 ≤ 1048576
    · have l1 : (n1 : Int) ≤ 1048576 := by omega
      by_cases k2 : n2 ≤ 1048576
      · have l2 : (n2 : Int) ≤ 1048576 := by omega
        go_enter Try.func4, Try.ntmps4
        go_wp2_with fail
        refine (toIntsC_any A0 n0 c0 xs _ (h0.below (by (repeat' (first | (with_reducible exact Below.refl _ _) | (with_reducible assumption) | (with_reducible exact bundrew (by assumption)) | (with_reducible refine balloc ?_ _) | (with_reducible refine bset ?_ _ ?_ _) | (with_reducible refine Below.drew ?_) | (with_reducible refine bdrewN ?_ _) | (with_reducible refine bvia (by assumption) ?_) | (with_reducible refine Below.trans ?_ (by assumption)) | omega | (simp; omega) | (simp; done))))) k0).mono ?_
        rintro e w1 ⟨g1, rfl, hg1, hP1, hbw1⟩
        obtain ⟨hcw1, hfw1, -, -, -, hsw1⟩ := bfacts5 hbw1
        try simp only [World.size_drew] at hcw1 hfw1
        try simp at hsw1
        go_wp2_with fail
        refine (toIntsC_any A1 n1 c1 os _ (h1.below (by (repeat' (first | (with_reducible exact Below.refl _ _) | (with_reducible assumption) | (with_reducible exact bundrew (by assumption)) | (with_reducible refine balloc ?_ _) | (with_reducible refine bset ?_ _ ?_ _) | (with_reducible refine Below.drew ?_) | (with_reducible refine bdrewN ?_ _) | (with_reducible refine bvia (by assumption) ?_) | (with_reducible refine Below.trans ?_ (by assumption)) | omega | (simp; omega) | (simp; done))))) k1).mono ?_
        rintro e w2 ⟨g2, rfl, hg2, hP2, hbw2⟩
        obtain ⟨hcw2, hfw2, -, -, -, hsw2⟩ := bfacts5 hbw2
        try simp only [World.size_drew] at hcw2 hfw2
        try simp at hsw2
        go_wp2_with fail
        refine (toIntsC_any A2 n2 c2 ps _ (h2.below (by (repeat' (first | (with_reducible exact Below.refl _ _) | (with_reducible assumption) | (with_reducible exact bundrew (by assumption)) | (with_reducible refine balloc ?_ _) | (with_reducible refine bset ?_ _ ?_ _) | (with_reducible refine Below.drew ?_) | (with_reducible refine bdrewN ?_ _) | (with_reducible refine bvia (by assumption) ?_) | (with_reducible refine Below.trans ?_ (by assumption)) | omega | (simp; omega) | (simp; done))))) k2).mono ?_
        rintro e w3 ⟨g3, rfl, hg3, hP3, hbw3⟩
        obtain ⟨hcw3, hfw3, -, -, -, hsw3⟩ := bfacts5 hbw3
        try simp only [World.size_drew] at hcw3 hfw3
        try simp at hsw3
        go_wp2_with fail
        refine (wc_spec _ _ _ xs _ _ _ os _ _ _ ps _ ((hP1.below hbw2).below hbw3) (hP2.below hbw3) hP3).mono ?_
        rintro e w' ⟨rfl, m4, rfl⟩
        go_wp2_with fail
        refine (toIntsC_any A0 n0 c0 xs _ (h0.below (by (repeat' (first | (with_reducible exact Below.refl _ _) | (with_reducible assumption) | (with_reducible exact bundrew (by assumption)) | (with_reducible refine balloc ?_ _) | (with_reducible refine bset ?_ _ ?_ _) | (with_reducible refine Below.drew ?_) | (with_reducible refine bdrewN ?_ _) | (with_reducible refine bvia (by assumption) ?_) | (with_reducible refine Below.trans ?_ (by assumption)) | omega | (simp; omega) | (simp; done))))) k0).mono ?_
        rintro e w5 ⟨g5, rfl, hg5, hP5, hbw5⟩
        obtain ⟨hcw5, hfw5, -, -, -, hsw5⟩ := bfacts5 hbw5
        try simp only [World.size_drew] at hcw5 hfw5
        try simp at hsw5
        go_wp2_with fail
        refine (toIntsC_any A1 n1 c1 os _ (h1.below (by (repeat' (first | (with_reducible exact Below.refl _ _) | (with_reducible assumption) | (with_reducible exact bundrew (by assumption)) | (with_reducible refine balloc ?_ _) | (with_reducible refine bset ?_ _ ?_ _) | (with_reducible refine Below.drew ?_) | (with_reducible refine bdrewN ?_ _) | (with_reducible refine bvia (by assumption) ?_) | (with_reducible refine Below.trans ?_ (by assumption)) | omega | (simp; omega) | (simp; done))))) k1).mono ?_
        rintro e w6 ⟨g6, rfl, hg6, hP6, hbw6⟩
        obtain ⟨hcw6, hfw6, -, -, -, hsw6⟩ := bfacts5 hbw6
        try simp only [World.size_drew] at hcw6 hfw6
        try simp at hsw6
        go_wp2_with fail
        refine (toIntsC_any A2 n2 c2 ps _ (h2.below (by (repeat' (first | (with_reducible exact Below.refl _ _) | (with_reducible assumption) | (with_reducible exact bundrew (by assumption)) | (with_reducible refine balloc ?_ _) | (with_reducible refine bset ?_ _ ?_ _) | (with_reducible refine Below.drew ?_) | (with_reducible refine bdrewN ?_ _) | (with_reducible refine bvia (by assumption) ?_) | (with_reducible refine Below.trans ?_ (by assumption)) | omega | (simp; omega) | (simp; done))))) k2).mono ?_
        rintro e w7 ⟨g7, rfl, hg7, hP7, hbw7⟩
        obtain ⟨hcw7, hfw7, -, -, -, hsw7⟩ := bfacts5 hbw7
        try simp only [World.size_drew] at hcw7 hfw7
        try simp at hsw7
        go_wp2_with fail
        refine (wc_impl _ _ _ xs _ _ _ os _ _ _ ps _ ((hP5.below hbw6).below hbw7) (hP6.below hbw7) hP7).mono ?_
        rintro e w' ⟨rfl, m8, rfl⟩
        go_wp2_with fail
        refine (toIntsC_any A0 n0 c0 xs _ (h0.below (by (repeat' (first | (with_reducible exact Below.refl _ _) | (with_reducible assumption) | (with_reducible exact bundrew (by assumption)) | (with_reducible refine balloc ?_ _) | (with_reducible refine bset ?_ _ ?_ _) | (with_reducible refine Below.drew ?_) | (with_reducible refine bdrewN ?_ _) | (with_reducible refine bvia (by assumption) ?_) | (with_reducible refine Below.trans ?_ (by assumption)) | omega | (simp; omega) | (simp; done))))) k0).mono ?_
        rintro e w9 ⟨g9, rfl, hg9, hP9, hbw9⟩
        obtain ⟨hcw9, hfw9, -, -, -, hsw9⟩ := bfacts5 hbw9
        try simp only [World.size_drew] at hcw9 hfw9
        try simp at hsw9
        go_wp2_with fail
        refine (eqInts_any _ _ _ _ _ xs _ ((((hP5.below hbw6).below hbw7).drewN m8).below hbw9) hP9).mono ?_
        rintro e w' ⟨rfl, m10, rfl⟩
        go_wp2_with fail
        refine (toIntsC_any A1 n1 c1 os _ (h1.below (by (repeat' (first | (with_reducible exact Below.refl _ _) | (with_reducible assumption) | (with_reducible exact bundrew (by assumption)) | (with_reducible refine balloc ?_ _) | (with_reducible refine bset ?_ _ ?_ _) | (with_reducible refine Below.drew ?_) | (with_reducible refine bdrewN ?_ _) | (with_reducible refine bvia (by assumption) ?_) | (with_reducible refine Below.trans ?_ (by assumption)) | omega | (simp; omega) | (simp; done))))) k1).mono ?_
        rintro e w11 ⟨g11, rfl, hg11, hP11, hbw11⟩
        obtain ⟨hcw11, hfw11, -, -, -, hsw11⟩ := bfacts5 hbw11
        try simp only [World.size_drew] at hcw11 hfw11
        try simp at hsw11
        go_wp2_with fail
        refine (eqInts_any _ _ _ _ _ os _ (((((hP6.below hbw7).drewN m8).below hbw9).drewN m10).below hbw11) hP11).mono ?_
        rintro e w' ⟨rfl, m12, rfl⟩
        go_wp2_with fail
        refine (toIntsC_any A2 n2 c2 ps _ (h2.below (by (repeat' (first | (with_reducible exact Below.refl _ _) | (with_reducible assumption) | (with_reducible exact bundrew (by assumption)) | (with_reducible refine balloc ?_ _) | (with_reducible refine bset ?_ _ ?_ _) | (with_reducible refine Below.drew ?_) | (with_reducible refine bdrewN ?_ _) | (with_reducible refine bvia (by assumption) ?_) | (with_reducible refine Below.trans ?_ (by assumption)) | omega | (simp; omega) | (simp; done))))) k2).mono ?_
        rintro e w13 ⟨g13, rfl, hg13, hP13, hbw13⟩
        obtain ⟨hcw13, hfw13, -, -, -, hsw13⟩ := bfacts5 hbw13
        try simp only [World.size_drew] at hcw13 hfw13
        try simp at hsw13
        go_wp2_with fail
        refine (eqInts_any _ _ _ _ _ ps _ ((((((hP7.drewN m8).below hbw9).drewN m10).below hbw11).drewN m12).below hbw13) hP13).mono ?_
        rintro e w' ⟨rfl, m14, rfl⟩
        go_wp2
        go_ret
        exact ⟨rfl, by (repeat' (first | (with_reducible exact Below.refl _ _) | (with_reducible assumption) | (with_reducible exact bundrew (by assumption)) | (with_reducible refine balloc ?_ _) | (with_reducible refine bset ?_ _ ?_ _) | (with_reducible refine Below.drew ?_) | (with_reducible refine bdrewN ?_ _) | (with_reducible refine bvia (by assumption) ?_) | (with_reducible refine Below.trans ?_ (by assumption)) | omega | (simp; omega) | (simp; done)))⟩
      · have l2 : (1048576 : Int) < (n2 : Int) := by omega
        go_enter Try.func4, Try.ntmps4
        go_wp2
        go_ret
        exact ⟨rfl, by (repeat' (first | (with_reducible exact Below.refl _ _) | (with_reducible assumption) | (with_reducible exact bundrew (by assumption)) | (with_reducible refine balloc ?_ _) | (with_reducible refine bset ?_ _ ?_ _) | (with_reducible refine Below.drew ?_) | (with_reducible refine bdrewN ?_ _) | (with_reducible refine bvia (by assumption) ?_) | (with_reducible refine Below.trans ?_ (by assumption)) | omega | (simp; omega) | (simp; done)))⟩
    · have l1 : (1048576 : Int) < (n1 : Int) := by omega
      go_enter Try.func4, Try.ntmps4
      go_wp2
      go_ret
      exact ⟨rfl, by (repeat' (first | (with_reducible exact Below.refl _ _) | (with_reducible assumption) | (with_reducible exact bundrew (by assumption)) | (with_reducible refine balloc ?_ _) | (with_reducible refine bset ?_ _ ?_ _) | (with_reducible refine Below.drew ?_) | (with_reducible refine bdrewN ?_ _) | (with_reducible refine bvia (by assumption) ?_) | (with_reducible refine Below.trans ?_ (by assumption)) | omega | (simp; omega) | (simp; done)))⟩
  · have l0 : (1048576 : Int) < (n0 : Int) := by omega
    go_enter Try.func4, Try.ntmps4
    go_wp2
    go_ret
    exact ⟨rfl, by (repeat' (first | (with_reducible exact Below.refl _ _) | (with_reducible assumption) | (with_reducible exact bundrew (by assumption)) | (with_reducible refine balloc ?_ _) | (with_reducible refine bset ?_ _ ?_ _) | (with_reducible refine Below.drew ?_) | (with_reducible refine bdrewN ?_ _) | (with_reducible refine bvia (by assumption) ?_) | (with_reducible refine Below.trans ?_ (by assumption)) | omega | (simp; omega) | (simp; done)))⟩
end Go.Proofs.Ytbjnkjookokjaaa
