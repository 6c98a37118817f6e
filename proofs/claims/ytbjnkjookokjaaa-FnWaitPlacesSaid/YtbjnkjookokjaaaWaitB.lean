/- WaitCost of the program and of the reference: contracts. -/
import Derived.Test.YtbjnkjookokjaaaWaitA
import Derived.Test.YtbjnkjookokjaaaWay
namespace Go.Proofs.Ytbjnkjookokjaaa
open Go.ChangeShapes Go.WideShapes Go.ChangeAt Go.RowKit

/-- Floors of n floors, at most b of them. -/
def lfB (ps : List Int) (n : Nat) (b : Int) : Bool := allB ps 0 ((n : Int) - 1) && decide ((ps.length : Int) ≤ b)
theorem lfB_iff {ps : List Int} {n : Nat} {b : Int} : lfB ps n b = true ↔ allB ps 0 ((n : Int) - 1) = true ∧ (ps.length : Int) ≤ b := by simp [lfB]
set_option maxHeartbeats 1000000 in
theorem lf_any (A' : Option Addr) (n' c' : Nat) (A : Option Addr) (n c : Nat) (ps : List Int) (b : Int) (w : World) (hn : n' ≤ 9223372036854775807) (h : Ints w A n ps) :
    Calls Try.prog 34 #[.slice A' n' c', .slice A n c, .int .i64 b] w fun e w' => e = .returned (.bool (lfB ps n' b)) ∧ w = w' := by
  obtain ⟨hl, hm, hc⟩ := h
  have HL := Lib.hid hl
  have HC := Lib.hid hc
  have hn' : (n' : Int) ≤ 9223372036854775807 := by omega
  have hn0 : 0 ≤ (n' : Int) := by omega
  clear hl hc
  go_enter Try.func34, Try.ntmps34
  go_wp2
  go_loop [7] (fun i => ∃ k : Nat, k ≤ n ∧ i = .int .i64 k ∧ ∀ j, j < k → 0 ≤ ps[j]?.getD 0 ∧ ps[j]?.getD 0 ≤ (n' : Int) - 1) (fun i => n - (intOf i).toNat)
  case atStart => exact ⟨0, Nat.zero_le _, rfl, fun j hj => by omega⟩
  case round =>
    obtain ⟨k, hk, rfl, hall⟩ := hrel
    have HA := Lib.hid hall
    clear hall
    by_cases hlt : k < n
    · obtain ⟨q, off, rfl, hb, hcc⟩ := HC.out (by omega)
      obtain ⟨y, hy⟩ : ∃ y, ps[k]?.getD 0 = y := ⟨_, rfl⟩
      have e0 := hcc k hlt
      rw [hy] at e0
      have HY := Lib.hid hy
      clear hcc hy
      have hlt' : (k : Int) < (n : Int) := by omega
      by_cases hi : inB y 0 ((n' : Int) - 1) = true
      · have hi2 := inB_open hi
        have HI2 := Lib.hid hi2
        clear hi2
        go_wp2_with (go_at_call 31; refine (l1In_any _ _ _ _).mono ?_; rintro e w' ⟨rfl, rfl⟩)
        go_round
        case rel => exact ⟨k + 1, by omega, by go_num, fun j hj => by
          by_cases e : j = k
          · subst e; rw [HY.out]; exact HI2.out
          · exact HA.out j (by omega)⟩
        case measure => simp [intOf]; omega
      · have hi' := bfalse hi
        have HF : Hid (lfB ps n' b = false) := Lib.hid (by
          cases e : lfB ps n' b with
          | false => rfl
          | true =>
            have := allB_at (lfB_iff.1 e).1 HL.out hlt
            rw [HY.out] at this
            rw [inB_yes this] at hi'
            cases hi')
        go_wp2_with (go_at_call 31; refine (l1In_any _ _ _ _).mono ?_; rintro e w' ⟨rfl, rfl⟩)
        go_ret
        exact ⟨ret_bool HF.out.symm, rfl⟩
    · obtain rfl : k = n := by omega
      have HF : Hid (lfB ps n' b = decide ((k : Int) ≤ b)) := Lib.hid (by
        unfold lfB
        rw [allB_yes HL.out HA.out, HL.out]
        rfl)
      go_wp2
      go_ret
      exact ⟨ret_bool (by rw [HF.out]), rfl⟩

/-- The way from the nearest one of the first places. -/
def nearK (xs ps : List Int) (f : Int) : Nat → Int
  | 0 => wayI xs (ps[0]?.getD 0) f
  | k + 1 => min (nearK xs ps f k) (wayI xs (ps[k]?.getD 0) f)
theorem nearK_succ (xs ps : List Int) (f : Int) (k : Nat) : nearK xs ps f (k + 1) = min (nearK xs ps f k) (wayI xs (ps[k]?.getD 0) f) := rfl
/-- What the first floors cost. -/
def wcK (xs os ps : List Int) : Nat → Int
  | 0 => 0
  | k + 1 => wcK xs os ps k + os[k]?.getD 0 * nearK xs ps k ps.length
theorem wcK_succ (xs os ps : List Int) (k : Nat) : wcK xs os ps (k + 1) = wcK xs os ps k + os[k]?.getD 0 * nearK xs ps k ps.length := rfl
def wcB (xs os ps : List Int) : Bool := oftB xs os && decide (1 ≤ ps.length) && decide (ps.length ≤ 8) && allB ps 0 ((xs.length : Int) - 1)
theorem wcB_iff {xs os ps : List Int} : wcB xs os ps = true ↔ oftB xs os = true ∧ 1 ≤ ps.length ∧ ps.length ≤ 8 ∧ allB ps 0 ((xs.length : Int) - 1) = true := by simp [wcB, and_assoc]
def wcI (xs os ps : List Int) : Int := if wcB xs os ps = true then wcK xs os ps xs.length else -1
theorem wcI_no {xs os ps : List Int} (h : ¬ wcB xs os ps = true) : wcI xs os ps = -1 := by unfold wcI; rw [if_neg h]
theorem wcI_yes {xs os ps : List Int} {n : Nat} (h : wcB xs os ps = true) (hn : xs.length = n) : wcI xs os ps = wcK xs os ps n := by unfold wcI; rw [if_pos h, hn]
theorem way_at {xs ps : List Int} {n f j : Nat} (hv : fvB xs = true) (hn : xs.length = n) (ha : allB ps 0 ((n : Int) - 1) = true) (hf : f < n) (hj : j < ps.length) : 0 ≤ wayI xs (ps[j]?.getD 0) f ∧ wayI xs (ps[j]?.getD 0) f ≤ 60 := by
  obtain ⟨h1, h2⟩ := allB_at ha rfl hj
  obtain ⟨y, hy⟩ := Int.eq_ofNat_of_zero_le h1
  rw [hy] at h2 ⊢
  exact wayI_in hv hn (by omega) hf
theorem nearK_in {xs ps : List Int} {n f : Nat} (hv : fvB xs = true) (hn : xs.length = n) (ha : allB ps 0 ((n : Int) - 1) = true) (hf : f < n) (h1 : 1 ≤ ps.length) : ∀ j, j ≤ ps.length → 0 ≤ nearK xs ps f j ∧ nearK xs ps f j ≤ 60
  | 0, _ => way_at hv hn ha hf (by omega)
  | j + 1, hj => by
    have := nearK_in hv hn ha hf h1 j (by omega)
    have := way_at hv hn ha hf (j := j) (by omega)
    rw [nearK_succ]
    omega
theorem mul_in {a b : Int} (h1 : 0 ≤ a ∧ a ≤ 20) (h2 : 0 ≤ b ∧ b ≤ 60) : 0 ≤ a * b ∧ a * b ≤ 1200 := by
  refine ⟨Int.mul_nonneg h1.1 h2.1, ?_⟩
  have h3 : a * b ≤ 20 * b := Int.mul_le_mul_of_nonneg_right h1.2 h2.1
  omega
theorem wcK_in {xs os ps : List Int} (h : wcB xs os ps = true) : ∀ k, k ≤ xs.length → 0 ≤ wcK xs os ps k ∧ wcK xs os ps k ≤ 1200 * k
  | 0, _ => ⟨Int.le_refl _, Int.le_refl _⟩
  | k + 1, hk => by
    have ih := wcK_in h k (by omega)
    obtain ⟨h1, h2, h3, h4⟩ := wcB_iff.1 h
    obtain ⟨h5, h6, h7⟩ := oftB_iff.1 h1
    have m := mul_in (allB_at h7 rfl (show k < os.length by omega)) (nearK_in h5 rfl h4 (f := k) (by omega) h2 ps.length (Nat.le_refl _))
    rw [wcK_succ]
    omega

set_option maxHeartbeats 4000000 in
theorem wc_impl (A : Option Addr) (n c : Nat) (xs : List Int) (A' : Option Addr) (n' c' : Nat) (os : List Int) (A2 : Option Addr) (n2 c2 : Nat) (ps : List Int) (w : World) (h : Ints w A n xs) (h' : Ints w A' n' os) (h2 : Ints w A2 n2 ps) :
    Calls Try.prog 16 #[.slice A n c, .slice A' n' c', .slice A2 n2 c2] w (Qt w (.int .i64 (wcI xs os ps))) := by
  have HL := Lib.hid h.1
  have HL' := Lib.hid h'.1
  have HL2 := Lib.hid h2.1
  have m2 : (n2 : Int) ≤ 9223372036854775807 := by have := h2.2.1; omega
  have O := fun w hx hy => oft_impl A n c xs A' n' c' os w hx hy
  cases hw : wcB xs os ps
  · rw [wcI_no (by simp [hw])]
    cases ho : oftB xs os
    · rw [ho] at O
      have HO := Lib.hid O
      clear O
      go_enter Try.func16, Try.ntmps16
      go_wp2_with (go_at_call 13; refine (HO.out _ h h').mono ?_; rintro e w' ⟨rfl, m, rfl⟩)
      go_ret
      exact qt_drew _ _ _
    · rw [ho] at O
      have HO := Lib.hid O
      clear O
      by_cases q1 : n2 < 1
      · have q1' : (n2 : Int) < 1 := by omega
        go_enter Try.func16, Try.ntmps16
        go_wp2_with (go_at_call 13; refine (HO.out _ h h').mono ?_; rintro e w' ⟨rfl, m, rfl⟩)
        go_ret
        exact qt_drew _ _ _
      · have q1' : 1 ≤ (n2 : Int) := by omega
        by_cases q2 : 8 < n2
        · have q2' : 8 < (n2 : Int) := by omega
          go_enter Try.func16, Try.ntmps16
          go_wp2_with (go_at_call 13; refine (HO.out _ h h').mono ?_; rintro e w' ⟨rfl, m, rfl⟩)
          go_ret
          exact qt_drew _ _ _
        · have q2' : (n2 : Int) ≤ 8 := by omega
          have ha : allB ps 0 ((n : Int) - 1) = false := by
            cases e : allB ps 0 ((n : Int) - 1) with
            | false => rfl
            | true => rw [wcB_iff.2 ⟨ho, by rw [HL2.out]; omega, by rw [HL2.out]; omega, by rw [HL.out]; exact e⟩] at hw; cases hw
          go_enter Try.func16, Try.ntmps16
          go_wp2_with (first
            | (go_at_call 13; refine (HO.out _ h h').mono ?_; rintro e w' ⟨rfl, m, rfl⟩)
            | (go_at_call 33; refine (within_any _ _ _ ps _ _ (h2.drewN _)).mono ?_; rintro e w' ⟨rfl, rfl⟩; rw [ha]))
          go_ret
          exact qt_drew _ _ _
  · rw [wcI_yes hw HL.out]
    obtain ⟨p1, p2, p3, p4⟩ := wcB_iff.1 hw
    obtain ⟨p5, p6, p7⟩ := oftB_iff.1 p1
    rw [p1] at O
    rw [HL.out] at p4
    have HO := Lib.hid O
    have HW := Lib.hid hw
    have HV := Lib.hid p5
    have HA := Lib.hid p4
    have HA' := Lib.hid p7
    have q1' : 1 ≤ (n2 : Int) := by have := HL2.out; omega
    have q2' : (n2 : Int) ≤ 8 := by have := HL2.out; omega
    have n8 : n ≤ 8 := by have := (fv_open p5).2.1; have := HL.out; omega
    have hnn : n' = n := by have := HL'.out; have := HL.out; omega
    subst hnn
    clear p1 p2 p3 p5 p6 p7 hw O
    go_enter Try.func16, Try.ntmps16
    go_wp2_with (first
      | (go_at_call 13; refine (HO.out _ h h').mono ?_; rintro e w' ⟨rfl, m0, rfl⟩)
      | (go_at_call 33; refine (within_any _ _ _ ps _ _ (h2.drewN _)).mono ?_; rintro e w' ⟨rfl, rfl⟩; rw [p4]))
    have HI := Lib.hid (h.drewN m0)
    have HI' := Lib.hid (h'.drewN m0)
    have HI2 := Lib.hid (h2.drewN m0)
    clear h h' h2
    go_loopw [7, 36] (fun x i wr => (∃ m, wr = (w.drewN m0).drewN m) ∧ ∃ k : Nat, k ≤ n' ∧ i = .int .i64 k ∧ x = .int .i64 (wcK xs os ps k)) (fun _ i _ => n' - (intOf i).toNat)
    case atStart => exact ⟨⟨0, rfl⟩, 0, Nat.zero_le _, rfl, rfl⟩
    case round =>
      obtain ⟨⟨m, hm⟩, k, hk, rfl, rfl⟩ := hrel
      have HR : Hid (Ints wr A n' xs) := Lib.hid (by rw [hm]; exact HI.out.drewN m)
      have HR1 : Hid (Ints wr A' n' os) := Lib.hid (by rw [hm]; exact HI'.out.drewN m)
      have HR2 : Hid (Ints wr A2 n2 ps) := Lib.hid (by rw [hm]; exact HI2.out.drewN m)
      have HM := Lib.hid hm
      clear hm
      by_cases hlt : k < n'
      · obtain ⟨q, off, rfl, hb, hcc⟩ := HR1.out.2.2 (by omega)
        obtain ⟨q2, off2, rfl, hb2, hcc2⟩ := HR2.out.2.2 (by omega)
        obtain ⟨u, hu⟩ : ∃ u, os[k]?.getD 0 = u := ⟨_, rfl⟩
        obtain ⟨v, hv⟩ : ∃ v, ps[0]?.getD 0 = v := ⟨_, rfl⟩
        have e0 := hcc k hlt
        have e1 := hcc2 0 (by omega)
        rw [hu] at e0
        rw [hv] at e1
        simp only [Nat.add_zero] at e1
        have hu1 := allB_at HA'.out rfl (show k < os.length by rw [HL'.out]; exact hlt)
        rw [hu] at hu1
        have HU := Lib.hid hu
        have hnz : nearK xs ps k 0 = wayI xs v k := by rw [← hv]; rfl
        have HNZ := Lib.hid hnz
        have HNI := Lib.hid (nearK_in HV.out HL.out HA.out (f := k) hlt (by rw [HL2.out]; omega))
        have hlt' : (k : Int) < (n' : Int) := by omega
        clear hcc hcc2 hu hv hnz
        obtain ⟨wo, hwo⟩ : ∃ wo : World, wo = wr := ⟨_, rfl⟩
        subst hwo
        go_wp2_with (go_at_call 36; refine (way_impl _ _ _ xs _ _ _ HR.out).mono ?_; rintro e w' ⟨rfl, m1, rfl⟩; rw [← HNZ.out])
        go_loopw [10, 49] (fun y i ws => (∃ m, ws = wo.drewN m) ∧ ∃ j : Nat, j ≤ n2 ∧ i = .int .i64 j ∧ y = .int .i64 (nearK xs ps k j)) (fun _ i _ => n2 - (intOf i).toNat)
        case atStart => exact ⟨⟨_, rfl⟩, 0, Nat.zero_le _, rfl, rfl⟩
        case round =>
          obtain ⟨⟨m2, hm2⟩, j, hj, rfl, rfl⟩ := hrel
          have HS : Hid (Ints wr A n' xs) := Lib.hid (by rw [hm2]; exact HR.out.drewN m2)
          have HS2 : Hid (Ints wr (some ⟨q2, off2, none⟩) n2 ps) := Lib.hid (by rw [hm2]; exact HR2.out.drewN m2)
          have HM2 := Lib.hid hm2
          clear hm2
          by_cases hjl : j < n2
          · obtain ⟨q3, off3, e3, hb3, hcc3⟩ := HS2.out.2.2 (by omega)
            injection e3 with e3
            injection e3 with e4 e5
            subst e4 e5
            obtain ⟨v, hv⟩ : ∃ v, ps[j]?.getD 0 = v := ⟨_, rfl⟩
            have e2 := hcc3 j hjl
            rw [hv] at e2
            have hns : nearK xs ps k (j + 1) = min (nearK xs ps k j) (wayI xs v k) := by rw [nearK_succ, hv]
            have HNS := Lib.hid hns
            have hjl' : (j : Int) < (n2 : Int) := by omega
            clear hcc3 hv hns
            go_wp2_with (go_at_call 36; refine (way_impl _ _ _ xs _ _ _ HS.out).mono ?_; rintro e w' ⟨rfl, m3, rfl⟩)
            all_goals exact ⟨⟨⟨_, by rw [HM2.out]; exact World.drewN_drewN _ _ _⟩, j + 1, by omega, by go_num, by rw [HNS.out]; first | rfl | (simp only [min_def]; rfl) | (congr 1; omega)⟩, by simp [intOf]; omega⟩
          · obtain rfl : j = n2 := by omega
            have b1 := HNI.out j (by rw [HL2.out]; exact Nat.le_refl _)
            have b2 := mul_in hu1 b1
            have b3 := wcK_in HW.out k (by rw [HL.out]; omega)
            have HNX : Hid (wcK xs os ps (k + 1) = wcK xs os ps k + u * nearK xs ps k j) := Lib.hid (by rw [wcK_succ, HU.out, HL2.out])
            obtain ⟨a, ha⟩ : ∃ a, wcK xs os ps k = a := ⟨_, rfl⟩
            obtain ⟨b, hb⟩ : ∃ b, u * nearK xs ps k j = b := ⟨_, rfl⟩
            rw [ha, hb] at HNX
            rw [ha] at b3 ⊢
            rw [hb] at b2
            have f1 : IntKind.i64.wrap (u * nearK xs ps k j) = b := by rw [hb]; exact IntWalk.i64_in _ ⟨by omega, by omega⟩
            have f2 : IntKind.i64.wrap (a + b) = a + b := IntWalk.i64_in _ ⟨by omega, by omega⟩
            clear ha
            go_wp2
            exact ⟨⟨⟨_, by rw [HM2.out, HM.out]; exact World.drewN_drewN _ _ _⟩, k + 1, by omega, by go_num, by rw [HNX.out]⟩, by simp [intOf]; omega⟩
      · obtain rfl : k = n' := by omega
        go_wp2
        go_ret
        exact ⟨rfl, _, by rw [HM.out]; exact World.drewN_drewN _ _ _⟩
end Go.Proofs.Ytbjnkjookokjaaa
