/- l12Floors and GroupOk of the program and of the reference: contracts. -/
import Derived.Test.YtmekbfjeljfbpaaWithin
import Derived.Test.YtmekbfjeljfbpaaWay
namespace Go.Proofs.Ytmekbfjeljfbpaa
open Go.ChangeShapes Go.WideShapes Go.ChangeAt Go.RowKit

/-- Floors of n floors, at most b of them. -/
def lfB (ps : List Int) (n : Nat) (b : Int) : Bool := allB ps 0 ((n : Int) - 1) && decide ((ps.length : Int) ≤ b)
theorem lfB_iff {ps : List Int} {n : Nat} {b : Int} : lfB ps n b = true ↔ allB ps 0 ((n : Int) - 1) = true ∧ (ps.length : Int) ≤ b := by simp [lfB]
set_option maxHeartbeats 1000000 in
theorem lf_any (A' : Option Addr) (n' c' : Nat) (A : Option Addr) (n c : Nat) (ps : List Int) (b : Int) (w : World) (hn : n' ≤ 9223372036854775807) (h : Ints w A n ps) :
    Calls Try.prog 44 #[.slice A' n' c', .slice A n c, .int .i64 b] w fun e w' => e = .returned (.bool (lfB ps n' b)) ∧ w = w' := by
  obtain ⟨hl, hm, hc⟩ := h
  have HL := Lib.hid hl
  have HC := Lib.hid hc
  have hn' : (n' : Int) ≤ 9223372036854775807 := by omega
  have hn0 : 0 ≤ (n' : Int) := by omega
  clear hl hc
  go_enter Try.func44, Try.ntmps44
  go_wp2
  go_loop [7] (fun i => ∃ k : Nat, k ≤ n ∧ i = .int .i64 k ∧ ∀ j, j < k → 0 ≤ ps[j]?.getD 0 ∧ ps[j]?.getD 0 ≤ (n' : Int) - 1) (fun i => n - (intOf i).toNat)
  case atStart => exact ⟨0, Nat.zero_le _, rfl, fun j hj => by omega⟩
  case round =>
    obtain ⟨k, hk, rfl, hall⟩ := hrel
    have HA := Lib.hid hall
    clear hall
    by_cases hlt : k < n
    · obtain ⟨q, off, rfl, hb, hcc⟩ := HC.out (by omega)
      obtain ⟨y, hy⟩ : ∃ y, ps[k]?.getD 0 = y := ⟨_, rfl⟩
      have e0 := hcc k hlt
      rw [hy] at e0
      have HY := Lib.hid hy
      clear hcc hy
      have hlt' : (k : Int) < (n : Int) := by omega
      by_cases hi : inB y 0 ((n' : Int) - 1) = true
      · have hi2 := inB_open hi
        have HI2 := Lib.hid hi2
        clear hi2
        go_wp2_with (go_at_call 50; refine (l1In_any _ _ _ _).mono ?_; rintro e w' ⟨rfl, rfl⟩)
        go_round
        case rel => exact ⟨k + 1, by omega, by go_num, fun j hj => by
          by_cases e : j = k
          · subst e; rw [HY.out]; exact HI2.out
          · exact HA.out j (by omega)⟩
        case measure => simp [intOf]; omega
      · have hi' := bfalse hi
        have HF : Hid (lfB ps n' b = false) := Lib.hid (by
          cases e : lfB ps n' b with
          | false => rfl
          | true =>
            have := allB_at (lfB_iff.1 e).1 HL.out hlt
            rw [HY.out] at this
            rw [inB_yes this] at hi'
            cases hi')
        go_wp2_with (go_at_call 50; refine (l1In_any _ _ _ _).mono ?_; rintro e w' ⟨rfl, rfl⟩)
        go_ret
        exact ⟨ret_bool HF.out.symm, rfl⟩
    · obtain rfl : k = n := by omega
      have HF : Hid (lfB ps n' b = decide ((k : Int) ≤ b)) := Lib.hid (by
        unfold lfB
        rw [allB_yes HL.out HA.out, HL.out]
        rfl)
      go_wp2
      go_ret
      exact ⟨ret_bool (by rw [HF.out]), rfl⟩

/-- A group. -/
def grB (xs cs ks : List Int) : Bool := fvB xs && decide (1 ≤ cs.length) && lfB cs xs.length 4 && lfB ks xs.length 5
theorem grB_iff {xs cs ks : List Int} : grB xs cs ks = true ↔ fvB xs = true ∧ 1 ≤ cs.length ∧ lfB cs xs.length 4 = true ∧ lfB ks xs.length 5 = true := by simp [grB, and_assoc]
theorem grB_no {xs cs ks : List Int} (h : ¬ (fvB xs = true ∧ 1 ≤ cs.length ∧ lfB cs xs.length 4 = true ∧ lfB ks xs.length 5 = true)) : grB xs cs ks = false := by
  cases e : grB xs cs ks with
  | false => rfl
  | true => exact absurd (grB_iff.1 e) h
set_option maxHeartbeats 1000000 in
theorem gr_spec (A : Option Addr) (n c : Nat) (xs : List Int) (A1 : Option Addr) (n1 c1 : Nat) (cs : List Int) (A2 : Option Addr) (n2 c2 : Nat) (ks : List Int) (w : World) (h : Ints w A n xs) (h1 : Ints w A1 n1 cs) (h2 : Ints w A2 n2 ks) :
    Calls Try.prog 22 #[.slice A n c, .slice A1 n1 c1, .slice A2 n2 c2] w (Qt w (.bool (grB xs cs ks))) := by
  have HL := Lib.hid h.1
  have HL1 := Lib.hid h1.1
  have hm := h.2.1
  have hm1 := h1.2.1
  have H := Lib.hid h
  have H1 := Lib.hid h1
  have H2 := Lib.hid h2
  have FV := fun w hx => fvs_any A n c xs w hx
  have L1 := fun w hx => lf_any A n c A1 n1 c1 cs 4 w hm hx
  have L2 := fun w hx => lf_any A n c A2 n2 c2 ks 5 w hm hx
  have hg : grB xs cs ks = (fvB xs && decide (1 ≤ n1) && lfB cs n 4 && lfB ks n 5) := by unfold grB; rw [h.1, h1.1]
  rw [hg]
  cases f1 : fvB xs
  · rw [f1] at FV
    have HFV := Lib.hid FV
    clear FV L1 L2 hg h h1 h2
    go_enter Try.func22, Try.ntmps22
    go_wp2_with (go_at_call 43; refine (HFV.out _ H.out).mono ?_; rintro e w' ⟨rfl, m, rfl⟩)
    go_ret
    exact ⟨rfl, _, rfl⟩
  · rw [f1] at FV
    have HFV := Lib.hid FV
    by_cases h0 : n1 = 0
    · have h0' : ¬ 0 < (n1 : Int) := by omega
      have e1 : decide (1 ≤ n1) = false := by simp; omega
      rw [e1]
      clear FV L1 L2 hg h h1 h2 e1
      go_enter Try.func22, Try.ntmps22
      go_wp2_with (go_at_call 43; refine (HFV.out _ H.out).mono ?_; rintro e w' ⟨rfl, m, rfl⟩)
      go_ret
      exact ⟨rfl, _, rfl⟩
    · have h0' : 0 < (n1 : Int) := by omega
      have e1 : decide (1 ≤ n1) = true := by simp; omega
      rw [e1]
      cases f2 : lfB cs n 4
      · rw [f2] at L1
        have HL1' := Lib.hid L1
        clear FV L1 L2 hg h h1 h2 e1
        go_enter Try.func22, Try.ntmps22
        go_wp2_with (go_at_call 43; refine (HFV.out _ H.out).mono ?_; rintro e w' ⟨rfl, m, rfl⟩)
        refine (HL1'.out _ (H1.out.drewN m)).mono ?_
        rintro e w' ⟨rfl, rfl⟩
        go_wp2
        go_ret
        exact ⟨rfl, _, rfl⟩
      · rw [f2] at L1
        have HL1' := Lib.hid L1
        have HL2' := Lib.hid L2
        clear FV L1 L2 hg h h1 h2 e1
        go_enter Try.func22, Try.ntmps22
        go_wp2_with (go_at_call 43; refine (HFV.out _ H.out).mono ?_; rintro e w' ⟨rfl, m, rfl⟩)
        refine (HL1'.out _ (H1.out.drewN m)).mono ?_
        rintro e w' ⟨rfl, rfl⟩
        go_wp2_with fail
        refine (HL2'.out _ (H2.out.drewN m)).mono ?_
        rintro e w' ⟨rfl, rfl⟩
        go_wp2
        go_ret
        exact ⟨ret_bool (by simp), _, rfl⟩
set_option maxHeartbeats 1000000 in
theorem gr_impl (A : Option Addr) (n c : Nat) (xs : List Int) (A1 : Option Addr) (n1 c1 : Nat) (cs : List Int) (A2 : Option Addr) (n2 c2 : Nat) (ks : List Int) (w : World) (h : Ints w A n xs) (h1 : Ints w A1 n1 cs) (h2 : Ints w A2 n2 ks) :
    Calls Try.prog 30 #[.slice A n c, .slice A1 n1 c1, .slice A2 n2 c2] w (Qt w (.bool (grB xs cs ks))) := by
  have HL := Lib.hid h.1
  have hm := h.2.1
  have H := Lib.hid h
  have H1 := Lib.hid h1
  have H2 := Lib.hid h2
  have FV := fun w hx => fv_any A n c xs w hx
  have L1 := fun w hx => within_any A1 n1 c1 cs (n : Int) w hx
  have L2 := fun w hx => within_any A2 n2 c2 ks (n : Int) w hx
  have hg : grB xs cs ks = (fvB xs && decide (1 ≤ n1) && (allB cs 0 ((n : Int) - 1) && decide ((n1 : Int) ≤ 4)) && (allB ks 0 ((n : Int) - 1) && decide ((n2 : Int) ≤ 5))) := by unfold grB lfB; rw [h.1, h1.1, h2.1]
  rw [hg]
  have hn0 : 0 ≤ (n : Int) := by omega
  cases f1 : fvB xs
  · rw [f1] at FV
    have HFV := Lib.hid FV
    clear FV L1 L2 hg h h1 h2 f1
    go_enter Try.func30, Try.ntmps30
    go_wp2_with (go_at_call 46; refine (HFV.out _ H.out).mono ?_; rintro e w' ⟨rfl, m, rfl⟩)
    go_ret
    exact ⟨rfl, _, rfl⟩
  · rw [f1] at FV
    have HFV := Lib.hid FV
    clear f1
    by_cases h0 : n1 = 0
    · have h0' : (n1 : Int) < 1 := by omega
      have e1 : decide (1 ≤ n1) = false := by simp; omega
      rw [e1]
      clear FV L1 L2 hg h h1 h2 e1 h0
      go_enter Try.func30, Try.ntmps30
      go_wp2_with (go_at_call 46; refine (HFV.out _ H.out).mono ?_; rintro e w' ⟨rfl, m, rfl⟩)
      go_ret
      exact ⟨rfl, _, rfl⟩
    · have h0' : 1 ≤ (n1 : Int) := by omega
      have e1 : decide (1 ≤ n1) = true := by simp; omega
      rw [e1]
      clear e1 h0
      by_cases h4 : (4 : Int) < n1
      · have e2 : decide ((n1 : Int) ≤ 4) = false := by simp; omega
        have e3 : ∀ a b : Bool, (true && true && (a && false) && b) = false := by decide
        rw [e2, e3]
        clear FV L1 L2 hg h h1 h2 e2 e3
        go_enter Try.func30, Try.ntmps30
        go_wp2_with (go_at_call 46; refine (HFV.out _ H.out).mono ?_; rintro e w' ⟨rfl, m, rfl⟩)
        go_ret
        exact ⟨rfl, _, rfl⟩
      · have h4' : (n1 : Int) ≤ 4 := by omega
        have e2 : decide ((n1 : Int) ≤ 4) = true := by simp; omega
        rw [e2]
        clear e2
        by_cases h5 : (5 : Int) < n2
        · have e4 : decide ((n2 : Int) ≤ 5) = false := by simp; omega
          have e3 : ∀ a b : Bool, (true && true && (a && true) && (b && false)) = false := by decide
          rw [e4, e3]
          clear FV L1 L2 hg h h1 h2 e4 e3
          go_enter Try.func30, Try.ntmps30
          go_wp2_with (go_at_call 46; refine (HFV.out _ H.out).mono ?_; rintro e w' ⟨rfl, m, rfl⟩)
          go_ret
          exact ⟨rfl, _, rfl⟩
        · have h5' : (n2 : Int) ≤ 5 := by omega
          have e4 : decide ((n2 : Int) ≤ 5) = true := by simp; omega
          have e3 : ∀ a b : Bool, (true && true && (a && true) && (b && true)) = (a && b) := by decide
          rw [e4, e3]
          clear e4 e3
          cases f2 : allB cs 0 ((n : Int) - 1)
          · rw [f2] at L1
            have HL1' := Lib.hid L1
            clear FV L1 L2 hg h h1 h2
            go_enter Try.func30, Try.ntmps30
            go_wp2_with (go_at_call 46; refine (HFV.out _ H.out).mono ?_; rintro e w' ⟨rfl, m, rfl⟩)
            refine (HL1'.out _ (H1.out.drewN m)).mono ?_
            rintro e w' ⟨rfl, rfl⟩
            go_wp2
            go_ret
            exact ⟨rfl, _, rfl⟩
          · rw [f2] at L1
            have HL1' := Lib.hid L1
            have HL2' := Lib.hid L2
            clear FV L1 L2 hg h h1 h2
            go_enter Try.func30, Try.ntmps30
            go_wp2_with (go_at_call 46; refine (HFV.out _ H.out).mono ?_; rintro e w' ⟨rfl, m, rfl⟩)
            refine (HL1'.out _ (H1.out.drewN m)).mono ?_
            rintro e w' ⟨rfl, rfl⟩
            go_wp2_with fail
            refine (HL2'.out _ (H2.out.drewN m)).mono ?_
            rintro e w' ⟨rfl, rfl⟩
            go_wp2
            go_ret
            exact ⟨ret_bool (by simp), _, rfl⟩
end Go.Proofs.Ytmekbfjeljfbpaa
