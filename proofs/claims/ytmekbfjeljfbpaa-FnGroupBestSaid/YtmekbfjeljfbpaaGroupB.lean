/- Whether a list gives each call to a car: l12Give, givenOk: contracts. -/
import Derived.Test.YtmekbfjeljfbpaaGroupA
namespace Go.Proofs.Ytmekbfjeljfbpaa
open Go.ChangeShapes Go.WideShapes Go.ChangeAt Go.RowKit

/-- Numbers of m cars, one for each of n calls. -/
def gvB (ps : List Int) (m n : Nat) : Bool := allB ps 0 ((m : Int) - 1) && decide (ps.length = n)
theorem gvB_iff {ps : List Int} {m n : Nat} : gvB ps m n = true ↔ allB ps 0 ((m : Int) - 1) = true ∧ ps.length = n := by simp [gvB]
set_option maxHeartbeats 1000000 in
theorem gv_any (A' : Option Addr) (n' c' : Nat) (A2 : Option Addr) (n2 c2 : Nat) (A : Option Addr) (n c : Nat) (ps : List Int) (w : World) (hn : n' ≤ 9223372036854775807) (h : Ints w A n ps) :
    Calls Try.prog 33 #[.slice A' n' c', .slice A2 n2 c2, .slice A n c] w fun e w' => e = .returned (.bool (gvB ps n' n2)) ∧ w = w' := by
  obtain ⟨hl, hm, hc⟩ := h
  have HL := Lib.hid hl
  have HC := Lib.hid hc
  have hn' : (n' : Int) ≤ 9223372036854775807 := by omega
  have hn0 : 0 ≤ (n' : Int) := by omega
  clear hl hc
  go_enter Try.func33, Try.ntmps33
  go_wp2
  go_loop [7] (fun i => ∃ k : Nat, k ≤ n ∧ i = .int .i64 k ∧ ∀ j, j < k → 0 ≤ ps[j]?.getD 0 ∧ ps[j]?.getD 0 ≤ (n' : Int) - 1) (fun i => n - (intOf i).toNat)
  case atStart => exact ⟨0, Nat.zero_le _, rfl, fun j hj => by omega⟩
  case round =>
    obtain ⟨k, hk, rfl, hall⟩ := hrel
    have HA := Lib.hid hall
    clear hall
    by_cases hlt : k < n
    · obtain ⟨q, off, rfl, hb, hcc⟩ := HC.out (by omega)
      obtain ⟨y, hy⟩ : ∃ y, ps[k]?.getD 0 = y := ⟨_, rfl⟩
      have e0 := hcc k hlt
      rw [hy] at e0
      have HY := Lib.hid hy
      clear hcc hy
      have hlt' : (k : Int) < (n : Int) := by omega
      by_cases hi : inB y 0 ((n' : Int) - 1) = true
      · have hi2 := inB_open hi
        have HI2 := Lib.hid hi2
        clear hi2
        go_wp2_with (go_at_call 50; refine (l1In_any _ _ _ _).mono ?_; rintro e w' ⟨rfl, rfl⟩)
        go_round
        case rel => exact ⟨k + 1, by omega, by go_num, fun j hj => by
          by_cases e : j = k
          · subst e; rw [HY.out]; exact HI2.out
          · exact HA.out j (by omega)⟩
        case measure => simp [intOf]; omega
      · have hi' := bfalse hi
        have HF : Hid (gvB ps n' n2 = false) := Lib.hid (by
          cases e : gvB ps n' n2 with
          | false => rfl
          | true =>
            have := allB_at (gvB_iff.1 e).1 HL.out hlt
            rw [HY.out] at this
            rw [inB_yes this] at hi'
            cases hi')
        go_wp2_with (go_at_call 50; refine (l1In_any _ _ _ _).mono ?_; rintro e w' ⟨rfl, rfl⟩)
        go_ret
        exact ⟨ret_bool HF.out.symm, rfl⟩
    · obtain rfl : k = n := by omega
      have HF : Hid (gvB ps n' n2 = decide (k = n2)) := Lib.hid (by
        unfold gvB
        rw [allB_yes HL.out HA.out, HL.out]
        rfl)
      rcases beq_or (k : Int) (n2 : Int) with ⟨e1, g1⟩ | ⟨e1, g1⟩
      · have HT : Hid (decide (k = n2) = true) := Lib.hid (by simp; omega)
        go_wp2
        go_ret
        exact ⟨ret_bool (by rw [HF.out, HT.out]), rfl⟩
      · have HT : Hid (decide (k = n2) = false) := Lib.hid (by simp; omega)
        go_wp2
        go_ret
        exact ⟨ret_bool (by rw [HF.out, HT.out]), rfl⟩

set_option maxHeartbeats 1000000 in
theorem gok_any (A : Option Addr) (n c : Nat) (xs : List Int) (A1 : Option Addr) (n1 c1 : Nat) (cs : List Int) (A2 : Option Addr) (n2 c2 : Nat) (ks : List Int) (A3 : Option Addr) (n3 c3 : Nat) (gs : List Int) (w : World) (h : Ints w A n xs) (h1 : Ints w A1 n1 cs) (h2 : Ints w A2 n2 ks) (h3 : Ints w A3 n3 gs) :
    Calls Try.prog 35 #[.slice A n c, .slice A1 n1 c1, .slice A2 n2 c2, .slice A3 n3 c3] w (Qt w (.bool (grB xs cs ks && gvB gs n1 n2))) := by
  have H := Lib.hid h
  have H1 := Lib.hid h1
  have H2 := Lib.hid h2
  have H3 := Lib.hid h3
  have G := fun w hx hy hz => gr_impl A n c xs A1 n1 c1 cs A2 n2 c2 ks w hx hy hz
  have L := fun w hx => within_any A3 n3 c3 gs (n1 : Int) w hx
  have hg : gvB gs n1 n2 = (allB gs 0 ((n1 : Int) - 1) && decide (n3 = n2)) := by unfold gvB; rw [h3.1]
  rw [hg]
  cases f1 : grB xs cs ks
  · rw [f1] at G
    have HG := Lib.hid G
    rw [Bool.false_and]
    clear G L h h1 h2 h3 f1 hg
    go_enter Try.func35, Try.ntmps35
    go_wp2_with (go_at_call 30; refine (HG.out _ H.out H1.out H2.out).mono ?_; rintro e w' ⟨rfl, m, rfl⟩)
    go_ret
    exact ⟨rfl, _, rfl⟩
  · rw [f1] at G
    have HG := Lib.hid G
    have HL' := Lib.hid L
    rw [Bool.true_and]
    rcases beq_or (n3 : Int) (n2 : Int) with ⟨e1, g1⟩ | ⟨e1, g1⟩
    · have e2 : decide (n3 = n2) = true := by simp; omega
      rw [e2, Bool.and_true]
      obtain ⟨b, hb⟩ : ∃ b, allB gs 0 ((n1 : Int) - 1) = b := ⟨_, rfl⟩
      rw [hb] at L ⊢
      have HLB := Lib.hid L
      clear G L h h1 h2 h3 f1 hg e2 HL' hb g1
      go_enter Try.func35, Try.ntmps35
      go_wp2_with (go_at_call 30; refine (HG.out _ H.out H1.out H2.out).mono ?_; rintro e w' ⟨rfl, m, rfl⟩)
      refine (HLB.out _ (H3.out.drewN m)).mono ?_
      rintro e w' ⟨rfl, rfl⟩
      go_wp2
      all_goals go_ret
      all_goals exact ⟨ret_bool (by simp), _, rfl⟩
    · have e2 : decide (n3 = n2) = false := by simp; omega
      rw [e2, Bool.and_false]
      clear G L h h1 h2 h3 f1 hg e2 HL' g1
      go_enter Try.func35, Try.ntmps35
      go_wp2_with (go_at_call 30; refine (HG.out _ H.out H1.out H2.out).mono ?_; rintro e w' ⟨rfl, m, rfl⟩)
      go_ret
      exact ⟨rfl, _, rfl⟩
end Go.Proofs.Ytmekbfjeljfbpaa
