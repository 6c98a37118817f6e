/- FloorsValid of the reference: contract. -/
import Derived.Test.YtmekbfjeljfbpaaWithin
namespace Go.Proofs.Ytmekbfjeljfbpaa
open Go.ChangeShapes Go.WideShapes Go.ChangeAt Go.RowKit

theorem fv_up {xs : List Int} (h : FV xs) : ∀ d i, i + d < xs.length → xs[i]?.getD 0 ≤ xs[i + d]?.getD 0
  | 0, i, _ => Int.le_refl _
  | d + 1, i, hi => by
    have h1 := fv_up h d i (by omega)
    have h2 := h.2.2.2.1 (i + d) (by omega)
    rw [show i + (d + 1) = i + d + 1 by omega]
    omega
theorem fv_range {xs : List Int} (h : FV xs) {j : Nat} (hj : j < xs.length) : 0 ≤ xs[j]?.getD 0 ∧ xs[j]?.getD 0 ≤ 60 := by
  have h1 := fv_up h j 0 (by omega)
  have h2 := fv_up h (xs.length - 1 - j) j (by omega)
  rw [show j + (xs.length - 1 - j) = xs.length - 1 by omega] at h2
  rw [Nat.zero_add] at h1
  have := h.2.2.1
  have := h.2.2.2.2
  omega

set_option maxHeartbeats 2000000 in
theorem fvs_any (A : Option Addr) (n c : Nat) (xs : List Int) (w : World) (h : Ints w A n xs) : Calls Try.prog 43 #[.slice A n c] w (Qt w (.bool (fvB xs))) := by
  have HL := Lib.hid h.1
  have hm := h.2.1
  have HI := Lib.hid h
  clear h
  go_enter Try.func43, Try.ntmps43
  go_wp2
  go_loopw [3] (fun i wr => (∃ m, wr = w.drewN m) ∧ ∃ k : Nat, k ≤ n ∧ i = .int .i64 k ∧ (∀ j, j < k → 0 ≤ xs[j]?.getD 0 ∧ xs[j]?.getD 0 ≤ 60) ∧ ∀ j, j + 1 < k → xs[j]?.getD 0 < xs[j + 1]?.getD 0) (fun i _ => n - (intOf i).toNat)
  case atStart => exact ⟨⟨0, rfl⟩, 0, Nat.zero_le _, rfl, fun j hj => by omega, fun j hj => by omega⟩
  case round =>
    obtain ⟨⟨m, hm0⟩, k, hk, rfl, hall, hasc⟩ := hrel
    have HR : Hid (Ints wr A n xs) := Lib.hid (by rw [hm0]; exact HI.out.drewN m)
    have HM := Lib.hid hm0
    have HA := Lib.hid hall
    have HB := Lib.hid hasc
    clear hm0 hall hasc
    by_cases hlt : k < n
    · obtain ⟨q, off, rfl, hb, hcc⟩ := HR.out.2.2 (by omega)
      obtain ⟨y, hy⟩ : ∃ y, xs[k]?.getD 0 = y := ⟨_, rfl⟩
      have e0 := hcc k hlt
      rw [hy] at e0
      have HY := Lib.hid hy
      have hlt' : (k : Int) < (n : Int) := by omega
      clear hy
      by_cases hi : inB y 0 60 = true
      · cases k with
        | zero =>
          have e1 : wr.cell? ⟨q, off, none⟩ = some (.int .i64 y) := by simpa using e0
          have hl0 : (0 : Int) < (n : Int) := by omega
          have hg : decide ((0 : Int) < 0) = false := by decide
          clear hcc
          go_wp2_with fail
          go_quiet ((go_at_call 50; exact Calls.quiet_of_same (flipW (l1In_any _ _ _ _))))
          all_goals go_wp2
          all_goals exact ⟨⟨⟨_, by rw [HM.out]; exact World.drewN_drewN _ _ _⟩, 1, by omega, rfl, fun j hj => by
            obtain rfl : j = 0 := by omega
            rw [HY.out]; have := inB_open hi; omega, fun j hj => by omega⟩, by simp [intOf]; omega⟩
        | succ k =>
          obtain ⟨z, hz⟩ : ∃ z, xs[k]?.getD 0 = z := ⟨_, rfl⟩
          have e1 := hcc k (by omega)
          rw [hz] at e1
          have HZ := Lib.hid hz
          have ew : IntKind.i64.wrap (((k + 1 : Nat) : Int) - 1) = (k : Int) := by rw [IntWalk.i64_in _ ⟨by omega, by omega⟩]; omega
          have ew2 : IntKind.i64.wrap ((k : Int) + 1 - 1) = (k : Int) := by rw [IntWalk.i64_in _ ⟨by omega, by omega⟩]; omega
          have hlt2 : (k : Int) < (n : Int) := by omega
          have hg : 0 < ((k + 1 : Nat) : Int) := by omega
          have hg2 : (0 : Int) < (k : Int) + 1 := by omega
          clear hcc hz
          by_cases hzy : y ≤ z
          · go_wp2_with fail
            go_quiet ((go_at_call 50; exact Calls.quiet_of_same (flipW (l1In_any _ _ _ _))))
            all_goals go_wp2
            all_goals go_ret
            all_goals exact ⟨ret_bool (fv_no fun hv => by have := hv.2.2.2.1 k (by rw [HL.out]; omega); rw [HZ.out, HY.out] at this; omega).symm, _, by rw [HM.out]; exact World.drewN_drewN _ _ _⟩
          · have hzy' : z < y := by omega
            go_wp2_with fail
            go_quiet ((go_at_call 50; exact Calls.quiet_of_same (flipW (l1In_any _ _ _ _))))
            all_goals go_wp2
            all_goals exact ⟨⟨⟨_, by rw [HM.out]; exact World.drewN_drewN _ _ _⟩, k + 1 + 1, by omega, by go_num, fun j hj => by
              by_cases e : j = k + 1
              · subst e; rw [HY.out]; have := inB_open hi; omega
              · exact HA.out j (by omega), fun j hj => by
              by_cases e : j = k
              · subst e; rw [HZ.out, HY.out]; omega
              · exact HB.out j (by omega)⟩, by simp [intOf]; omega⟩
      · have hi' := bfalse hi
        clear hcc
        go_wp2_with fail
        go_quiet ((go_at_call 50; exact Calls.quiet_of_same (flipW (l1In_any _ _ _ _))))
        all_goals go_wp2
        all_goals go_ret
        all_goals exact ⟨ret_bool (fv_no fun hv => by have := fv_range hv (j := k) (by rw [HL.out]; omega); rw [HY.out] at this; have := inB_shut hi; omega).symm, _, by rw [HM.out]; exact World.drewN_drewN _ _ _⟩
    · obtain rfl : k = n := by omega
      by_cases h8 : inB (k : Int) 1 8 = true
      · obtain ⟨u1, u2⟩ := inB_open h8
        obtain ⟨q, off, rfl, hb, hcc⟩ := HR.out.2.2 (by omega)
        obtain ⟨y, hy⟩ : ∃ y, xs[0]?.getD 0 = y := ⟨_, rfl⟩
        have e0 := hcc 0 (by omega)
        rw [hy, Nat.add_zero] at e0
        have HY := Lib.hid hy
        clear hy hcc
        have hl0 : (0 : Int) < (k : Int) := by omega
        rcases beq_or y 0 with ⟨y1, g1⟩ | ⟨y1, g1⟩
        · have HF : Hid (fvB xs = true) := Lib.hid (fv_yes ⟨by rw [HL.out]; omega, by rw [HL.out]; omega, by rw [HY.out, g1], fun i hi => HB.out i (by rw [HL.out] at hi; omega), by rw [HL.out]; exact (HA.out (k - 1) (by omega)).2⟩)
          clear g1
          go_wp2_with (go_at_call 50; refine (l1In_any _ _ _ _).mono ?_; rintro e w' ⟨rfl, rfl⟩)
          go_ret
          exact ⟨ret_bool HF.out.symm, _, HM.out⟩
        · have HF : Hid (fvB xs = false) := Lib.hid (fv_no fun hv => by have := hv.2.2.1; rw [HY.out] at this; omega)
          clear g1
          go_wp2_with (go_at_call 50; refine (l1In_any _ _ _ _).mono ?_; rintro e w' ⟨rfl, rfl⟩)
          go_ret
          exact ⟨ret_bool HF.out.symm, _, HM.out⟩
      · have h8' := bfalse h8
        have HF : Hid (fvB xs = false) := Lib.hid (fv_no fun hv => by have := hv.1; have := hv.2.1; rw [HL.out] at *; have := inB_shut h8; omega)
        go_wp2_with (go_at_call 50; refine (l1In_any _ _ _ _).mono ?_; rintro e w' ⟨rfl, rfl⟩)
        go_ret
        exact ⟨ret_bool HF.out.symm, _, HM.out⟩
end Go.Proofs.Ytmekbfjeljfbpaa
