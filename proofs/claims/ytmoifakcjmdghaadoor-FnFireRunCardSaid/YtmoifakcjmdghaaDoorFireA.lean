/- FireStep and FireRun of the program (over its table) and of the reference: contracts. -/
import Derived.Test.YtmoifakcjmdghaaDoorBase
import Derived.Test.YtmoifakcjmdghaaDoorFloors
namespace Go.Proofs.YtmoifakcjmdghaaDoor
open Go.ChangeShapes Go.WideShapes Go.ChangeAt Go.RowKit

/-- The mode behind an event. -/
def fstep (m e : Int) : Int :=
  if m < 0 ∨ 3 < m ∨ e < 0 ∨ 4 < e then -1
  else if e = 0 ∧ m = 0 then 1 else if e = 1 ∧ m = 1 then 2 else if e = 2 ∧ m = 2 then 3 else if e = 3 ∧ m = 3 then 1 else if e = 4 ∧ m = 2 then 0 else m
theorem fstep_no {m e : Int} (h : m < 0 ∨ 3 < m ∨ e < 0 ∨ 4 < e) : fstep m e = -1 := by unfold fstep; rw [if_pos h]

/-- The table's numbers. -/
def fireTab : List Int := [1, 0, 0, 0, 0, 1, 2, 1, 1, 1, 2, 2, 3, 2, 0, 3, 3, 3, 1, 3]
/-- Block 0 holds the table. -/
def Tab (w : World) : Prop := 0 < w.heap.size ∧ ∀ i : Nat, i < 20 → w.cell? ⟨0, i, none⟩ = some (.int .i64 (fireTab.getD i 0))
theorem Tab.below {n : Nat} {w w' : World} (h : Tab w) (hb : Below n w w') (hn : 0 < n) : Tab w' := ⟨Nat.lt_of_lt_of_le h.1 hb.size, fun i hi => (hb.cell (p := ⟨0, i, none⟩) hn).trans (h.2 i hi)⟩
theorem tab_step : ∀ a : Nat, a < 4 → ∀ b : Nat, b < 5 → fireTab.getD (a * 5 + b) 0 = fstep a b := by decide

theorem fstep_impl (m e : Int) (w : World) (hT : Tab w) : Calls Tryd.prog 9 #[.int .i64 m, .int .i64 e] w fun x w' => x = .returned (.int .i64 (fstep m e)) ∧ w = w' := by
  by_cases hx : m < 0 ∨ 3 < m ∨ e < 0 ∨ 4 < e
  · rw [fstep_no hx]
    clear hT
    rcases hx with hx | hx | hx | hx
    all_goals
      go_enter Tryd.func9, Tryd.ntmps9
      go_wp2
    all_goals go_ret
    all_goals exact ⟨rfl, rfl⟩
  · obtain ⟨a, rfl⟩ := Int.eq_ofNat_of_zero_le (show 0 ≤ m by omega)
    obtain ⟨b, rfl⟩ := Int.eq_ofNat_of_zero_le (show 0 ≤ e by omega)
    have ha : a < 4 := by omega
    have hb : b < 5 := by omega
    have hc := hT.2 (a * 5 + b) (by omega)
    rw [tab_step a ha b hb] at hc
    have i1 : (a : Int) < 4 := by omega
    have i2 : (b : Int) < 5 := by omega
    have i3 : (a : Int) ≤ 3 := by omega
    have i4 : (b : Int) ≤ 4 := by omega
    clear hx hT
    go_enter Tryd.func9, Tryd.ntmps9
    go_wp2
    go_ret
    exact ⟨rfl, rfl⟩

theorem fstep_spec (m e : Int) (w : World) : Calls Tryd.prog 8 #[.int .i64 m, .int .i64 e] w fun x w' => x = .returned (.int .i64 (fstep m e)) ∧ w = w' := by
  by_cases hA : inB m 0 3 = true
  · by_cases hB : inB e 0 4 = true
    · obtain ⟨h1, h2⟩ := inB_open hA
      obtain ⟨h3, h4⟩ := inB_open hB
      go_enter Tryd.func8, Tryd.ntmps8
      go_wp2_with (go_at_call 21; refine (l1In_any _ _ _ _).mono ?_; rintro e w' ⟨rfl, rfl⟩)
      all_goals go_ret
      all_goals refine ⟨ret_int ?_, rfl⟩
      all_goals (simp only [beq_iff_eq, beq_eq_false_iff_ne] at *; unfold fstep; repeat' split)
      all_goals first | rfl | omega
    · have hB' := bfalse hB
      rw [fstep_no (by have := inB_shut hB; omega)]
      go_enter Tryd.func8, Tryd.ntmps8
      go_wp2_with (go_at_call 21; refine (l1In_any _ _ _ _).mono ?_; rintro e w' ⟨rfl, rfl⟩)
      go_ret
      exact ⟨rfl, rfl⟩
  · have hA' := bfalse hA
    rw [fstep_no (by have := inB_shut hA; omega)]
    go_enter Tryd.func8, Tryd.ntmps8
    go_wp2_with (go_at_call 21; refine (l1In_any _ _ _ _).mono ?_; rintro e w' ⟨rfl, rfl⟩)
    go_ret
    exact ⟨rfl, rfl⟩

/-- The mode behind the first k events. -/
def frunK (m : Int) (xs : List Int) : Nat → Int
  | 0 => m
  | k + 1 => fstep (frunK m xs k) (xs[k]?.getD 0)
theorem frunK_succ (m : Int) (xs : List Int) (k : Nat) : frunK m xs (k + 1) = fstep (frunK m xs k) (xs[k]?.getD 0) := rfl
theorem fstep_ge (m e : Int) : -1 ≤ fstep m e ∧ fstep m e ≤ 3 := by
  unfold fstep
  repeat' split
  all_goals omega
theorem frunK_stays {m : Int} {xs : List Int} {k : Nat} (h : frunK m xs k < 0) : ∀ d, frunK m xs (k + d + 1) = -1
  | 0 => by rw [Nat.add_zero, frunK_succ]; exact fstep_no (.inl h)
  | d + 1 => by
    have ih := frunK_stays h d
    rw [show k + (d + 1) + 1 = (k + d + 1) + 1 from rfl, frunK_succ, ih]; exact fstep_no (.inl (by omega))
theorem frunK_neg {m : Int} {xs : List Int} {k n : Nat} (h : frunK m xs (k + 1) < 0) (hk : k < n) : frunK m xs n = -1 := by
  have h1 : frunK m xs (k + 1) = -1 := by have := fstep_ge (frunK m xs k) (xs[k]?.getD 0); rw [frunK_succ] at h ⊢; omega
  rcases Nat.lt_or_ge (k + 1) n with hlt | hge
  · have := frunK_stays h (n - k - 2)
    rwa [show k + 1 + (n - k - 2) + 1 = n by omega] at this
  · rw [show n = k + 1 by omega]; exact h1
/-- The mode behind a list of events. -/
def frun (m : Int) (xs : List Int) : Int := if m < 0 ∨ 3 < m then -1 else frunK m xs xs.length
theorem frun_no {m : Int} {xs : List Int} (h : m < 0 ∨ 3 < m) : frun m xs = -1 := by unfold frun; rw [if_pos h]
theorem frun_yes {m : Int} {xs : List Int} {n : Nat} (h : ¬ (m < 0 ∨ 3 < m)) (hn : xs.length = n) : frun m xs = frunK m xs n := by unfold frun; rw [if_neg h, hn]

set_option maxHeartbeats 1000000 in
theorem frun_impl (m : Int) (A : Option Addr) (n c : Nat) (xs : List Int) (w : World) (hT : Tab w) (hI : Ints w A n xs) : Calls Tryd.prog 12 #[.int .i64 m, .slice A n c] w fun x w' => x = .returned (.int .i64 (frun m xs)) ∧ w = w' := by
  obtain ⟨hl, hm, hc⟩ := hI
  have HC := Lib.hid hc
  have HT := Lib.hid hT
  by_cases hx : m < 0 ∨ 3 < m
  · rw [frun_no hx]
    clear hT hc hl
    rcases hx with hx | hx
    all_goals
      go_enter Tryd.func12, Tryd.ntmps12
      go_wp2
    all_goals go_ret
    all_goals exact ⟨rfl, rfl⟩
  · rw [frun_yes hx hl]
    have h0 : 0 ≤ m := by omega
    have h3 : m ≤ 3 := by omega
    clear hT hc hl hx
    go_enter Tryd.func12, Tryd.ntmps12
    go_wp2
    go_loop [0, 15] (fun x i => ∃ k : Nat, k ≤ n ∧ i = .int .i64 k ∧ x = .int .i64 (frunK m xs k) ∧ 0 ≤ frunK m xs k) (fun _ i => n - (intOf i).toNat)
    case atStart => exact ⟨0, Nat.zero_le _, rfl, rfl, h0⟩
    case round =>
      obtain ⟨k, hk, rfl, rfl, hp⟩ := hrel
      by_cases hlt : k < n
      · obtain ⟨b, off, rfl, hb, hcc⟩ := HC.out (by omega)
        have e0 := hcc k hlt
        clear hcc
        have hlt' : (k : Int) < (n : Int) := by omega
        have hge := fstep_ge (frunK m xs k) (xs[k]?.getD 0)
        obtain ⟨hg1, hg2⟩ := hge
        go_wp2_with (go_at_call 9; refine (fstep_impl _ _ _ HT.out).mono ?_; rintro e w' ⟨rfl, rfl⟩)
        · go_ret
          have hneg : fstep (frunK m xs k) (xs[k]?.getD 0) < 0 := by assumption
          exact ⟨ret_int (frunK_neg (k := k) (by rw [frunK_succ]; exact hneg) hlt).symm, rfl⟩
        · have hpos : 0 ≤ fstep (frunK m xs k) (xs[k]?.getD 0) := by assumption
          go_round
          case rel => exact ⟨k + 1, by omega, by go_num, by rw [frunK_succ], by rw [frunK_succ]; exact hpos⟩
          case measure => simp [intOf]; omega
      · obtain rfl : k = n := by omega
        go_wp2
        go_ret
        exact ⟨rfl, rfl⟩

set_option maxHeartbeats 1000000 in
theorem frun_spec (m : Int) (A : Option Addr) (n c : Nat) (xs : List Int) (w : World) (hI : Ints w A n xs) : Calls Tryd.prog 10 #[.int .i64 m, .slice A n c] w fun x w' => x = .returned (.int .i64 (frun m xs)) ∧ w = w' := by
  obtain ⟨hl, hm, hc⟩ := hI
  have HC := Lib.hid hc
  by_cases hA : inB m 0 3 = true
  · rw [frun_yes (by have := inB_open hA; omega) hl]
    clear hc hl
    go_enter Tryd.func10, Tryd.ntmps10
    go_wp2_with (go_at_call 21; refine (l1In_any _ _ _ _).mono ?_; rintro e w' ⟨rfl, rfl⟩)
    go_loop [0, 5] (fun x i => ∃ k : Nat, k ≤ n ∧ i = .int .i64 k ∧ x = .int .i64 (frunK m xs k)) (fun _ i => n - (intOf i).toNat)
    case atStart => exact ⟨0, Nat.zero_le _, rfl, rfl⟩
    case round =>
      obtain ⟨k, hk, rfl, rfl⟩ := hrel
      by_cases hlt : k < n
      · obtain ⟨b, off, rfl, hb, hcc⟩ := HC.out (by omega)
        have e0 := hcc k hlt
        clear hcc
        have hlt' : (k : Int) < (n : Int) := by omega
        go_wp2_with (go_at_call 8; refine (fstep_spec _ _ _).mono ?_; rintro e w' ⟨rfl, rfl⟩)
        go_round
        case rel => exact ⟨k + 1, by omega, by go_num, by rw [frunK_succ]⟩
        case measure => simp [intOf]; omega
      · obtain rfl : k = n := by omega
        go_wp2
        go_ret
        exact ⟨rfl, rfl⟩
  · have hA' := bfalse hA
    rw [frun_no (by have := inB_shut hA; omega)]
    clear hc hl
    go_enter Tryd.func10, Tryd.ntmps10
    go_wp2_with (go_at_call 21; refine (l1In_any _ _ _ _).mono ?_; rintro e w' ⟨rfl, rfl⟩)
    go_ret
    exact ⟨rfl, rfl⟩
end Go.Proofs.YtmoifakcjmdghaaDoor
