/- Searches in lists; HallStops and GoalMany of the program and of the reference: contracts. -/
import Derived.Test.YtikoldnejkhepaaHallB
namespace Go.Proofs.Ytikoldnejkhepaa
open Go.ChangeShapes Go.WideShapes Go.ChangeAt Go.RowKit

theorem Ints.take {w : World} {A : Option Addr} {n : Nat} {xs : List Int} (h : Ints w A n xs) (k : Nat) (hk : k ≤ n) : Ints w A k (xs.take k) := by
  obtain ⟨h1, h2, h3⟩ := h
  refine ⟨by simp; omega, by omega, fun h0 => ?_⟩
  obtain ⟨b, off, hA, hb, hc⟩ := h3 (by omega)
  refine ⟨b, off, hA, hb, fun j hj => ?_⟩
  rw [hc j (by omega), List.getElem?_take, if_pos hj]

/-- Whether a list has a number; a Bool that the walk does not open. -/
def hasB (xs : List Int) (y : Int) : Bool := xs.contains y
theorem hasB_yes {xs : List Int} {y : Int} {n k : Nat} (hn : xs.length = n) (hk : k < n) (h : xs[k]?.getD 0 = y) : hasB xs y = true := by
  unfold hasB
  rw [List.contains_iff_mem, ← h, List.getElem?_eq_getElem (by omega)]
  exact List.getElem_mem _
theorem hasB_no {xs : List Int} {y : Int} {n : Nat} (hn : xs.length = n) (h : ∀ k, k < n → xs[k]?.getD 0 ≠ y) : hasB xs y = false := by
  cases e : hasB xs y with
  | false => rfl
  | true =>
    unfold hasB at e
    rw [List.contains_iff_mem] at e
    obtain ⟨i, hi, he⟩ := List.getElem_of_mem e
    have := h i (by omega)
    rw [List.getElem?_eq_getElem hi] at this
    exact absurd he this

set_option maxHeartbeats 1000000 in
theorem has_spec (A : Option Addr) (n c : Nat) (xs : List Int) (y : Int) (w : World) (h : Ints w A n xs) :
    Calls Try.prog 37 #[.slice A n c, .int .i64 y] w fun e w' => e = .returned (.bool (hasB xs y)) ∧ w = w' := by
  obtain ⟨hl, hm, hc⟩ := h
  have HL := Lib.hid hl
  have HC := Lib.hid hc
  clear hl hc
  go_enter Try.func37, Try.ntmps37
  go_wp2
  go_loop [5] (fun i => ∃ k : Nat, k ≤ n ∧ i = .int .i64 k ∧ ∀ j, j < k → xs[j]?.getD 0 ≠ y) (fun i => n - (intOf i).toNat)
  case atStart => exact ⟨0, Nat.zero_le _, rfl, fun j hj => by omega⟩
  case round =>
    obtain ⟨k, hk, rfl, hall⟩ := hrel
    have HA := Lib.hid hall
    clear hall
    by_cases hlt : k < n
    · obtain ⟨q, off, rfl, hb, hcc⟩ := HC.out (by omega)
      obtain ⟨z, hz⟩ : ∃ z, xs[k]?.getD 0 = z := ⟨_, rfl⟩
      have e0 := hcc k hlt
      rw [hz] at e0
      have HZ := Lib.hid hz
      clear hcc hz
      have hlt' : (k : Int) < (n : Int) := by omega
      rcases beq_or z y with ⟨y1, g1⟩ | ⟨y1, g1⟩
      · have G1 := Lib.hid g1
        clear g1
        go_wp2
        go_ret
        exact ⟨ret_bool (hasB_yes HL.out hlt (by rw [HZ.out, G1.out])).symm, rfl⟩
      · have G1 := Lib.hid g1
        clear g1
        go_wp2
        go_round
        case rel => exact ⟨k + 1, by omega, by go_num, fun j hj => by
          by_cases e : j = k
          · subst e; rw [HZ.out]; have := G1.out; omega
          · exact HA.out j (by omega)⟩
        case measure => simp [intOf]; omega
    · obtain rfl : k = n := by omega
      go_wp2
      go_ret
      exact ⟨ret_bool (hasB_no HL.out HA.out).symm, rfl⟩

/-- Where a number stands in a list; -1 where it does not. -/
def IndexPost (xs : List Int) (y : Int) (w : World) (e : Ending) (w' : World) : Prop := ∃ i : Int, e = .returned (.int .i64 i) ∧ (decide (0 ≤ i) = hasB xs y) ∧ w = w'
set_option maxHeartbeats 1000000 in
theorem index_any (A : Option Addr) (n c : Nat) (xs : List Int) (y : Int) (w : World) (h : Ints w A n xs) :
    Calls Try.prog 47 #[.slice A n c, .int .i64 y] w (IndexPost xs y w) := by
  obtain ⟨hl, hm, hc⟩ := h
  have HL := Lib.hid hl
  have HC := Lib.hid hc
  clear hl hc
  go_enter Try.func47, Try.ntmps47
  go_wp2
  go_loop [8] (fun i => ∃ k : Nat, k ≤ n ∧ i = .int .i64 k ∧ ∀ j, j < k → xs[j]?.getD 0 ≠ y) (fun i => n - (intOf i).toNat)
  case atStart => exact ⟨0, Nat.zero_le _, rfl, fun j hj => by omega⟩
  case round =>
    obtain ⟨k, hk, rfl, hall⟩ := hrel
    have HA := Lib.hid hall
    clear hall
    by_cases hlt : k < n
    · obtain ⟨q, off, rfl, hb, hcc⟩ := HC.out (by omega)
      obtain ⟨z, hz⟩ : ∃ z, xs[k]?.getD 0 = z := ⟨_, rfl⟩
      have e0 := hcc k hlt
      rw [hz] at e0
      have HZ := Lib.hid hz
      clear hcc hz
      have hlt' : (k : Int) < (n : Int) := by omega
      rcases beq_or y z with ⟨y1, g1⟩ | ⟨y1, g1⟩
      · have G1 := Lib.hid g1
        clear g1
        go_wp2
        go_ret
        exact ⟨_, rfl, by rw [hasB_yes HL.out hlt (by rw [HZ.out, G1.out])]; simp, rfl⟩
      · have G1 := Lib.hid g1
        clear g1
        go_wp2
        go_round
        case rel => exact ⟨k + 1, by omega, by go_num, fun j hj => by
          by_cases e : j = k
          · subst e; rw [HZ.out]; have := G1.out; omega
          · exact HA.out j (by omega)⟩
        case measure => simp [intOf]; omega
    · obtain rfl : k = n := by omega
      go_wp2
      go_ret
      exact ⟨_, rfl, by rw [hasB_no HL.out HA.out]; simp, rfl⟩
theorem contains_any (A : Option Addr) (n c : Nat) (xs : List Int) (y : Int) (w : World) (h : Ints w A n xs) :
    Calls Try.prog 38 #[.slice A n c, .int .i64 y] w fun e w' => e = .returned (.bool (hasB xs y)) ∧ w = w' := by
  go_enter Try.func38, Try.ntmps38
  go_wp2_with fail
  refine (index_any _ _ _ xs _ _ h).mono ?_
  rintro e w' ⟨i, rfl, hi, rfl⟩
  have HI := Lib.hid hi
  clear hi
  go_wp2
  go_ret
  exact ⟨ret_bool HI.out, rfl⟩

/-- How many different floors the first k riders go to. -/
def gmK (gs : List Int) : Nat → Int
  | 0 => 0
  | k + 1 => gmK gs k + if hasB (gs.take k) (gs[k]?.getD 0) = true then 0 else 1
theorem gmK_succ (gs : List Int) (k : Nat) : gmK gs (k + 1) = gmK gs k + if hasB (gs.take k) (gs[k]?.getD 0) = true then 0 else 1 := rfl
theorem gmK_in (gs : List Int) : ∀ k : Nat, 0 ≤ gmK gs k ∧ gmK gs k ≤ k
  | 0 => ⟨Int.le_refl _, Int.le_refl _⟩
  | k + 1 => by have := gmK_in gs k; rw [gmK_succ]; split <;> omega
def manyI (gs rs : List Int) : Int := if hallB gs rs = true then gmK gs gs.length else -1
theorem manyI_no {gs rs : List Int} (h : hallB gs rs = false) : manyI gs rs = -1 := by unfold manyI; rw [if_neg (by simp [h])]
theorem manyI_yes {gs rs : List Int} {n : Nat} (h : hallB gs rs = true) (hn : gs.length = n) : manyI gs rs = gmK gs n := by unfold manyI; rw [if_pos h, hn]

set_option maxHeartbeats 1000000 in
theorem many_impl (A : Option Addr) (n c : Nat) (gs : List Int) (A' : Option Addr) (n' c' : Nat) (rs : List Int) (w : World) (hcap : n ≤ c) (h : Ints w A n gs) (h' : Ints w A' n' rs) :
    Calls Try.prog 20 #[.slice A n c, .slice A' n' c'] w (Qt w (.int .i64 (manyI gs rs))) := by
  have HL := Lib.hid h.1
  cases hh : hallB gs rs
  · rw [manyI_no hh]
    go_enter Try.func20, Try.ntmps20
    go_wp2_with (go_at_call 15; refine (hallOk_impl _ _ _ gs _ _ _ rs _ h h').mono ?_; rintro e w' ⟨rfl, rfl⟩)
    go_ret
    exact qt_same _ _
  · rw [manyI_yes hh HL.out]
    obtain ⟨b1, b2, b3, b4, b5⟩ := hallB_iff.1 hh
    have m1 : n ≤ 6 := by have := HL.out; omega
    have m1' : (n : Int) ≤ 6 := by omega
    clear b1 b2 b3 b4 b5
    have HI := Lib.hid h
    go_enter Try.func20, Try.ntmps20
    go_wp2_with (go_at_call 15; refine (hallOk_impl _ _ _ gs _ _ _ rs _ h h').mono ?_; rintro e w' ⟨rfl, rfl⟩)
    clear h h'
    go_loop [5, 14] (fun x i => ∃ k : Nat, k ≤ n ∧ i = .int .i64 k ∧ x = .int .i64 (gmK gs k)) (fun _ i => n - (intOf i).toNat)
    case atStart => exact ⟨0, Nat.zero_le _, rfl, rfl⟩
    case round =>
      obtain ⟨k, hk, rfl, rfl⟩ := hrel
      by_cases hlt : k < n
      · obtain ⟨q, off, rfl, hb, hcc⟩ := HI.out.2.2 (by omega)
        obtain ⟨z, hz⟩ : ∃ z, gs[k]?.getD 0 = z := ⟨_, rfl⟩
        have e0 := hcc k hlt
        rw [hz] at e0
        have HZ := Lib.hid hz
        obtain ⟨z0, z1⟩ := gmK_in gs k
        have hlt' : (k : Int) < (n : Int) := by omega
        have hkc : k ≤ c := by omega
        clear hcc hz
        cases hs : hasB (gs.take k) z
        all_goals
          go_wp2_with (go_at_call 38; refine (contains_any _ _ _ (gs.take k) _ _ (HI.out.take k (by omega))).mono ?_; rintro e w' ⟨rfl, rfl⟩)
          go_round
          case rel => exact ⟨k + 1, by omega, by go_num, by rw [gmK_succ, HZ.out, hs]; simp⟩
          case measure => simp [intOf]; omega
      · obtain rfl : k = n := by omega
        go_wp2
        go_ret
        exact qt_same _ _

set_option maxHeartbeats 1000000 in
theorem many_spec (A : Option Addr) (n c : Nat) (gs : List Int) (A' : Option Addr) (n' c' : Nat) (rs : List Int) (w : World) (hcap : n ≤ c) (h : Ints w A n gs) (h' : Ints w A' n' rs) :
    Calls Try.prog 19 #[.slice A n c, .slice A' n' c'] w (Qt w (.int .i64 (manyI gs rs))) := by
  have HL := Lib.hid h.1
  cases hh : hallB gs rs
  · rw [manyI_no hh]
    go_enter Try.func19, Try.ntmps19
    go_wp2_with (go_at_call 13; refine (hallOk_spec _ _ _ gs _ _ _ rs _ h h').mono ?_; rintro e w' ⟨rfl, rfl⟩)
    go_ret
    exact qt_same _ _
  · rw [manyI_yes hh HL.out]
    obtain ⟨b1, b2, b3, b4, b5⟩ := hallB_iff.1 hh
    have m1 : n ≤ 6 := by have := HL.out; omega
    have m1' : (n : Int) ≤ 6 := by omega
    clear b1 b2 b3 b4 b5
    have HI := Lib.hid h
    go_enter Try.func19, Try.ntmps19
    go_wp2_with (go_at_call 13; refine (hallOk_spec _ _ _ gs _ _ _ rs _ h h').mono ?_; rintro e w' ⟨rfl, rfl⟩)
    clear h h'
    go_loopw [5, 6] (fun x i wr => (∃ m, wr = w.drewN m) ∧ ∃ k : Nat, k ≤ n ∧ i = .int .i64 k ∧ x = .int .i64 (gmK gs k)) (fun _ i _ => n - (intOf i).toNat)
    case atStart => exact ⟨⟨0, rfl⟩, 0, Nat.zero_le _, rfl, rfl⟩
    case round =>
      obtain ⟨⟨m, hm⟩, k, hk, rfl, rfl⟩ := hrel
      have HR : Hid (Ints wr A n gs) := Lib.hid (by rw [hm]; exact HI.out.drewN m)
      have HM := Lib.hid hm
      clear hm
      by_cases hlt : k < n
      · obtain ⟨q, off, rfl, hb, hcc⟩ := HR.out.2.2 (by omega)
        obtain ⟨z, hz⟩ : ∃ z, gs[k]?.getD 0 = z := ⟨_, rfl⟩
        have e0 := hcc k hlt
        rw [hz] at e0
        have HZ := Lib.hid hz
        obtain ⟨z0, z1⟩ := gmK_in gs k
        have hlt' : (k : Int) < (n : Int) := by omega
        have hkc : k ≤ c := by omega
        clear hcc hz
        cases hs : hasB (gs.take k) z
        all_goals
          go_wp2_with fail
          go_quiet ((go_at_call 37; exact Calls.quiet_of_same (flipW (has_spec _ _ _ (gs.take k) _ _ (HR.out.take k (by omega))))))
          all_goals go_wp2
          all_goals exact ⟨⟨⟨_, by rw [HM.out]; exact World.drewN_drewN _ _ _⟩, k + 1, by omega, by go_num, by rw [gmK_succ, HZ.out, hs]; simp⟩, by simp [intOf]; omega⟩
      · obtain rfl : k = n := by omega
        go_wp2
        go_ret
        exact ⟨rfl, _, HM.out⟩
end Go.Proofs.Ytikoldnejkhepaa
