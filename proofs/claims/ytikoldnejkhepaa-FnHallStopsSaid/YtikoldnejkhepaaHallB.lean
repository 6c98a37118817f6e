/- HallFits of the program and of the reference: contracts; the law FnExactHallFits: the walk. -/
import Derived.Test.YtikoldnejkhepaaHallA
import Derived.Laws.OwnMore
namespace Go.Proofs.Ytikoldnejkhepaa
open Go.ChangeShapes Go.WideShapes Go.ChangeAt Go.RowKit

theorem madeCells_one (z : Value) (n c : Nat) (hc : c < n) : (madeCells #[z] n)[c]? = some z := by
  rw [← Array.getElem?_toList, toList_madeCells_one, List.getElem?_replicate, if_pos hc]
/-- How many of the first k numbers are c. -/
def cntK (ps : List Int) (c : Int) : Nat → Int
  | 0 => 0
  | k + 1 => cntK ps c k + if ps[k]?.getD 0 = c then 1 else 0
theorem cntK_succ (ps : List Int) (c : Int) (k : Nat) : cntK ps c (k + 1) = cntK ps c k + if ps[k]?.getD 0 = c then 1 else 0 := rfl
theorem cntK_in (ps : List Int) (c : Int) : ∀ k : Nat, 0 ≤ cntK ps c k ∧ cntK ps c k ≤ k
  | 0 => ⟨Int.le_refl _, Int.le_refl _⟩
  | k + 1 => by have := cntK_in ps c k; rw [cntK_succ]; split <;> omega
/-- Riders fit into cars; a Bool that the walk does not open. -/
def fitsB (gs rs ps : List Int) : Bool := hallB gs rs && decide (ps.length = gs.length) && allB ps 0 ((rs.length : Int) - 1) && decide (∀ c : Nat, c < rs.length → cntK ps c ps.length ≤ rs[c]?.getD 0)
theorem fitsB_iff {gs rs ps : List Int} : fitsB gs rs ps = true ↔ hallB gs rs = true ∧ ps.length = gs.length ∧ allB ps 0 ((rs.length : Int) - 1) = true ∧ ∀ c : Nat, c < rs.length → cntK ps c ps.length ≤ rs[c]?.getD 0 := by
  simp [fitsB, and_assoc]
theorem fitsB_no {gs rs ps : List Int} (h : ¬ (hallB gs rs = true ∧ ps.length = gs.length ∧ allB ps 0 ((rs.length : Int) - 1) = true ∧ ∀ c : Nat, c < rs.length → cntK ps c ps.length ≤ rs[c]?.getD 0)) : fitsB gs rs ps = false := by
  cases e : fitsB gs rs ps with
  | false => rfl
  | true => exact absurd (fitsB_iff.1 e) h

/-- The first k riders are counted. -/
def Counted (cs : Array Value) (m k : Nat) (ps : List Int) : Prop := cs.size = m ∧ ∀ c : Nat, c < m → cs[c]? = some (.int .i64 (cntK ps c k))
theorem Counted.next {cs : Array Value} {m k : Nat} {ps : List Int} (h : Counted cs m k ps) {y : Nat} (hy : ps[k]?.getD 0 = (y : Int)) (hlt : y < m) : Counted (cs.setIfInBounds y (.int .i64 (cntK ps y k + 1))) m (k + 1) ps := by
  refine ⟨by simpa using h.1, fun c hc => ?_⟩
  have hs := h.1
  rw [cntK_succ, hy]
  by_cases e : c = y
  · subst e
    rw [Array.getElem?_setIfInBounds_self_of_lt (by omega), if_pos rfl]
  · rw [Array.getElem?_setIfInBounds_ne (by omega), if_neg (by omega), Int.add_zero]; exact h.2 c hc

set_option maxHeartbeats 2000000 in
theorem fits_impl (A : Option Addr) (n c : Nat) (gs : List Int) (A' : Option Addr) (n' c' : Nat) (rs : List Int) (A2 : Option Addr) (n2 c2 : Nat) (ps : List Int) (w : World) (h : Ints w A n gs) (h' : Ints w A' n' rs) (h2 : Ints w A2 n2 ps) :
    Calls Try.prog 18 #[.slice A n c, .slice A' n' c', .slice A2 n2 c2] w fun e w' => e = .returned (.bool (fitsB gs rs ps)) ∧ Below w.heap.size w w' := by
  have HL := Lib.hid h.1
  have HL' := Lib.hid h'.1
  have HL2 := Lib.hid h2.1
  cases hh : hallB gs rs
  · have HF : Hid (fitsB gs rs ps = false) := Lib.hid (fitsB_no fun e => by rw [hh] at e; exact absurd e.1 (by simp))
    go_enter Try.func18, Try.ntmps18
    go_wp2_with (go_at_call 15; refine (hallOk_impl _ _ _ gs _ _ _ rs _ h h').mono ?_; rintro e w' ⟨rfl, rfl⟩)
    go_ret
    exact ⟨ret_bool HF.out.symm, by (repeat' (first | (with_reducible exact Below.refl _ _) | (with_reducible assumption) | (with_reducible exact bundrew (by assumption)) | (with_reducible refine balloc ?_ _) | (with_reducible refine bset ?_ _ ?_ _) | (with_reducible refine Below.drew ?_) | (with_reducible refine bdrewN ?_ _) | (with_reducible refine bvia (by assumption) ?_) | (with_reducible refine Below.trans ?_ (by assumption)) | omega | (simp; omega) | (simp; done)))⟩
  · obtain ⟨b1, b2, b3, b4, b5⟩ := hallB_iff.1 hh
    have m1 : n ≤ 6 := by have := HL.out; omega
    have m2 : 1 ≤ n' := by have := HL'.out; omega
    have m3 : n' ≤ 3 := by have := HL'.out; omega
    have m1' : (n : Int) ≤ 6 := by omega
    have m2' : 1 ≤ (n' : Int) := by omega
    have m3' : (n' : Int) ≤ 3 := by omega
    clear b1 b2 b3 b4 b5
    rcases beq_or (n2 : Int) (n : Int) with ⟨e1, e2⟩ | ⟨e1, e2⟩
    · obtain rfl : n2 = n := by omega
      clear e2
      cases ha : allB ps 0 ((n' : Int) - 1)
      · have HF : Hid (fitsB gs rs ps = false) := Lib.hid (fitsB_no fun e => by have := e.2.2.1; rw [HL'.out, ha] at this; exact absurd this (by simp))
        go_enter Try.func18, Try.ntmps18
        go_wp2_with (go_at_call 15; refine (hallOk_impl _ _ _ gs _ _ _ rs _ h h').mono ?_; rintro e w' ⟨rfl, rfl⟩)
        go_wp2_with (go_at_call 36; refine (within_any _ _ _ ps _ _ h2).mono ?_; rintro e w' ⟨rfl, rfl⟩)
        go_ret
        exact ⟨ret_bool HF.out.symm, by (repeat' (first | (with_reducible exact Below.refl _ _) | (with_reducible assumption) | (with_reducible exact bundrew (by assumption)) | (with_reducible refine balloc ?_ _) | (with_reducible refine bset ?_ _ ?_ _) | (with_reducible refine Below.drew ?_) | (with_reducible refine bdrewN ?_ _) | (with_reducible refine bvia (by assumption) ?_) | (with_reducible refine Below.trans ?_ (by assumption)) | omega | (simp; omega) | (simp; done)))⟩
      · have HAL := Lib.hid (fun k (hk : k < n2) => allB_at ha HL2.out hk)
        obtain ⟨i0, hi, hz0, hz1, hz2⟩ := info_parts infoInt
        have hmk : ∀ W : World, (Instr.makeSlice 22 (.int .i64 (n' : Int)) (.int .i64 (n' : Int))).run Try.prog W = .ok (.slice (some ⟨W.heap.size, 0, none⟩) n' n') (W.alloc (.cells (madeCells #[.int .i64 0] n') 3)) := fun W => by
          have h := make_row (P := Try.prog) 22 3 i0 _ Try.underlying22 hi hz0 n' (by rw [hz2]; omega) (by omega) W
          rw [hz1, Nat.mul_one] at h
          exact h
        clear hi hz0 hz1 hz2
        have HC2 := Lib.hid h2.2.2
        have HC' := Lib.hid h'.2.2
        go_enter Try.func18, Try.ntmps18
        go_wp2_with (go_at_call 15; refine (hallOk_impl _ _ _ gs _ _ _ rs _ h h').mono ?_; rintro e w' ⟨rfl, rfl⟩)
        go_wp2_with (go_at_call 36; refine (within_any _ _ _ ps _ _ h2).mono ?_; rintro e w' ⟨rfl, rfl⟩)
        clear h h' h2
        go_loopw [35] (fun i wr => ∃ (k : Nat) (cs : Array Value), k ≤ n2 ∧ i = .int .i64 k ∧ Below w.heap.size w wr ∧ Blk wr w.heap.size 3 cs ∧ Counted cs n' k ps) (fun i _ => n2 - (intOf i).toNat)
        case atStart =>
          refine ⟨0, _, Nat.zero_le _, rfl, by (repeat' (first | (with_reducible exact Below.refl _ _) | (with_reducible assumption) | (with_reducible exact bundrew (by assumption)) | (with_reducible refine balloc ?_ _) | (with_reducible refine bset ?_ _ ?_ _) | (with_reducible refine Below.drew ?_) | (with_reducible refine bdrewN ?_ _) | (with_reducible refine bvia (by assumption) ?_) | (with_reducible refine Below.trans ?_ (by assumption)) | omega | (simp; omega) | (simp; done))), Blk.new _ _ _, size_madeCells _ _, fun c hc => ?_⟩
          rw [madeCells_one _ _ _ hc]
          rfl
        case round =>
          obtain ⟨k, cs, hk, rfl, B1, hb1, hF⟩ := hrel
          have hlt1 := hb1.lt
          by_cases hlt : k < n2
          · obtain ⟨q, off, rfl, hb, hcc⟩ := HC2.out (by omega)
            obtain ⟨a1, a2⟩ := HAL.out k hlt
            obtain ⟨y, hy⟩ : ∃ y : Nat, ps[k]?.getD 0 = (y : Int) := ⟨(ps[k]?.getD 0).toNat, by omega⟩
            rw [hy] at a1 a2
            have e0 : wr.cell? ⟨q, off + k, none⟩ = some (.int .i64 (ps[k]?.getD 0)) := (B1.cell (p := ⟨q, off + k, none⟩) hb).trans (hcc k hlt)
            rw [hy] at e0
            have hyn : y < n' := by omega
            have hyn' : (y : Int) < (n' : Int) := by omega
            have hlt' : (k : Int) < (n2 : Int) := by omega
            obtain ⟨z0, z1⟩ := cntK_in ps y k
            obtain ⟨z, hz⟩ : ∃ z, cntK ps y k = z := ⟨_, rfl⟩
            have e2 : wr.cell? ⟨w.heap.size, y, none⟩ = some (.int .i64 (cntK ps y k)) := by rw [hb1.cell]; exact hF.2 y hyn
            rw [hz] at e2 z0 z1
            have e4 := hb1.frozen y
            have HB := Lib.hid hb1
            have HF := Lib.hid (hF.next hy hyn)
            rw [hz] at HF
            clear hcc hb1 hF hy hz a1 a2
            go_wp2
            refine ⟨⟨k + 1, _, by omega, by go_num, by (repeat' (first | (with_reducible exact Below.refl _ _) | (with_reducible assumption) | (with_reducible exact bundrew (by assumption)) | (with_reducible refine balloc ?_ _) | (with_reducible refine bset ?_ _ ?_ _) | (with_reducible refine Below.drew ?_) | (with_reducible refine bdrewN ?_ _) | (with_reducible refine bvia (by assumption) ?_) | (with_reducible refine Below.trans ?_ (by assumption)) | omega | (simp; omega) | (simp; done))), HB.out.set_ _ _, HF.out⟩, by simp [intOf]; omega⟩
          · obtain rfl : k = n2 := by omega
            have HB := Lib.hid hb1
            have HF := Lib.hid hF
            have HW := Lib.hid B1
            clear hb1 hF B1
            go_wp2
            go_loop [48] (fun i => ∃ j : Nat, j ≤ n' ∧ i = .int .i64 j ∧ ∀ c : Nat, c < j → cntK ps c k ≤ rs[c]?.getD 0) (fun i => n' - (intOf i).toNat)
            case atStart => exact ⟨0, Nat.zero_le _, rfl, fun c hc => by omega⟩
            case round =>
              obtain ⟨j, hj, rfl, hall⟩ := hrel
              have HA := Lib.hid hall
              clear hall
              by_cases hjl : j < n'
              · obtain ⟨q, off, rfl, hb, hcc⟩ := HC'.out (by omega)
                obtain ⟨y, hy⟩ : ∃ y, rs[j]?.getD 0 = y := ⟨_, rfl⟩
                obtain ⟨z, hz⟩ : ∃ z, cntK ps j k = z := ⟨_, rfl⟩
                have e0 : wr.cell? ⟨q, off + j, none⟩ = some (.int .i64 (rs[j]?.getD 0)) := (HW.out.cell (p := ⟨q, off + j, none⟩) hb).trans (hcc j hjl)
                have e2 : wr.cell? ⟨w.heap.size, j, none⟩ = some (.int .i64 (cntK ps j k)) := by rw [HB.out.cell]; exact HF.out.2 j hjl
                rw [hy] at e0
                rw [hz] at e2
                have HY := Lib.hid hy
                have HZ := Lib.hid hz
                have hjl' : (j : Int) < (n' : Int) := by omega
                clear hcc hy hz
                by_cases hyz : y < z
                · go_wp2
                  go_ret
                  exact ⟨ret_bool (fitsB_no fun e => by have := e.2.2.2 j (by rw [HL'.out]; exact hjl); rw [HL2.out, HZ.out, HY.out] at this; omega).symm, by have := HW.out; (repeat' (first | (with_reducible exact Below.refl _ _) | (with_reducible assumption) | (with_reducible exact bundrew (by assumption)) | (with_reducible refine balloc ?_ _) | (with_reducible refine bset ?_ _ ?_ _) | (with_reducible refine Below.drew ?_) | (with_reducible refine bdrewN ?_ _) | (with_reducible refine bvia (by assumption) ?_) | (with_reducible refine Below.trans ?_ (by assumption)) | omega | (simp; omega) | (simp; done)))⟩
                · have hyz' : z ≤ y := by omega
                  go_wp2
                  go_round
                  case rel => exact ⟨j + 1, by omega, by go_num, fun c hc => by
                    by_cases e : c = j
                    · subst e; rw [HZ.out, HY.out]; exact hyz'
                    · exact HA.out c (by omega)⟩
                  case measure => simp [intOf]; omega
              · obtain rfl : j = n' := by omega
                go_wp2
                go_ret
                exact ⟨ret_bool (fitsB_iff.2 ⟨hh, by rw [HL.out, HL2.out], by rw [HL'.out]; exact ha, by rw [HL'.out, HL2.out]; exact HA.out⟩).symm, by have := HW.out; (repeat' (first | (with_reducible exact Below.refl _ _) | (with_reducible assumption) | (with_reducible exact bundrew (by assumption)) | (with_reducible refine balloc ?_ _) | (with_reducible refine bset ?_ _ ?_ _) | (with_reducible refine Below.drew ?_) | (with_reducible refine bdrewN ?_ _) | (with_reducible refine bvia (by assumption) ?_) | (with_reducible refine Below.trans ?_ (by assumption)) | omega | (simp; omega) | (simp; done)))⟩
    · have HF : Hid (fitsB gs rs ps = false) := Lib.hid (fitsB_no fun e => by have := e.2.1; have := HL.out; have := HL2.out; omega)
      have e3 : ((n2 : Int) != (n : Int)) = true := by rw [bne_iff_ne]; omega
      clear e2
      go_enter Try.func18, Try.ntmps18
      go_wp2_with (go_at_call 15; refine (hallOk_impl _ _ _ gs _ _ _ rs _ h h').mono ?_; rintro e w' ⟨rfl, rfl⟩)
      go_ret
      exact ⟨ret_bool HF.out.symm, by (repeat' (first | (with_reducible exact Below.refl _ _) | (with_reducible assumption) | (with_reducible exact bundrew (by assumption)) | (with_reducible refine balloc ?_ _) | (with_reducible refine bset ?_ _ ?_ _) | (with_reducible refine Below.drew ?_) | (with_reducible refine bdrewN ?_ _) | (with_reducible refine bvia (by assumption) ?_) | (with_reducible refine Below.trans ?_ (by assumption)) | omega | (simp; omega) | (simp; done)))⟩

set_option maxHeartbeats 2000000 in
theorem fits_spec (A : Option Addr) (n c : Nat) (gs : List Int) (A' : Option Addr) (n' c' : Nat) (rs : List Int) (A2 : Option Addr) (n2 c2 : Nat) (ps : List Int) (w : World) (h : Ints w A n gs) (h' : Ints w A' n' rs) (h2 : Ints w A2 n2 ps) :
    Calls Try.prog 17 #[.slice A n c, .slice A' n' c', .slice A2 n2 c2] w fun e w' => e = .returned (.bool (fitsB gs rs ps)) ∧ w = w' := by
  have HL := Lib.hid h.1
  have HL' := Lib.hid h'.1
  have HL2 := Lib.hid h2.1
  cases hh : hallB gs rs
  · have HF : Hid (fitsB gs rs ps = false) := Lib.hid (fitsB_no fun e => by rw [hh] at e; exact absurd e.1 (by simp))
    go_enter Try.func17, Try.ntmps17
    go_wp2_with (go_at_call 13; refine (hallOk_spec _ _ _ gs _ _ _ rs _ h h').mono ?_; rintro e w' ⟨rfl, rfl⟩)
    go_ret
    exact ⟨ret_bool HF.out.symm, rfl⟩
  · obtain ⟨b1, b2, b3, b4, b5⟩ := hallB_iff.1 hh
    have m1 : n ≤ 6 := by have := HL.out; omega
    have m2 : 1 ≤ n' := by have := HL'.out; omega
    have m3 : n' ≤ 3 := by have := HL'.out; omega
    have m1' : (n : Int) ≤ 6 := by omega
    have m2' : 1 ≤ (n' : Int) := by omega
    have m3' : (n' : Int) ≤ 3 := by omega
    clear b1 b2 b3 b4 b5
    rcases beq_or (n2 : Int) (n : Int) with ⟨e1, e2⟩ | ⟨e1, e2⟩
    · obtain rfl : n2 = n := by omega
      clear e2
      have HC2 := Lib.hid h2.2.2
      have HC' := Lib.hid h'.2.2
      go_enter Try.func17, Try.ntmps17
      go_wp2_with (go_at_call 13; refine (hallOk_spec _ _ _ gs _ _ _ rs _ h h').mono ?_; rintro e w' ⟨rfl, rfl⟩)
      clear h h' h2
      go_loop [7] (fun i => ∃ j : Nat, j ≤ n' ∧ i = .int .i64 j ∧ (0 < j → allB ps 0 ((n' : Int) - 1) = true) ∧ ∀ c : Nat, c < j → cntK ps c n2 ≤ rs[c]?.getD 0) (fun i => n' - (intOf i).toNat)
      case atStart => exact ⟨0, Nat.zero_le _, rfl, fun h => absurd h (by omega), fun c hc => by omega⟩
      case round =>
        obtain ⟨j, hj, rfl, ha, hall⟩ := hrel
        have HA := Lib.hid hall
        have HAL := Lib.hid ha
        clear hall ha
        by_cases hjl : j < n'
        · have hjl' : (j : Int) < (n' : Int) := by omega
          go_wp2
          go_loop [8, 9] (fun x i => ∃ k : Nat, k ≤ n2 ∧ i = .int .i64 k ∧ x = .int .i64 (cntK ps j k) ∧ ∀ i : Nat, i < k → 0 ≤ ps[i]?.getD 0 ∧ ps[i]?.getD 0 ≤ (n' : Int) - 1) (fun _ i => n2 - (intOf i).toNat)
          case atStart => exact ⟨0, Nat.zero_le _, rfl, rfl, fun i hi => by omega⟩
          case round =>
            obtain ⟨k, hk, rfl, rfl, hall⟩ := hrel
            have HB := Lib.hid hall
            clear hall
            by_cases hlt : k < n2
            · obtain ⟨q, off, rfl, hb, hcc⟩ := HC2.out (by omega)
              obtain ⟨y, hy⟩ : ∃ y, ps[k]?.getD 0 = y := ⟨_, rfl⟩
              have e0 := hcc k hlt
              rw [hy] at e0
              have HY := Lib.hid hy
              obtain ⟨z0, z1⟩ := cntK_in ps j k
              have hlt' : (k : Int) < (n2 : Int) := by omega
              clear hcc hy
              by_cases hi : inB y 0 ((n' : Int) - 1) = true
              · rcases beq_or y (j : Int) with ⟨y1, g1⟩ | ⟨y1, g1⟩
                all_goals
                  have G1 := Lib.hid g1
                  clear g1
                  go_wp2_with (go_at_call 35; refine (l1In_any _ _ _ _).mono ?_; rintro e w' ⟨rfl, rfl⟩)
                  go_round
                  case rel => exact ⟨k + 1, by omega, by go_num, by
                    rw [cntK_succ, HY.out]
                    have := G1.out
                    first | (rw [if_pos (by omega)]) | (rw [if_neg (by omega), Int.add_zero]), fun i hx => by
                      by_cases e : i = k
                      · subst e; rw [HY.out]; have := inB_open hi; omega
                      · exact HB.out i (by omega)⟩
                  case measure => simp [intOf]; omega
              · have hi' := bfalse hi
                go_wp2_with (go_at_call 35; refine (l1In_any _ _ _ _).mono ?_; rintro e w' ⟨rfl, rfl⟩)
                go_ret
                exact ⟨ret_bool (fitsB_no fun e => by have := allB_at e.2.2.1 HL2.out hlt; rw [HL'.out, HY.out] at this; have := inB_shut hi; omega).symm, rfl⟩
            · obtain rfl : k = n2 := by omega
              obtain ⟨q, off, rfl, hb, hcc⟩ := HC'.out (by omega)
              obtain ⟨y, hy⟩ : ∃ y, rs[j]?.getD 0 = y := ⟨_, rfl⟩
              obtain ⟨z, hz⟩ : ∃ z, cntK ps j k = z := ⟨_, rfl⟩
              have e0 := hcc j hjl
              rw [hy] at e0
              rw [hz]
              have HY := Lib.hid hy
              have HZ := Lib.hid hz
              clear hcc hy hz
              by_cases hyz : y < z
              · go_wp2
                go_ret
                exact ⟨ret_bool (fitsB_no fun e => by have := e.2.2.2 j (by rw [HL'.out]; exact hjl); rw [HL2.out, HZ.out, HY.out] at this; omega).symm, rfl⟩
              · have hyz' : z ≤ y := by omega
                go_wp2
                go_round
                case rel => exact ⟨j + 1, by omega, by go_num, fun _ => allB_yes HL2.out HB.out, fun c hc => by
                  by_cases e : c = j
                  · subst e; rw [HZ.out, HY.out]; exact hyz'
                  · exact HA.out c (by omega)⟩
                case measure => simp [intOf]; omega
        · obtain rfl : j = n' := by omega
          go_wp2
          go_ret
          exact ⟨ret_bool (fitsB_iff.2 ⟨hh, by rw [HL.out, HL2.out], by rw [HL'.out]; exact HAL.out (by omega), by rw [HL'.out, HL2.out]; exact HA.out⟩).symm, rfl⟩
    · have HF : Hid (fitsB gs rs ps = false) := Lib.hid (fitsB_no fun e => by have := e.2.1; have := HL.out; have := HL2.out; omega)
      have e3 : ((n2 : Int) != (n : Int)) = true := by rw [bne_iff_ne]; omega
      clear e2
      go_enter Try.func17, Try.ntmps17
      go_wp2_with (go_at_call 13; refine (hallOk_spec _ _ _ gs _ _ _ rs _ h h').mono ?_; rintro e w' ⟨rfl, rfl⟩)
      go_ret
      exact ⟨ret_bool HF.out.symm, rfl⟩

set_option maxHeartbeats 2000000 in
theorem walk_FnExactHallFits (A : Option Addr) (n c : Nat) (gs : List Int) (A' : Option Addr) (n' c' : Nat) (rs : List Int) (A2 : Option Addr) (n2 c2 : Nat) (ps : List Int) (w : World) (h : Ints w A n gs) (h' : Ints w A' n' rs) (h2 : Ints w A2 n2 ps) :
    Calls Try.prog 4 #[.slice A n c, .slice A' n' c', .slice A2 n2 c2] w fun e w' => e = .returned (.bool true) ∧ Below w.heap.size w w' := by
  by_cases hn : n ≤ 1048576
  · have hn1 : (n : Int) ≤ 1048576 := by omega
    by_cases hn' : n' ≤ 1048576
    · have hn2 : (n' : Int) ≤ 1048576 := by omega
      by_cases hn2' : n2 ≤ 1048576
      · have hn3 : (n2 : Int) ≤ 1048576 := by omega
        go_enter Try.func4, Try.ntmps4
        go_wp2_with fail
        refine (toInts_any A n c gs _ (h.below (by (repeat' (first | (with_reducible exact Below.refl _ _) | (with_reducible assumption) | (with_reducible exact bundrew (by assumption)) | (with_reducible refine balloc ?_ _) | (with_reducible refine bset ?_ _ ?_ _) | (with_reducible refine Below.drew ?_) | (with_reducible refine bdrewN ?_ _) | (with_reducible refine bvia (by assumption) ?_) | (with_reducible refine Below.trans ?_ (by assumption)) | omega | (simp; omega) | (simp; done))))) hn).mono ?_
        rintro e w1 ⟨g1, c1, rfl, hg1, hP1, hbw1⟩
        obtain ⟨hcw1, hfw1, -, -, -, hsw1⟩ := bfacts5 hbw1
        try simp only [World.size_drew] at hcw1 hfw1
        try simp at hsw1
        go_wp2_with fail
        refine (toInts_any A' n' c' rs _ (h'.below (by (repeat' (first | (with_reducible exact Below.refl _ _) | (with_reducible assumption) | (with_reducible exact bundrew (by assumption)) | (with_reducible refine balloc ?_ _) | (with_reducible refine bset ?_ _ ?_ _) | (with_reducible refine Below.drew ?_) | (with_reducible refine bdrewN ?_ _) | (with_reducible refine bvia (by assumption) ?_) | (with_reducible refine Below.trans ?_ (by assumption)) | omega | (simp; omega) | (simp; done))))) hn').mono ?_
        rintro e w2 ⟨g2, c2', rfl, hg2, hP2, hbw2⟩
        obtain ⟨hcw2, hfw2, -, -, -, hsw2⟩ := bfacts5 hbw2
        try simp only [World.size_drew] at hcw2 hfw2
        try simp at hsw2
        go_wp2_with fail
        refine (toInts_any A2 n2 c2 ps _ (h2.below (by (repeat' (first | (with_reducible exact Below.refl _ _) | (with_reducible assumption) | (with_reducible exact bundrew (by assumption)) | (with_reducible refine balloc ?_ _) | (with_reducible refine bset ?_ _ ?_ _) | (with_reducible refine Below.drew ?_) | (with_reducible refine bdrewN ?_ _) | (with_reducible refine bvia (by assumption) ?_) | (with_reducible refine Below.trans ?_ (by assumption)) | omega | (simp; omega) | (simp; done))))) hn2').mono ?_
        rintro e w3 ⟨g3, c3, rfl, hg3, hP3, hbw3⟩
        obtain ⟨hcw3, hfw3, -, -, -, hsw3⟩ := bfacts5 hbw3
        try simp only [World.size_drew] at hcw3 hfw3
        try simp at hsw3
        go_wp2_with fail
        refine (fits_spec _ _ _ gs _ _ _ rs _ _ _ ps _ ((hP1.below hbw2).below hbw3) (hP2.below hbw3) hP3).mono ?_
        rintro e w' ⟨rfl, rfl⟩
        go_wp2_with fail
        refine (toInts_any A n c gs _ (h.below (by (repeat' (first | (with_reducible exact Below.refl _ _) | (with_reducible assumption) | (with_reducible exact bundrew (by assumption)) | (with_reducible refine balloc ?_ _) | (with_reducible refine bset ?_ _ ?_ _) | (with_reducible refine Below.drew ?_) | (with_reducible refine bdrewN ?_ _) | (with_reducible refine bvia (by assumption) ?_) | (with_reducible refine Below.trans ?_ (by assumption)) | omega | (simp; omega) | (simp; done))))) hn).mono ?_
        rintro e w4 ⟨g4, c4, rfl, hg4, hP4, hbw4⟩
        obtain ⟨hcw4, hfw4, -, -, -, hsw4⟩ := bfacts5 hbw4
        try simp only [World.size_drew] at hcw4 hfw4
        try simp at hsw4
        go_wp2_with fail
        refine (toInts_any A' n' c' rs _ (h'.below (by (repeat' (first | (with_reducible exact Below.refl _ _) | (with_reducible assumption) | (with_reducible exact bundrew (by assumption)) | (with_reducible refine balloc ?_ _) | (with_reducible refine bset ?_ _ ?_ _) | (with_reducible refine Below.drew ?_) | (with_reducible refine bdrewN ?_ _) | (with_reducible refine bvia (by assumption) ?_) | (with_reducible refine Below.trans ?_ (by assumption)) | omega | (simp; omega) | (simp; done))))) hn').mono ?_
        rintro e w5 ⟨g5, c5, rfl, hg5, hP5, hbw5⟩
        obtain ⟨hcw5, hfw5, -, -, -, hsw5⟩ := bfacts5 hbw5
        try simp only [World.size_drew] at hcw5 hfw5
        try simp at hsw5
        go_wp2_with fail
        refine (toInts_any A2 n2 c2 ps _ (h2.below (by (repeat' (first | (with_reducible exact Below.refl _ _) | (with_reducible assumption) | (with_reducible exact bundrew (by assumption)) | (with_reducible refine balloc ?_ _) | (with_reducible refine bset ?_ _ ?_ _) | (with_reducible refine Below.drew ?_) | (with_reducible refine bdrewN ?_ _) | (with_reducible refine bvia (by assumption) ?_) | (with_reducible refine Below.trans ?_ (by assumption)) | omega | (simp; omega) | (simp; done))))) hn2').mono ?_
        rintro e w6 ⟨g6, c6, rfl, hg6, hP6, hbw6⟩
        obtain ⟨hcw6, hfw6, -, -, -, hsw6⟩ := bfacts5 hbw6
        try simp only [World.size_drew] at hcw6 hfw6
        try simp at hsw6
        go_wp2_with fail
        refine (fits_impl _ _ _ gs _ _ _ rs _ _ _ ps _ ((hP4.below hbw5).below hbw6) (hP5.below hbw6) hP6).mono ?_
        rintro e w7 ⟨rfl, hbw7⟩
        obtain ⟨hcw7, hfw7, -, -, -, hsw7⟩ := bfacts5 hbw7
        try simp only [World.size_drew] at hcw7 hfw7
        try simp at hsw7
        go_wp2_with fail
        refine (toInts_any A n c gs _ (h.below (by (repeat' (first | (with_reducible exact Below.refl _ _) | (with_reducible assumption) | (with_reducible exact bundrew (by assumption)) | (with_reducible refine balloc ?_ _) | (with_reducible refine bset ?_ _ ?_ _) | (with_reducible refine Below.drew ?_) | (with_reducible refine bdrewN ?_ _) | (with_reducible refine bvia (by assumption) ?_) | (with_reducible refine Below.trans ?_ (by assumption)) | omega | (simp; omega) | (simp; done))))) hn).mono ?_
        rintro e w8 ⟨g8, c8, rfl, hg8, hP8, hbw8⟩
        obtain ⟨hcw8, hfw8, -, -, -, hsw8⟩ := bfacts5 hbw8
        try simp only [World.size_drew] at hcw8 hfw8
        try simp at hsw8
        go_wp2_with fail
        refine (eqInts_any _ _ _ _ _ gs _ ((((hP4.below hbw5).below hbw6).below hbw7).below hbw8) hP8).mono ?_
        rintro e w' ⟨rfl, m1, rfl⟩
        go_wp2_with fail
        refine (toInts_any A' n' c' rs _ (h'.below (by (repeat' (first | (with_reducible exact Below.refl _ _) | (with_reducible assumption) | (with_reducible exact bundrew (by assumption)) | (with_reducible refine balloc ?_ _) | (with_reducible refine bset ?_ _ ?_ _) | (with_reducible refine Below.drew ?_) | (with_reducible refine bdrewN ?_ _) | (with_reducible refine bvia (by assumption) ?_) | (with_reducible refine Below.trans ?_ (by assumption)) | omega | (simp; omega) | (simp; done))))) hn').mono ?_
        rintro e w9 ⟨g9, c9, rfl, hg9, hP9, hbw9⟩
        obtain ⟨hcw9, hfw9, -, -, -, hsw9⟩ := bfacts5 hbw9
        try simp only [World.size_drew] at hcw9 hfw9
        try simp at hsw9
        go_wp2_with fail
        refine (eqInts_any _ _ _ _ _ rs _ (((((hP5.below hbw6).below hbw7).below hbw8).drewN m1).below hbw9) hP9).mono ?_
        rintro e w' ⟨rfl, m2, rfl⟩
        go_wp2_with fail
        refine (toInts_any A2 n2 c2 ps _ (h2.below (by (repeat' (first | (with_reducible exact Below.refl _ _) | (with_reducible assumption) | (with_reducible exact bundrew (by assumption)) | (with_reducible refine balloc ?_ _) | (with_reducible refine bset ?_ _ ?_ _) | (with_reducible refine Below.drew ?_) | (with_reducible refine bdrewN ?_ _) | (with_reducible refine bvia (by assumption) ?_) | (with_reducible refine Below.trans ?_ (by assumption)) | omega | (simp; omega) | (simp; done))))) hn2').mono ?_
        rintro e w10 ⟨g10, c10, rfl, hg10, hP10, hbw10⟩
        obtain ⟨hcw10, hfw10, -, -, -, hsw10⟩ := bfacts5 hbw10
        try simp only [World.size_drew] at hcw10 hfw10
        try simp at hsw10
        go_wp2_with fail
        refine (eqInts_any _ _ _ _ _ ps _ ((((((hP6.below hbw7).below hbw8).drewN m1).below hbw9).drewN m2).below hbw10) hP10).mono ?_
        rintro e w' ⟨rfl, m3, rfl⟩
        go_wp2
        go_ret
        exact ⟨rfl, by (repeat' (first | (with_reducible exact Below.refl _ _) | (with_reducible assumption) | (with_reducible exact bundrew (by assumption)) | (with_reducible refine balloc ?_ _) | (with_reducible refine bset ?_ _ ?_ _) | (with_reducible refine Below.drew ?_) | (with_reducible refine bdrewN ?_ _) | (with_reducible refine bvia (by assumption) ?_) | (with_reducible refine Below.trans ?_ (by assumption)) | omega | (simp; omega) | (simp; done)))⟩
      · have hn3 : (1048576 : Int) < (n2 : Int) := by omega
        go_enter Try.func4, Try.ntmps4
        go_wp2
        go_ret
        exact ⟨rfl, by (repeat' (first | (with_reducible exact Below.refl _ _) | (with_reducible assumption) | (with_reducible exact bundrew (by assumption)) | (with_reducible refine balloc ?_ _) | (with_reducible refine bset ?_ _ ?_ _) | (with_reducible refine Below.drew ?_) | (with_reducible refine bdrewN ?_ _) | (with_reducible refine bvia (by assumption) ?_) | (with_reducible refine Below.trans ?_ (by assumption)) | omega | (simp; omega) | (simp; done)))⟩
    · have hn2 : (1048576 : Int) < (n' : Int) := by omega
      go_enter Try.func4, Try.ntmps4
      go_wp2
      go_ret
      exact ⟨rfl, by (repeat' (first | (with_reducible exact Below.refl _ _) | (with_reducible assumption) | (with_reducible exact bundrew (by assumption)) | (with_reducible refine balloc ?_ _) | (with_reducible refine bset ?_ _ ?_ _) | (with_reducible refine Below.drew ?_) | (with_reducible refine bdrewN ?_ _) | (with_reducible refine bvia (by assumption) ?_) | (with_reducible refine Below.trans ?_ (by assumption)) | omega | (simp; omega) | (simp; done)))⟩
  · have hn1 : (1048576 : Int) < (n : Int) := by omega
    go_enter Try.func4, Try.ntmps4
    go_wp2
    go_ret
    exact ⟨rfl, by (repeat' (first | (with_reducible exact Below.refl _ _) | (with_reducible assumption) | (with_reducible exact bundrew (by assumption)) | (with_reducible refine balloc ?_ _) | (with_reducible refine bset ?_ _ ?_ _) | (with_reducible refine Below.drew ?_) | (with_reducible refine bdrewN ?_ _) | (with_reducible refine bvia (by assumption) ?_) | (with_reducible refine Below.trans ?_ (by assumption)) | omega | (simp; omega) | (simp; done)))⟩
end Go.Proofs.Ytikoldnejkhepaa
