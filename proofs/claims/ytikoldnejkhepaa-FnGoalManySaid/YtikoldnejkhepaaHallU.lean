/- The walk of the law FnGoalMany. -/
import Derived.Test.YtikoldnejkhepaaHallS
namespace Go.Proofs.Ytikoldnejkhepaa
open Go.ChangeShapes Go.WideShapes Go.ChangeAt Go.RowKit

theorem gmK_app (gs ys : List Int) : ∀ k, k ≤ gs.length → gmK (gs ++ ys) k = gmK gs k
  | 0, _ => rfl
  | k + 1, h => by
    rw [gmK_succ, gmK_succ, gmK_app gs ys k (by omega), List.take_append_of_le_length (by omega), List.getElem?_append_left (by omega)]
theorem gmK_twice (gs : List Int) : ∀ k, k ≤ gs.length → gmK (gs ++ gs) (gs.length + k) = gmK gs gs.length
  | 0, _ => gmK_app gs gs _ (Nat.le_refl _)
  | k + 1, h => by
    rw [← Nat.add_assoc, gmK_succ, gmK_twice gs k (by omega)]
    have e1 : (gs ++ gs)[gs.length + k]?.getD 0 = gs[k]?.getD 0 := by rw [List.getElem?_append_right (by omega)]; congr 2; omega
    have hl : ((gs ++ gs).take (gs.length + k)).length = gs.length + k := by simp; omega
    have e2 : ((gs ++ gs).take (gs.length + k))[k]?.getD 0 = gs[k]?.getD 0 := by
      rw [List.getElem?_take, if_pos (by omega), List.getElem?_append_left (by omega)]
    rw [e1, if_pos (hasB_yes hl (show k < gs.length + k by omega) e2)]
    omega
theorem allB_app {xs ys : List Int} {a b : Int} (h1 : allB xs a b = true) (h2 : allB ys a b = true) : allB (xs ++ ys) a b = true := by
  rw [allB_iff] at *
  intro k hk
  rw [List.length_append] at hk
  by_cases h : k < xs.length
  · rw [List.getElem?_append_left h]; exact h1 k h
  · rw [List.getElem?_append_right (by omega)]; exact h2 _ (by omega)
theorem many_twice {gs rs : List Int} (h : hallB gs rs = true) (hl : gs.length + gs.length ≤ 6) : manyI (gs ++ gs) rs = manyI gs rs := by
  obtain ⟨b1, b2, b3, b4, b5⟩ := hallB_iff.1 h
  rw [manyI_yes (n := gs.length) h rfl, manyI_yes (n := gs.length + gs.length) (hallB_iff.2 ⟨by simpa using hl, b2, b3, allB_app b4 b4, b5⟩) (by simp)]
  exact gmK_twice gs _ (Nat.le_refl _)
theorem many_more {gs rs : List Int} (h : hallB gs rs = true) (hl : gs.length < 6) : manyI (gs ++ [5]) rs = manyI gs rs ∨ manyI (gs ++ [5]) rs = manyI gs rs + 1 := by
  obtain ⟨b1, b2, b3, b4, b5⟩ := hallB_iff.1 h
  have h5 : allB [5] 0 7 = true := by decide
  rw [manyI_yes (n := gs.length) h rfl, manyI_yes (n := gs.length + 1) (hallB_iff.2 ⟨by simp; omega, b2, b3, allB_app b4 h5, b5⟩) (by simp), gmK_succ, gmK_app gs [5] _ (Nat.le_refl _)]
  split <;> omega

set_option maxRecDepth 100000 in
set_option maxHeartbeats 4000000 in
theorem walk_FnGoalMany (A : Option Addr) (n c : Nat) (g : Nat → Int) (w : World) (hB : Bytes w A n c g) : Calls Try.prog 10 #[.slice A n c] w fun e w' => e = .returned (.bool true) ∧ Below w.heap.size w w' := by
  by_cases hn : 1048576 < n
  · have hn' : (1048576 : Int) < (n : Int) := by omega
    go_enter Try.func10, Try.ntmps10
    go_wp2
    go_ret
    exact ⟨rfl, by (repeat' (first | (with_reducible exact Below.refl _ _) | (with_reducible assumption) | (with_reducible exact bundrew (by assumption)) | (with_reducible refine balloc ?_ _) | (with_reducible refine bset ?_ _ ?_ _) | (with_reducible refine Below.drew ?_) | (with_reducible refine bdrewN ?_ _) | (with_reducible refine bvia (by assumption) ?_) | (with_reducible refine Below.trans ?_ (by assumption)) | omega | (simp; omega) | (simp; done)))⟩
  · have hn' : (n : Int) ≤ 1048576 := by omega
    go_enter Try.func10, Try.ntmps10
    go_wp2_with fail
    refine (drawGoalMany_any A n c g _ hB).mono ?_
    rintro x wd ⟨v, u, gs, rs, rfl, ⟨A1, c1, rfl, ⟨hc1, hA1⟩, hc1', I1⟩, ⟨A2, c2, rfl, _, _, I2⟩, l1, l2, hbd⟩
    obtain ⟨n1, hn1⟩ : ∃ n1, gs.length = n1 := ⟨_, rfl⟩
    obtain ⟨n2, hn2⟩ : ∃ n2, rs.length = n2 := ⟨_, rfl⟩
    rw [hn1] at I1 l1 hc1 ⊢
    rw [hn2] at I2 l2 ⊢
    have HN1 := Lib.hid hn1
    clear hn1 hn2
    go_wp2_with fail
    refine (many_impl _ _ _ gs _ _ _ rs _ hc1 I1 I2).mono ?_
    rintro x w' ⟨rfl, m1, rfl⟩
    go_wp2_with fail
    refine (many_spec _ _ _ gs _ _ _ rs _ hc1 (I1.drewN m1) (I2.drewN m1)).mono ?_
    rintro x w' ⟨rfl, m2, rfl⟩
    cases hh : hallB gs rs
    · have hx := manyI_no hh
      go_wp2_with (go_at_call 28; refine (alive_any _).mono ?_; rintro x w3 ⟨rfl, hb3⟩)
      go_ret
      exact ⟨rfl, by (repeat' (first | (with_reducible exact Below.refl _ _) | (with_reducible assumption) | (with_reducible exact bundrew (by assumption)) | (with_reducible refine balloc ?_ _) | (with_reducible refine bset ?_ _ ?_ _) | (with_reducible refine Below.drew ?_) | (with_reducible refine bdrewN ?_ _) | (with_reducible refine bvia (by assumption) ?_) | (with_reducible refine Below.trans ?_ (by assumption)) | omega | (simp; omega) | (simp; done)))⟩
    · obtain ⟨x, hx⟩ : ∃ x, manyI gs rs = x := ⟨_, rfl⟩
      have hx2 := manyI_yes hh HN1.out
      have hin := gmK_in gs n1
      rw [hx] at hx2
      rw [← hx2] at hin
      obtain ⟨x0, x1⟩ := hin
      have HT := Lib.hid (fun h => (many_twice hh h).trans hx)
      have HM : Hid (gs.length < 6 → manyI (gs ++ [5]) rs = x ∨ manyI (gs ++ [5]) rs = x + 1) := Lib.hid (fun h => by have := many_more hh h; rwa [hx] at this)
      rw [hx]
      have h6 := (hallB_iff.1 hh).1
      rw [HN1.out] at h6
      have h6' : (n1 : Int) ≤ 6 := by omega
      clear hx hx2 l1 l2 hh
      obtain ⟨W, hW⟩ : ∃ W : World, W = (wd.drewN m1).drewN m2 := ⟨_, rfl⟩
      have J1 : Ints W A1 n1 gs := by rw [hW]; exact (I1.drewN m1).drewN m2
      have J2 : Ints W A2 n2 rs := by rw [hW]; exact (I2.drewN m1).drewN m2
      have BW : Below w.heap.size w W := by rw [hW]; exact bdrewN (bdrewN hbd m1) m2
      rw [World.drewN_drewN] at hW
      try rw [World.drewN_drewN]
      rw [← hW]
      clear hW I1 I2 hbd
      have hgl : gs.length ≤ 6 := by rw [HN1.out]; exact h6
      have Hz0 := OwnI.made (w := W.alloc (.cells #[] 3)) (base := W.heap.size) (g := W.heap.size) (xs := []) (Nat.le_refl _) (heap_alloc_new W _) (by unfold maxLen; decide)
      have BA : Below W.heap.size W (W.alloc (.cells #[] 3)) := (Below.refl _ W).alloc (Nat.le_refl _) _
      go_wp2_with (first
        | (at_builtin; have _t := h3; refine app_intG rfl _ _ rfl w2.heap.size w3.heap.size _ ([] ++ gs) 5 rfl rfl (h3.alloc _) ?_ ?_ ?_ ?_; (focus (first | (go_simp; done) | (simp; done) | omega | (simp; omega))); (focus (first | (go_simp; done) | (simp; done) | omega | (simp; omega))); (focus (first | (go_simp; done) | (simp; done) | omega | (simp; omega))); intro v4 w4 h4 g4; have b4 : Below w2.heap.size w3 w4 := ((Below.refl _ w3).alloc z3 _).trans (grown_below (h3.alloc _) (by simp; omega) g4))
        | (at_builtin; have _t := h2; refine app_ints rfl _ _ rfl w2.heap.size _ [] A1 n1 c1 gs rfl rfl Hz2 (J1.below (b2.trans (below_le z2 BA2))) hA1 ?_ ?_ ?_; (focus (first | (go_simp; done) | (simp; done) | omega | (simp; omega))); (focus (first | (go_simp; done) | (simp; done) | omega | (simp; omega))); intro v3 w3 h3 g3; have b3 : Below w2.heap.size w2 w3 := BA2.trans (grown_below Hz2 (by simp) g3); have z3 := b3.size)
        | (at_builtin; have _t := h1; refine app_ints rfl _ _ rfl W.heap.size _ ([] ++ gs) A1 n1 c1 gs rfl rfl h1 (J1.below b1) hA1 ?_ ?_ ?_; (focus (first | (go_simp; done) | (simp; done) | omega | (simp; omega))); (focus (first | (go_simp; done) | (simp; done) | omega | (simp; omega))); intro v2 w2 h2 g2; have b2 : Below W.heap.size W w2 := b1.trans (grown_below h1 z1 g2); have z2 := b2.size; have U2 := h2.up; have Hz2 := OwnI.made (w := w2.alloc (.cells #[] 3)) (base := w2.heap.size) (g := w2.heap.size) (xs := []) (Nat.le_refl _) (heap_alloc_new w2 _) (by unfold maxLen; decide); have BA2 : Below w2.heap.size w2 (w2.alloc (.cells #[] 3)) := (Below.refl _ w2).alloc (Nat.le_refl _) _)
        | (at_builtin; refine app_ints rfl _ _ rfl W.heap.size _ [] A1 n1 c1 gs rfl rfl Hz0 (J1.below BA) hA1 ?_ ?_ ?_; (focus (first | (go_simp; done) | (simp; done) | omega | (simp; omega))); (focus (first | (go_simp; done) | (simp; done) | omega | (simp; omega))); intro v1 w1 h1 g1; have b1 : Below W.heap.size W w1 := BA.trans (grown_below Hz0 (by simp) g1); have z1 := b1.size))
      have U4 := (U2.below b3).below b4
      have B4 : Below w.heap.size w w4 := bvia (b2.trans ((below_le z2 b3).trans (below_le z2 b4))) BW
      have J4 : Ints w4 A2 n2 rs := J2.below (b2.trans ((below_le z2 b3).trans (below_le z2 b4)))
      have h4' : OwnI w4 w2.heap.size v4 (gs ++ [5]) := by simpa using h4
      have h2' : OwnI w4 W.heap.size v2 (gs ++ gs) := by simpa using U4.1
      have e4 : (gs ++ [5]).length = n1 + 1 := by simp [HN1.out]
      have e2 : (gs ++ gs).length = n1 + n1 := by simp [HN1.out]
      have s4 := h4'.sl
      have s2 := h2'.sl
      obtain ⟨A5, c5, hv5, ⟨hc5, _⟩, _, I5⟩ := s4
      obtain ⟨A6, c6, hv6, ⟨hc6, _⟩, _, I6⟩ := s2
      rw [e4] at hv5 hc5 I5
      rw [e2] at hv6 hc6 I6
      subst hv5 hv6
      have HM2 := Lib.hid HM.out
      clear U4 U2 h4 h2 h1 h3 g1 g2 g3 g4 Hz0 Hz2 h4' h2' e4 e2 BA BA2
      go_wp2_with fail
      refine (many_impl _ _ _ (gs ++ [5]) _ _ _ rs _ hc5 I5 J4).mono ?_
      rintro x' w' ⟨rfl, m5, rfl⟩
      obtain ⟨y, hy⟩ : ∃ y, manyI (gs ++ [5]) rs = y := ⟨_, rfl⟩
      rw [hy]
      have hd : (n1 = 6) ∨ (n1 < 6 ∧ (y = x ∨ y = x + 1)) := by
        by_cases h : n1 < 6
        · have := HM2.out (by rw [HN1.out]; exact h)
          rw [hy] at this
          exact .inr ⟨h, this⟩
        · left; omega
      clear hy
      have n0' : 0 ≤ (n1 : Int) := by omega
      have K6 := Ints.drewN I6 m5
      have K4 := J4.drewN m5
      have x1' : x ≤ (n1 : Int) := x1
      rcases hd with h | ⟨h, hy⟩
      · have hn6 : ((n1 : Int) == 6) = true := by rw [beq_iff_eq]; omega
        have ht : 6 < ((n1 + n1 : Nat) : Int) := by omega
        have ht2 : (6 : Int) < (n1 : Int) + (n1 : Int) := by omega
        clear h
        go_wp2
        go_ret
        exact ⟨rfl, by (repeat' (first | (with_reducible exact Below.refl _ _) | (with_reducible assumption) | (with_reducible exact bundrew (by assumption)) | (with_reducible refine balloc ?_ _) | (with_reducible refine bset ?_ _ ?_ _) | (with_reducible refine Below.drew ?_) | (with_reducible refine bdrewN ?_ _) | (with_reducible refine bvia (by assumption) ?_) | (with_reducible refine Below.trans ?_ (by assumption)) | omega | (simp; omega) | (simp; done)))⟩
      · have hn6 : ((n1 : Int) == 6) = false := by rw [beq_eq_false_iff_ne]; omega
        have hyb : ((y == x) = true ∨ ((y == x) = false ∧ (y == x + 1) = true)) := by
          rcases hy with rfl | rfl
          · left; simp
          · right; constructor
            · rw [beq_eq_false_iff_ne]; omega
            · simp
        clear hy h
        by_cases ht : n1 + n1 ≤ 6
        · have ht1 : ((n1 + n1 : Nat) : Int) ≤ 6 := by omega
          have ht2 : (n1 : Int) + (n1 : Int) ≤ 6 := by omega
          have hx2 := HT.out (by rw [HN1.out]; exact ht)
          have MT := fun w hI1 hI2 => many_impl A6 (n1 + n1) c6 (gs ++ gs) A2 n2 c2 rs w hc6 hI1 hI2
          rw [hx2] at MT
          have HMT := Lib.hid MT
          clear MT hx2
          rcases hyb with hyb | ⟨hyb, hyb2⟩
          all_goals
            go_wp2_with (go_at_call 20; refine (HMT.out _ K6 K4).mono ?_; rintro x' w' ⟨rfl, m6, rfl⟩)
            go_ret
            exact ⟨rfl, by (repeat' (first | (with_reducible exact Below.refl _ _) | (with_reducible assumption) | (with_reducible exact bundrew (by assumption)) | (with_reducible refine balloc ?_ _) | (with_reducible refine bset ?_ _ ?_ _) | (with_reducible refine Below.drew ?_) | (with_reducible refine bdrewN ?_ _) | (with_reducible refine bvia (by assumption) ?_) | (with_reducible refine Below.trans ?_ (by assumption)) | omega | (simp; omega) | (simp; done)))⟩
        · have ht1 : 6 < ((n1 + n1 : Nat) : Int) := by omega
          have ht2 : (6 : Int) < (n1 : Int) + (n1 : Int) := by omega
          rcases hyb with hyb | ⟨hyb, hyb2⟩
          all_goals
            go_wp2
            go_ret
            exact ⟨rfl, by (repeat' (first | (with_reducible exact Below.refl _ _) | (with_reducible assumption) | (with_reducible exact bundrew (by assumption)) | (with_reducible refine balloc ?_ _) | (with_reducible refine bset ?_ _ ?_ _) | (with_reducible refine Below.drew ?_) | (with_reducible refine bdrewN ?_ _) | (with_reducible refine bvia (by assumption) ?_) | (with_reducible refine Below.trans ?_ (by assumption)) | omega | (simp; omega) | (simp; done)))⟩
end Go.Proofs.Ytikoldnejkhepaa
