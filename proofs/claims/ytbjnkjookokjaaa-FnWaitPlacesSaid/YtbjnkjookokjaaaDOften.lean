/- Drawn floors with numbers of calls: contracts. -/
import Derived.Test.YtbjnkjookokjaaaDFloors
namespace Go.Proofs.Ytbjnkjookokjaaa
open Go.ChangeShapes Go.WideShapes Go.ChangeAt Go.RowKit

theorem OwnI.tail {w : World} {base g L cap : Nat} {xs : List Int} (h : OwnI w base (.slice (some ⟨g, 0, none⟩) (L + 1) cap) xs) : (xs.drop 1).length = L ∧ Ints w (some ⟨g, 1, none⟩) L (xs.drop 1) ∧ base ≤ g := by
  have hl := h.ints.1
  have hc := h.cap
  have hb := h.block g rfl
  unfold maxLen at hc
  refine ⟨by simp; omega, ⟨by simp; omega, by omega, fun h0 => ⟨g, 1, rfl, ?_, fun j hj => ?_⟩⟩, hb⟩
  · exact (h.at_ (i := 0) (by omega)).2.2.1
  · have := (h.at_ (i := 1 + j) (by omega)).1
    rw [this, List.getElem?_drop]
/-- Two drawn lists; only the reader has changed. -/
def OftenOut (w : World) (r N : Nat) (e : Ending) (w' : World) : Prop :=
  ∃ (v u : Value) (xs os : List Int), e = .returned (.tuple #[v, u]) ∧ (SlI w' v xs ∧ LoB w.heap.size v) ∧ (SlI w' u os ∧ LoB w.heap.size u) ∧ xs.length ≤ 9 ∧ os.length ≤ 9 ∧ Only r w w' ∧ Rd w' r (N + 30)

set_option maxHeartbeats 2000000 in
theorem l20Often_any (r N : Nat) (n : Int) (w : World) (hR : Rd w r N) (hN : N ≤ 80000) (h1 : 1 ≤ n) (h2 : n ≤ 400) :
    Calls Try.prog 41 #[.pointer (some ⟨r, 0, none⟩), .int .i64 n] w (OftenOut w r N) := by
  have hr := hR.lt
  go_enter Try.func41, Try.ntmps41
  go_wp2_with fail
  refine (l20Floors_any r N (2 * n) _ hR (by omega) (by omega) (by omega)).mono ?_
  rintro e w1 ⟨v, xs, rfl, hv, lx, o1, rd1⟩
  obtain ⟨A1, c1, rfl⟩ := hv.shape
  have s1 := o1.size
  have hU := hv.up
  have hz := OwnI.made (w := w1.alloc (.cells #[] 3)) (base := w1.heap.size) (g := w1.heap.size) (xs := []) (by omega) (heap_alloc_new w1 _) (by unfold maxLen; decide)
  have B1 : Below w1.heap.size w1 (w1.alloc (.cells #[] 3)) := (Below.refl _ w1).alloc (Nat.le_refl _) _
  have hU1 := hU.below B1
  have rd1' := rd1.above (below_le (show r + 1 ≤ w1.heap.size by omega) B1)
  have lx' : (xs.length : Int) ≤ 9 := by omega
  clear hv hU
  go_wp2_with fail
  go_loopw [7, 8] (fun u' i wr => ∃ (u : Value) (k : Nat) (os : List Int), u = u' ∧ i = .int .i64 k ∧ k ≤ xs.length ∧ os.length = k ∧ OwnI wr w1.heap.size u os ∧ OwnU wr w.heap.size w1.heap.size (.slice A1 xs.length c1) xs ∧ Rd wr r (N + 12 + k) ∧ Only r w wr ∧ w1.heap.size ≤ wr.heap.size) (fun _ i _ => xs.length - (intOf i).toNat)
  case atStart => exact ⟨_, 0, [], rfl, rfl, Nat.zero_le _, rfl, hz, hU1, rd1', only_below o1 (below_le (by omega) B1), by simp⟩
  case round =>
    obtain ⟨u, k, os, rfl, rfl, hk, hp, ht, sv, rd, oo, hs⟩ := hrel
    by_cases hlt : k < xs.length
    · have hlt' : (k : Int) < (xs.length : Int) := by omega
      go_wp2_with fail
      refine (pick_any r (N + 12 + k) 12 _ rd (by omega) (by omega) (by omega)).mono ?_
      rintro e w4 ⟨a4, rfl, a40, a41, ow4, rd4⟩
      have sw4 := only_size ow4
      try simp at sw4
      have ht4 := ht.only ow4 (by omega)
      go_wp2_with (at_builtin; refine app_int rfl _ _ rfl (w1.heap.size) w4.heap.size _ os a4 rfl rfl (ht4.alloc _) ?_ ?_ ?_ ?_; (focus (first | (go_simp; done) | (simp; done) | omega | (simp; omega))); (focus (first | (go_simp; done) | (simp; done) | omega | (simp; omega))); (focus (first | (go_simp; done) | (simp; done) | omega | (simp; omega))); intro v6 w6 h6 g6; have zw6 := g6.size; (try simp at zw6))
      have g7 : Below w1.heap.size w4 w6 := ((Below.refl _ w4).alloc (by omega) _).trans g6
      have sv4 := (sv.only ow4 hr).below g7
      exact ⟨⟨_, k + 1, os ++ [a4], rfl, by go_num, by omega, by simp [hp], h6, sv4, (rd4.above (below_le (by omega) g7)).mono (by omega), only_below (oo.trans ow4) (below_le (by omega) g7), by omega⟩, by simp [intOf]; omega⟩
    · have hk' : k = xs.length := by omega
      have hge : ¬ (k : Int) < (xs.length : Int) := by omega
      obtain ⟨wx, hwx⟩ : ∃ wx : World, wx = wr := ⟨_, rfl⟩
      subst hwx
      go_wp2_with fail
      refine (odd_any r (N + 12 + k) (2 * n) _ rd (by omega) (by omega) (by omega)).mono ?_
      rintro e w5 ⟨b, rfl, ow5, rd5⟩
      have sw5 := only_size ow5
      try simp at sw5
      have ht5 := ht.only ow5 (by omega)
      have sv5 := sv.only ow5 hr
      have O5 := oo.trans ow5
      have lo : os.length ≤ 9 := by omega
      cases b
      · go_wp2
        go_ret2
        exact ⟨_, _, xs, os, rfl, sv5.1.slo (Nat.le_refl _), ht5.slo (by omega), lx, lo, O5, rd5.mono (by omega)⟩
      · rcases ht5.form with ⟨e0, e1⟩ | ⟨g8, cap8, cur8, e8, _⟩
        · subst e0 e1
          go_wp2
          go_ret2
          exact ⟨_, _, xs, [], rfl, sv5.1.slo (Nat.le_refl _), ht5.slo (by omega), lx, lo, O5, rd5.mono (by omega)⟩
        · subst e8
          rcases Nat.eq_zero_or_pos os.length with hz0 | hpos
          · have hz0' : (os.length : Int) = 0 := by omega
            rw [hz0] at ht5 ⊢
            go_wp2
            go_ret2
            exact ⟨_, _, xs, os, rfl, sv5.1.slo (Nat.le_refl _), ht5.slo (by omega), lx, lo, O5, rd5.mono (by omega)⟩
          · obtain ⟨L, hL⟩ : ∃ L, os.length = L + 1 := ⟨os.length - 1, by omega⟩
            rw [hL] at ht5 ⊢
            have hl : (0 : Int) < ((L + 1 : Nat) : Int) := by omega
            have hl1 : (1 : Int) ≤ ((L + 1 : Nat) : Int) := by omega
            have hc8 := ht5.cap
            rw [hL] at hc8
            obtain ⟨hc81, hc82⟩ := hc8
            go_wp2_with fail
            refine (pick_any r (N + 13 + k) 2 _ (rd5.mono (by omega)) (by omega) (by omega) (by omega)).mono ?_
            rintro e w6 ⟨a6, rfl, a60, a61, ow6, rd6⟩
            have sw6 := only_size ow6
            try simp at sw6
            have ht6 := ht5.only ow6 (by omega)
            have sv6 := sv5.only ow6 hr
            have O6 := O5.trans ow6
            have hc2 : a6 = 0 ∨ a6 = 1 := by omega
            rcases hc2 with rfl | rfl
            · obtain ⟨t1, t2, t3⟩ := ht6.tail
              unfold maxLen at hc82
              have e1 : ((L + 1 : Nat) : Int) - 1 = (L : Int) := by omega
              by_cases hc1 : cap8 = 1
              · subst hc1
                obtain rfl : L = 0 := by omega
                go_wp2
                go_region
                all_goals go_wp2
                all_goals go_ret2
                all_goals exact ⟨_, _, xs, os.drop 1, rfl, sv6.1.slo (Nat.le_refl _), ⟨⟨some ⟨g8, 0, none⟩, 0, (by first | (rw [t1]; done) | (rw [t1]; rfl)), by rw [t1]; exact ⟨Nat.le_refl _, fun e => by cases e⟩, by unfold maxLen; omega, by rw [t1]; exact ⟨t2.1, by omega, fun h0 => by omega⟩⟩, fun a n c e => by cases e; simp; omega⟩, lx, by simp; omega, (by first | exact O6 | exact O6.drew), rd6.mono (by omega)⟩
              · have hc1' : ¬ (1 : Nat) = cap8 := fun e => hc1 e.symm
                go_wp2
                go_region
                all_goals go_wp2
                all_goals go_ret2
                all_goals exact ⟨_, _, xs, os.drop 1, rfl, sv6.1.slo (Nat.le_refl _), ⟨⟨some ⟨g8, 1, none⟩, cap8 - 1, (by first | (rw [t1]; done) | (rw [t1]; rfl)), by rw [t1]; exact ⟨by omega, fun e => by cases e⟩, by unfold maxLen; omega, by rw [t1]; exact t2⟩, fun a n c e => by cases e; simp; omega⟩, lx, by simp; omega, (by first | exact O6 | exact O6.drew), rd6.mono (by omega)⟩
            · go_wp2_with fail
              refine (pick_any r (N + 14 + k) 2 _ ((rd6.mono (by omega)).above (by first | (exact Below.refl _ _) | go_grown)) (by omega) (by omega) (by omega)).mono ?_
              rintro e w12 ⟨a12, rfl, a120, a121, ow12, rd12⟩
              obtain ⟨cw120, fw120, zw120, yw120, xw120, vw120⟩ := only_facts ow12 (w6.heap.size) (by first | omega | (simp; omega) | (simp; done)) (by omega)
              have sw12 := only_size ow12
              try simp at sw12
              have ht12 := (ht6.alloc (.cells #[.int .i64 (-1), .int .i64 21] 3)).only ow12 (by omega)
              have sv12 := (sv6.below ((Below.refl _ w6).alloc (by omega) (.cells #[.int .i64 (-1), .int .i64 21] 3))).only ow12 hr
              obtain ⟨f1, f2, f3, f4⟩ := ht12.at_ (i := 0) (by omega)
              have hc3 : a12 = 0 ∨ a12 = 1 := by omega
              rcases hc3 with rfl | rfl
              · go_wp2
                go_ret2
                have g14 : Below w1.heap.size w12 (w12.setCell ⟨g8, 0, none⟩ (.int .i64 (-1))) := (Below.refl _ _).setCell f4 _
                exact ⟨_, _, xs, os.set 0 (-1), rfl, (sv12.below g14).1.slo (Nat.le_refl _), (ht12.put (-1) (by omega)).slo (by omega), lx, by simp; omega, only_below (O6.trans (by (repeat' (first | (with_reducible exact Only.refl _ _) | (with_reducible assumption) | (with_reducible refine Only.alloc ?_ _) | (with_reducible refine Only.set ?_ _ ?_ _) | (with_reducible refine Only.drew ?_) | (with_reducible refine Only.drewN ?_ _) | (with_reducible refine Only.via (by assumption) ?_) | (refine .inr ?_; omega) | (refine .inr ?_; simp; omega) | omega | (simp; omega) | (simp; done))))) (below_le (by omega) g14), (rd12.above (below_le (by omega) g14)).mono (by omega)⟩
              · go_wp2
                go_ret2
                have g14 : Below w1.heap.size w12 (w12.setCell ⟨g8, 0, none⟩ (.int .i64 21)) := (Below.refl _ _).setCell f4 _
                exact ⟨_, _, xs, os.set 0 21, rfl, (sv12.below g14).1.slo (Nat.le_refl _), (ht12.put 21 (by omega)).slo (by omega), lx, by simp; omega, only_below (O6.trans (by (repeat' (first | (with_reducible exact Only.refl _ _) | (with_reducible assumption) | (with_reducible refine Only.alloc ?_ _) | (with_reducible refine Only.set ?_ _ ?_ _) | (with_reducible refine Only.drew ?_) | (with_reducible refine Only.drewN ?_ _) | (with_reducible refine Only.via (by assumption) ?_) | (refine .inr ?_; omega) | (refine .inr ?_; simp; omega) | omega | (simp; omega) | (simp; done))))) (below_le (by omega) g14), (rd12.above (below_le (by omega) g14)).mono (by omega)⟩
end Go.Proofs.Ytbjnkjookokjaaa
