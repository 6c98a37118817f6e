/- Drawn halls and riders in cars: contracts. -/
import Derived.Test.YtikoldnejkhepaaOwnU
namespace Go.Proofs.Ytikoldnejkhepaa
open Go.ChangeShapes Go.WideShapes Go.ChangeAt Go.RowKit

/-- Two drawn lists; only the reader has changed. -/
def HallOut (w : World) (r N : Nat) (e : Ending) (w' : World) : Prop :=
  ∃ (v u : Value) (gs rs : List Int), e = .returned (.tuple #[v, u]) ∧ (SlI w' v gs ∧ LoB w.heap.size v) ∧ (SlI w' u rs ∧ LoB w.heap.size u) ∧ gs.length ≤ 7 ∧ rs.length ≤ 3 ∧ Only r w w' ∧ Rd w' r (N + 24)

set_option maxHeartbeats 2000000 in
theorem l20Hall_any (r N : Nat) (n : Int) (w : World) (hR : Rd w r N) (hN : N ≤ 90000) (h1 : 1 ≤ n) (h2 : n ≤ 1000) :
    Calls Try.prog 43 #[.pointer (some ⟨r, 0, none⟩), .int .i64 n] w (HallOut w r N) := by
  have hr := hR.lt
  have hz := OwnI.made (w := w.alloc (.cells #[] 3)) (base := w.heap.size) (g := w.heap.size) (xs := []) (by omega) (heap_alloc_new w _) (by unfold maxLen; decide)
  go_enter Try.func43, Try.ntmps43
  go_wp2_with fail
  refine (pick_any r N 7 _ (hR.above (by first | (exact Below.refl _ _) | go_grown)) (by omega) (by omega) (by omega)).mono ?_
  rintro e w1 ⟨a1, rfl, a10, a11, ow1, rd1⟩
  obtain ⟨cw10, fw10, zw10, yw10, xw10, vw10⟩ := only_facts ow1 (w.heap.size) (by first | omega | (simp; omega) | (simp; done)) (by omega)
  have sw1 := only_size ow1
  try simp at sw1
  have hz1 := hz.only ow1 hr
  clear hz
  go_wp2_with fail
  go_loopw [6, 7] (fun v i wr => ∃ (v0 : Value) (k : Nat) (xs : List Int), v0 = v ∧ i = .int .i64 k ∧ k + xs.length ≤ 6 ∧ OwnI wr w.heap.size v xs ∧ Rd wr r (N + 10 - k) ∧ Only r w wr ∧ w.heap.size ≤ wr.heap.size) (fun _ i _ => (intOf i).toNat)
  case atStart =>
    obtain ⟨k, rfl⟩ := Int.eq_ofNat_of_zero_le a10
    exact ⟨_, k, [], rfl, rfl, by simp; omega, hz1, rd1.mono (by omega), by (repeat' (first | (with_reducible exact Only.refl _ _) | (with_reducible assumption) | (with_reducible refine Only.alloc ?_ _) | (with_reducible refine Only.set ?_ _ ?_ _) | (with_reducible refine Only.drew ?_) | (with_reducible refine Only.drewN ?_ _) | (with_reducible refine Only.via (by assumption) ?_) | (refine .inr ?_; omega) | (refine .inr ?_; simp; omega) | omega | (simp; omega) | (simp; done))), by omega⟩
  case round =>
    obtain ⟨v0, k, xs, rfl, rfl, hk, hv, rd, hor, hs⟩ := hrel
    by_cases h0 : 0 < k
    · have h0' : 0 < (k : Int) := by omega
      go_wp2_with fail
      refine (pick_any r (N + 10 - k) 4 _ rd (by omega) (by omega) (by omega)).mono ?_
      rintro e w4 ⟨a4, rfl, a40, a41, ow4, rd4⟩
      have sw4 := only_size ow4
      try simp at sw4
      have hv4 := hv.only ow4 hr
      go_wp2_with (at_builtin; refine app_int rfl _ _ rfl (w.heap.size) w4.heap.size _ xs a4 rfl rfl (hv4.alloc _) ?_ ?_ ?_ ?_; (focus (first | (go_simp; done) | (simp; done) | omega | (simp; omega))); (focus (first | (go_simp; done) | (simp; done) | omega | (simp; omega))); (focus (first | (go_simp; done) | (simp; done) | omega | (simp; omega))); intro v6 w6 h6 g6; have zw6 := g6.size; (try simp at zw6))
      have g7 : Below w.heap.size w4 w6 := ((Below.refl _ w4).alloc (by omega) _).trans g6
      exact ⟨⟨_, k - 1, xs ++ [a4], rfl, by first | go_num | (congr 1; omega), by simp; omega, h6, (rd4.above (below_le (by omega) g7)).mono (by omega), only_below (hor.trans ow4) g7, by omega⟩, by simp [intOf]; omega⟩
    · obtain rfl : k = 0 := by omega
      obtain ⟨wq, hwq⟩ : ∃ wq : World, wq = wr := ⟨_, rfl⟩
      subst hwq
      have hz := OwnI.made (w := wq.alloc (.cells #[] 3)) (base := wq.heap.size) (g := wq.heap.size) (xs := []) (by omega) (heap_alloc_new wq _) (by unfold maxLen; decide)
      have hU := hv.up
      go_wp2_with fail
      refine (pick_any r (N + 10) 3 _ (rd.above (by first | (exact Below.refl _ _) | go_grown)) (by omega) (by omega) (by omega)).mono ?_
      rintro e w5 ⟨a5, rfl, a50, a51, ow5, rd5⟩
      obtain ⟨cw50, fw50, zw50, yw50, xw50, vw50⟩ := only_facts ow5 (wq.heap.size) (by first | omega | (simp; omega) | (simp; done)) (by omega)
      have sw5 := only_size ow5
      try simp at sw5
      have hz5 := hz.only ow5 (by omega)
      have hU5 := (hU.below ((Below.refl _ wq).alloc (Nat.le_refl _) _)).only ow5 hr
      have B5 : Only r w w5 := by (repeat' (first | (with_reducible exact Only.refl _ _) | (with_reducible assumption) | (with_reducible refine Only.alloc ?_ _) | (with_reducible refine Only.set ?_ _ ?_ _) | (with_reducible refine Only.drew ?_) | (with_reducible refine Only.drewN ?_ _) | (with_reducible refine Only.via (by assumption) ?_) | (refine .inr ?_; omega) | (refine .inr ?_; simp; omega) | omega | (simp; omega) | (simp; done)))
      clear hz hU hv
      go_wp2_with fail
      go_loopw [8, 9] (fun v8' i wr => ∃ (v8 : Value) (k : Nat) (rs : List Int), v8 = v8' ∧ i = .int .i64 k ∧ k + rs.length ≤ 3 ∧ 1 ≤ k + rs.length ∧ OwnI wr wq.heap.size v8 rs ∧ OwnU wr w.heap.size wq.heap.size v0 xs ∧ Rd wr r (N + 16 - k) ∧ Only r w wr ∧ wq.heap.size ≤ wr.heap.size) (fun _ i _ => (intOf i).toNat)
      case atStart =>
        obtain ⟨k, rfl⟩ := Int.eq_ofNat_of_zero_le a50
        exact ⟨_, k + 1, [], rfl, by first | go_num | (congr 1; omega), by simp; omega, by simp, hz5, hU5, rd5.mono (by omega), B5, by omega⟩
      case round =>
        obtain ⟨v8, k, rs, rfl, rfl, hk3, hk1, hv8, hu8, rd8, hor8, hs8⟩ := hrel
        by_cases h8 : 0 < k
        · have h8' : 0 < (k : Int) := by omega
          go_wp2_with fail
          refine (pick_any r (N + 16 - k) 5 _ rd8 (by omega) (by omega) (by omega)).mono ?_
          rintro e w9 ⟨a9, rfl, a90, a91, ow9, rd9⟩
          have sw9 := only_size ow9
          try simp at sw9
          have hv9 := hv8.only ow9 (by omega)
          have hu9 := hu8.only ow9 hr
          go_wp2_with (at_builtin; refine app_int rfl _ _ rfl (wq.heap.size) w9.heap.size _ rs a9 rfl rfl (hv9.alloc _) ?_ ?_ ?_ ?_; (focus (first | (go_simp; done) | (simp; done) | omega | (simp; omega))); (focus (first | (go_simp; done) | (simp; done) | omega | (simp; omega))); (focus (first | (go_simp; done) | (simp; done) | omega | (simp; omega))); intro v10 w10 h10 g10; have zw10 := g10.size; (try simp at zw10))
          have g11 : Below wq.heap.size w9 w10 := ((Below.refl _ w9).alloc (by omega) _).trans g10
          exact ⟨⟨_, k - 1, rs ++ [a9], rfl, by first | go_num | (congr 1; omega), by simp; omega, by simp; omega, h10, hu9.below g11, (rd9.above (below_le (by omega) g11)).mono (by omega), only_below (hor8.trans ow9) (below_le (by omega) g11), by omega⟩, by simp [intOf]; omega⟩
        · obtain rfl : k = 0 := by omega
          obtain ⟨wx, hwx⟩ : ∃ wx : World, wx = wr := ⟨_, rfl⟩
          subst hwx
          go_wp2_with fail
          refine (odd_any r (N + 16) n _ rd8 (by omega) h1 (by omega)).mono ?_
          rintro e w10 ⟨b, rfl, ow10, rd10⟩
          have sw10 := only_size ow10
          try simp at sw10
          have hv10 := hv8.only ow10 (by omega)
          have hu10 := hu8.only ow10 hr
          have B10 := hor8.trans ow10
          cases b
          · go_wp2
            go_ret2
            exact ⟨_, _, xs, rs, rfl, hu10.1.slo (by omega), hv10.slo (by omega), by omega, by omega, B10, rd10.mono (by omega)⟩
          · go_wp2_with fail
            refine (pick_any r (N + 17) 3 _ rd10 (by omega) (by omega) (by omega)).mono ?_
            rintro e w11 ⟨a11, rfl, a110, a111, ow11, rd11⟩
            have sw11 := only_size ow11
            try simp at sw11
            have hv11 := hv10.only ow11 (by omega)
            have hu11 := hu10.only ow11 hr
            have B11 := B10.trans ow11
            have hc : a11 = 0 ∨ a11 = 1 ∨ a11 = 2 := by omega
            rcases hc with rfl | rfl | rfl
            · have hz := OwnI.made (w := w11.alloc (.cells #[] 3)) (base := w11.heap.size) (g := w11.heap.size) (xs := []) (by omega) (heap_alloc_new w11 _) (by unfold maxLen; decide)
              go_wp2
              go_ret2
              exact ⟨_, _, xs, [], rfl, (hu11.1.alloc _).slo (by omega), hz.slo (by omega), by omega, by simp, by (repeat' (first | (with_reducible exact Only.refl _ _) | (with_reducible assumption) | (with_reducible refine Only.alloc ?_ _) | (with_reducible refine Only.set ?_ _ ?_ _) | (with_reducible refine Only.drew ?_) | (with_reducible refine Only.drewN ?_ _) | (with_reducible refine Only.via (by assumption) ?_) | (refine .inr ?_; omega) | (refine .inr ?_; simp; omega) | omega | (simp; omega) | (simp; done))), (rd11.above (by first | (exact Below.refl _ _) | go_grown)).mono (by omega)⟩
            · go_wp2_with fail
              refine (pick_any r (N + 18) 2 _ (rd11.above (by first | (exact Below.refl _ _) | go_grown)) (by omega) (by omega) (by omega)).mono ?_
              rintro e w12 ⟨a12, rfl, a120, a121, ow12, rd12⟩
              obtain ⟨cw120, fw120, zw120, yw120, xw120, vw120⟩ := only_facts ow12 (w11.heap.size) (by first | omega | (simp; omega) | (simp; done)) (by omega)
              have sw12 := only_size ow12
              try simp at sw12
              have hv12 := (hv11.alloc (.cells #[.int .i64 (-1), .int .i64 8] 3)).only ow12 (by omega)
              have hu12 := (hu11.below ((Below.refl _ w11).alloc (by omega) (.cells #[.int .i64 (-1), .int .i64 8] 3))).only ow12 hr
              have hc2 : a12 = 0 ∨ a12 = 1 := by omega
              rcases hc2 with rfl | rfl
              · go_wp2_with (at_builtin; refine app_intG rfl _ _ rfl (w.heap.size) w12.heap.size _ xs (-1) rfl rfl (hu12.1.alloc _) ?_ ?_ ?_ ?_; (focus (first | (go_simp; done) | (simp; done) | omega | (simp; omega))); (focus (first | (go_simp; done) | (simp; done) | omega | (simp; omega))); (focus (first | (go_simp; done) | (simp; done) | omega | (simp; omega))); intro v13 w13 h13 g13; have zw13 := g13.size; (try simp at zw13))
                have hw13 := OwnU.grown (hv12.alloc (.cells #[.int .i64 (-1)] 3)) g13 hu12.2 (Nat.le_refl _)
                have g14 : Below w.heap.size w12 w13 := ((Below.refl _ w12).alloc (by omega) _).trans (grown_below (hu12.1.alloc _) (by simp; omega) g13)
                go_ret2
                exact ⟨_, _, xs ++ [-1], rs, rfl, h13.slo (by omega), hw13.slo (by omega), by simp; omega, by omega, only_below (B11.trans (by (repeat' (first | (with_reducible exact Only.refl _ _) | (with_reducible assumption) | (with_reducible refine Only.alloc ?_ _) | (with_reducible refine Only.set ?_ _ ?_ _) | (with_reducible refine Only.drew ?_) | (with_reducible refine Only.drewN ?_ _) | (with_reducible refine Only.via (by assumption) ?_) | (refine .inr ?_; omega) | (refine .inr ?_; simp; omega) | omega | (simp; omega) | (simp; done))))) g14, (rd12.above (below_le (by omega) g14)).mono (by omega)⟩
              · go_wp2_with (at_builtin; refine app_intG rfl _ _ rfl (w.heap.size) w12.heap.size _ xs 8 rfl rfl (hu12.1.alloc _) ?_ ?_ ?_ ?_; (focus (first | (go_simp; done) | (simp; done) | omega | (simp; omega))); (focus (first | (go_simp; done) | (simp; done) | omega | (simp; omega))); (focus (first | (go_simp; done) | (simp; done) | omega | (simp; omega))); intro v13 w13 h13 g13; have zw13 := g13.size; (try simp at zw13))
                have hw13 := OwnU.grown (hv12.alloc (.cells #[.int .i64 8] 3)) g13 hu12.2 (Nat.le_refl _)
                have g14 : Below w.heap.size w12 w13 := ((Below.refl _ w12).alloc (by omega) _).trans (grown_below (hu12.1.alloc _) (by simp; omega) g13)
                go_ret2
                exact ⟨_, _, xs ++ [8], rs, rfl, h13.slo (by omega), hw13.slo (by omega), by simp; omega, by omega, only_below (B11.trans (by (repeat' (first | (with_reducible exact Only.refl _ _) | (with_reducible assumption) | (with_reducible refine Only.alloc ?_ _) | (with_reducible refine Only.set ?_ _ ?_ _) | (with_reducible refine Only.drew ?_) | (with_reducible refine Only.drewN ?_ _) | (with_reducible refine Only.via (by assumption) ?_) | (refine .inr ?_; omega) | (refine .inr ?_; simp; omega) | omega | (simp; omega) | (simp; done))))) g14, (rd12.above (below_le (by omega) g14)).mono (by omega)⟩
            · obtain ⟨A8, c8, rfl⟩ := hv11.shape
              rcases hv11.form with ⟨_, e0⟩ | ⟨g8, cap8, cur8, e8, _⟩
              · subst e0; simp at hk1
              · injection e8 with e8 _ e9
                subst e8 e9
                go_wp2_with fail
                refine (pick_any r (N + 18) 2 _ (rd11.above (by first | (exact Below.refl _ _) | go_grown)) (by omega) (by omega) (by omega)).mono ?_
                rintro e w12 ⟨a12, rfl, a120, a121, ow12, rd12⟩
                obtain ⟨cw120, fw120, zw120, yw120, xw120, vw120⟩ := only_facts ow12 (w11.heap.size) (by first | omega | (simp; omega) | (simp; done)) (by omega)
                have sw12 := only_size ow12
                try simp at sw12
                have hv12 := (hv11.alloc (.cells #[.int .i64 (-1), .int .i64 9] 3)).only ow12 (by omega)
                have hu12 := (hu11.below ((Below.refl _ w11).alloc (by omega) (.cells #[.int .i64 (-1), .int .i64 9] 3))).only ow12 hr
                have hc2 : a12 = 0 ∨ a12 = 1 := by omega
                obtain ⟨f1, f2, f3, f4⟩ := hv12.at_ (i := 0) (by omega)
                have hl : (0 : Int) < (rs.length : Int) := by omega
                rcases hc2 with rfl | rfl
                · go_wp2
                  go_ret2
                  have g14 : Below wq.heap.size w12 (w12.setCell ⟨g8, 0, none⟩ (.int .i64 (-1))) := (Below.refl _ _).setCell f4 _
                  exact ⟨_, _, xs, rs.set 0 (-1), rfl, (hu12.below g14).1.slo (by omega), (hv12.put (-1) (by omega)).slo (by omega), by omega, by simp; omega, only_below (B11.trans (by (repeat' (first | (with_reducible exact Only.refl _ _) | (with_reducible assumption) | (with_reducible refine Only.alloc ?_ _) | (with_reducible refine Only.set ?_ _ ?_ _) | (with_reducible refine Only.drew ?_) | (with_reducible refine Only.drewN ?_ _) | (with_reducible refine Only.via (by assumption) ?_) | (refine .inr ?_; omega) | (refine .inr ?_; simp; omega) | omega | (simp; omega) | (simp; done))))) (below_le (by omega) g14), (rd12.above (below_le (by omega) g14)).mono (by omega)⟩
                · go_wp2
                  go_ret2
                  have g14 : Below wq.heap.size w12 (w12.setCell ⟨g8, 0, none⟩ (.int .i64 9)) := (Below.refl _ _).setCell f4 _
                  exact ⟨_, _, xs, rs.set 0 9, rfl, (hu12.below g14).1.slo (by omega), (hv12.put 9 (by omega)).slo (by omega), by omega, by simp; omega, only_below (B11.trans (by (repeat' (first | (with_reducible exact Only.refl _ _) | (with_reducible assumption) | (with_reducible refine Only.alloc ?_ _) | (with_reducible refine Only.set ?_ _ ?_ _) | (with_reducible refine Only.drew ?_) | (with_reducible refine Only.drewN ?_ _) | (with_reducible refine Only.via (by assumption) ?_) | (refine .inr ?_; omega) | (refine .inr ?_; simp; omega) | omega | (simp; omega) | (simp; done))))) (below_le (by omega) g14), (rd12.above (below_le (by omega) g14)).mono (by omega)⟩
end Go.Proofs.Ytikoldnejkhepaa
