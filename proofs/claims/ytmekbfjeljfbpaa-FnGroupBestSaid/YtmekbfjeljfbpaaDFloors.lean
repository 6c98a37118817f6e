/- Drawn heights (l20Floors): contract. -/
import Derived.Test.YtmekbfjeljfbpaaOwnU
namespace Go.Proofs.Ytmekbfjeljfbpaa
open Go.ChangeShapes Go.WideShapes Go.ChangeAt Go.RowKit

/-- A drawn list; only the reader has changed. -/
def FloorsOut (w : World) (r N : Nat) (e : Ending) (w' : World) : Prop :=
  ∃ (v : Value) (xs : List Int), e = .returned v ∧ (OwnI w' w.heap.size v xs) ∧ xs.length ≤ 9 ∧ Only r w w' ∧ Rd w' r (N + 12)

set_option maxHeartbeats 2000000 in
theorem l20Floors_any (r N : Nat) (n : Int) (w : World) (hR : Rd w r N) (hN : N ≤ 90000) (h1 : 1 ≤ n) (h2 : n ≤ 1000) :
    Calls Try.prog 61 #[.pointer (some ⟨r, 0, none⟩), .int .i64 n] w (FloorsOut w r N) := by
  have hr := hR.lt
  have hz := OwnI.made (w := w.alloc (.cells #[.int .i64 0] 3)) (base := w.heap.size) (g := w.heap.size) (xs := [0]) (by omega) (heap_alloc_new w _) (by unfold maxLen; decide)
  go_enter Try.func61, Try.ntmps61
  go_wp2_with fail
  refine (pick_any r N 8 _ (hR.above (by first | (exact Below.refl _ _) | go_grown)) (by omega) (by omega) (by omega)).mono ?_
  rintro e w1 ⟨a1, rfl, a10, a11, ow1, rd1⟩
  obtain ⟨cw10, fw10, zw10, yw10, xw10, vw10⟩ := only_facts ow1 (w.heap.size) (by first | omega | (simp; omega) | (simp; done)) (by omega)
  have sw1 := only_size ow1
  try simp at sw1
  have hz1 := hz.only ow1 hr
  clear hz
  go_wp2_with fail
  go_loopw [5, 6, 7] (fun v at' i wr => ∃ (v0 : Value) (k : Nat) (a : Int) (xs : List Int), v0 = v ∧ i = .int .i64 k ∧ at' = .int .i64 a ∧ 0 ≤ a ∧ a + 7 * (k : Int) ≤ 49 ∧ k + xs.length ≤ 8 ∧ 1 ≤ xs.length ∧ OwnI wr w.heap.size v xs ∧ Rd wr r (N + 8 - k) ∧ Only r w wr ∧ w.heap.size ≤ wr.heap.size) (fun _ _ i _ => (intOf i).toNat)
  case atStart =>
    obtain ⟨k, rfl⟩ := Int.eq_ofNat_of_zero_le a10
    exact ⟨_, k, 0, [0], rfl, rfl, rfl, by omega, by omega, by simp; omega, by simp, hz1, rd1.mono (by omega), by (repeat' (first | (with_reducible exact Only.refl _ _) | (with_reducible assumption) | (with_reducible refine Only.alloc ?_ _) | (with_reducible refine Only.set ?_ _ ?_ _) | (with_reducible refine Only.drew ?_) | (with_reducible refine Only.drewN ?_ _) | (with_reducible refine Only.via (by assumption) ?_) | (refine .inr ?_; omega) | (refine .inr ?_; simp; omega) | omega | (simp; omega) | (simp; done))), by omega⟩
  case round =>
    obtain ⟨v0, k, a, xs, rfl, rfl, rfl, ha0, ha1, hk, hx1, hv, rd, hor, hs⟩ := hrel
    by_cases h0 : 0 < k
    · have h0' : 0 < (k : Int) := by omega
      go_wp2_with fail
      refine (pick_any r (N + 8 - k) 6 _ rd (by omega) (by omega) (by omega)).mono ?_
      rintro e w4 ⟨a4, rfl, a40, a41, ow4, rd4⟩
      have sw4 := only_size ow4
      try simp at sw4
      have hv4 := hv.only ow4 hr
      go_wp2_with (at_builtin; refine app_int rfl _ _ rfl (w.heap.size) w4.heap.size _ xs (a + 2 + a4) rfl rfl (hv4.alloc _) ?_ ?_ ?_ ?_; (focus (first | (go_simp; done) | (simp; done) | omega | (simp; omega))); (focus (first | (go_simp; done) | (simp; done) | omega | (simp; omega))); (focus (first | (go_simp; done) | (simp; done) | omega | (simp; omega))); intro v6 w6 h6 g6; have zw6 := g6.size; (try simp at zw6))
      have g7 : Below w.heap.size w4 w6 := ((Below.refl _ w4).alloc (by omega) _).trans g6
      exact ⟨⟨_, k - 1, a + 2 + a4, xs ++ [a + 2 + a4], rfl, by first | go_num | (congr 1; omega), rfl, by omega, by omega, by simp; omega, by simp, h6, (rd4.above (below_le (by omega) g7)).mono (by omega), only_below (hor.trans ow4) g7, by omega⟩, by simp [intOf]; omega⟩
    · obtain rfl : k = 0 := by omega
      obtain ⟨wx, hwx⟩ : ∃ wx : World, wx = wr := ⟨_, rfl⟩
      subst hwx
      go_wp2_with fail
      refine (odd_any r (N + 8) n _ rd (by omega) h1 (by omega)).mono ?_
      rintro e w5 ⟨b, rfl, ow5, rd5⟩
      have sw5 := only_size ow5
      try simp at sw5
      have hv5 := hv.only ow5 hr
      have B5 := hor.trans ow5
      cases b
      · go_wp2
        go_ret
        exact ⟨_, xs, rfl, hv5, by omega, B5, rd5.mono (by omega)⟩
      · go_wp2_with fail
        refine (pick_any r (N + 9) 4 _ rd5 (by omega) (by omega) (by omega)).mono ?_
        rintro e w6 ⟨a6, rfl, a60, a61, ow6, rd6⟩
        have sw6 := only_size ow6
        try simp at sw6
        have hv6 := hv5.only ow6 hr
        have B6 := B5.trans ow6
        have hc : a6 = 0 ∨ a6 = 1 ∨ a6 = 2 ∨ a6 = 3 := by omega
        obtain ⟨L, hL⟩ : ∃ L, xs.length = L + 1 := ⟨xs.length - 1, by omega⟩
        rcases hv6.form with ⟨_, e0⟩ | ⟨g8, cap8, cur8, e8, _⟩
        · subst e0; simp at hx1
        · subst e8
          rw [hL] at hv6 ⊢
          obtain ⟨p1, p2, p3, p4⟩ := hv6.at_ (i := 0) (by omega)
          obtain ⟨q1, q2, q3, q4⟩ := hv6.at_ (i := L) (by omega)
          have hl : (0 : Int) < ((L + 1 : Nat) : Int) := by omega
          have e1 : IntKind.i64.wrap (((L + 1 : Nat) : Int) - 1) = (L : Int) := by rw [IntWalk.i64_in _ ⟨by omega, by omega⟩]; omega
          have hl2 : (L : Int) < ((L + 1 : Nat) : Int) := by omega
          obtain ⟨y, hy⟩ : ∃ y, xs[L]?.getD 0 = y := ⟨_, rfl⟩
          rw [hy] at q1
          clear hy
          rcases hc with rfl | rfl | rfl | rfl
          · have hz := OwnI.made (w := w6.alloc (.cells #[] 3)) (base := w.heap.size) (g := w6.heap.size) (xs := []) (by omega) (heap_alloc_new w6 _) (by unfold maxLen; decide)
            go_wp2
            go_ret
            exact ⟨_, [], rfl, hz, by simp, by (repeat' (first | (with_reducible exact Only.refl _ _) | (with_reducible assumption) | (with_reducible refine Only.alloc ?_ _) | (with_reducible refine Only.set ?_ _ ?_ _) | (with_reducible refine Only.drew ?_) | (with_reducible refine Only.drewN ?_ _) | (with_reducible refine Only.via (by assumption) ?_) | (refine .inr ?_; omega) | (refine .inr ?_; simp; omega) | omega | (simp; omega) | (simp; done))), (rd6.above (by first | (exact Below.refl _ _) | go_grown)).mono (by omega)⟩
          · go_wp2
            go_ret
            have g14 : Below w.heap.size w6 (w6.setCell ⟨g8, 0, none⟩ (.int .i64 1)) := (Below.refl _ _).setCell p4 _
            exact ⟨_, xs.set 0 1, rfl, hv6.put 1 (by omega), by simp; omega, only_below B6 g14, (rd6.above (below_le (by omega) g14)).mono (by omega)⟩
          · go_wp2_with (at_builtin; refine app_int rfl _ _ rfl (w.heap.size) w6.heap.size _ xs y rfl rfl (hv6.alloc _) ?_ ?_ ?_ ?_; (focus (first | (go_simp; done) | (simp; done) | omega | (simp; omega))); (focus (first | (go_simp; done) | (simp; done) | omega | (simp; omega))); (focus (first | (go_simp; done) | (simp; done) | omega | (simp; omega))); intro v7 w7 h7 g7; have zw7 := g7.size; (try simp at zw7))
            have g14 : Below w.heap.size w6 w7 := ((Below.refl _ w6).alloc (by omega) _).trans g7
            go_ret
            exact ⟨_, xs ++ [y], rfl, h7, by simp; omega, only_below B6 g14, (rd6.above (below_le (by omega) g14)).mono (by omega)⟩
          · go_wp2_with (at_builtin; refine app_int rfl _ _ rfl (w.heap.size) w6.heap.size _ xs 61 rfl rfl (hv6.alloc _) ?_ ?_ ?_ ?_; (focus (first | (go_simp; done) | (simp; done) | omega | (simp; omega))); (focus (first | (go_simp; done) | (simp; done) | omega | (simp; omega))); (focus (first | (go_simp; done) | (simp; done) | omega | (simp; omega))); intro v7 w7 h7 g7; have zw7 := g7.size; (try simp at zw7))
            have g14 : Below w.heap.size w6 w7 := ((Below.refl _ w6).alloc (by omega) _).trans g7
            go_ret
            exact ⟨_, xs ++ [61], rfl, h7, by simp; omega, only_below B6 g14, (rd6.above (below_le (by omega) g14)).mono (by omega)⟩
end Go.Proofs.Ytmekbfjeljfbpaa
