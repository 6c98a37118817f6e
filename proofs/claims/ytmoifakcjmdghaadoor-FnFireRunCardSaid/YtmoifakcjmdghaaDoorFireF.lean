/- The draw of a mode and events; the walk of the law FnFireRun. -/
import Derived.Test.YtmoifakcjmdghaaDoorFireE
namespace Go.Proofs.YtmoifakcjmdghaaDoor
open Go.ChangeShapes Go.WideShapes Go.ChangeAt Go.RowKit

theorem below_le {n m : Nat} {a b : World} (h : n ≤ m) (hb : Below m a b) : Below n a b := ⟨hb.os, hb.tape, hb.output, hb.size, fun i hi => hb.block i (Nat.lt_of_lt_of_le hi h)⟩
theorem OwnI.cap {w : World} {base : Nat} {A : Option Addr} {n c : Nat} {xs : List Int} (h : OwnI w base (.slice A n c) xs) : xs.length ≤ c ∧ c ≤ maxLen := by
  rcases h.form with ⟨h1, h2⟩ | ⟨g, cap, cur, h1, h2, h3, h4, h5, _⟩
  · injection h1 with a1 a2 a3
    subst a3 h2
    exact ⟨Nat.le_refl _, Nat.zero_le _⟩
  · injection h1 with a1 a2 a3
    subst a3
    exact ⟨h4, h5⟩
/-- A drawn number and a drawn list. -/
def RunDrawn (w : World) (e : Ending) (w' : World) : Prop := ∃ (x : Int) (v : Value) (xs : List Int), e = .returned (.tuple #[.int .i64 x, v]) ∧ (∃ A c, v = .slice A xs.length c ∧ xs.length ≤ c ∧ c ≤ maxLen ∧ Ints w' A xs.length xs) ∧ xs.length ≤ 14 ∧ Below w.heap.size w w'

set_option maxHeartbeats 1000000 in
theorem drawFireRun_any (A : Option Addr) (n c : Nat) (g : Nat → Int) (w : World) (h : Bytes w A n c g) : Calls Tryd.prog 20 #[.slice A n c] w (RunDrawn w) := by
  go_enter Tryd.func20, Tryd.ntmps20
  go_wp2_with fail
  refine (open_any A n c g _ h).mono ?_
  rintro e w1 ⟨rfl, hb1, rd1⟩
  have s1 := hb1.size
  have r1 := rd1.lt
  go_wp2_with fail
  refine (l20Mode_any w.heap.size 0 _ _ rd1 (by omega) (by omega) (by omega)).mono ?_
  rintro e w2 ⟨x, rfl, x0, x1, ow2, rd2⟩
  have sw2 := only_size ow2
  try simp at sw2
  go_wp2_with fail
  refine (pick_any w.heap.size 2 _ _ (rd2.above (by first | (exact Below.refl _ _) | go_grown)) (by omega) (by omega) (by omega)).mono ?_
  rintro e w3 ⟨a3, rfl, a30, a31, ow3, rd3⟩
  obtain ⟨cw30, fw30, zw30, yw30, xw30, vw30⟩ := only_facts ow3 (w2.heap.size) (by first | omega | (simp; omega) | (simp; done)) (by omega)
  have sw3 := only_size ow3
  try simp at sw3
  have hz := OwnI.made (w := w2.alloc (.cells #[] 3)) (base := w.heap.size + 1) (g := w2.heap.size) (xs := []) (by omega) (heap_alloc_new w2 _) (by unfold maxLen; decide)
  have hz3 := hz.only ow3 (by omega)
  clear hz
  go_wp2_with fail
  go_loopw [6, 7] (fun v i wr => ∃ (k : Nat) (xs : List Int), i = .int .i64 k ∧ k + xs.length ≤ 14 ∧ OwnI wr (w.heap.size + 1) v xs ∧ Rd wr w.heap.size (60 - 2 * k) ∧ Below w.heap.size w wr ∧ w.heap.size + 1 ≤ wr.heap.size) (fun _ i _ => (intOf i).toNat)
  case atStart =>
    obtain ⟨k, rfl⟩ := Int.eq_ofNat_of_zero_le a30
    exact ⟨k, [], rfl, by simp; omega, hz3, rd3.mono (by omega), by (repeat' (first | (with_reducible exact Below.refl _ _) | (with_reducible assumption) | (with_reducible exact bundrew (by assumption)) | (with_reducible refine balloc ?_ _) | (with_reducible refine bset ?_ _ ?_ _) | (with_reducible refine Below.drew ?_) | (with_reducible refine bdrewN ?_ _) | (with_reducible refine bonly (by assumption) ?_ ?_) | (with_reducible refine bvia (by assumption) ?_) | (with_reducible refine Below.trans ?_ (by assumption)) | omega | (simp; omega) | (simp; done))), by omega⟩
  case round =>
    obtain ⟨k, xs, rfl, hk, hv, rd, hbr, hs⟩ := hrel
    by_cases h0 : 0 < k
    · have h0' : 0 < (k : Int) := by omega
      go_wp2_with fail
      refine (pick_any w.heap.size (60 - 2 * k) _ _ rd (by omega) (by omega) (by omega)).mono ?_
      rintro e w4 ⟨a4, rfl, a40, a41, ow4, rd4⟩
      have sw4 := only_size ow4
      try simp at sw4
      go_wp2_with fail
      refine (pick_any w.heap.size (60 - 2 * k + 1) _ _ rd4 (by omega) (by omega) (by omega)).mono ?_
      rintro e w5 ⟨a5, rfl, a50, a51, ow5, rd5⟩
      have sw5 := only_size ow5
      try simp at sw5
      have hv5 := (hv.only ow4 (by omega)).only ow5 (by omega)
      by_cases h5 : a5 = 59
      · subst h5
        go_wp2_with (at_builtin; refine app_int rfl _ _ rfl (w.heap.size + 1) w5.heap.size _ xs (a4 + 5) rfl rfl (hv5.alloc _) ?_ ?_ ?_ ?_; (focus (first | (go_simp; done) | (simp; done) | omega | (simp; omega))); (focus (first | (go_simp; done) | (simp; done) | omega | (simp; omega))); (focus (first | (go_simp; done) | (simp; done) | omega | (simp; omega))); intro v6 w6 h6 g6; have zw6 := g6.size; (try simp at zw6))
        have g7 : Below (w.heap.size + 1) w5 w6 := ((Below.refl _ w5).alloc (by omega) _).trans g6
        exact ⟨⟨k - 1, xs ++ [(a4 + 5)], by first | go_num | (congr 1; omega), by simp; omega, h6, (rd5.above g7).mono (by omega), (hbr.trans (ow4.below (Nat.le_refl _) (by omega))).trans ((ow5.below (Nat.le_refl _) (by omega)).trans (below_le (Nat.le_succ _) g7)), by omega⟩, by simp [intOf]; omega⟩
      · have hq : a5.tdiv 59 = 0 := Int.tdiv_eq_zero_of_lt a50 (by omega)
        have hq' : a5 / 59 = 0 := by omega
        go_wp2_with (at_builtin; refine app_int rfl _ _ rfl (w.heap.size + 1) w5.heap.size _ xs a4 rfl rfl (hv5.alloc _) ?_ ?_ ?_ ?_; (focus (first | (go_simp; done) | (simp; done) | omega | (simp; omega))); (focus (first | (go_simp; done) | (simp; done) | omega | (simp; omega))); (focus (first | (go_simp; done) | (simp; done) | omega | (simp; omega))); intro v6 w6 h6 g6; have zw6 := g6.size; (try simp at zw6))
        have g7 : Below (w.heap.size + 1) w5 w6 := ((Below.refl _ w5).alloc (by omega) _).trans g6
        exact ⟨⟨k - 1, xs ++ [a4], by first | go_num | (congr 1; omega), by simp; omega, h6, (rd5.above g7).mono (by omega), (hbr.trans (ow4.below (Nat.le_refl _) (by omega))).trans ((ow5.below (Nat.le_refl _) (by omega)).trans (below_le (Nat.le_succ _) g7)), by omega⟩, by simp [intOf]; omega⟩
    · obtain rfl : k = 0 := by omega
      obtain ⟨A', c', rfl⟩ := hv.shape
      have hi := hv.ints.2
      go_wp2
      go_ret2
      exact ⟨_, _, _, rfl, ⟨_, _, rfl, hv.cap.1, hv.cap.2, hi⟩, by omega, hbr⟩
end Go.Proofs.YtmoifakcjmdghaaDoor
