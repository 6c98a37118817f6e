/- Drawn riders in cars; the walks of the laws FnHallFits and FnGoalMany. -/
import Derived.Test.YtikoldnejkhepaaHallS
import Derived.Deep.RegionWith
import Derived.Deep.RegionHeld3
namespace Go.Proofs.Ytikoldnejkhepaa
open Go.ChangeShapes Go.WideShapes Go.ChangeAt Go.RowKit

/-- Three drawn lists; only the reader has changed. -/
def PutOut (w : World) (r N : Nat) (e : Ending) (w' : World) : Prop :=
  ∃ (v u t : Value) (gs rs ps : List Int), e = .returned (.tuple #[v, u, t]) ∧ SlI w' v gs ∧ SlI w' u rs ∧ SlI w' t ps ∧ gs.length ≤ 7 ∧ rs.length ≤ 3 ∧ ps.length ≤ 8 ∧ Only r w w' ∧ Rd w' r (N + 40)

set_option maxHeartbeats 2000000 in
theorem l20Put_any (r N : Nat) (w : World) (hR : Rd w r N) (hN : N ≤ 90000) : Calls Try.prog 46 #[.pointer (some ⟨r, 0, none⟩)] w (PutOut w r N) := by
  have hr := hR.lt
  go_enter Try.func46, Try.ntmps46
  go_wp2_with fail
  refine (l20Hall_any r N 9 _ hR (by omega) (by omega) (by omega)).mono ?_
  rintro e w1 ⟨v, u, gs, rs, rfl, ⟨sv, lv⟩, ⟨su, lu⟩, l1, l2, o1, rd1⟩
  obtain ⟨A1, c1, rfl, c10, c11, I1⟩ := sv
  obtain ⟨A2, c2, rfl, c20, c21, I2⟩ := su
  have SV : SlU w1 w.heap.size w1.heap.size (.slice A1 gs.length c1) gs := SlI.u ⟨A1, c1, rfl, c10, c11, I1⟩ lv
  have SU : SlU w1 w.heap.size w1.heap.size (.slice A2 rs.length c2) rs := SlI.u ⟨A2, c2, rfl, c20, c21, I2⟩ lu
  have s1 := o1.size
  have hz := OwnI.made (w := w1.alloc (.cells #[] 3)) (base := w1.heap.size) (g := w1.heap.size) (xs := []) (by omega) (heap_alloc_new w1 _) (by unfold maxLen; decide)
  have B1 : Below w1.heap.size w1 (w1.alloc (.cells #[] 3)) := (Below.refl _ w1).alloc (Nat.le_refl _) _
  have l1' : (gs.length : Int) ≤ 7 := by omega
  have l2' : (rs.length : Int) ≤ 3 := by omega
  have rd1' := (rd1.above (below_le (show r + 1 ≤ w1.heap.size by omega) B1))
  clear I1 I2 c10 c11 c20 c21
  go_wp2
  go_loopw [7, 8] (fun t' i wr => ∃ (t : Value) (k : Nat) (ps : List Int), t = t' ∧ i = .int .i64 k ∧ k ≤ gs.length ∧ ps.length = k ∧ OwnI wr w1.heap.size t ps ∧ SlU wr w.heap.size w1.heap.size (.slice A1 gs.length c1) gs ∧ SlU wr w.heap.size w1.heap.size (.slice A2 rs.length c2) rs ∧ Rd wr r (N + 24 + k) ∧ Only r w wr ∧ w1.heap.size ≤ wr.heap.size) (fun _ i _ => gs.length - (intOf i).toNat)
  case atStart => exact ⟨_, 0, [], rfl, rfl, Nat.zero_le _, rfl, hz, SV.below B1, SU.below B1, rd1', only_below o1 (below_le (by omega) B1), by simp⟩
  case round =>
    obtain ⟨t, k, ps, rfl, rfl, hk, hp, ht, sv, su, rd, oo, hs⟩ := hrel
    by_cases hlt : k < gs.length
    · have hlt' : (k : Int) < (gs.length : Int) := by omega
      have fin : ∀ n : Int, 1 ≤ n → n ≤ 3 → Calls Try.prog 48 #[.pointer (some ⟨r, 0, none⟩), .int .i64 n] wr (PickPost wr r (N + 24 + k) n) := fun n h1 h2 => pick_any r (N + 24 + k) n wr rd (by omega) (by omega) (by omega)
      have hpl : (ps.length : Int) ≤ 7 := by omega
      go_wp2_with fail
      all_goals
        refine (fin _ (by omega) (by omega)).mono ?_
        rintro e w4 ⟨a4, rfl, a40, a41, ow4, rd4⟩
        have s4 := ow4.size
        have ht4 := ht.only ow4 (by omega)
        go_wp2_with (at_builtin; refine app_int rfl _ _ rfl (w1.heap.size) w4.heap.size _ ps a4 rfl rfl (ht4.alloc _) ?_ ?_ ?_ ?_; (focus (first | (go_simp; done) | (simp; done) | omega | (simp; omega))); (focus (first | (go_simp; done) | (simp; done) | omega | (simp; omega))); (focus (first | (go_simp; done) | (simp; done) | omega | (simp; omega))); intro v6 w6 h6 g6; have zw6 := g6.size; (try simp at zw6))
        have g7 : Below w1.heap.size w4 w6 := ((Below.refl _ w4).alloc (by omega) _).trans g6
        have sv4 := (sv.only ow4 hr hs).below g7
        have su4 := (su.only ow4 hr hs).below g7
        exact ⟨⟨_, k + 1, ps ++ [a4], rfl, by go_num, by omega, by simp [hp], h6, sv4, su4, (rd4.above (below_le (by omega) g7)).mono (by omega), only_below (oo.trans ow4) (below_le (by omega) g7), by omega⟩, by simp [intOf]; omega⟩
    · have hk' : k = gs.length := by omega
      have hpl : (ps.length : Int) ≤ 7 := by omega
      obtain ⟨wx, hwx⟩ : ∃ wx : World, wx = wr := ⟨_, rfl⟩
      subst hwx
      have hge : ¬ (k : Int) < (gs.length : Int) := by omega
      go_wp2_with fail
      refine (odd_any r (N + 24 + k) 14 _ rd (by omega) (by omega) (by omega)).mono ?_
      rintro e w5 ⟨b, rfl, ow5, rd5⟩
      have sw5 := only_size ow5
      try simp at sw5
      have s5 := ow5.size
      have ht5 := ht.only ow5 (by omega)
      have sv5 := sv.only ow5 hr hs
      have su5 := su.only ow5 hr hs
      cases b
      · go_wp2
        go_ret3
        exact ⟨_, _, _, gs, rs, ps, rfl, sv5.sl (by omega), su5.sl (by omega), ht5.sl, l1, l2, by omega, oo.trans ow5, rd5.mono (by omega)⟩
      · go_wp2_with fail
        refine (pick_any r (N + 25 + k) 5 _ (rd5.mono (by omega)) (by omega) (by omega) (by omega)).mono ?_
        rintro e w6 ⟨a6, rfl, a60, a61, ow6, rd6⟩
        have sw6 := only_size ow6
        try simp at sw6
        have s6 := ow6.size
        have ht6 := ht5.only ow6 (by omega)
        have sv6 := sv5.only ow6 hr (by omega)
        have su6 := su5.only ow6 hr (by omega)
        go_wp2_with (at_builtin; refine app_int rfl _ _ rfl (w1.heap.size) w6.heap.size _ ps (a6 - 1) rfl rfl (ht6.alloc _) ?_ ?_ ?_ ?_; (focus (first | (go_simp; done) | (simp; done) | omega | (simp; omega))); (focus (first | (go_simp; done) | (simp; done) | omega | (simp; omega))); (focus (first | (go_simp; done) | (simp; done) | omega | (simp; omega))); intro v7 w7 h7 g7; have zw7 := g7.size; (try simp at zw7))
        have g8 : Below w1.heap.size w6 w7 := ((Below.refl _ w6).alloc (by omega) _).trans g7
        go_ret3
        exact ⟨_, _, _, gs, rs, ps ++ [a6 - 1], rfl, (sv6.below g8).sl (by omega), (su6.below g8).sl (by omega), h7.sl, l1, l2, by simp; omega, only_below ((oo.trans ow5).trans ow6) (below_le (by omega) g8), (rd6.above (below_le (by omega) g8)).mono (by omega)⟩

/-- Three drawn lists, in new memory. -/
def PutDrawn (w : World) (e : Ending) (w' : World) : Prop :=
  ∃ (v u t : Value) (gs rs ps : List Int), e = .returned (.tuple #[v, u, t]) ∧ SlI w' v gs ∧ SlI w' u rs ∧ SlI w' t ps ∧ gs.length ≤ 7 ∧ rs.length ≤ 3 ∧ ps.length ≤ 8 ∧ Below w.heap.size w w'

theorem drawHallFits_any (A : Option Addr) (n c : Nat) (g : Nat → Int) (w : World) (h : Bytes w A n c g) : Calls Try.prog 29 #[.slice A n c] w (PutDrawn w) := by
  go_enter Try.func29, Try.ntmps29
  go_wp2_with fail
  refine (open_any A n c g _ h).mono ?_
  rintro e w1 ⟨rfl, hb1, rd1⟩
  have s1 := hb1.size
  go_wp2_with fail
  refine (l20Put_any w.heap.size 0 _ rd1 (by omega)).mono ?_
  rintro e w2 ⟨v, u, t, gs, rs, ps, rfl, sv, su, st, l1, l2, l3, o2, rd2⟩
  go_wp2
  go_ret3
  exact ⟨v, u, t, gs, rs, ps, rfl, sv, su, st, l1, l2, l3, hb1.trans (o2.below (Nat.le_refl _) s1)⟩

theorem drawHallStops_any (A : Option Addr) (n c : Nat) (g : Nat → Int) (w : World) (h : Bytes w A n c g) : Calls Try.prog 32 #[.slice A n c] w (PutDrawn w) := by
  go_enter Try.func32, Try.ntmps32
  go_wp2_with fail
  refine (open_any A n c g _ h).mono ?_
  rintro e w1 ⟨rfl, hb1, rd1⟩
  have s1 := hb1.size
  go_wp2_with fail
  refine (l20Put_any w.heap.size 0 _ rd1 (by omega)).mono ?_
  rintro e w2 ⟨v, u, t, gs, rs, ps, rfl, sv, su, st, l1, l2, l3, o2, rd2⟩
  go_wp2
  go_ret3
  exact ⟨v, u, t, gs, rs, ps, rfl, sv, su, st, l1, l2, l3, hb1.trans (o2.below (Nat.le_refl _) s1)⟩

/-- What the last region keeps of a world: three lists, and all that is older. -/
def Held3L (w0 : World) (A1 A2 A3 : Option Addr) (n1 n2 n3 : Nat) (gs rs ps : List Int) (w' : World) : Prop := Ints w' A1 n1 gs ∧ Ints w' A2 n2 rs ∧ Ints w' A3 n3 ps ∧ Below w0.heap.size w0 w'
theorem Held3L.step {w0 W w' : World} {A1 A2 A3 : Option Addr} {n1 n2 n3 : Nat} {gs rs ps : List Int} (h : Held3L w0 A1 A2 A3 n1 n2 n3 gs rs ps W) (hb : Below W.heap.size W w') : Held3L w0 A1 A2 A3 n1 n2 n3 gs rs ps w' :=
  ⟨h.1.below hb, h.2.1.below hb, h.2.2.1.below hb, bvia hb h.2.2.2⟩
theorem Held3L.drew {w0 W : World} {A1 A2 A3 : Option Addr} {n1 n2 n3 : Nat} {gs rs ps : List Int} (h : Held3L w0 A1 A2 A3 n1 n2 n3 gs rs ps W) : Held3L w0 A1 A2 A3 n1 n2 n3 gs rs ps W.drew :=
  ⟨h.1.drewN 1, h.2.1.drewN 1, h.2.2.1.drewN 1, bdrewN h.2.2.2 1⟩
theorem Held3L.then {w0 W w' : World} {A1 A2 A3 : Option Addr} {n1 n2 n3 : Nat} {gs rs ps : List Int} (hb : Below W.heap.size W w') (h : Held3L w0 A1 A2 A3 n1 n2 n3 gs rs ps W) : Held3L w0 A1 A2 A3 n1 n2 n3 gs rs ps w' := h.step hb
theorem Held3L.two {w0 W : World} {A1 A2 A3 : Option Addr} {n1 n2 n3 : Nat} {gs rs ps : List Int} (h : Held3L w0 A1 A2 A3 n1 n2 n3 gs rs ps W) : Ints W A2 n2 rs := h.2.1
theorem Held3L.fit {w0 W : World} {A1 A2 A3 : Option Addr} {n1 n2 n3 : Nat} {gs rs ps : List Int} (h : Held3L w0 A1 A2 A3 n1 n2 n3 gs rs ps W) (m c1 c2 c3 : Nat) (h1 : m ≤ n1) (h3 : m ≤ n3) :
    Calls Try.prog 18 #[.slice A1 m c1, .slice A2 n2 c2, .slice A3 m c3] W fun e w' => e = .returned (.bool (fitsB (gs.take m) rs (ps.take m))) ∧ Below W.heap.size W w' :=
  fits_impl A1 m c1 (gs.take m) A2 n2 c2 rs A3 m c3 (ps.take m) W (h.1.take m h1) h.2.1 (h.2.2.1.take m h3)

set_option maxHeartbeats 2000000 in
theorem walk_FnHallFits (A : Option Addr) (n c : Nat) (g : Nat → Int) (w : World) (hB : Bytes w A n c g) : Calls Try.prog 9 #[.slice A n c] w fun e w' => e = .returned (.bool true) ∧ Below w.heap.size w w' := by
  by_cases hn : 1048576 < n
  · have hn' : (1048576 : Int) < (n : Int) := by omega
    go_enter Try.func9, Try.ntmps9
    go_wp2
    go_ret
    exact ⟨rfl, by (repeat' (first | (with_reducible exact Below.refl _ _) | (with_reducible assumption) | (with_reducible exact bundrew (by assumption)) | (with_reducible refine balloc ?_ _) | (with_reducible refine bset ?_ _ ?_ _) | (with_reducible refine Below.drew ?_) | (with_reducible refine bdrewN ?_ _) | (with_reducible refine bvia (by assumption) ?_) | (with_reducible refine Below.trans ?_ (by assumption)) | omega | (simp; omega) | (simp; done)))⟩
  · have hn' : (n : Int) ≤ 1048576 := by omega
    go_enter Try.func9, Try.ntmps9
    go_wp2_with fail
    refine (drawHallFits_any A n c g _ hB).mono ?_
    rintro x wd ⟨v, u, t, gs, rs, ps, rfl, ⟨A1, c1, rfl, hc1, _, I1⟩, ⟨A2, c2, rfl, hc2, _, I2⟩, ⟨A3, c3, rfl, hc3, _, I3⟩, l1, l2, l3, hbd⟩
    obtain ⟨n1, hn1⟩ : ∃ n1, gs.length = n1 := ⟨_, rfl⟩
    obtain ⟨n2, hn2⟩ : ∃ n2, rs.length = n2 := ⟨_, rfl⟩
    obtain ⟨n3, hn3⟩ : ∃ n3, ps.length = n3 := ⟨_, rfl⟩
    rw [hn1] at I1 l1 hc1 ⊢
    rw [hn2] at I2 l2 hc2 ⊢
    rw [hn3] at I3 l3 hc3 ⊢
    have HN1 := Lib.hid hn1
    have HN2 := Lib.hid hn2
    have HN3 := Lib.hid hn3
    clear hn1 hn2 hn3
    have l3' : (n3 : Int) ≤ 8 := by omega
    go_wp2_with fail
    refine (fits_impl _ _ _ gs _ _ _ rs _ _ _ ps _ I1 I2 I3).mono ?_
    rintro e w1 ⟨rfl, hbw1⟩
    obtain ⟨hcw1, hfw1, -, -, -, hsw1⟩ := bfacts5 hbw1
    try simp only [World.size_drew] at hcw1 hfw1
    try simp at hsw1
    have J1 := I1.below hbw1
    have J2 := I2.below hbw1
    have J3 := I3.below hbw1
    go_wp2_with fail
    refine (fits_spec _ _ _ gs _ _ _ rs _ _ _ ps _ J1 J2 J3).mono ?_
    rintro x w' ⟨rfl, rfl⟩
    cases hf : fitsB gs rs ps
    · go_wp2_with (go_at_call 28; refine (alive_any _).mono ?_; rintro x w3 ⟨rfl, hb3⟩)
      go_ret
      exact ⟨rfl, by (repeat' (first | (with_reducible exact Below.refl _ _) | (with_reducible assumption) | (with_reducible exact bundrew (by assumption)) | (with_reducible refine balloc ?_ _) | (with_reducible refine bset ?_ _ ?_ _) | (with_reducible refine Below.drew ?_) | (with_reducible refine bdrewN ?_ _) | (with_reducible refine bvia (by assumption) ?_) | (with_reducible refine Below.trans ?_ (by assumption)) | omega | (simp; omega) | (simp; done)))⟩
    · obtain ⟨p1, p2, p3, p4⟩ := fits_parts hf
      have hs := fits_sum hf
      obtain ⟨b1, b2, b3, b4, b5⟩ := hallB_iff.1 p1
      have m1 : n3 = n1 := by rw [← HN3.out, ← HN1.out]; exact p2
      subst m1
      have hc30 := hc3.1
      have hc10 := hc1.1
      have hsum := fun w (h : Ints w A2 n2 rs) => sumOf_any A2 n2 c2 rs w h b5 (by omega)
      obtain ⟨s, hs0⟩ : ∃ s, sumK rs n2 = s := ⟨_, rfl⟩
      rw [HN2.out, HN3.out, hs0] at hs
      rw [hs0] at hsum
      have HSum := Lib.hid hsum
      have FT : ∀ k, fitsB (gs.take k) rs (ps.take k) = true := fun k => fits_take hf k
      have HFT := Lib.hid FT
      clear hs0 b1 b2 b3 b4 b5 p1 p2 p3 p4 hc1 hc2 hc3 hsum FT
      cases n3 with
      | zero =>
        have hs' : (0 : Int) ≤ s := by omega
        have hd : decide ((0 : Int) ≤ s) = true := by simpa using hs'
        go_wp2_with fail
        go_quiet ((go_at_call 30; exact Calls.quiet_of_same (flipW (HSum.out _ J2))))
        all_goals go_wp2
        all_goals go_ret
        all_goals exact ⟨rfl, by (repeat' (first | (with_reducible exact Below.refl _ _) | (with_reducible assumption) | (with_reducible exact bundrew (by assumption)) | (with_reducible refine balloc ?_ _) | (with_reducible refine bset ?_ _ ?_ _) | (with_reducible refine Below.drew ?_) | (with_reducible refine bdrewN ?_ _) | (with_reducible refine bvia (by assumption) ?_) | (with_reducible refine Below.trans ?_ (by assumption)) | omega | (simp; omega) | (simp; done)))⟩
      | succ m =>
        have hs' : (m : Int) + 1 ≤ s := by omega
        have hd : decide ((m : Int) + 1 ≤ s) = true := by simpa using hs'
        have hd2 : decide ((m : Int) < 0) = false := by first | (simp; done) | (simp; omega)
        have hft := HFT.out m
        have hm1 : m ≤ c1 := by omega
        have hm3 : m ≤ c3 := by omega
        go_wp2_with fail
        have hS1 : Held3L w A1 A2 A3 (m + 1) n2 (m + 1) gs rs ps w1 := ⟨J1, J2, J3, by (repeat' (first | (with_reducible exact Below.refl _ _) | (with_reducible assumption) | (with_reducible exact bundrew (by assumption)) | (with_reducible refine balloc ?_ _) | (with_reducible refine bset ?_ _ ?_ _) | (with_reducible refine Below.drew ?_) | (with_reducible refine bdrewN ?_ _) | (with_reducible refine bvia (by assumption) ?_) | (with_reducible refine Below.trans ?_ (by assumption)) | omega | (simp; omega) | (simp; done)))⟩
        go_region_held3 (fun w' => Held3L w A1 A2 A3 (m + 1) n2 (m + 1) gs rs ps w') (first | assumption | (refine Held3L.drew ?_; assumption) | (refine Held3L.then (by assumption) ?_; assumption))
          (first
          | (go_at_call 30; refine (HSum.out _ (Held3L.two (w0 := w) (A1 := A1) (A3 := A3) (n1 := m + 1) (n3 := m + 1) (gs := gs) (ps := ps) (by assumption))).mono ?_; rintro e w' ⟨rfl, rfl⟩)
          | (go_at_call 18; refine (Held3L.fit (by assumption) m c1 c2 c3 (by omega) (by omega)).mono ?_; rintro e w9 ⟨rfl, hb9⟩))
        all_goals go_wp2
        all_goals go_ret
        all_goals exact ⟨rfl, by (repeat' (first | (with_reducible exact Below.refl _ _) | (with_reducible assumption) | (with_reducible exact bundrew (by assumption)) | (with_reducible refine balloc ?_ _) | (with_reducible refine bset ?_ _ ?_ _) | (with_reducible refine Below.drew ?_) | (with_reducible refine bdrewN ?_ _) | (with_reducible refine bvia (by assumption) ?_) | (with_reducible refine Below.trans ?_ (by assumption)) | omega | (simp; omega) | (simp; done)))⟩
end Go.Proofs.Ytikoldnejkhepaa
