/- WaitLeast of both; the walks of the laws FnExactWaitPlaces and FnExactWaitLeast. -/
import Derived.Test.YtbjnkjookokjaaaWaitI
import Derived.Test.YtbjnkjookokjaaaMark
import Derived.Test.YtbjnkjookokjaaaIntsO
import Derived.Test.YtbjnkjookokjaaaApart
namespace Go.Proofs.Ytbjnkjookokjaaa
open Go.ChangeShapes Go.WideShapes Go.ChangeAt Go.RowKit

theorem placesT_length (xs os : List Int) (cars : Int) : (placesT xs os cars).length ≤ 8 := by
  by_cases h : oftB xs os = true ∧ 1 ≤ cars
  · rw [placesT_yes h.1 h.2 rfl]
    have n8 := (fv_open (oftB_iff.1 h.1).1).2.1
    have := two_pow n8
    exact (search_in n8 _ (by omega)).2
  · rw [placesT_no h]; simp
/-- What the best places cost. -/
def leastI (xs os : List Int) (cars : Int) : Int := wcI xs os (nums (placesT xs os cars))
theorem leastI_no {xs os : List Int} {cars : Int} (h : ¬ (oftB xs os = true ∧ 1 ≤ cars)) : leastI xs os cars = -1 := by
  unfold leastI
  rw [placesT_no h]
  exact wcI_no fun hw => by have := (wcB_iff.1 hw).2.1; simp [nums] at this
set_option maxHeartbeats 1000000 in
theorem least_spec (A : Option Addr) (n c : Nat) (xs : List Int) (A' : Option Addr) (n' c' : Nat) (os : List Int) (cars : Int) (w : World) (h : Ints w A n xs) (h' : Ints w A' n' os) :
    Calls Try.prog 21 #[.slice A n c, .slice A' n' c', .int .i64 cars] w fun e w' => e = .returned (.int .i64 (leastI xs os cars)) ∧ Below w.heap.size w w' := by
  have H1 := Lib.hid h
  have H2 := Lib.hid h'
  clear h h'
  go_enter Try.func21, Try.ntmps21
  go_wp2_with fail
  refine (places_spec A n c xs A' n' c' os cars _ H1.out H2.out).mono ?_
  rintro e w1 ⟨v, rfl, hv, hb⟩
  obtain ⟨A1, c1, rfl⟩ := hv.shape
  go_wp2_with fail
  refine (wc_spec A n c xs A' n' c' os A1 _ c1 _ w1 (H1.out.below hb) (H2.out.below hb) hv.ints.2).mono ?_
  rintro e w2 ⟨rfl, m, rfl⟩
  go_wp2
  go_ret
  exact ⟨rfl, bdrewN hb m⟩
set_option maxHeartbeats 1000000 in
theorem least_impl (A : Option Addr) (n c : Nat) (xs : List Int) (A' : Option Addr) (n' c' : Nat) (os : List Int) (cars : Int) (w : World) (h : Ints w A n xs) (h' : Ints w A' n' os) :
    Calls Try.prog 22 #[.slice A n c, .slice A' n' c', .int .i64 cars] w fun e w' => e = .returned (.int .i64 (leastI xs os cars)) ∧ Below w.heap.size w w' := by
  have H1 := Lib.hid h
  have H2 := Lib.hid h'
  have O := fun w hx hy => oft_impl A n c xs A' n' c' os w hx hy
  cases ho : oftB xs os
  · rw [leastI_no (by simp [ho])]
    rw [ho] at O
    have HO := Lib.hid O
    clear O h h'
    go_enter Try.func22, Try.ntmps22
    go_wp2_with (go_at_call 13; refine (HO.out _ H1.out H2.out).mono ?_; rintro e w' ⟨rfl, m, rfl⟩)
    go_ret
    exact ⟨rfl, by (repeat' (first | (with_reducible exact Below.refl _ _) | (with_reducible assumption) | (with_reducible exact bundrew (by assumption)) | (with_reducible refine balloc ?_ _) | (with_reducible refine bset ?_ _ ?_ _) | (with_reducible refine Below.drew ?_) | (with_reducible refine bdrewN ?_ _) | (with_reducible refine bvia (by assumption) ?_) | (with_reducible refine Below.trans ?_ (by assumption)) | omega | (simp; omega) | (simp; done)))⟩
  · rw [ho] at O
    have HO := Lib.hid O
    by_cases hc : cars < 1
    · rw [leastI_no (by omega)]
      clear O h h'
      go_enter Try.func22, Try.ntmps22
      go_wp2_with (go_at_call 13; refine (HO.out _ H1.out H2.out).mono ?_; rintro e w' ⟨rfl, m, rfl⟩)
      go_ret
      exact ⟨rfl, by (repeat' (first | (with_reducible exact Below.refl _ _) | (with_reducible assumption) | (with_reducible exact bundrew (by assumption)) | (with_reducible refine balloc ?_ _) | (with_reducible refine bset ?_ _ ?_ _) | (with_reducible refine Below.drew ?_) | (with_reducible refine bdrewN ?_ _) | (with_reducible refine bvia (by assumption) ?_) | (with_reducible refine Below.trans ?_ (by assumption)) | omega | (simp; omega) | (simp; done)))⟩
    · have hc' : 1 ≤ cars := by omega
      clear O h h'
      go_enter Try.func22, Try.ntmps22
      go_wp2_with (go_at_call 13; refine (HO.out _ H1.out H2.out).mono ?_; rintro e w' ⟨rfl, m, rfl⟩)
      refine (places_impl A n c xs A' n' c' os cars _ (H1.out.drewN m) (H2.out.drewN m)).mono ?_
      rintro e w1 ⟨v, rfl, hv, hb⟩
      obtain ⟨A1, c1, rfl⟩ := hv.shape
      go_wp2_with fail
      refine (wc_impl A n c xs A' n' c' os A1 _ c1 _ w1 ((H1.out.drewN m).below hb) ((H2.out.drewN m).below hb) hv.ints.2).mono ?_
      rintro e w2 ⟨rfl, m2, rfl⟩
      go_wp2
      go_ret
      exact ⟨rfl, bdrewN ((bdrewN (Below.refl _ _) m).trans hb) m2⟩

/-- A list of the call's own. -/
def ListOut (w : World) (xs : List Int) (e : Ending) (w' : World) : Prop := ∃ v : Value, e = .returned v ∧ OwnI w' w.heap.size v xs ∧ Below w.heap.size w w'

set_option maxRecDepth 100000 in
set_option maxHeartbeats 4000000 in
theorem walk_FnExactWaitPlaces (A0 : Option Addr) (n0 c0 : Nat) (xs : List Int) (A1 : Option Addr) (n1 c1 : Nat) (os : List Int) (cars : Int) (w : World) (h0 : Ints w A0 n0 xs) (h1 : Ints w A1 n1 os) (_ : (Lit.int .i64 cars).wf = true) :
    Calls Try.prog 5 #[Value.slice A0 n0 c0, Value.slice A1 n1 c1, .int .i64 cars] w fun e w' => e = .returned (.bool true) ∧ Below w.heap.size w w' := by
  by_cases k0 : n0 ≤ 1048576
  · have l0 : (n0 : Int) ≤ 1048576 := by omega
    by_cases k1 : n1 ≤ 1048576
    · have l1 : (n1 : Int) ≤ 1048576 := by omega
      obtain ⟨bl, hbl⟩ : ∃ bl, placesT xs os cars = bl := ⟨_, rfl⟩
      have hsl := placesT_length xs os cars
      rw [hbl] at hsl
      obtain ⟨nl, hnl⟩ : ∃ nl, nums bl = nl := ⟨_, rfl⟩
      have hnn : nl.length ≤ 8 := by rw [← hnl, nums_length]; exact hsl
      have BS : ∀ (A : Option Addr) (n c : Nat) (A' : Option Addr) (n' c' : Nat) (w : World), Ints w A n xs → Ints w A' n' os → Calls Try.prog 17 #[.slice A n c, .slice A' n' c', .int .i64 cars] w (ListOut w nl) := fun A n c A' n' c' w h h' => (places_spec A n c xs A' n' c' os cars w h h').mono fun e w' hx => by
        rw [hbl] at hx; obtain ⟨v, q1, q2, q3⟩ := hx; exact ⟨v, q1, by rw [← hnl]; exact q2, q3⟩
      have BI : ∀ (A : Option Addr) (n c : Nat) (A' : Option Addr) (n' c' : Nat) (w : World), Ints w A n xs → Ints w A' n' os → Calls Try.prog 18 #[.slice A n c, .slice A' n' c', .int .i64 cars] w (ListOut w nl) := fun A n c A' n' c' w h h' => (places_impl A n c xs A' n' c' os cars w h h').mono fun e w' hx => by
        rw [hbl] at hx; obtain ⟨v, q1, q2, q3⟩ := hx; exact ⟨v, q1, by rw [← hnl]; exact q2, q3⟩
      have HS := Lib.hid BS
      have HI := Lib.hid BI
      clear BS BI hbl hsl hnl
      go_enter Try.func5, Try.ntmps5
      go_wp2_with fail
      refine (toIntsO_any A0 n0 c0 xs _ h0 k0).mono ?_
      rintro e w1 ⟨v1, rfl, o1, b1⟩
      obtain ⟨B1, d1, rfl⟩ := o1.shape
      go_wp2_with fail
      refine (toIntsO_any A1 n1 c1 os _ (h1.below b1) k1).mono ?_
      rintro e w2 ⟨v2, rfl, o2, b2⟩
      obtain ⟨B2, d2, rfl⟩ := o2.shape
      have T2 : Below w.heap.size w w2 := bvia b2 b1
      go_wp2_with fail
      refine (HS.out _ _ _ _ _ _ _ (o1.below b2).ints.2 o2.ints.2).mono ?_
      rintro e w3 ⟨v3, rfl, o3, b3⟩
      obtain ⟨B3, d3, rfl⟩ := o3.shape
      have T3 : Below w.heap.size w w3 := bvia b3 T2
      clear o1 o2
      go_wp2_with fail
      refine (toIntsO_any A0 n0 c0 xs _ (h0.below T3) k0).mono ?_
      rintro e w4 ⟨v4, rfl, o4, b4⟩
      obtain ⟨B4, d4, rfl⟩ := o4.shape
      have T4 : Below w.heap.size w w4 := bvia b4 T3
      have p43 := o3.apart o4 (Nat.le_refl _)
      go_wp2_with fail
      refine (toIntsO_any A1 n1 c1 os _ (h1.below T4) k1).mono ?_
      rintro e w5 ⟨v5, rfl, o5, b5⟩
      obtain ⟨B5, d5, rfl⟩ := o5.shape
      have T5 : Below w.heap.size w w5 := bvia b5 T4
      have o3a := o3.below b4
      have p54 := o4.apart o5 (Nat.le_refl _)
      have p53 := o3a.apart o5 (Nat.le_refl _)
      have o4a := o4.below b5
      have o3b := o3a.below b5
      have z4 : w.heap.size ≤ w3.heap.size := T3.size
      have z5 : w.heap.size ≤ w4.heap.size := T4.size
      have z6 : w.heap.size ≤ w5.heap.size := T5.size
      clear o3 o3a o4
      go_wp2_with fail
      refine (HI.out _ _ _ _ _ _ _ o4a.ints.2 o5.ints.2).mono ?_
      rintro e w6 ⟨v6, rfl, o6, b6⟩
      obtain ⟨B6, d6, rfl⟩ := o6.shape
      have T6 : Below w.heap.size w w6 := bvia b6 T5
      have p63 := o3b.apart o6 (Nat.le_refl _)
      have p64 := o4a.apart o6 (Nat.le_refl _)
      have p65 := o5.apart o6 (Nat.le_refl _)
      have o3c := o3b.below b6
      have o4c := o4a.below b6
      have o5c := o5.below b6
      clear o3b o4a o5
      go_wp2_with fail
      refine (eqInts_any _ _ _ _ _ nl _ o6.ints.2 o3c.ints.2).mono ?_
      rintro e w' ⟨rfl, m7, rfl⟩
      have T7 := bdrewN T6 m7
      go_wp2_with fail
      refine (toIntsO_any A0 n0 c0 xs _ (h0.below T7) k0).mono ?_
      rintro e w8 ⟨v8, rfl, o8, b8⟩
      obtain ⟨B8, d8, rfl⟩ := o8.shape
      have T8 : Below w.heap.size w w8 := bvia b8 T7
      have o3d := (o3c.drewN m7).below b8
      have o4d := (o4c.drewN m7).below b8
      have o5d := (o5c.drewN m7).below b8
      have o6d := (o6.drewN m7).below b8
      clear o3c o4c o5c o6
      go_wp2_with fail
      refine (eqInts_any _ _ _ _ _ xs _ o4d.ints.2 o8.ints.2).mono ?_
      rintro e w' ⟨rfl, m9, rfl⟩
      have T9 := bdrewN T8 m9
      go_wp2_with fail
      refine (toIntsO_any A1 n1 c1 os _ (h1.below T9) k1).mono ?_
      rintro e w10 ⟨v10, rfl, o10, b10⟩
      obtain ⟨B10, d10, rfl⟩ := o10.shape
      have T10 : Below w.heap.size w w10 := bvia b10 T9
      have o3e := (o3d.drewN m9).below b10
      have o4e := (o4d.drewN m9).below b10
      have o5e := (o5d.drewN m9).below b10
      have o6e := (o6d.drewN m9).below b10
      clear o3d o4d o5d o6d o8
      go_wp2_with fail
      refine (eqInts_any _ _ _ _ _ os _ o5e.ints.2 o10.ints.2).mono ?_
      rintro e w' ⟨rfl, m11, rfl⟩
      have T11 := bdrewN T10 m11
      have o3f := o3e.drewN m11
      have o4f := o4e.drewN m11
      have o5f := o5e.drewN m11
      have o6f := o6e.drewN m11
      clear o3e o4e o5e o6e o10
      have lg : xs.length ≤ 1048576 := by rw [h0.1]; exact k0
      have lr : os.length ≤ 1048576 := by rw [h1.1]; exact k1
      go_wp2_with fail
      refine (mark_any _ _ _ _ _ _ 1 o4f (by omega) (by omega) (by omega)).mono ?_
      rintro e w12 ⟨rfl, o4g, gr12⟩
      have o3g := o3f.grown gr12 p43
      have o5g := o5f.grown gr12 (apart_sym p54)
      have o6g := o6f.grown gr12 (apart_sym p64)
      have T12 : Below w.heap.size w w12 := below_grown T11 o4f z4 gr12
      clear o3f o4f o5f o6f gr12 o4g
      go_wp2_with fail
      refine (mark_any _ _ _ _ _ _ (1 + (xs.length : Int)) o5g (by omega) (by omega) (by omega)).mono ?_
      rintro e w13 ⟨rfl, o5h, gr13⟩
      have o3h := o3g.grown gr13 p53
      have o6h := o6g.grown gr13 (apart_sym p65)
      have T13 : Below w.heap.size w w13 := below_grown T12 o5g z5 gr13
      clear o3g o5g o6g gr13 o5h
      go_wp2_with fail
      refine (eqInts_any _ _ _ _ _ nl _ o6h.ints.2 o3h.ints.2).mono ?_
      rintro e w' ⟨rfl, m14, rfl⟩
      have T14 := bdrewN T13 m14
      go_wp2_with fail
      refine (mark_any _ _ _ _ _ _ 1 (o6h.drewN m14) (by omega) (by omega) (by omega)).mono ?_
      rintro e w15 ⟨rfl, o6i, gr15⟩
      have o3i := (o3h.drewN m14).grown gr15 p63
      have T15 : Below w.heap.size w w15 := below_grown T14 (o6h.drewN m14) z6 gr15
      clear o3h o6h gr15
      go_wp2_with fail
      refine (held_any _ _ _ _ 1 (by have := o6i.ints.2; rw [marksL_length] at this; exact this) (by omega) (by omega) (by omega)).mono ?_
      rintro e w' ⟨rfl, m16, rfl⟩
      have T16 := bdrewN T15 m16
      go_wp2_with fail
      refine (toIntsO_any A0 n0 c0 xs _ (h0.below T16) k0).mono ?_
      rintro e w17 ⟨v17, rfl, o17, b17⟩
      obtain ⟨B17, d17, rfl⟩ := o17.shape
      have T17 : Below w.heap.size w w17 := bvia b17 T16
      go_wp2_with fail
      refine (toIntsO_any A1 n1 c1 os _ (h1.below T17) k1).mono ?_
      rintro e w18 ⟨v18, rfl, o18, b18⟩
      obtain ⟨B18, d18, rfl⟩ := o18.shape
      have T18 : Below w.heap.size w w18 := bvia b18 T17
      go_wp2_with fail
      refine (HI.out _ _ _ _ _ _ _ (o17.below b18).ints.2 o18.ints.2).mono ?_
      rintro e w19 ⟨v19, rfl, o19, b19⟩
      obtain ⟨B19, d19, rfl⟩ := o19.shape
      have T19 : Below w.heap.size w w19 := bvia b19 T18
      have o3j := (((o3i.drewN m16).below b17).below b18).below b19
      have o6j := (((o6i.drewN m16).below b17).below b18).below b19
      clear o3i o6i o17 o18
      go_wp2_with fail
      refine (eqInts_any _ _ _ _ _ nl _ o19.ints.2 o3j.ints.2).mono ?_
      rintro e w' ⟨rfl, m20, rfl⟩
      have T20 := bdrewN T19 m20
      go_wp2_with fail
      refine (held_any _ _ _ _ 1 (by have := (o6j.drewN m20).ints.2; rw [marksL_length] at this; exact this) (by omega) (by omega) (by omega)).mono ?_
      rintro e w' ⟨rfl, m21, rfl⟩
      have T21 := bdrewN T20 m21
      go_wp2
      go_ret
      exact ⟨rfl, bdrewN T19 _⟩
    · have l1 : (1048576 : Int) < (n1 : Int) := by omega
      go_enter Try.func5, Try.ntmps5
      go_wp2
      go_ret
      exact ⟨rfl, by (repeat' (first | (with_reducible exact Below.refl _ _) | (with_reducible assumption) | (with_reducible exact bundrew (by assumption)) | (with_reducible refine balloc ?_ _) | (with_reducible refine bset ?_ _ ?_ _) | (with_reducible refine Below.drew ?_) | (with_reducible refine bdrewN ?_ _) | (with_reducible refine bvia (by assumption) ?_) | (with_reducible refine Below.trans ?_ (by assumption)) | omega | (simp; omega) | (simp; done)))⟩
  · have l0 : (1048576 : Int) < (n0 : Int) := by omega
    go_enter Try.func5, Try.ntmps5
    go_wp2
    go_ret
    exact ⟨rfl, by (repeat' (first | (with_reducible exact Below.refl _ _) | (with_reducible assumption) | (with_reducible exact bundrew (by assumption)) | (with_reducible refine balloc ?_ _) | (with_reducible refine bset ?_ _ ?_ _) | (with_reducible refine Below.drew ?_) | (with_reducible refine bdrewN ?_ _) | (with_reducible refine bvia (by assumption) ?_) | (with_reducible refine Below.trans ?_ (by assumption)) | omega | (simp; omega) | (simp; done)))⟩

set_option maxHeartbeats 2000000 in
theorem walk_FnExactWaitLeast (A0 : Option Addr) (n0 c0 : Nat) (xs : List Int) (A1 : Option Addr) (n1 c1 : Nat) (os : List Int) (cars : Int) (w : World) (h0 : Ints w A0 n0 xs) (h1 : Ints w A1 n1 os) (_ : (Lit.int .i64 cars).wf = true) :
    Calls Try.prog 6 #[Value.slice A0 n0 c0, Value.slice A1 n1 c1, .int .i64 cars] w fun e w' => e = .returned (.bool true) ∧ Below w.heap.size w w' := by
  by_cases k0 : n0 ≤ 1048576
  · have l0 : (n0 : Int) ≤ 1048576 := by omega
    by_cases k1 : n1 ≤ 1048576
    · have l1 : (n1 : Int) ≤ 1048576 := by omega
      go_enter Try.func6, Try.ntmps6
      go_wp2_with fail
      refine (toIntsC_any A0 n0 c0 xs _ (h0.below (by (repeat' (first | (with_reducible exact Below.refl _ _) | (with_reducible assumption) | (with_reducible exact bundrew (by assumption)) | (with_reducible refine balloc ?_ _) | (with_reducible refine bset ?_ _ ?_ _) | (with_reducible refine Below.drew ?_) | (with_reducible refine bdrewN ?_ _) | (with_reducible refine bvia (by assumption) ?_) | (with_reducible refine Below.trans ?_ (by assumption)) | omega | (simp; omega) | (simp; done))))) k0).mono ?_
      rintro e w1 ⟨g1, rfl, hg1, hP1, hbw1⟩
      obtain ⟨hcw1, hfw1, -, -, -, hsw1⟩ := bfacts5 hbw1
      try simp only [World.size_drew] at hcw1 hfw1
      try simp at hsw1
      go_wp2_with fail
      refine (toIntsC_any A1 n1 c1 os _ (h1.below (by (repeat' (first | (with_reducible exact Below.refl _ _) | (with_reducible assumption) | (with_reducible exact bundrew (by assumption)) | (with_reducible refine balloc ?_ _) | (with_reducible refine bset ?_ _ ?_ _) | (with_reducible refine Below.drew ?_) | (with_reducible refine bdrewN ?_ _) | (with_reducible refine bvia (by assumption) ?_) | (with_reducible refine Below.trans ?_ (by assumption)) | omega | (simp; omega) | (simp; done))))) k1).mono ?_
      rintro e w2 ⟨g2, rfl, hg2, hP2, hbw2⟩
      obtain ⟨hcw2, hfw2, -, -, -, hsw2⟩ := bfacts5 hbw2
      try simp only [World.size_drew] at hcw2 hfw2
      try simp at hsw2
      go_wp2_with fail
      refine (least_spec _ _ _ xs _ _ _ os cars _ (hP1.below hbw2) hP2).mono ?_
      rintro e w3 ⟨rfl, hbw3⟩
      obtain ⟨hcw3, hfw3, -, -, -, hsw3⟩ := bfacts5 hbw3
      try simp only [World.size_drew] at hcw3 hfw3
      try simp at hsw3
      go_wp2_with fail
      refine (toIntsC_any A0 n0 c0 xs _ (h0.below (by (repeat' (first | (with_reducible exact Below.refl _ _) | (with_reducible assumption) | (with_reducible exact bundrew (by assumption)) | (with_reducible refine balloc ?_ _) | (with_reducible refine bset ?_ _ ?_ _) | (with_reducible refine Below.drew ?_) | (with_reducible refine bdrewN ?_ _) | (with_reducible refine bvia (by assumption) ?_) | (with_reducible refine Below.trans ?_ (by assumption)) | omega | (simp; omega) | (simp; done))))) k0).mono ?_
      rintro e w4 ⟨g4, rfl, hg4, hP4, hbw4⟩
      obtain ⟨hcw4, hfw4, -, -, -, hsw4⟩ := bfacts5 hbw4
      try simp only [World.size_drew] at hcw4 hfw4
      try simp at hsw4
      go_wp2_with fail
      refine (toIntsC_any A1 n1 c1 os _ (h1.below (by (repeat' (first | (with_reducible exact Below.refl _ _) | (with_reducible assumption) | (with_reducible exact bundrew (by assumption)) | (with_reducible refine balloc ?_ _) | (with_reducible refine bset ?_ _ ?_ _) | (with_reducible refine Below.drew ?_) | (with_reducible refine bdrewN ?_ _) | (with_reducible refine bvia (by assumption) ?_) | (with_reducible refine Below.trans ?_ (by assumption)) | omega | (simp; omega) | (simp; done))))) k1).mono ?_
      rintro e w5 ⟨g5, rfl, hg5, hP5, hbw5⟩
      obtain ⟨hcw5, hfw5, -, -, -, hsw5⟩ := bfacts5 hbw5
      try simp only [World.size_drew] at hcw5 hfw5
      try simp at hsw5
      go_wp2_with fail
      refine (least_impl _ _ _ xs _ _ _ os cars _ (hP4.below hbw5) hP5).mono ?_
      rintro e w6 ⟨rfl, hbw6⟩
      obtain ⟨hcw6, hfw6, -, -, -, hsw6⟩ := bfacts5 hbw6
      try simp only [World.size_drew] at hcw6 hfw6
      try simp at hsw6
      go_wp2_with fail
      refine (toIntsC_any A0 n0 c0 xs _ (h0.below (by (repeat' (first | (with_reducible exact Below.refl _ _) | (with_reducible assumption) | (with_reducible exact bundrew (by assumption)) | (with_reducible refine balloc ?_ _) | (with_reducible refine bset ?_ _ ?_ _) | (with_reducible refine Below.drew ?_) | (with_reducible refine bdrewN ?_ _) | (with_reducible refine bvia (by assumption) ?_) | (with_reducible refine Below.trans ?_ (by assumption)) | omega | (simp; omega) | (simp; done))))) k0).mono ?_
      rintro e w7 ⟨g7, rfl, hg7, hP7, hbw7⟩
      obtain ⟨hcw7, hfw7, -, -, -, hsw7⟩ := bfacts5 hbw7
      try simp only [World.size_drew] at hcw7 hfw7
      try simp at hsw7
      go_wp2_with fail
      refine (eqInts_any _ _ _ _ _ xs _ (((hP4.below hbw5).below hbw6).below hbw7) hP7).mono ?_
      rintro e w' ⟨rfl, m8, rfl⟩
      go_wp2_with fail
      refine (toIntsC_any A1 n1 c1 os _ (h1.below (by (repeat' (first | (with_reducible exact Below.refl _ _) | (with_reducible assumption) | (with_reducible exact bundrew (by assumption)) | (with_reducible refine balloc ?_ _) | (with_reducible refine bset ?_ _ ?_ _) | (with_reducible refine Below.drew ?_) | (with_reducible refine bdrewN ?_ _) | (with_reducible refine bvia (by assumption) ?_) | (with_reducible refine Below.trans ?_ (by assumption)) | omega | (simp; omega) | (simp; done))))) k1).mono ?_
      rintro e w9 ⟨g9, rfl, hg9, hP9, hbw9⟩
      obtain ⟨hcw9, hfw9, -, -, -, hsw9⟩ := bfacts5 hbw9
      try simp only [World.size_drew] at hcw9 hfw9
      try simp at hsw9
      go_wp2_with fail
      refine (eqInts_any _ _ _ _ _ os _ ((((hP5.below hbw6).below hbw7).drewN m8).below hbw9) hP9).mono ?_
      rintro e w' ⟨rfl, m10, rfl⟩
      go_wp2
      go_ret
      exact ⟨rfl, by (repeat' (first | (with_reducible exact Below.refl _ _) | (with_reducible assumption) | (with_reducible exact bundrew (by assumption)) | (with_reducible refine balloc ?_ _) | (with_reducible refine bset ?_ _ ?_ _) | (with_reducible refine Below.drew ?_) | (with_reducible refine bdrewN ?_ _) | (with_reducible refine bvia (by assumption) ?_) | (with_reducible refine Below.trans ?_ (by assumption)) | omega | (simp; omega) | (simp; done)))⟩
    · have l1 : (1048576 : Int) < (n1 : Int) := by omega
      go_enter Try.func6, Try.ntmps6
      go_wp2
      go_ret
      exact ⟨rfl, by (repeat' (first | (with_reducible exact Below.refl _ _) | (with_reducible assumption) | (with_reducible exact bundrew (by assumption)) | (with_reducible refine balloc ?_ _) | (with_reducible refine bset ?_ _ ?_ _) | (with_reducible refine Below.drew ?_) | (with_reducible refine bdrewN ?_ _) | (with_reducible refine bvia (by assumption) ?_) | (with_reducible refine Below.trans ?_ (by assumption)) | omega | (simp; omega) | (simp; done)))⟩
  · have l0 : (1048576 : Int) < (n0 : Int) := by omega
    go_enter Try.func6, Try.ntmps6
    go_wp2
    go_ret
    exact ⟨rfl, by (repeat' (first | (with_reducible exact Below.refl _ _) | (with_reducible assumption) | (with_reducible exact bundrew (by assumption)) | (with_reducible refine balloc ?_ _) | (with_reducible refine bset ?_ _ ?_ _) | (with_reducible refine Below.drew ?_) | (with_reducible refine bdrewN ?_ _) | (with_reducible refine bvia (by assumption) ?_) | (with_reducible refine Below.trans ?_ (by assumption)) | omega | (simp; omega) | (simp; done)))⟩
end Go.Proofs.Ytbjnkjookokjaaa
