/- The walk of the law FnExactGroupBest. -/
import Derived.Test.YtmekbfjeljfbpaaGroupK
import Derived.Test.YtmekbfjeljfbpaaMark
import Derived.Test.YtmekbfjeljfbpaaIntsO
namespace Go.Proofs.Ytmekbfjeljfbpaa
open Go.ChangeShapes Go.WideShapes Go.ChangeAt Go.RowKit

theorem OwnI.apart {w w' : World} {b1 b2 : Nat} {v u : Value} {xs ys : List Int} (h : OwnI w b1 v xs) (k : OwnI w' b2 u ys) (hs : w.heap.size ≤ b2) : ∀ g, v.ownBlock = some g → u.ownBlock ≠ some g := fun g hv hu => by
  have h1 := k.block g hu
  have := h.up.2 g hv
  omega
theorem below_grown {w W w' : World} {base : Nat} {v : Value} {xs : List Int} (h : Below w.heap.size w W) (o : OwnI W base v xs) (hb : w.heap.size ≤ base) (hg : W.grownBy w' v.ownBlock) : Below w.heap.size w w' :=
  h.trans ((Below.refl _ _).grown hg h.size fun k hk => Nat.le_trans hb (o.block k hk))
/-- A list of the call's own; old memory as it was. -/
def ListNew (w : World) (nl : List Int) (e : Ending) (w' : World) : Prop := ∃ v : Value, e = .returned v ∧ OwnI w' w.heap.size v nl ∧ Below w.heap.size w w'
theorem gbL_length (xs cs ks : List Int) : (gbL xs cs ks).length ≤ 5 := by
  cases hg : grB xs cs ks
  · rw [gbL_no hg]; simp
  · obtain ⟨s1, s2, s3⟩ := gr_small hg rfl rfl
    rw [gbL_yes hg rfl rfl, bestW_len _ s1]
    simp; omega

set_option maxRecDepth 100000 in
set_option maxHeartbeats 4000000 in
theorem walk_FnExactGroupBest (A0 : Option Addr) (n0 c0 : Nat) (xs : List Int) (A1 : Option Addr) (n1 c1 : Nat) (cs : List Int) (A2 : Option Addr) (n2 c2 : Nat) (ks : List Int) (w : World) (h0 : Ints w A0 n0 xs) (h1 : Ints w A1 n1 cs) (h2 : Ints w A2 n2 ks) :
    Calls Try.prog 3 #[Value.slice A0 n0 c0, Value.slice A1 n1 c1, Value.slice A2 n2 c2] w fun e w' => e = .returned (.bool true) ∧ Below w.heap.size w w' := by
  by_cases k0 : n0 ≤ 1048576
  · have l0 : (n0 : Int) ≤ 1048576 := by omega
    by_cases k1 : n1 ≤ 1048576
    · have l1 : (n1 : Int) ≤ 1048576 := by omega
      by_cases k2 : n2 ≤ 1048576
      · have l2 : (n2 : Int) ≤ 1048576 := by omega
        obtain ⟨nl, hnl⟩ : ∃ nl, nums (gbL xs cs ks) = nl := ⟨_, rfl⟩
        have hnn : nl.length ≤ 5 := by rw [← hnl, nums_length]; exact gbL_length _ _ _
        have HS : Hid (∀ (A : Option Addr) (n c : Nat) (A2 : Option Addr) (n2 c2 : Nat) (A3 : Option Addr) (n3 c3 : Nat) (w : World), Ints w A n xs → Ints w A2 n2 cs → Ints w A3 n3 ks → Calls Try.prog 9 #[.slice A n c, .slice A2 n2 c2, .slice A3 n3 c3] w (ListNew w nl)) := Lib.hid fun A n c A2 n2 c2 A3 n3 c3 w a1 a2 a3 => by rw [← hnl]; exact gb_spec A n c xs A2 n2 c2 cs A3 n3 c3 ks w a1 a2 a3
        have HI : Hid (∀ (A : Option Addr) (n c : Nat) (A2 : Option Addr) (n2 c2 : Nat) (A3 : Option Addr) (n3 c3 : Nat) (w : World), Ints w A n xs → Ints w A2 n2 cs → Ints w A3 n3 ks → Calls Try.prog 11 #[.slice A n c, .slice A2 n2 c2, .slice A3 n3 c3] w (ListNew w nl)) := Lib.hid fun A n c A2 n2 c2 A3 n3 c3 w a1 a2 a3 => by rw [← hnl]; exact gb_impl A n c xs A2 n2 c2 cs A3 n3 c3 ks w a1 a2 a3
        clear hnl
        go_enter Try.func3, Try.ntmps3
        go_wp2_with fail
        refine (toIntsO_any A0 n0 c0 xs _ h0 k0).mono ?_
        rintro e w1 ⟨v1, rfl, o_s0_1, b1⟩
        obtain ⟨B1, d1, rfl⟩ := o_s0_1.shape
        have T1 : Below w.heap.size w w1 := b1
        go_wp2_with fail
        refine (toIntsO_any A1 n1 c1 cs _ (h1.below T1) k1).mono ?_
        rintro e w2 ⟨v2, rfl, o_s1_2, b2⟩
        obtain ⟨B2, d2, rfl⟩ := o_s1_2.shape
        have T2 : Below w.heap.size w w2 := bvia b2 T1
        have p_s0_s1 := o_s0_1.apart o_s1_2 (Nat.le_refl _)
        have o_s0_2 := o_s0_1.below b2
        clear o_s0_1
        go_wp2_with fail
        refine (toIntsO_any A2 n2 c2 ks _ (h2.below T2) k2).mono ?_
        rintro e w3 ⟨v3, rfl, o_s2_3, b3⟩
        obtain ⟨B3, d3, rfl⟩ := o_s2_3.shape
        have T3 : Below w.heap.size w w3 := bvia b3 T2
        have p_s0_s2 := o_s0_2.apart o_s2_3 (Nat.le_refl _)
        have p_s1_s2 := o_s1_2.apart o_s2_3 (Nat.le_refl _)
        have o_s0_3 := o_s0_2.below b3
        clear o_s0_2
        have o_s1_3 := o_s1_2.below b3
        clear o_s1_2
        go_wp2_with fail
        refine (HS.out _ _ _ _ _ _ _ _ _ _ o_s0_3.ints.2 o_s1_3.ints.2 o_s2_3.ints.2).mono ?_
        rintro e w4 ⟨v4, rfl, o_R_4, b4⟩
        obtain ⟨B4, d4, rfl⟩ := o_R_4.shape
        have T4 : Below w.heap.size w w4 := bvia b4 T3
        have p_s0_R := o_s0_3.apart o_R_4 (Nat.le_refl _)
        have p_s1_R := o_s1_3.apart o_R_4 (Nat.le_refl _)
        have p_s2_R := o_s2_3.apart o_R_4 (Nat.le_refl _)
        have o_s0_4 := o_s0_3.below b4
        clear o_s0_3
        have o_s1_4 := o_s1_3.below b4
        clear o_s1_3
        have o_s2_4 := o_s2_3.below b4
        clear o_s2_3
        clear o_s0_4
        clear o_s1_4
        clear o_s2_4
        go_wp2_with fail
        refine (toIntsO_any A0 n0 c0 xs _ (h0.below T4) k0).mono ?_
        rintro e w5 ⟨v5, rfl, o_x0_5, b5⟩
        obtain ⟨B5, d5, rfl⟩ := o_x0_5.shape
        have T5 : Below w.heap.size w w5 := bvia b5 T4
        have p_R_x0 := o_R_4.apart o_x0_5 (Nat.le_refl _)
        have o_R_5 := o_R_4.below b5
        clear o_R_4
        go_wp2_with fail
        refine (toIntsO_any A1 n1 c1 cs _ (h1.below T5) k1).mono ?_
        rintro e w6 ⟨v6, rfl, o_x1_6, b6⟩
        obtain ⟨B6, d6, rfl⟩ := o_x1_6.shape
        have T6 : Below w.heap.size w w6 := bvia b6 T5
        have p_R_x1 := o_R_5.apart o_x1_6 (Nat.le_refl _)
        have p_x0_x1 := o_x0_5.apart o_x1_6 (Nat.le_refl _)
        have o_R_6 := o_R_5.below b6
        clear o_R_5
        have o_x0_6 := o_x0_5.below b6
        clear o_x0_5
        go_wp2_with fail
        refine (toIntsO_any A2 n2 c2 ks _ (h2.below T6) k2).mono ?_
        rintro e w7 ⟨v7, rfl, o_x2_7, b7⟩
        obtain ⟨B7, d7, rfl⟩ := o_x2_7.shape
        have T7 : Below w.heap.size w w7 := bvia b7 T6
        have p_R_x2 := o_R_6.apart o_x2_7 (Nat.le_refl _)
        have p_x0_x2 := o_x0_6.apart o_x2_7 (Nat.le_refl _)
        have p_x1_x2 := o_x1_6.apart o_x2_7 (Nat.le_refl _)
        have o_R_7 := o_R_6.below b7
        clear o_R_6
        have o_x0_7 := o_x0_6.below b7
        clear o_x0_6
        have o_x1_7 := o_x1_6.below b7
        clear o_x1_6
        go_wp2_with fail
        refine (HI.out _ _ _ _ _ _ _ _ _ _ o_x0_7.ints.2 o_x1_7.ints.2 o_x2_7.ints.2).mono ?_
        rintro e w8 ⟨v8, rfl, o_G_8, b8⟩
        obtain ⟨B8, d8, rfl⟩ := o_G_8.shape
        have T8 : Below w.heap.size w w8 := bvia b8 T7
        have p_R_G := o_R_7.apart o_G_8 (Nat.le_refl _)
        have p_x0_G := o_x0_7.apart o_G_8 (Nat.le_refl _)
        have p_x1_G := o_x1_7.apart o_G_8 (Nat.le_refl _)
        have p_x2_G := o_x2_7.apart o_G_8 (Nat.le_refl _)
        have o_R_8 := o_R_7.below b8
        clear o_R_7
        have o_x0_8 := o_x0_7.below b8
        clear o_x0_7
        have o_x1_8 := o_x1_7.below b8
        clear o_x1_7
        have o_x2_8 := o_x2_7.below b8
        clear o_x2_7
        go_wp2_with fail
        refine (eqInts_any _ _ _ _ _ nl _ o_G_8.ints.2 o_R_8.ints.2).mono ?_
        rintro e w9 ⟨rfl, m9, hm9⟩
        have b9 := bdrewN (Below.refl w8.heap.size w8) m9
        rw [← hm9] at b9
        clear hm9
        have T9 : Below w.heap.size w w9 := bvia b9 T8
        have o_R_9 := o_R_8.below b9
        clear o_R_8
        have o_x0_9 := o_x0_8.below b9
        clear o_x0_8
        have o_x1_9 := o_x1_8.below b9
        clear o_x1_8
        have o_x2_9 := o_x2_8.below b9
        clear o_x2_8
        have o_G_9 := o_G_8.below b9
        clear o_G_8
        go_wp2_with fail
        refine (toIntsO_any A0 n0 c0 xs _ (h0.below T9) k0).mono ?_
        rintro e w10 ⟨v10, rfl, o_y0_10, b10⟩
        obtain ⟨B10, d10, rfl⟩ := o_y0_10.shape
        have T10 : Below w.heap.size w w10 := bvia b10 T9
        have p_R_y0 := o_R_9.apart o_y0_10 (Nat.le_refl _)
        have p_x0_y0 := o_x0_9.apart o_y0_10 (Nat.le_refl _)
        have p_x1_y0 := o_x1_9.apart o_y0_10 (Nat.le_refl _)
        have p_x2_y0 := o_x2_9.apart o_y0_10 (Nat.le_refl _)
        have p_G_y0 := o_G_9.apart o_y0_10 (Nat.le_refl _)
        have o_R_10 := o_R_9.below b10
        clear o_R_9
        have o_x0_10 := o_x0_9.below b10
        clear o_x0_9
        have o_x1_10 := o_x1_9.below b10
        clear o_x1_9
        have o_x2_10 := o_x2_9.below b10
        clear o_x2_9
        have o_G_10 := o_G_9.below b10
        clear o_G_9
        go_wp2_with fail
        refine (eqInts_any _ _ _ _ _ xs _ o_x0_10.ints.2 o_y0_10.ints.2).mono ?_
        rintro e w11 ⟨rfl, m11, hm11⟩
        have b11 := bdrewN (Below.refl w10.heap.size w10) m11
        rw [← hm11] at b11
        clear hm11
        have T11 : Below w.heap.size w w11 := bvia b11 T10
        have o_R_11 := o_R_10.below b11
        clear o_R_10
        have o_x0_11 := o_x0_10.below b11
        clear o_x0_10
        have o_x1_11 := o_x1_10.below b11
        clear o_x1_10
        have o_x2_11 := o_x2_10.below b11
        clear o_x2_10
        have o_G_11 := o_G_10.below b11
        clear o_G_10
        have o_y0_11 := o_y0_10.below b11
        clear o_y0_10
        clear o_y0_11
        go_wp2_with fail
        refine (toIntsO_any A1 n1 c1 cs _ (h1.below T11) k1).mono ?_
        rintro e w12 ⟨v12, rfl, o_y1_12, b12⟩
        obtain ⟨B12, d12, rfl⟩ := o_y1_12.shape
        have T12 : Below w.heap.size w w12 := bvia b12 T11
        have p_R_y1 := o_R_11.apart o_y1_12 (Nat.le_refl _)
        have p_x0_y1 := o_x0_11.apart o_y1_12 (Nat.le_refl _)
        have p_x1_y1 := o_x1_11.apart o_y1_12 (Nat.le_refl _)
        have p_x2_y1 := o_x2_11.apart o_y1_12 (Nat.le_refl _)
        have p_G_y1 := o_G_11.apart o_y1_12 (Nat.le_refl _)
        have o_R_12 := o_R_11.below b12
        clear o_R_11
        have o_x0_12 := o_x0_11.below b12
        clear o_x0_11
        have o_x1_12 := o_x1_11.below b12
        clear o_x1_11
        have o_x2_12 := o_x2_11.below b12
        clear o_x2_11
        have o_G_12 := o_G_11.below b12
        clear o_G_11
        go_wp2_with fail
        refine (eqInts_any _ _ _ _ _ cs _ o_x1_12.ints.2 o_y1_12.ints.2).mono ?_
        rintro e w13 ⟨rfl, m13, hm13⟩
        have b13 := bdrewN (Below.refl w12.heap.size w12) m13
        rw [← hm13] at b13
        clear hm13
        have T13 : Below w.heap.size w w13 := bvia b13 T12
        have o_R_13 := o_R_12.below b13
        clear o_R_12
        have o_x0_13 := o_x0_12.below b13
        clear o_x0_12
        have o_x1_13 := o_x1_12.below b13
        clear o_x1_12
        have o_x2_13 := o_x2_12.below b13
        clear o_x2_12
        have o_G_13 := o_G_12.below b13
        clear o_G_12
        have o_y1_13 := o_y1_12.below b13
        clear o_y1_12
        clear o_y1_13
        go_wp2_with fail
        refine (toIntsO_any A2 n2 c2 ks _ (h2.below T13) k2).mono ?_
        rintro e w14 ⟨v14, rfl, o_y2_14, b14⟩
        obtain ⟨B14, d14, rfl⟩ := o_y2_14.shape
        have T14 : Below w.heap.size w w14 := bvia b14 T13
        have p_R_y2 := o_R_13.apart o_y2_14 (Nat.le_refl _)
        have p_x0_y2 := o_x0_13.apart o_y2_14 (Nat.le_refl _)
        have p_x1_y2 := o_x1_13.apart o_y2_14 (Nat.le_refl _)
        have p_x2_y2 := o_x2_13.apart o_y2_14 (Nat.le_refl _)
        have p_G_y2 := o_G_13.apart o_y2_14 (Nat.le_refl _)
        have o_R_14 := o_R_13.below b14
        clear o_R_13
        have o_x0_14 := o_x0_13.below b14
        clear o_x0_13
        have o_x1_14 := o_x1_13.below b14
        clear o_x1_13
        have o_x2_14 := o_x2_13.below b14
        clear o_x2_13
        have o_G_14 := o_G_13.below b14
        clear o_G_13
        go_wp2_with fail
        refine (eqInts_any _ _ _ _ _ ks _ o_x2_14.ints.2 o_y2_14.ints.2).mono ?_
        rintro e w15 ⟨rfl, m15, hm15⟩
        have b15 := bdrewN (Below.refl w14.heap.size w14) m15
        rw [← hm15] at b15
        clear hm15
        have T15 : Below w.heap.size w w15 := bvia b15 T14
        have o_R_15 := o_R_14.below b15
        clear o_R_14
        have o_x0_15 := o_x0_14.below b15
        clear o_x0_14
        have o_x1_15 := o_x1_14.below b15
        clear o_x1_14
        have o_x2_15 := o_x2_14.below b15
        clear o_x2_14
        have o_G_15 := o_G_14.below b15
        clear o_G_14
        have o_y2_15 := o_y2_14.below b15
        clear o_y2_14
        clear o_y2_15
        have lg0 : xs.length ≤ 1048576 := by rw [h0.1]; exact k0
        have lg1 : cs.length ≤ 1048576 := by rw [h1.1]; exact k1
        have lg2 : ks.length ≤ 1048576 := by rw [h2.1]; exact k2
        go_wp2_with fail
        refine (mark_any _ _ _ _ _ _ 1 o_x0_15 (by omega) (by omega) (by omega)).mono ?_
        rintro e w16 ⟨rfl, o_x0_16, gr16⟩
        have T16 : Below w.heap.size w w16 := below_grown T15 o_x0_15 T4.size gr16
        have o_R_16 := o_R_15.grown gr16 p_R_x0
        clear o_R_15
        have o_x1_16 := o_x1_15.grown gr16 (apart_sym p_x0_x1)
        clear o_x1_15
        have o_x2_16 := o_x2_15.grown gr16 (apart_sym p_x0_x2)
        clear o_x2_15
        have o_G_16 := o_G_15.grown gr16 (apart_sym p_x0_G)
        clear o_G_15
        clear gr16 o_x0_15
        clear o_x0_16
        go_wp2_with fail
        refine (mark_any _ _ _ _ _ _ (1 + (xs.length : Int)) o_x1_16 (by omega) (by omega) (by omega)).mono ?_
        rintro e w17 ⟨rfl, o_x1_17, gr17⟩
        have T17 : Below w.heap.size w w17 := below_grown T16 o_x1_16 T5.size gr17
        have o_R_17 := o_R_16.grown gr17 p_R_x1
        clear o_R_16
        have o_x2_17 := o_x2_16.grown gr17 (apart_sym p_x1_x2)
        clear o_x2_16
        have o_G_17 := o_G_16.grown gr17 (apart_sym p_x1_G)
        clear o_G_16
        clear gr17 o_x1_16
        clear o_x1_17
        go_wp2_with fail
        refine (mark_any _ _ _ _ _ _ (1 + (xs.length : Int) + (cs.length : Int)) o_x2_17 (by omega) (by omega) (by omega)).mono ?_
        rintro e w18 ⟨rfl, o_x2_18, gr18⟩
        have T18 : Below w.heap.size w w18 := below_grown T17 o_x2_17 T6.size gr18
        have o_R_18 := o_R_17.grown gr18 p_R_x2
        clear o_R_17
        have o_G_18 := o_G_17.grown gr18 (apart_sym p_x2_G)
        clear o_G_17
        clear gr18 o_x2_17
        clear o_x2_18
        go_wp2_with fail
        refine (eqInts_any _ _ _ _ _ nl _ o_G_18.ints.2 o_R_18.ints.2).mono ?_
        rintro e w19 ⟨rfl, m19, hm19⟩
        have b19 := bdrewN (Below.refl w18.heap.size w18) m19
        rw [← hm19] at b19
        clear hm19
        have T19 : Below w.heap.size w w19 := bvia b19 T18
        have o_R_19 := o_R_18.below b19
        clear o_R_18
        have o_G_19 := o_G_18.below b19
        clear o_G_18
        go_wp2_with fail
        refine (mark_any _ _ _ _ _ _ 1 o_G_19 (by omega) (by omega) (by omega)).mono ?_
        rintro e w20 ⟨rfl, o_G_20, gr20⟩
        have T20 : Below w.heap.size w w20 := below_grown T19 o_G_19 T7.size gr20
        have o_R_20 := o_R_19.grown gr20 p_R_G
        clear o_R_19
        clear gr20 o_G_19
        go_wp2_with fail
        refine (held_any _ _ _ _ 1 (by have := o_G_20.ints.2; rw [marksL_length] at this; exact this) (by omega) (by omega) (by omega)).mono ?_
        rintro e w21 ⟨rfl, m21, hm21⟩
        have b21 := bdrewN (Below.refl w20.heap.size w20) m21
        rw [← hm21] at b21
        clear hm21
        have T21 : Below w.heap.size w w21 := bvia b21 T20
        have o_R_21 := o_R_20.below b21
        clear o_R_20
        have o_G_21 := o_G_20.below b21
        clear o_G_20
        go_wp2_with fail
        refine (toIntsO_any A0 n0 c0 xs _ (h0.below T21) k0).mono ?_
        rintro e w22 ⟨v22, rfl, o_z0_22, b22⟩
        obtain ⟨B22, d22, rfl⟩ := o_z0_22.shape
        have T22 : Below w.heap.size w w22 := bvia b22 T21
        have p_R_z0 := o_R_21.apart o_z0_22 (Nat.le_refl _)
        have p_G_z0 := o_G_21.apart o_z0_22 (Nat.le_refl _)
        have o_R_22 := o_R_21.below b22
        clear o_R_21
        have o_G_22 := o_G_21.below b22
        clear o_G_21
        go_wp2_with fail
        refine (toIntsO_any A1 n1 c1 cs _ (h1.below T22) k1).mono ?_
        rintro e w23 ⟨v23, rfl, o_z1_23, b23⟩
        obtain ⟨B23, d23, rfl⟩ := o_z1_23.shape
        have T23 : Below w.heap.size w w23 := bvia b23 T22
        have p_R_z1 := o_R_22.apart o_z1_23 (Nat.le_refl _)
        have p_G_z1 := o_G_22.apart o_z1_23 (Nat.le_refl _)
        have p_z0_z1 := o_z0_22.apart o_z1_23 (Nat.le_refl _)
        have o_R_23 := o_R_22.below b23
        clear o_R_22
        have o_G_23 := o_G_22.below b23
        clear o_G_22
        have o_z0_23 := o_z0_22.below b23
        clear o_z0_22
        go_wp2_with fail
        refine (toIntsO_any A2 n2 c2 ks _ (h2.below T23) k2).mono ?_
        rintro e w24 ⟨v24, rfl, o_z2_24, b24⟩
        obtain ⟨B24, d24, rfl⟩ := o_z2_24.shape
        have T24 : Below w.heap.size w w24 := bvia b24 T23
        have p_R_z2 := o_R_23.apart o_z2_24 (Nat.le_refl _)
        have p_G_z2 := o_G_23.apart o_z2_24 (Nat.le_refl _)
        have p_z0_z2 := o_z0_23.apart o_z2_24 (Nat.le_refl _)
        have p_z1_z2 := o_z1_23.apart o_z2_24 (Nat.le_refl _)
        have o_R_24 := o_R_23.below b24
        clear o_R_23
        have o_G_24 := o_G_23.below b24
        clear o_G_23
        have o_z0_24 := o_z0_23.below b24
        clear o_z0_23
        have o_z1_24 := o_z1_23.below b24
        clear o_z1_23
        go_wp2_with fail
        refine (HI.out _ _ _ _ _ _ _ _ _ _ o_z0_24.ints.2 o_z1_24.ints.2 o_z2_24.ints.2).mono ?_
        rintro e w25 ⟨v25, rfl, o_K_25, b25⟩
        obtain ⟨B25, d25, rfl⟩ := o_K_25.shape
        have T25 : Below w.heap.size w w25 := bvia b25 T24
        have p_R_K := o_R_24.apart o_K_25 (Nat.le_refl _)
        have p_G_K := o_G_24.apart o_K_25 (Nat.le_refl _)
        have p_z0_K := o_z0_24.apart o_K_25 (Nat.le_refl _)
        have p_z1_K := o_z1_24.apart o_K_25 (Nat.le_refl _)
        have p_z2_K := o_z2_24.apart o_K_25 (Nat.le_refl _)
        have o_R_25 := o_R_24.below b25
        clear o_R_24
        have o_G_25 := o_G_24.below b25
        clear o_G_24
        have o_z0_25 := o_z0_24.below b25
        clear o_z0_24
        have o_z1_25 := o_z1_24.below b25
        clear o_z1_24
        have o_z2_25 := o_z2_24.below b25
        clear o_z2_24
        clear o_z0_25
        clear o_z1_25
        clear o_z2_25
        go_wp2_with fail
        refine (eqInts_any _ _ _ _ _ nl _ o_K_25.ints.2 o_R_25.ints.2).mono ?_
        rintro e w26 ⟨rfl, m26, hm26⟩
        have b26 := bdrewN (Below.refl w25.heap.size w25) m26
        rw [← hm26] at b26
        clear hm26
        have T26 : Below w.heap.size w w26 := bvia b26 T25
        have o_R_26 := o_R_25.below b26
        clear o_R_25
        have o_G_26 := o_G_25.below b26
        clear o_G_25
        have o_K_26 := o_K_25.below b26
        clear o_K_25
        clear o_K_26
        go_wp2_with fail
        refine (held_any _ _ _ _ 1 (by have := o_G_26.ints.2; rw [marksL_length] at this; exact this) (by omega) (by omega) (by omega)).mono ?_
        rintro e w27 ⟨rfl, m27, hm27⟩
        have b27 := bdrewN (Below.refl w26.heap.size w26) m27
        rw [← hm27] at b27
        clear hm27
        have T27 : Below w.heap.size w w27 := bvia b27 T26
        have o_R_27 := o_R_26.below b27
        clear o_R_26
        have o_G_27 := o_G_26.below b27
        clear o_G_26
        go_wp2
        go_ret
        exact ⟨rfl, T27⟩
      · have l2 : (1048576 : Int) < (n2 : Int) := by omega
        go_enter Try.func3, Try.ntmps3
        go_wp2
        go_ret
        exact ⟨rfl, by (repeat' (first | (with_reducible exact Below.refl _ _) | (with_reducible assumption) | (with_reducible exact bundrew (by assumption)) | (with_reducible refine balloc ?_ _) | (with_reducible refine bset ?_ _ ?_ _) | (with_reducible refine Below.drew ?_) | (with_reducible refine bdrewN ?_ _) | (with_reducible refine bvia (by assumption) ?_) | (with_reducible refine Below.trans ?_ (by assumption)) | omega | (simp; omega) | (simp; done)))⟩
    · have l1 : (1048576 : Int) < (n1 : Int) := by omega
      go_enter Try.func3, Try.ntmps3
      go_wp2
      go_ret
      exact ⟨rfl, by (repeat' (first | (with_reducible exact Below.refl _ _) | (with_reducible assumption) | (with_reducible exact bundrew (by assumption)) | (with_reducible refine balloc ?_ _) | (with_reducible refine bset ?_ _ ?_ _) | (with_reducible refine Below.drew ?_) | (with_reducible refine bdrewN ?_ _) | (with_reducible refine bvia (by assumption) ?_) | (with_reducible refine Below.trans ?_ (by assumption)) | omega | (simp; omega) | (simp; done)))⟩
  · have l0 : (1048576 : Int) < (n0 : Int) := by omega
    go_enter Try.func3, Try.ntmps3
    go_wp2
    go_ret
    exact ⟨rfl, by (repeat' (first | (with_reducible exact Below.refl _ _) | (with_reducible assumption) | (with_reducible exact bundrew (by assumption)) | (with_reducible refine balloc ?_ _) | (with_reducible refine bset ?_ _ ?_ _) | (with_reducible refine Below.drew ?_) | (with_reducible refine bdrewN ?_ _) | (with_reducible refine bvia (by assumption) ?_) | (with_reducible refine Below.trans ?_ (by assumption)) | omega | (simp; omega) | (simp; done)))⟩
end Go.Proofs.Ytmekbfjeljfbpaa
