/- The walk of the law FnHallStops. -/
import Derived.Test.YtikoldnejkhepaaHallL1
import Derived.Test.YtikoldnejkhepaaHallT
namespace Go.Proofs.Ytikoldnejkhepaa
open Go.ChangeShapes Go.WideShapes Go.ChangeAt Go.RowKit

set_option maxRecDepth 100000 in
set_option maxHeartbeats 8000000 in
theorem walk_FnHallStops (A : Option Addr) (n c : Nat) (g : Nat → Int) (w : World) (hB : Bytes w A n c g) : Calls Try.prog 11 #[.slice A n c] w fun e w' => e = .returned (.bool true) ∧ Below w.heap.size w w' := by
  by_cases hn : 1048576 < n
  · have hn' : (1048576 : Int) < (n : Int) := by omega
    go_enter Try.func11, Try.ntmps11
    go_wp2
    go_ret
    exact ⟨rfl, by (repeat' (first | (with_reducible exact Below.refl _ _) | (with_reducible assumption) | (with_reducible exact bundrew (by assumption)) | (with_reducible refine balloc ?_ _) | (with_reducible refine bset ?_ _ ?_ _) | (with_reducible refine Below.drew ?_) | (with_reducible refine bdrewN ?_ _) | (with_reducible refine bvia (by assumption) ?_) | (with_reducible refine Below.trans ?_ (by assumption)) | omega | (simp; omega) | (simp; done)))⟩
  · have hn' : (n : Int) ≤ 1048576 := by omega
    go_enter Try.func11, Try.ntmps11
    go_wp2_with fail
    refine (drawHallStops_any A n c g _ hB).mono ?_
    rintro x wd ⟨v, u, t, gs, rs, ps, rfl, ⟨A1, c1, rfl, ⟨hc1, -⟩, -, I1⟩, ⟨A2, c2, rfl, -, -, I2⟩, ⟨A3, c3, rfl, ⟨hc3, -⟩, -, I3⟩, l1, l2, l3, hbd⟩
    obtain ⟨n1, hn1⟩ : ∃ n1, gs.length = n1 := ⟨_, rfl⟩
    obtain ⟨n2, hn2⟩ : ∃ n2, rs.length = n2 := ⟨_, rfl⟩
    obtain ⟨n3, hn3⟩ : ∃ n3, ps.length = n3 := ⟨_, rfl⟩
    have HN1 := Lib.hid hn1
    have HN3 := Lib.hid hn3
    rw [hn1] at I1 l1 hc1 ⊢
    rw [hn2] at I2 l2 ⊢
    rw [hn3] at I3 l3 hc3 ⊢
    clear hn1 hn2 hn3
    have n10 : 0 ≤ (n1 : Int) := by omega
    cases hf : fitsB gs rs ps
    · have hx := stopsI_no hf
      go_wp2_with (first
        | (go_at_call 22; refine (stops_impl _ _ _ gs _ _ _ rs _ _ _ ps _ hc3 I1 I2 I3).mono ?_; rintro x w1 ⟨rfl, b1⟩; rw [hx])
        | (go_at_call 21; refine (stops_spec _ _ _ gs _ _ _ rs _ _ _ ps _ (I1.below b1) (I2.below b1) (I3.below b1)).mono ?_; rintro x w2 ⟨rfl, m2, rfl⟩; rw [hx])
        | (go_at_call 28; refine (alive_any _).mono ?_; rintro x w3 ⟨rfl, hb3⟩))
      go_ret
      exact ⟨rfl, by (repeat' (first | (with_reducible exact Below.refl _ _) | (with_reducible assumption) | (with_reducible exact bundrew (by assumption)) | (with_reducible refine balloc ?_ _) | (with_reducible refine bset ?_ _ ?_ _) | (with_reducible refine Below.drew ?_) | (with_reducible refine bdrewN ?_ _) | (with_reducible refine bvia (by assumption) ?_) | (with_reducible refine Below.trans ?_ (by assumption)) | omega | (simp; omega) | (simp; done)))⟩
    · obtain ⟨s, hs⟩ : ∃ s, bestT gs rs = s := ⟨_, rfl⟩
      obtain ⟨bl, bb⟩ := s
      obtain ⟨q1, q2, q3, q4⟩ := fits_parts hf
      obtain ⟨f1, f2, -⟩ := best_facts q1 hs
      have hsum := fits_sum hf
      have hbb : bb = true := by rw [f1, decide_eq_true_eq]; rw [q2] at hsum; exact hsum
      subst hbb
      obtain ⟨f4, f5, f6⟩ := f2 rfl
      have f7 := f6 ps hf
      obtain ⟨nl, hnl⟩ : ∃ nl, nums bl = nl := ⟨_, rfl⟩
      rw [hnl] at f4 f5 f7
      have BI : ∀ (A : Option Addr) (n c : Nat) (A' : Option Addr) (n' c' : Nat) (w : World), Ints w A n gs → Ints w A' n' rs → Calls Try.prog 24 #[.slice A n c, .slice A' n' c'] w (BestI w nl true) := fun A n c A' n' c' w h h' => (best_impl A n c gs A' n' c' rs w h h').mono fun e w' hx => by
        rw [hs] at hx; obtain ⟨v, q1, q2, q3⟩ := hx; exact ⟨v, q1, by rw [← hnl]; exact q2, q3⟩
      have HI := Lib.hid BI
      have hmany : manyI gs rs ≤ stopsI gs rs ps := by
        rw [manyI_yes q1 rfl, stopsI_yes hf rfl, many_eq, stops_eq q3]
        exact Int.ofNat_le.2 (HP.many_stops (by rw [toN_length, q2]))
      have hle : stopsI gs rs ps ≤ (n1 : Int) := by
        rw [stopsI_yes hf rfl]
        have := (stK_in gs ps ps.length).2
        rw [q2, HN1.out] at this
        rw [q2, HN1.out]
        exact this
      have h0 : 0 ≤ stopsI gs rs ps := by rw [stopsI_yes hf rfl]; exact (stK_in gs ps ps.length).1
      obtain ⟨a, ha⟩ : ∃ a, stopsI gs rs ps = a := ⟨_, rfl⟩
      obtain ⟨b, hb⟩ : ∃ b, stopsI gs rs nl = b := ⟨_, rfl⟩
      obtain ⟨d, hd⟩ : ∃ d, manyI gs rs = d := ⟨_, rfl⟩
      rw [ha] at f7 hmany hle h0
      rw [hb] at f7 f5
      rw [hd] at hmany
      have hb0 : 0 ≤ b := by rw [f5]; exact Int.natCast_nonneg _
      have HA := Lib.hid ha
      have HBB := Lib.hid hb
      have HD := Lib.hid hd
      clear BI f1 f2 f4 f5 f6 hs hnl hsum q1 q2 q3 q4 ha hb hd hf
      go_wp2_with (first
        | (go_at_call 22; refine (stops_impl _ _ _ gs _ _ _ rs _ _ _ ps _ hc3 I1 I2 I3).mono ?_; rintro x w1 ⟨rfl, b1⟩; rw [HA.out])
        | (go_at_call 21; refine (stops_spec _ _ _ gs _ _ _ rs _ _ _ ps _ (I1.below b1) (I2.below b1) (I3.below b1)).mono ?_; rintro x w2 ⟨rfl, m2, rfl⟩; rw [HA.out]))
      have J1 := (I1.below b1).drewN m2
      have J2 := (I2.below b1).drewN m2
      have T2 : Below w.heap.size w (w1.drewN m2) := bdrewN (bvia b1 hbd) m2
      refine (HI.out _ _ _ _ _ _ _ J1 J2).mono ?_
      rintro e w3 ⟨v3, rfl, o3, b3⟩
      have K1 := J1.below b3
      have K2 := J2.below b3
      have T3 : Below w.heap.size w w3 := bvia b3 T2
      obtain ⟨B3, d3, rfl⟩ := o3.shape
      have hc3' := o3.cap.1
      clear I1 I2 I3 J1 J2
      go_wp2_with fail
      refine (stops_impl _ _ _ gs _ _ _ rs _ _ _ nl _ hc3' K1 K2 o3.ints.2).mono ?_
      rintro x w4 ⟨rfl, b4⟩
      rw [HBB.out]
      go_wp2_with (go_at_call 20; refine (many_impl _ _ _ gs _ _ _ rs _ hc1 (K1.below b4) (K2.below b4)).mono ?_; rintro x w6 ⟨rfl, m6, rfl⟩; rw [HD.out])
      go_ret
      exact ⟨rfl, bdrewN (bvia b4 T3) _⟩
end Go.Proofs.Ytikoldnejkhepaa
