/- The walk of the law FnHallBest. -/
import Derived.Test.YtikoldnejkhepaaHallZ
import Derived.Test.YtikoldnejkhepaaHallS
import Derived.Test.YtikoldnejkhepaaSame
namespace Go.Proofs.Ytikoldnejkhepaa
open Go.ChangeShapes Go.WideShapes Go.ChangeAt Go.RowKit

theorem le_sum : ∀ (l : List Nat) (k : Nat), l[k]?.getD 0 ≤ l.sum
  | [], k => by simp
  | a :: l, 0 => by simp
  | a :: l, k + 1 => by have := le_sum l k; simp only [List.getElem?_cons_succ, List.sum_cons]; omega
/-- What the best list of a hall is. -/
theorem best_facts {gs rs : List Int} (hh : hallB gs rs = true) {bl : List Nat} {bb : Bool} (hs : bestT gs rs = (bl, bb)) :
    (bb = decide ((gs.length : Int) ≤ sumK rs rs.length)) ∧ (bb = true → fitsB gs rs (nums bl) = true ∧ stopsI gs rs (nums bl) = ((HP.stops gs bl : Nat) : Int) ∧ (∀ ps, fitsB gs rs ps = true → stopsI gs rs (nums bl) ≤ stopsI gs rs ps)) ∧
    ∀ c, c < rs.length → (gs.length : Int) ≤ rs[c]?.getD 0 → bb = true ∧ stopsI gs rs (nums bl) = manyI gs rs := by
  rw [bestT_yes hh] at hs
  obtain ⟨b1, b2, b3, b4, b5⟩ := hallB_iff.1 hh
  have hi := HP.best_iff gs (toN rs)
  rw [hs] at hi
  simp only at hi
  have hsum := sum_all b5
  have hbb : bb = decide ((gs.length : Int) ≤ sumK rs rs.length) := by
    rw [hi, hsum]
    simp
  have hF : bb = true → fitsB gs rs (nums bl) = true := fun h => by
    obtain ⟨h1, h2, h3⟩ := HP.best_fits (goals := gs) (left := toN rs) (by rw [hs]; exact h)
    rw [hs] at h1 h2 h3
    rw [fits_nums hh h1 (by simpa [toN_length] using h2)]
    exact h3
  refine ⟨hbb, fun h => ⟨hF h, stops_nums (hF h), fun ps hp => ?_⟩, fun c hc hle => ?_⟩
  · obtain ⟨_, q2, q3, q4⟩ := fits_parts hp
    have hle := HP.best_least (goals := gs) (left := toN rs) (by rw [hs]; exact h) (x := toN ps) (by rw [toN_length, q2]) (fun c hc => by have := toN_mem q3 (Int.le_refl _) hc; rw [toN_length]; omega) q4
    rw [hs] at hle
    rw [stops_nums (hF h), stopsI_yes hp rfl, stops_eq q3]
    exact Int.ofNat_le.2 hle
  · have hc' : c < (toN rs).length := by rw [toN_length]; exact hc
    have hget := toN_get rs c
    have hpos := allB_at b5 rfl hc
    have hr : gs.length ≤ (toN rs)[c]?.getD 0 := by omega
    have hb : bb = true := by
      rw [hi, decide_eq_true_eq]
      exact Nat.le_trans hr (le_sum _ _)
    refine ⟨hb, ?_⟩
    have := HP.best_one (goals := gs) (left := toN rs) hc' hr (by rw [hs]; exact hb)
    rw [hs] at this
    rw [stops_nums (hF hb), manyI_yes hh rfl, many_eq, this]

set_option maxRecDepth 100000 in
set_option maxHeartbeats 8000000 in
theorem walk_FnHallBest (A : Option Addr) (n c : Nat) (g : Nat → Int) (w : World) (hB : Bytes w A n c g) : Calls Try.prog 12 #[.slice A n c] w fun e w' => e = .returned (.bool true) ∧ Below w.heap.size w w' := by
  by_cases hn : 1048576 < n
  · have hn' : (1048576 : Int) < (n : Int) := by omega
    go_enter Try.func12, Try.ntmps12
    go_wp2
    go_ret
    exact ⟨rfl, by (repeat' (first | (with_reducible exact Below.refl _ _) | (with_reducible assumption) | (with_reducible exact bundrew (by assumption)) | (with_reducible refine balloc ?_ _) | (with_reducible refine bset ?_ _ ?_ _) | (with_reducible refine Below.drew ?_) | (with_reducible refine bdrewN ?_ _) | (with_reducible refine bvia (by assumption) ?_) | (with_reducible refine Below.trans ?_ (by assumption)) | omega | (simp; omega) | (simp; done)))⟩
  · have hn' : (n : Int) ≤ 1048576 := by omega
    go_enter Try.func12, Try.ntmps12
    go_wp2_with fail
    refine (drawHallBest_any A n c g _ hB).mono ?_
    rintro x wd ⟨v, u, gs, rs, rfl, ⟨A1, c1, rfl, ⟨hc1, -⟩, hc1', I1⟩, ⟨A2, c2, rfl, -, -, I2⟩, l1, l2, hbd⟩
    obtain ⟨n1, hn1⟩ : ∃ n1, gs.length = n1 := ⟨_, rfl⟩
    obtain ⟨n2, hn2⟩ : ∃ n2, rs.length = n2 := ⟨_, rfl⟩
    have HN1 := Lib.hid hn1
    have HN2 := Lib.hid hn2
    obtain ⟨s, hs⟩ : ∃ s, bestT gs rs = s := ⟨_, rfl⟩
    obtain ⟨bl, bb⟩ := s
    obtain ⟨nl, hnl⟩ : ∃ nl, nums bl = nl := ⟨_, rfl⟩
    have BS : ∀ (A : Option Addr) (n c : Nat) (A' : Option Addr) (n' c' : Nat) (w : World), Ints w A n gs → Ints w A' n' rs → Calls Try.prog 23 #[.slice A n c, .slice A' n' c'] w (BestI w nl bb) := fun A n c A' n' c' w h h' => (best_spec A n c gs A' n' c' rs w h h').mono fun e w' hx => by
      rw [hs] at hx; obtain ⟨v, q1, q2, q3⟩ := hx; exact ⟨v, q1, by rw [← hnl]; exact q2, q3⟩
    have BI : ∀ (A : Option Addr) (n c : Nat) (A' : Option Addr) (n' c' : Nat) (w : World), Ints w A n gs → Ints w A' n' rs → Calls Try.prog 24 #[.slice A n c, .slice A' n' c'] w (BestI w nl bb) := fun A n c A' n' c' w h h' => (best_impl A n c gs A' n' c' rs w h h').mono fun e w' hx => by
      rw [hs] at hx; obtain ⟨v, q1, q2, q3⟩ := hx; exact ⟨v, q1, by rw [← hnl]; exact q2, q3⟩
    have HS := Lib.hid BS
    have HI := Lib.hid BI
    have hfacts : hallB gs rs = true → _ := fun hh => best_facts hh hs
    rw [hnl, hn1, hn2] at hfacts
    have hempty : hallB gs rs = false → nl = [] ∧ bb = false := fun hh => by
      rw [bestT_no hh] at hs
      cases hs
      exact ⟨by rw [← hnl]; rfl, rfl⟩
    rw [hn1] at I1 l1 hc1 ⊢
    rw [hn2] at I2 l2 ⊢
    clear BS BI hs hnl hn1 hn2
    have n10 : 0 ≤ (n1 : Int) := by omega
    go_wp2_with fail
    refine (HI.out _ _ _ _ _ _ _ I1 I2).mono ?_
    rintro e w1 ⟨v1, rfl, o1, b1⟩
    have K1 := I1.below b1
    have K2 := I2.below b1
    obtain ⟨B1, d1, rfl⟩ := o1.shape
    have T1 : Below w.heap.size w w1 := bvia b1 hbd
    go_wp2_with fail
    refine (HS.out _ _ _ _ _ _ _ K1 K2).mono ?_
    rintro e w2 ⟨v2, rfl, o2, b2⟩
    have J1 := K1.below b2
    have J2 := K2.below b2
    obtain ⟨B2, d2, rfl⟩ := o2.shape
    have T2 : Below w.heap.size w w2 := bvia b2 T1
    have o1' := o1.below b2
    clear I1 I2 K1 K2 o1
    cases hh : hallB gs rs
    · obtain ⟨rfl, rfl⟩ := hempty hh
      clear hfacts hempty
      go_wp2_with (first
        | (go_at_call 34; refine (same_any _ _ _ _ _ [] _ o1'.ints.2 o2.ints.2).mono ?_; rintro x w' ⟨rfl, m3, rfl⟩)
        | (go_at_call 13; refine (hallOk_spec _ _ _ gs _ _ _ rs _ (J1.drewN _) (J2.drewN _)).mono ?_; rintro x w' ⟨rfl, rfl⟩; rw [hh])
        | (go_at_call 28; refine (alive_any _).mono ?_; rintro x w3 ⟨rfl, hb3⟩))
      go_ret
      exact ⟨rfl, by (repeat' (first | (with_reducible exact Below.refl _ _) | (with_reducible assumption) | (with_reducible exact bundrew (by assumption)) | (with_reducible refine balloc ?_ _) | (with_reducible refine bset ?_ _ ?_ _) | (with_reducible refine Below.drew ?_) | (with_reducible refine bdrewN ?_ _) | (with_reducible refine bvia (by assumption) ?_) | (with_reducible refine Below.trans ?_ (by assumption)) | omega | (simp; omega) | (simp; done)))⟩
    · obtain ⟨f1, f2, f3⟩ := hfacts hh
      have hh5 := (hallB_iff.1 hh).2.2.2.2
      have HH := Lib.hid hh
      obtain ⟨S, hS⟩ : ∃ S, sumK rs n2 = S := ⟨_, rfl⟩
      have SO := fun w h => sumOf_any A2 n2 c2 rs w h hh5 (by omega)
      rw [hS] at SO
      rw [hS] at f1
      have HSO := Lib.hid SO
      have Hf3 := Lib.hid f3
      have hc1'' := o1'.cap.1
      clear hempty hfacts SO hS f3
      cases bb
      · have f1' : S < (n1 : Int) := by have := of_decide_eq_false f1.symm; omega
        clear f1 f2
        go_wp2_with (first
          | (go_at_call 30; refine (HSO.out _ (J2.drewN _)).mono ?_; rintro x w' ⟨rfl, rfl⟩)
          | (go_at_call 34; refine (same_any _ _ _ _ _ nl _ o1'.ints.2 o2.ints.2).mono ?_; rintro x w' ⟨rfl, m3, rfl⟩)
          | (go_at_call 13; refine (hallOk_spec _ _ _ gs _ _ _ rs _ (J1.drewN _) (J2.drewN _)).mono ?_; rintro x w' ⟨rfl, rfl⟩; rw [hh]))
        have JJ2 := J2.drewN m3
        have TT := bdrewN T2 m3
        clear J1 J2 T2 hh
        go_loop [9] (fun i => ∃ k : Nat, k ≤ n2 ∧ i = .int .i64 k) (fun i => n2 - (intOf i).toNat)
        case atStart => exact ⟨0, Nat.zero_le _, rfl⟩
        case round =>
          obtain ⟨k, hk, rfl⟩ := hrel
          by_cases hlt : k < n2
          · obtain ⟨q, off, rfl, hqb, hqc⟩ := JJ2.2.2 (by omega)
            have e0 := hqc k hlt
            have hy : rs[k]?.getD 0 < (n1 : Int) := by
              by_cases hle : (n1 : Int) ≤ rs[k]?.getD 0
              · have := (Hf3.out k hlt hle).1; cases this
              · omega
            obtain ⟨y, hy1⟩ : ∃ y, rs[k]?.getD 0 = y := ⟨_, rfl⟩
            rw [hy1] at e0 hy
            have hlt' : (k : Int) < (n2 : Int) := by omega
            clear hqc hy1
            go_wp2
            go_round
            case rel => exact ⟨k + 1, by omega, by go_num⟩
            case measure => simp [intOf]; omega
          · obtain rfl : k = n2 := by omega
            go_wp2
            go_ret
            exact ⟨rfl, TT⟩
      · have f1' : (n1 : Int) ≤ S := of_decide_eq_true f1.symm
        obtain ⟨f4, f5, -⟩ := f2 rfl
        obtain ⟨t, ht⟩ : ∃ t, stopsI gs rs nl = t := ⟨_, rfl⟩
        have HST := Lib.hid ht
        have HFI := Lib.hid f4
        clear f1 f2 f4 f5 ht
        go_wp2_with (first
          | (go_at_call 30; refine (HSO.out _ (J2.drewN _)).mono ?_; rintro x w' ⟨rfl, rfl⟩)
          | (go_at_call 34; refine (same_any _ _ _ _ _ nl _ o1'.ints.2 o2.ints.2).mono ?_; rintro x w' ⟨rfl, m3, rfl⟩)
          | (go_at_call 13; refine (hallOk_spec _ _ _ gs _ _ _ rs _ (J1.drewN _) (J2.drewN _)).mono ?_; rintro x w' ⟨rfl, rfl⟩; rw [hh]))
        have JJ1 := Lib.hid (J1.drewN m3)
        have JJ2 := Lib.hid (J2.drewN m3)
        have JO := Lib.hid (o1'.drewN m3)
        have TT := bdrewN T2 m3
        obtain ⟨W, hW⟩ : ∃ W : World, W = w2.drewN m3 := ⟨_, rfl⟩
        rw [← hW] at JJ1 JJ2 JO TT
        rw [← hW]
        clear J1 J2 T2 hh o1' o2 hW
        go_loopw [9] (fun i wr => Below W.heap.size W wr ∧ ∃ k : Nat, k ≤ n2 ∧ i = .int .i64 k) (fun i _ => n2 - (intOf i).toNat)
        case atStart => exact ⟨Below.refl _ _, 0, Nat.zero_le _, rfl⟩
        case round =>
          obtain ⟨BR, k, hk, rfl⟩ := hrel
          have R1 := Lib.hid (JJ1.out.below BR)
          have R2 := Lib.hid (JJ2.out.below BR)
          have R3 := Lib.hid (JO.out.below BR)
          by_cases hlt : k < n2
          · obtain ⟨q, off, rfl, hqb, hqc⟩ := R2.out.2.2 (by omega)
            have e0 := hqc k hlt
            have hf := Hf3.out k hlt
            obtain ⟨y, hy1⟩ : ∃ y, rs[k]?.getD 0 = y := ⟨_, rfl⟩
            rw [hy1] at e0 hf
            have hlt' : (k : Int) < (n2 : Int) := by omega
            clear hqc hy1
            by_cases hle : (n1 : Int) ≤ y
            · have hm := (hf hle).2
              rw [HST.out] at hm
              have HM := Lib.hid hm
              clear hf hm
              go_wp2_with (first
                | (go_at_call 22; refine (stops_impl _ _ _ gs _ _ _ rs _ _ _ nl _ hc1'' R1.out R2.out R3.out.ints.2).mono ?_; rintro x w5 ⟨rfl, b5⟩; rw [HST.out])
                | (go_at_call 20; refine (many_impl _ _ _ gs _ _ _ rs _ hc1 (R1.out.below b5) (R2.out.below b5)).mono ?_; rintro x w6 ⟨rfl, m6, rfl⟩; rw [← HM.out]))
              exact ⟨⟨bdrewN (bvia b5 BR) _, k + 1, by omega, by go_num⟩, by simp [intOf]; omega⟩
            · have hlt2 : y < (n1 : Int) := by omega
              clear hf
              go_wp2
              exact ⟨⟨BR, k + 1, by omega, by go_num⟩, by simp [intOf]; omega⟩
          · obtain rfl : k = n2 := by omega
            go_wp2_with (go_at_call 18; refine (fits_impl _ _ _ gs _ _ _ rs _ _ _ nl _ R1.out R2.out R3.out.ints.2).mono ?_; rintro x w5 ⟨rfl, b5⟩; rw [HFI.out])
            go_ret
            exact ⟨rfl, bvia b5 (bvia BR TT)⟩
end Go.Proofs.Ytikoldnejkhepaa
