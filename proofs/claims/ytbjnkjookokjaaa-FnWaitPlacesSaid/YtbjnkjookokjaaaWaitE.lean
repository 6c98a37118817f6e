/- WaitPlaces of the reference: contract. -/
import Derived.Test.YtbjnkjookokjaaaWaitD
namespace Go.Proofs.Ytbjnkjookokjaaa
open Go.ChangeShapes Go.WideShapes Go.ChangeAt Go.RowKit

/-- A list as a function. -/
def xN (xs : List Int) (i : Nat) : Int := xs[i]?.getD 0
theorem way_dist {xs : List Int} {n a b : Nat} (hv : fvB xs = true) (hn : xs.length = n) (ha : a < n) (hb : b < n) : wayI xs a b = WP.dist (xN xs) a b := by rw [wayI_yes hv hn ha hb]; rfl
theorem nearK_near {xs : List Int} {n f : Nat} {P : List Nat} (hv : fvB xs = true) (hn : xs.length = n) (hf : f < n) (hP : ∀ p ∈ P, p < n) (h1 : 1 ≤ P.length) :
    ∀ k, k ≤ P.length → nearK xs (nums P) f k = (P.take k).foldl (fun m p => min m (WP.dist (xN xs) p f)) (WP.dist (xN xs) (P[0]?.getD 0) f)
  | 0, _ => by
    have h0 : P[0]?.getD 0 < n := by
      rw [List.getElem?_eq_getElem (by omega)]
      exact hP _ (List.getElem_mem _)
    show wayI xs ((nums P)[0]?.getD 0) f = _
    rw [nums_get, way_dist hv hn h0 hf]
    rfl
  | k + 1, hk => by
    have hk' : k < P.length := by omega
    have h0 : P[k]?.getD 0 < n := by
      rw [List.getElem?_eq_getElem hk']
      exact hP _ (List.getElem_mem _)
    rw [nearK_succ, nearK_near hv hn hf hP h1 k (by omega), nums_get, way_dist hv hn h0 hf, List.take_succ_eq_append_getElem hk', List.foldl_append, List.getElem?_eq_getElem hk']
    rfl
theorem near_all {xs : List Int} {n f : Nat} {P : List Nat} (hv : fvB xs = true) (hn : xs.length = n) (hf : f < n) (hP : ∀ p ∈ P, p < n) (h1 : 1 ≤ P.length) : nearK xs (nums P) f (nums P).length = WP.near (xN xs) P f := by
  rw [nearK_near hv hn hf hP h1 _ (by rw [nums_length]; exact Nat.le_refl _), nums_length, List.take_length]
  rfl
theorem wcK_sum {xs os : List Int} {n : Nat} {P : List Nat} (hv : fvB xs = true) (hn : xs.length = n) (hP : ∀ p ∈ P, p < n) (h1 : 1 ≤ P.length) :
    ∀ k, k ≤ n → wcK xs os (nums P) k = WP.sumTo (fun f => xN os f * WP.near (xN xs) P f) k
  | 0, _ => rfl
  | k + 1, hk => by
    rw [wcK_succ, wcK_sum hv hn hP h1 k (by omega), near_all hv hn (by omega) hP h1]
    rfl
theorem nums_within {P : List Nat} {n : Nat} (hP : ∀ p ∈ P, p < n) : allB (nums P) 0 ((n : Int) - 1) = true := by
  rw [allB_iff]
  intro k hk
  rw [nums_length] at hk
  rw [nums_get, List.getElem?_eq_getElem hk]
  have := hP _ (List.getElem_mem hk)
  simp
  omega
theorem wc_nums {xs os : List Int} {n : Nat} {P : List Nat} (ho : oftB xs os = true) (hn : xs.length = n) (hP : ∀ p ∈ P, p < n) (h1 : 1 ≤ P.length) (h8 : P.length ≤ 8) :
    wcB xs os (nums P) = true ∧ wcI xs os (nums P) = WP.wcost (xN xs) (xN os) n P := by
  have hw : wcB xs os (nums P) = true := wcB_iff.2 ⟨ho, by rw [nums_length]; exact h1, by rw [nums_length]; exact h8, by rw [hn]; exact nums_within hP⟩
  exact ⟨hw, by rw [wcI_yes hw hn, wcK_sum (oftB_iff.1 ho).1 hn hP h1 n (Nat.le_refl _)]; rfl⟩

/-- The places of the waits. -/
def placesT (xs os : List Int) (cars : Int) : List Nat := if oftB xs os = true ∧ 1 ≤ cars then WP.search (xN xs) (xN os) xs.length cars.toNat (2 ^ xs.length - 1) else []
theorem placesT_no {xs os : List Int} {cars : Int} (h : ¬ (oftB xs os = true ∧ 1 ≤ cars)) : placesT xs os cars = [] := by unfold placesT; rw [if_neg h]
theorem placesT_yes {xs os : List Int} {cars : Int} {n : Nat} (h1 : oftB xs os = true) (h2 : 1 ≤ cars) (hn : xs.length = n) : placesT xs os cars = WP.search (xN xs) (xN os) n cars.toNat (2 ^ n - 1) := by unfold placesT; rw [if_pos ⟨h1, h2⟩, hn]
theorem bits_in {m n : Nat} (hn : n ≤ 8) (hm : m < 2 ^ n) : (∀ p ∈ WP.bitsOf m 8, p < n) ∧ (1 ≤ m → 1 ≤ (WP.bitsOf m 8).length) ∧ (WP.bitsOf m 8).length ≤ 8 := by
  obtain ⟨h1, h2, h3⟩ := WP.bits_of hn hm
  rw [h3]
  refine ⟨fun p hp => WP.desc_lt h1 p (by simpa using hp), fun h => ?_, Nat.le_trans (bits_len _ _) hn⟩
  rcases Nat.eq_zero_or_pos (WP.bitsOf m n).length with h0 | h0
  · have : WP.bitsOf m n = [] := List.eq_nil_of_length_eq_zero h0
    rw [this] at h2
    simp [WP.num] at h2
    omega
  · exact h0
/-- What the search has found lies within the floors. -/
theorem search_in {x o : Nat → Int} {n cars : Nat} (hn : n ≤ 8) : ∀ k, k < 2 ^ n → (∀ p ∈ WP.search x o n cars k, p < n) ∧ (WP.search x o n cars k).length ≤ 8
  | 0, _ => ⟨by simp [WP.search], by simp [WP.search]⟩
  | k + 1, hk => by
    have ih := search_in (x := x) (o := o) (cars := cars) hn k (by omega)
    obtain ⟨b1, _, b3⟩ := bits_in hn hk
    simp only [WP.search, WP.step]
    split
    · exact ih
    · split
      · exact ⟨b1, b3⟩
      · exact ih
theorem two_pow {n : Nat} (h : n ≤ 8) : 1 ≤ 2 ^ n ∧ 2 ^ n ≤ 256 := ⟨Nat.pow_pos (by omega), by
  have := Nat.pow_le_pow_right (show 0 < 2 by omega) h
  have e : (2 : Nat) ^ 8 = 256 := by decide
  omega⟩

set_option maxRecDepth 100000 in
set_option maxHeartbeats 8000000 in
theorem places_spec (A : Option Addr) (n c : Nat) (xs : List Int) (A' : Option Addr) (n' c' : Nat) (os : List Int) (cars : Int) (w : World) (h : Ints w A n xs) (h' : Ints w A' n' os) :
    Calls Try.prog 17 #[.slice A n c, .slice A' n' c', .int .i64 cars] w (NumsOut w (placesT xs os cars)) := by
  have HL := Lib.hid h.1
  have Hz0 := OwnI.made (w := w.alloc (.cells #[] 3)) (base := w.heap.size) (g := w.heap.size) (xs := []) (Nat.le_refl _) (heap_alloc_new w _) (by unfold maxLen; decide)
  have BA : Below w.heap.size w (w.alloc (.cells #[] 3)) := (Below.refl _ w).alloc (Nat.le_refl _) _
  have H1 := h.below BA
  have H2 := h'.below BA
  have O := fun w hx hy => oft_spec A n c xs A' n' c' os w hx hy
  cases ho : oftB xs os
  · rw [placesT_no (by simp [ho])]
    rw [ho] at O
    have HO := Lib.hid O
    clear O
    go_enter Try.func17, Try.ntmps17
    go_wp2_with (go_at_call 11; refine (HO.out _ H1 H2).mono ?_; rintro e w' ⟨rfl, m, rfl⟩)
    go_ret
    exact ⟨_, rfl, Hz0, bdrewN BA _⟩
  · rw [ho] at O
    have HO := Lib.hid O
    have HT := Lib.hid ho
    clear O
    by_cases hc : 1 ≤ cars
    · rw [placesT_yes ho hc HL.out]
      have hcc : ¬ cars < 1 := by omega
      have hfv := fv_open (oftB_iff.1 ho).1
      have n8 : n ≤ 8 := by have := hfv.2.1; have := HL.out; omega
      have n1 : 1 ≤ n := by have := hfv.1; have := HL.out; omega
      obtain ⟨C, rfl⟩ := Int.eq_ofNat_of_zero_le (show 0 ≤ cars by omega)
      have hCt : ((C : Int)).toNat = C := by simp
      rw [hCt]
      obtain ⟨t1, t2⟩ := two_pow n8
      obtain ⟨M, hM⟩ : ∃ M, 2 ^ n = M := ⟨_, rfl⟩
      have HMM := Lib.hid hM
      rw [hM] at t1 t2 ⊢
      have hp : ((2 : Int) ^ n) = (M : Int) := by rw [← hM, Int.natCast_pow]; rfl
      have ew : wrap64 ((2 : Int) ^ n) = (M : Int) := by rw [hp]; unfold wrap64; omega
      have HP := Lib.hid hp
      clear hp
      clear ho hfv hCt h h' hM
      go_enter Try.func17, Try.ntmps17
      go_wp2_with (go_at_call 11; refine (HO.out _ H1 H2).mono ?_; rintro e w' ⟨rfl, m0, rfl⟩)
      have J1 := Lib.hid (H1.drewN m0)
      have J2 := Lib.hid (H2.drewN m0)
      obtain ⟨W, hW⟩ : ∃ W : World, W = (w.alloc (.cells #[] 3)).drewN m0 := ⟨_, rfl⟩
      have BW : Below w.heap.size w W := by rw [hW]; exact bdrewN BA m0
      have HzW : OwnI W w.heap.size (.slice (some ⟨w.heap.size, 0, none⟩) 0 0) [] := by rw [hW]; exact Hz0.drewN m0
      have hsW : W.heap.size = w.heap.size + 1 := by rw [hW]; simp [size_drewN]
      rw [← hW] at J1 J2 ⊢
      clear H1 H2 hW Hz0 BA
      go_loopw [7, 8] (fun v i wr => ∃ (v0 : Value) (j : Nat), v0 = v ∧ j + 1 ≤ M ∧ i = .int .i64 ((j : Int) + 1) ∧ OwnI wr w.heap.size v0 (nums (WP.search (xN xs) (xN os) n C j)) ∧ Below W.heap.size W wr) (fun _ i _ => M - (intOf i).toNat)
      case atStart => exact ⟨_, 0, rfl, t1, rfl, HzW, Below.refl _ _⟩
      case round =>
        obtain ⟨v0, j, rfl, hj, rfl, hv, hb⟩ := hrel
        have R1 := Lib.hid (J1.out.below hb)
        have R2 := Lib.hid (J2.out.below hb)
        by_cases hlt : j + 1 < M
        · have hlt' : (j : Int) + 1 < (M : Int) := by omega
          obtain ⟨B, hB⟩ : ∃ B, WP.search (xN xs) (xN os) n C j = B := ⟨_, rfl⟩
          obtain ⟨X, hX⟩ : ∃ X, WP.bitsOf (j + 1) 8 = X := ⟨_, rfl⟩
          have hS : WP.search (xN xs) (xN os) n C (j + 1) = WP.step (xN xs) (xN os) n C B (j + 1) := by rw [← hB]; rfl
          have HS : Hid (WP.search (xN xs) (xN os) n C (j + 1) = if C < X.length then B else if B.length = 0 ∨ WP.wcost (xN xs) (xN os) n X < WP.wcost (xN xs) (xN os) n B ∨ WP.wcost (xN xs) (xN os) n X = WP.wcost (xN xs) (xN os) n B ∧ X.length < B.length then X else B) := Lib.hid (by rw [hS, WP.step, hX])
          obtain ⟨x1, x2, x3⟩ := bits_in n8 (m := j + 1) (by rw [HMM.out]; exact hlt)
          obtain ⟨y1, y2⟩ := search_in (x := xN xs) (o := xN os) (cars := C) n8 j (by rw [HMM.out]; omega)
          rw [hX] at x1 x2 x3
          rw [hB] at y1 y2 hv
          have cx := (wc_nums HT.out HL.out x1 (x2 (by omega)) x3).2
          have D := fun w => places_any (j + 1) (by omega) w
          rw [hX] at D
          have HD := Lib.hid D
          have hxn : (nums X).length = X.length := nums_length X
          have hbn : (nums B).length = B.length := nums_length B
          clear hS hB hX D
          obtain ⟨A3, c3, rfl⟩ := hv.shape
          go_wp2_with fail
          refine (HD.out wr).mono ?_
          rintro e w1 ⟨v1, rfl, o1, b1⟩
          obtain ⟨A1, c1, rfl⟩ := o1.shape
          have S1 := Lib.hid (R1.out.below b1)
          have S2 := Lib.hid (R2.out.below b1)
          have hv1 := hv.below b1
          have b1' : Below W.heap.size W w1 := bvia b1 hb
          have K3 := Lib.hid o1.ints.2
          have K4 := Lib.hid hv1.ints.2
          have hxo := o1.lower (b' := w.heap.size) (Nat.le_trans (by omega) hb.size)
          rw [hxn, hbn]
          rw [hxn] at K3 hxo
          rw [hbn] at K4 hv1
          have lx : (X.length : Int) ≤ 8 := by omega
          have lb : (B.length : Int) ≤ 8 := by omega
          by_cases hcx : C < X.length
          · have HN : Hid (WP.search (xN xs) (xN os) n C (j + 1) = B) := Lib.hid (by rw [HS.out, if_pos hcx])
            have hcx' : (C : Int) < (X.length : Int) := by omega
            go_wp2_with fail
            exact ⟨⟨_, j + 1, rfl, by omega, by go_num, by rw [HN.out]; exact hv1, b1'⟩, by simp [intOf]; omega⟩
          · have hcx' : (X.length : Int) ≤ (C : Int) := by omega
            rcases Nat.eq_zero_or_pos B.length with hb0 | hbp
            · have HN : Hid (WP.search (xN xs) (xN os) n C (j + 1) = X) := Lib.hid (by rw [HS.out, if_neg hcx, if_pos (.inl hb0)])
              have e0 : ((B.length : Int) == 0) = true := by rw [beq_iff_eq]; omega
              clear hcx
              go_wp2_with fail
              exact ⟨⟨_, j + 1, rfl, by omega, by go_num, by rw [HN.out]; exact hxo, b1'⟩, by simp [intOf]; omega⟩
            · have e0 : ((B.length : Int) == 0) = false := by rw [beq_eq_false_iff_ne]; omega
              have cb := (wc_nums HT.out HL.out y1 hbp y2).2
              have WX := fun w h1 h2 h3 => wc_spec A n c xs A' n' c' os A1 X.length c1 (nums X) w h1 h2 h3
              have WB := fun w h1 h2 h3 => wc_spec A n c xs A' n' c' os A3 B.length c3 (nums B) w h1 h2 h3
              rw [cx] at WX
              rw [cb] at WB
              obtain ⟨a, ha⟩ : ∃ a, WP.wcost (xN xs) (xN os) n X = a := ⟨_, rfl⟩
              obtain ⟨b, hbb⟩ : ∃ b, WP.wcost (xN xs) (xN os) n B = b := ⟨_, rfl⟩
              rw [ha] at WX HS
              rw [hbb] at WB HS
              have HWX := Lib.hid WX
              have HWB := Lib.hid WB
              clear WX WB cx cb ha hbb
              rcases (show a < b ∨ (a = b ∧ X.length < B.length) ∨ (a = b ∧ B.length ≤ X.length) ∨ b < a by omega) with hab | ⟨rfl, hxb⟩ | ⟨rfl, hxb⟩ | hab
              · have HN : Hid (WP.search (xN xs) (xN os) n C (j + 1) = X) := Lib.hid (by rw [HS.out, if_neg hcx, if_pos (.inr (.inl hab))])
                clear hcx
                go_wp2_with (first
                  | (have _t := tk1; go_at_call 15; refine (HWB.out _ (S1.out.drewN _) (S2.out.drewN _) (K4.out.drewN _)).mono ?_; rintro e w' ⟨rfl, m2, rfl⟩)
                  | (go_at_call 15; refine (HWX.out _ S1.out S2.out K3.out).mono ?_; rintro e w' ⟨rfl, m1, rfl⟩; have tk1 : True := trivial))
                exact ⟨⟨_, j + 1, rfl, by omega, by go_num, by rw [HN.out]; exact hxo, bdrewN b1' _⟩, by simp [intOf]; omega⟩
              · have HN : Hid (WP.search (xN xs) (xN os) n C (j + 1) = X) := Lib.hid (by rw [HS.out, if_neg hcx, if_pos (.inr (.inr ⟨rfl, hxb⟩))])
                have hxb' : (X.length : Int) < (B.length : Int) := by omega
                clear hcx
                go_wp2_with (first
                  | (have _t := tk3; go_at_call 15; refine (HWB.out _ (S1.out.drewN _) (S2.out.drewN _) (K4.out.drewN _)).mono ?_; rintro e w' ⟨rfl, m4, rfl⟩)
                  | (have _t := tk2; go_at_call 15; refine (HWX.out _ (S1.out.drewN _) (S2.out.drewN _) (K3.out.drewN _)).mono ?_; rintro e w' ⟨rfl, m3, rfl⟩; have tk3 : True := trivial)
                  | (have _t := tk1; go_at_call 15; refine (HWB.out _ (S1.out.drewN _) (S2.out.drewN _) (K4.out.drewN _)).mono ?_; rintro e w' ⟨rfl, m2, rfl⟩; have tk2 : True := trivial)
                  | (go_at_call 15; refine (HWX.out _ S1.out S2.out K3.out).mono ?_; rintro e w' ⟨rfl, m1, rfl⟩; have tk1 : True := trivial))
                exact ⟨⟨_, j + 1, rfl, by omega, by go_num, by rw [HN.out]; exact hxo, bdrewN b1' _⟩, by simp [intOf]; omega⟩
              · have HN : Hid (WP.search (xN xs) (xN os) n C (j + 1) = B) := Lib.hid (by rw [HS.out, if_neg hcx, if_neg (by omega)])
                have hxb' : (B.length : Int) ≤ (X.length : Int) := by omega
                clear hcx
                go_wp2_with (first
                  | (have _t := tk3; go_at_call 15; refine (HWB.out _ (S1.out.drewN _) (S2.out.drewN _) (K4.out.drewN _)).mono ?_; rintro e w' ⟨rfl, m4, rfl⟩)
                  | (have _t := tk2; go_at_call 15; refine (HWX.out _ (S1.out.drewN _) (S2.out.drewN _) (K3.out.drewN _)).mono ?_; rintro e w' ⟨rfl, m3, rfl⟩; have tk3 : True := trivial)
                  | (have _t := tk1; go_at_call 15; refine (HWB.out _ (S1.out.drewN _) (S2.out.drewN _) (K4.out.drewN _)).mono ?_; rintro e w' ⟨rfl, m2, rfl⟩; have tk2 : True := trivial)
                  | (go_at_call 15; refine (HWX.out _ S1.out S2.out K3.out).mono ?_; rintro e w' ⟨rfl, m1, rfl⟩; have tk1 : True := trivial))
                exact ⟨⟨_, j + 1, rfl, by omega, by go_num, by rw [HN.out]; exact hv1, bdrewN b1' _⟩, by simp [intOf]; omega⟩
              · have HN : Hid (WP.search (xN xs) (xN os) n C (j + 1) = B) := Lib.hid (by rw [HS.out, if_neg hcx, if_neg (by omega)])
                have hab2 : (a == b) = false := by rw [beq_eq_false_iff_ne]; omega
                clear hcx
                go_wp2_with (first
                  | (have _t := tk3; go_at_call 15; refine (HWB.out _ (S1.out.drewN _) (S2.out.drewN _) (K4.out.drewN _)).mono ?_; rintro e w' ⟨rfl, m4, rfl⟩)
                  | (have _t := tk2; go_at_call 15; refine (HWX.out _ (S1.out.drewN _) (S2.out.drewN _) (K3.out.drewN _)).mono ?_; rintro e w' ⟨rfl, m3, rfl⟩; have tk3 : True := trivial)
                  | (have _t := tk1; go_at_call 15; refine (HWB.out _ (S1.out.drewN _) (S2.out.drewN _) (K4.out.drewN _)).mono ?_; rintro e w' ⟨rfl, m2, rfl⟩; have tk2 : True := trivial)
                  | (go_at_call 15; refine (HWX.out _ S1.out S2.out K3.out).mono ?_; rintro e w' ⟨rfl, m1, rfl⟩; have tk1 : True := trivial))
                exact ⟨⟨_, j + 1, rfl, by omega, by go_num, by rw [HN.out]; exact hv1, bdrewN b1' _⟩, by simp [intOf]; omega⟩
        · obtain rfl : M = j + 1 := by omega
          have hj1 : j + 1 - 1 = j := by omega
          rw [hj1]
          go_wp2
          go_ret
          exact ⟨_, rfl, hv, BW.trans (below_le BW.size hb)⟩
    · rw [placesT_no (by simp [hc])]
      have hcc : cars < 1 := by omega
      clear hc
      go_enter Try.func17, Try.ntmps17
      go_wp2_with (go_at_call 11; refine (HO.out _ H1 H2).mono ?_; rintro e w' ⟨rfl, m, rfl⟩)
      go_ret
      exact ⟨_, rfl, Hz0, bdrewN BA _⟩
end Go.Proofs.Ytbjnkjookokjaaa
