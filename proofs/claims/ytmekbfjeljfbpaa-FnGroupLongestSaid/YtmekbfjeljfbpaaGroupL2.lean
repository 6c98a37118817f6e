/- The walk of the law FnGroupLongest. -/
import Derived.Test.YtmekbfjeljfbpaaGroupL1
namespace Go.Proofs.Ytmekbfjeljfbpaa
open Go.ChangeShapes Go.WideShapes Go.ChangeAt Go.RowKit

/-- The way of a car to a call. -/
def gway (xs cs ks gs : List Int) (k : Nat) : Int := wayI xs (cs[(gs[k]?.getD 0).toNat]?.getD 0) (ks[k]?.getD 0)
theorem longK_gway (xs cs ks gs : List Int) (k : Nat) : longK xs cs ks gs (k + 1) = max (longK xs cs ks gs k) (gway xs cs ks gs k) := rfl
theorem longK_nonneg (xs cs ks gs : List Int) : ∀ k, 0 ≤ longK xs cs ks gs k
  | 0 => Int.le_refl _
  | k + 1 => by have := longK_nonneg xs cs ks gs k; rw [longK_gway]; omega
theorem longK_le {xs cs ks gs gs' : List Int} : ∀ k, (∀ j, j < k → gway xs cs ks gs' j ≤ gway xs cs ks gs j) → longK xs cs ks gs' k ≤ longK xs cs ks gs k
  | 0, _ => Int.le_refl _
  | k + 1, h => by
    have h1 := longK_le k (fun j hj => h j (by omega))
    have h2 := h k (by omega)
    rw [longK_gway, longK_gway]; omega
theorem longK_far {xs cs ks gs : List Int} : ∀ k j, j < k → gway xs cs ks gs j ≤ longK xs cs ks gs k
  | 0, j, h => by omega
  | k + 1, j, h => by
    rw [longK_gway]
    by_cases e : j = k
    · subst e; omega
    · have := longK_far (xs := xs) (cs := cs) (ks := ks) (gs := gs) k j (by omega); omega
theorem longK_some {xs cs ks gs : List Int} : ∀ k, (∀ j, j < k → 0 ≤ gway xs cs ks gs j) → k = 0 ∨ ∃ j, j < k ∧ gway xs cs ks gs j = longK xs cs ks gs k
  | 0, _ => .inl rfl
  | k + 1, h => by
    right
    have hk := h k (by omega)
    rw [longK_gway]
    by_cases e : longK xs cs ks gs k ≤ gway xs cs ks gs k
    · exact ⟨k, by omega, by omega⟩
    · rcases longK_some k (fun j hj => h j (by omega)) with h0 | ⟨j, hj, hx⟩
      · subst h0
        have : longK xs cs ks gs 0 = 0 := rfl
        omega
      · exact ⟨j, by omega, by omega⟩
/-- Whether one of the first ways is x. -/
def someB (xs cs ks gs : List Int) (n3 : Nat) (x : Int) : Nat → Bool
  | 0 => decide (n3 = 0)
  | k + 1 => someB xs cs ks gs n3 x k || decide (gway xs cs ks gs k = x)
theorem someB_true {xs cs ks gs : List Int} {n3 : Nat} {x : Int} : ∀ k, (n3 = 0 ∨ ∃ j, j < k ∧ gway xs cs ks gs j = x) → someB xs cs ks gs n3 x k = true
  | 0, h => by
    rcases h with h | ⟨j, hj, _⟩
    · simp [someB, h]
    · omega
  | k + 1, h => by
    rcases h with h | ⟨j, hj, hx⟩
    · simp [someB, someB_true (xs := xs) (cs := cs) (ks := ks) (gs := gs) (x := x) k (.inl h)]
    · by_cases e : j = k
      · subst e; simp [someB, hx]
      · simp [someB, someB_true (n3 := n3) k (.inr ⟨j, by omega, hx⟩)]

/-- What the law asks of the longest way. -/
theorem longest_facts {xs cs ks gs nl : List Int} {n1 n2 n3 : Nat} {x : Int} (h1 : xs.length = n1) (h2 : cs.length = n2) (h3 : ks.length = n3) (hx : longI xs cs ks gs = x) (hn : nearI xs cs ks = nl) :
    x = -1 ∨ (0 ≤ x ∧ grB xs cs ks = true ∧ gvB gs n2 n3 = true ∧ nl.length = n3 ∧ someB xs cs ks gs n3 x n3 = true ∧ 0 ≤ longI xs cs ks nl ∧ longI xs cs ks nl ≤ x) := by
  cases hg : grB xs cs ks
  · left; rw [← hx, longI_no (by simp [hg])]
  · cases hv : gvB gs n2 n3
    · left; rw [← hx, longI_no (by rw [h2, h3]; simp [hv])]
    · right
      obtain ⟨q1, q2, q3, q4⟩ := grB_iff.1 hg
      rw [h1] at q3 q4
      obtain ⟨hl, hf⟩ := near_facts (nl := nl) hg h2 h3 hn
      obtain ⟨ha, hgl⟩ := gvB_iff.1 hv
      have hgv : gvB nl n2 n3 = true := gvB_iff.2 ⟨allB_yes hl fun j hj => by obtain ⟨i, hi, e, _⟩ := hf j hj; rw [e]; omega, hl⟩
      have e1 : x = longK xs cs ks gs n3 := by rw [← hx]; exact longI_yes hg h2 h3 hv
      have e2 : longI xs cs ks nl = longK xs cs ks nl n3 := longI_yes hg h2 h3 hgv
      have hw : ∀ j, j < n3 → 0 ≤ gway xs cs ks gs j := fun j hj => by
        have a1 := allB_at ha hgl hj
        have a2 := allB_at (lfB_iff.1 q4).1 h3 hj
        obtain ⟨i, hi⟩ := Int.eq_ofNat_of_zero_le a1.1
        rw [hi] at a1
        have a3 := allB_at (lfB_iff.1 q3).1 h2 (show i < n2 by omega)
        unfold gway
        rw [hi, Int.toNat_natCast]
        obtain ⟨a, ha'⟩ := Int.eq_ofNat_of_zero_le a3.1
        obtain ⟨b, hb'⟩ := Int.eq_ofNat_of_zero_le a2.1
        rw [ha'] at a3
        rw [hb'] at a2
        rw [ha', hb']
        exact (wayI_in q1 h1 (by omega) (by omega)).1
      refine ⟨by rw [e1]; exact longK_nonneg _ _ _ _ _, rfl, rfl, hl, ?_, by rw [e2]; exact longK_nonneg _ _ _ _ _, ?_⟩
      · rw [e1]
        exact someB_true _ (longK_some _ hw)
      · rw [e1, e2]
        refine longK_le _ fun j hj => ?_
        obtain ⟨i, hi, e, hb⟩ := hf j hj
        have a1 := allB_at ha hgl hj
        obtain ⟨p, hp⟩ := Int.eq_ofNat_of_zero_le a1.1
        rw [hp] at a1
        have := (hb p (by omega)).1
        unfold gway
        rw [e, hp, Int.toNat_natCast, Int.toNat_natCast]
        omega

set_option maxRecDepth 100000 in
set_option maxHeartbeats 4000000 in
theorem walk_FnGroupLongest (A : Option Addr) (n c : Nat) (g : Nat → Int) (w : World) (hB : Bytes w A n c g) : Calls Try.prog 8 #[.slice A n c] w fun e w' => e = .returned (.bool true) ∧ Below w.heap.size w w' := by
  by_cases hn : 1048576 < n
  · have hn' : (1048576 : Int) < (n : Int) := by omega
    go_enter Try.func8, Try.ntmps8
    go_wp2
    go_ret
    exact ⟨rfl, by (repeat' (first | (with_reducible exact Below.refl _ _) | (with_reducible assumption) | (with_reducible exact bundrew (by assumption)) | (with_reducible refine balloc ?_ _) | (with_reducible refine bset ?_ _ ?_ _) | (with_reducible refine Below.drew ?_) | (with_reducible refine bdrewN ?_ _) | (with_reducible refine bvia (by assumption) ?_) | (with_reducible refine Below.trans ?_ (by assumption)) | omega | (simp; omega) | (simp; done)))⟩
  · have hn' : (n : Int) ≤ 1048576 := by omega
    go_enter Try.func8, Try.ntmps8
    go_wp2_with fail
    refine (drawGroupLongest_any A n c g _ hB).mono ?_
    rintro x wd ⟨v, u, t, s, xs, cs, ks, gs, rfl, ⟨A1, c1, rfl, -, -, I1⟩, ⟨A2, c2, rfl, -, -, I2⟩, ⟨A3, c3, rfl, -, -, I3⟩, ⟨A4, c4, rfl, -, -, I4⟩, l1, l2, l3, l4, hbd⟩
    obtain ⟨n1, hn1⟩ : ∃ n1, xs.length = n1 := ⟨_, rfl⟩
    obtain ⟨n2, hn2⟩ : ∃ n2, cs.length = n2 := ⟨_, rfl⟩
    obtain ⟨n3, hn3⟩ : ∃ n3, ks.length = n3 := ⟨_, rfl⟩
    obtain ⟨n4, hn4⟩ : ∃ n4, gs.length = n4 := ⟨_, rfl⟩
    obtain ⟨nl, hnl⟩ : ∃ nl, nearI xs cs ks = nl := ⟨_, rfl⟩
    obtain ⟨x, hx⟩ : ∃ x, longI xs cs ks gs = x := ⟨_, rfl⟩
    have hfacts := longest_facts hn1 hn2 hn3 hx hnl
    rw [hn1] at I1 l1 ⊢
    rw [hn2] at I2 l2 ⊢
    rw [hn3] at I3 l3 ⊢
    rw [hn4] at I4 l4 ⊢
    have LI : ∀ w, Ints w A1 n1 xs → Ints w A2 n2 cs → Ints w A3 n3 ks → Ints w A4 n4 gs → Calls Try.prog 19 #[.slice A1 n1 c1, .slice A2 n2 c2, .slice A3 n3 c3, .slice A4 n4 c4] w fun e w' => e = .returned (.int .i64 x) ∧ Below w.heap.size w w' := fun w h h' h2 h3 => (lg_impl A1 n1 c1 xs A2 n2 c2 cs A3 n3 c3 ks A4 n4 c4 gs w h h' h2 h3).mono fun _ _ h => by rw [hx] at h; exact qb h
    have LS : ∀ w, Ints w A1 n1 xs → Ints w A2 n2 cs → Ints w A3 n3 ks → Ints w A4 n4 gs → Calls Try.prog 28 #[.slice A1 n1 c1, .slice A2 n2 c2, .slice A3 n3 c3, .slice A4 n4 c4] w fun e w' => e = .returned (.int .i64 x) ∧ Below w.heap.size w w' := fun w h h' h2 h3 => (lg_spec A1 n1 c1 xs A2 n2 c2 cs A3 n3 c3 ks A4 n4 c4 gs w h h' h2 h3).mono fun _ _ h => by rw [hx] at h; exact qb h
    have NI : ∀ w, Ints w A1 n1 xs → Ints w A2 n2 cs → Ints w A3 n3 ks → Calls Try.prog 24 #[.slice A1 n1 c1, .slice A2 n2 c2, .slice A3 n3 c3] w (ListOut w nl) := fun w h h' h2 => by
      rw [← hnl]; exact near_impl A1 n1 c1 xs A2 n2 c2 cs A3 n3 c3 ks w h h' h2 (by omega)
    obtain ⟨y, hy⟩ : ∃ y, longI xs cs ks nl = y := ⟨_, rfl⟩
    have LN : ∀ (A : Option Addr) (n c : Nat) (w : World), Ints w A1 n1 xs → Ints w A2 n2 cs → Ints w A3 n3 ks → Ints w A n nl → Calls Try.prog 19 #[.slice A1 n1 c1, .slice A2 n2 c2, .slice A3 n3 c3, .slice A n c] w fun e w' => e = .returned (.int .i64 y) ∧ Below w.heap.size w w' := fun A n c w h h' h2 h3 => (lg_impl A1 n1 c1 xs A2 n2 c2 cs A3 n3 c3 ks A n c nl w h h' h2 h3).mono fun _ _ h => by rw [hy] at h; exact qb h
    rw [hy] at hfacts
    have HLI := Lib.hid LI
    have HLS := Lib.hid LS
    have HNI := Lib.hid NI
    have HLN := Lib.hid LN
    have n20 : 0 ≤ (n2 : Int) := by omega
    have HN4 := Lib.hid hn4
    clear LI LS NI LN hnl hn1 hn2 hn3 hn4 hx hy
    go_wp2_with fail
    refine (HLI.out _ I1 I2 I3 I4).mono ?_
    rintro e w1 ⟨rfl, b1⟩
    have K1 := I1.below b1
    have K2 := I2.below b1
    have K3 := I3.below b1
    have K4 := I4.below b1
    have T1 : Below w.heap.size w w1 := bvia b1 hbd
    go_wp2_with fail
    refine (HLS.out _ K1 K2 K3 K4).mono ?_
    rintro e w2 ⟨rfl, b2⟩
    have J1 := Lib.hid (K1.below b2)
    have J2 := Lib.hid (K2.below b2)
    have J3 := Lib.hid (K3.below b2)
    have J4 := Lib.hid (K4.below b2)
    have T2 : Below w.heap.size w w2 := bvia b2 T1
    clear I1 I2 I3 I4 K1 K2 K3 K4 HLI HLS
    rcases hfacts with rfl | ⟨x0, hg, hv, hnl, hsome, y0, yx⟩
    · go_wp2_with (go_at_call 18; refine (alive_any _).mono ?_; rintro x w5 ⟨rfl, b5⟩)
      go_ret
      exact ⟨rfl, bvia b5 T2⟩
    · obtain ⟨ha, hgl⟩ := gvB_iff.1 hv
      have HA := Lib.hid ha
      have h43 : n4 = n3 := by rw [← HN4.out]; exact hgl
      subst h43
      have HNL := Lib.hid hnl
      have hd0 : ((n4 : Int) == 0) = decide (n4 = 0) := by rw [Bool.eq_iff_iff]; simp
      have HS0 : Hid (someB xs cs ks gs n4 x 0 = decide (n4 = 0)) := Lib.hid rfl
      obtain ⟨s0, hs0⟩ : ∃ s0, decide (n4 = 0) = s0 := ⟨_, rfl⟩
      rw [hs0] at hd0 HS0
      have HSome := Lib.hid hsome
      clear hs0 hsome ha hgl hv hg hnl
      go_wp2_with fail
      go_loopw [8, 9] (fun b i wr => (∃ m, wr = w2.drewN m) ∧ ∃ k : Nat, i = .int .i64 k ∧ k ≤ n4 ∧ b = .bool (someB xs cs ks gs n4 x k)) (fun _ i _ => n4 - (intOf i).toNat)
      case atStart => exact ⟨⟨0, rfl⟩, 0, rfl, by omega, by rw [HS0.out]⟩
      case round =>
        clear hd0
        obtain ⟨⟨m, hm⟩, k, rfl, hk, rfl⟩ := hrel
        have Q1 : Hid (Ints wr A1 n1 xs) := Lib.hid (by rw [hm]; exact J1.out.drewN m)
        have Q2 : Hid (Ints wr A2 n2 cs) := Lib.hid (by rw [hm]; exact J2.out.drewN m)
        have Q3 : Hid (Ints wr A3 n4 ks) := Lib.hid (by rw [hm]; exact J3.out.drewN m)
        have Q4 : Hid (Ints wr A4 n4 gs) := Lib.hid (by rw [hm]; exact J4.out.drewN m)
        have HM := Lib.hid hm
        clear hm
        by_cases hlt : k < n4
        · have hlt' : (k : Int) < (n4 : Int) := by omega
          have hsucc : someB xs cs ks gs n4 x (k + 1) = (someB xs cs ks gs n4 x k || decide (gway xs cs ks gs k = x)) := rfl
          have hg1 := allB_at HA.out HN4.out hlt
          have hgw : gway xs cs ks gs k = wayI xs (cs[(gs[k]?.getD 0).toNat]?.getD 0) (ks[k]?.getD 0) := rfl
          obtain ⟨u, hu⟩ : ∃ u, gs[k]?.getD 0 = u := ⟨_, rfl⟩
          rw [hu] at hg1 hgw
          obtain ⟨j, rfl⟩ := Int.eq_ofNat_of_zero_le hg1.1
          rw [Int.toNat_natCast] at hgw
          have hj : j < n2 := by omega
          have hj' : (j : Int) < (n2 : Int) := by omega
          obtain ⟨p2, off2, rfl, hb2, hcc2⟩ := Q2.out.2.2 (by omega)
          obtain ⟨p3, off3, rfl, hb3, hcc3⟩ := Q3.out.2.2 (by omega)
          obtain ⟨p4, off4, rfl, hb4, hcc4⟩ := Q4.out.2.2 (by omega)
          have e2 := hcc2 j hj
          have e3 := hcc3 k hlt
          have e4 := hcc4 k hlt
          rw [hu] at e4
          obtain ⟨f, hf⟩ : ∃ f, ks[k]?.getD 0 = f := ⟨_, rfl⟩
          rw [hf] at e3 hgw
          obtain ⟨a, ha⟩ : ∃ a, cs[j]?.getD 0 = a := ⟨_, rfl⟩
          rw [ha] at e2 hgw
          rw [hgw] at hsucc
          obtain ⟨z, hz⟩ : ∃ z, wayI xs a f = z := ⟨_, rfl⟩
          have W1 := fun w hx => way_impl A1 n1 c1 xs a f w hx
          rw [hz] at W1 hsucc
          have HW1 := Lib.hid W1
          clear hcc2 hcc3 hcc4 hu hf ha hz hgw W1 hg1
          cases hsb : someB xs cs ks gs n4 x k
          · rw [hsb] at hsucc
            have HSU : Hid (someB xs cs ks gs n4 x (k + 1) = decide (z = x)) := Lib.hid (by rw [hsucc]; simp)
            have hzx : (z == x) = decide (z = x) := by rw [Bool.eq_iff_iff]; simp
            obtain ⟨b, hb⟩ : ∃ b, decide (z = x) = b := ⟨_, rfl⟩
            rw [hb] at HSU hzx
            clear hsucc hsb hb
            go_wp2_with fail
            go_quiet ((go_at_call 26; exact Calls.quiet_of (Qt.of (HW1.out _ (Q1.out.drewN _)))))
            go_wp2
            exact ⟨⟨⟨_, by rw [HM.out]; exact World.drewN_drewN _ _ _⟩, k + 1, by first | go_num | (congr 1; omega), by omega, by rw [HSU.out]⟩, by simp [intOf]; omega⟩
          · rw [hsb] at hsucc
            have HSU : Hid (someB xs cs ks gs n4 x (k + 1) = true) := Lib.hid (by rw [hsucc]; simp)
            clear hsucc hsb
            go_wp2_with fail
            go_quiet (fail)
            go_wp2
            exact ⟨⟨⟨_, by rw [HM.out]; exact World.drewN_drewN _ _ _⟩, k + 1, by first | go_num | (congr 1; omega), by omega, by rw [HSU.out]⟩, by simp [intOf]; omega⟩
        · obtain rfl : k = n4 := by omega
          rw [HSome.out]
          have TR : Below w.heap.size w wr := by rw [HM.out]; exact bdrewN T2 _
          go_wp2_with fail
          refine (HNI.out _ Q1.out Q2.out Q3.out).mono ?_
          rintro e w6 ⟨v6, rfl, o6, b6⟩
          have R1 := Q1.out.below b6
          have R2 := Q2.out.below b6
          have R3 := Q3.out.below b6
          obtain ⟨B6, d6, rfl⟩ := o6.shape
          have R6 := o6.ints.2
          clear Q1 Q2 Q3 Q4
          go_wp2_with fail
          refine (HLN.out _ _ _ _ R1 R2 R3 R6).mono ?_
          rintro e w7 ⟨rfl, b7⟩
          go_wp2
          go_ret
          exact ⟨rfl, bvia b7 (bvia b6 TR)⟩
end Go.Proofs.Ytmekbfjeljfbpaa
