/- The walk of the law FnWaitPlaces. -/
import Derived.Test.YtbjnkjookokjaaaWaitL3
import Derived.Test.YtbjnkjookokjaaaSame
namespace Go.Proofs.Ytbjnkjookokjaaa
open Go.ChangeShapes Go.WideShapes Go.ChangeAt Go.RowKit

theorem own_nil {w : World} {base : Nat} {v : Value} {xs : List Int} (h : OwnI w base v ([] ++ xs)) : OwnI w base v xs := h
theorem OwnI.intsN {w : World} {base : Nat} {A : Option Addr} {n c : Nat} {xs : List Int} (h : OwnI w base (.slice A n c) xs) (hn : xs.length = n) : Ints w A n xs := by
  have := h.ints.2
  rwa [hn] at this
theorem OwnI.some {w : World} {base : Nat} {v : Value} {xs : List Int} (h : OwnI w base v xs) (h1 : 1 ≤ xs.length) : ∃ g c, v = .slice (.some ⟨g, 0, none⟩) xs.length c ∧ base ≤ g := by
  rcases h.form with ⟨_, h2⟩ | ⟨g, cap, cur, e1, hg, _⟩
  · rw [h2] at h1; simp at h1
  · exact ⟨g, cap, e1, hg⟩
/-- An ascending list ascends. -/
theorem ascend_any (A : Option Addr) (n c : Nat) (xs : List Int) (w : World) (h : Ints w A n xs) (ha : ∀ i, i + 1 < n → xs[i]?.getD 0 < xs[i + 1]?.getD 0) :
    Calls Try.prog 30 #[.slice A n c] w (Qt w (.bool true)) := by
  obtain ⟨hl, hm, hc⟩ := h
  have HC := Lib.hid hc
  have HA := Lib.hid ha
  have hn' : (n : Int) ≤ 9223372036854775807 := by omega
  clear hl hc ha
  go_enter Try.func30, Try.ntmps30
  go_wp2
  go_loopw [3] (fun i wr => ∃ k : Nat, k ≤ n ∧ i = .int .i64 ((k : Int) + 1) ∧ ∃ m, wr = w.drewN m) (fun i _ => n + 1 - (intOf i).toNat)
  case atStart => exact ⟨0, Nat.zero_le _, rfl, 0, rfl⟩
  case round =>
    obtain ⟨k, hk, rfl, m, rfl⟩ := hrel
    by_cases hlt : k + 1 < n
    · obtain ⟨b, off, rfl, hb, hcc⟩ := HC.out (by omega)
      have e0 := hcc k (by omega)
      have e1 := hcc (k + 1) hlt
      have e2 := HA.out k hlt
      obtain ⟨p, hp⟩ : ∃ p, xs[k]?.getD 0 = p := ⟨_, rfl⟩
      obtain ⟨q, hq⟩ : ∃ q, xs[k + 1]?.getD 0 = q := ⟨_, rfl⟩
      rw [hp] at e0 e2
      rw [hq] at e1 e2
      have hlt' : (k : Int) + 1 < (n : Int) := by omega
      clear hcc hp hq
      go_wp2
      try go_quiet (fail)
      all_goals try go_wp2
      all_goals exact ⟨⟨k + 1, by omega, by first | go_num | (congr 1; omega), _, rfl⟩, by simp [intOf]; omega⟩
    · have hlt' : (n : Int) ≤ (k : Int) + 1 := by omega
      go_wp2
      go_ret
      exact qt_drew _ _ _

set_option maxRecDepth 100000 in
set_option maxHeartbeats 4000000 in
theorem walk_FnWaitPlaces (A : Option Addr) (n c : Nat) (g : Nat → Int) (w : World) (hB : Bytes w A n c g) : Calls Try.prog 10 #[.slice A n c] w fun e w' => e = .returned (.bool true) ∧ Below w.heap.size w w' := by
  by_cases hn : 1048576 < n
  · have hn' : (1048576 : Int) < (n : Int) := by omega
    go_enter Try.func10, Try.ntmps10
    go_wp2
    go_ret
    exact ⟨rfl, by (repeat' (first | (with_reducible exact Below.refl _ _) | (with_reducible assumption) | (with_reducible exact bundrew (by assumption)) | (with_reducible refine balloc ?_ _) | (with_reducible refine bset ?_ _ ?_ _) | (with_reducible refine Below.drew ?_) | (with_reducible refine bdrewN ?_ _) | (with_reducible refine bvia (by assumption) ?_) | (with_reducible refine Below.trans ?_ (by assumption)) | omega | (simp; omega) | (simp; done)))⟩
  · have hn' : (n : Int) ≤ 1048576 := by omega
    go_enter Try.func10, Try.ntmps10
    go_wp2_with fail
    refine (drawWaitPlaces_any A n c g _ hB).mono ?_
    rintro x wd ⟨v, u, xs, os, a, rfl, ⟨A1, c1, rfl, -, -, I1⟩, ⟨A2, c2, rfl, -, -, I2⟩, l1, l2, a0, a1, hbd⟩
    obtain ⟨n1, hn1⟩ : ∃ n1, xs.length = n1 := ⟨_, rfl⟩
    obtain ⟨n2, hn2⟩ : ∃ n2, os.length = n2 := ⟨_, rfl⟩
    obtain ⟨nl, hnl⟩ : ∃ nl, nums (placesT xs os a) = nl := ⟨_, rfl⟩
    have hfacts := fun ho hc => places_facts (nl := nl) hn1 ho hc hnl
    have hempty : ¬ (oftB xs os = true ∧ 1 ≤ a) → nl = [] := fun h => by rw [placesT_no h] at hnl; rw [← hnl]; rfl
    have hl8 : nl.length ≤ 8 := by rw [← hnl, nums_length]; exact placesT_length xs os a
    have LI : ∀ w, Ints w A1 n1 xs → Ints w A2 n2 os → Calls Try.prog 18 #[.slice A1 n1 c1, .slice A2 n2 c2, .int .i64 a] w (ListOut w nl) := fun w h h' => (places_impl A1 n1 c1 xs A2 n2 c2 os a w h h').mono fun e w' hx => by
      obtain ⟨v, q1, q2, q3⟩ := hx; exact ⟨v, q1, by rw [← hnl]; exact q2, q3⟩
    have LS : ∀ w, Ints w A1 n1 xs → Ints w A2 n2 os → Calls Try.prog 17 #[.slice A1 n1 c1, .slice A2 n2 c2, .int .i64 a] w (ListOut w nl) := fun w h h' => (places_spec A1 n1 c1 xs A2 n2 c2 os a w h h').mono fun e w' hx => by
      obtain ⟨v, q1, q2, q3⟩ := hx; exact ⟨v, q1, by rw [← hnl]; exact q2, q3⟩
    have OS : ∀ w, Ints w A1 n1 xs → Ints w A2 n2 os → Calls Try.prog 11 #[.slice A1 n1 c1, .slice A2 n2 c2] w fun e w' => e = .returned (.bool (oftB xs os)) ∧ Below w.heap.size w w' := fun w h h' => (oft_spec A1 n1 c1 xs A2 n2 c2 os w h h').mono fun _ _ h => qb h
    have HLI := Lib.hid LI
    have HLS := Lib.hid LS
    rw [hn1] at I1 l1 ⊢
    rw [hn2] at I2 l2 ⊢
    have n0 : 0 ≤ (n1 : Int) := by omega
    clear LI LS hnl hn1 hn2
    go_wp2_with fail
    refine (HLI.out _ I1 I2).mono ?_
    rintro e w1 ⟨v1, rfl, o1, b1⟩
    have K1 := I1.below b1
    have K2 := I2.below b1
    obtain ⟨B1, d1, rfl⟩ := o1.shape
    have T1 : Below w.heap.size w w1 := bvia b1 hbd
    go_wp2_with fail
    refine (HLS.out _ K1 K2).mono ?_
    rintro x w2 ⟨v2, rfl, o2, b2⟩
    have J1 := K1.below b2
    have J2 := K2.below b2
    obtain ⟨B2, d2, rfl⟩ := o2.shape
    have T2 : Below w.heap.size w w2 := bvia b2 T1
    have o1' := o1.below b2
    clear I1 I2 K1 K2 o1 HLI HLS
    go_wp2_with fail
    refine (same_any _ _ _ _ _ nl _ o1'.ints.2 o2.ints.2).mono ?_
    rintro x w3 hq
    obtain ⟨rfl, b3⟩ := qb hq
    clear hq o2
    have S1 := J1.below b3
    have S2 := J2.below b3
    have o3 := o1'.below b3
    have T3 : Below w.heap.size w w3 := bvia b3 T2
    clear J1 J2 o1'
    cases ho : oftB xs os
    · rw [ho] at OS
      obtain rfl := hempty (by simp [ho])
      have HOS := Lib.hid OS
      clear OS hfacts hempty ho
      go_wp2_with (first
        | (go_at_call 11; refine (HOS.out _ S1 S2).mono ?_; rintro x w4 ⟨rfl, b4⟩)
        | (go_at_call 25; refine (alive_any _).mono ?_; rintro x w5 ⟨rfl, b5⟩))
      go_ret
      exact ⟨rfl, bvia b5 (bvia b4 T3)⟩
    · rw [ho] at OS
      have HOS := Lib.hid OS
      by_cases hc : a < 1
      · obtain rfl := hempty (by omega)
        clear OS hfacts hempty ho
        go_wp2_with (first
          | (go_at_call 11; refine (HOS.out _ S1 S2).mono ?_; rintro x w4 ⟨rfl, b4⟩)
          | (go_at_call 25; refine (alive_any _).mono ?_; rintro x w5 ⟨rfl, b5⟩))
        go_ret
        exact ⟨rfl, bvia b5 (bvia b4 T3)⟩
      · have hc' : 1 ≤ a := by omega
        obtain ⟨f1, f2, f3, f4, f5⟩ := hfacts ho hc'
        obtain ⟨x, hx⟩ : ∃ x, wcI xs os nl = x := ⟨_, rfl⟩
        obtain ⟨m, hm⟩ : ∃ m, nl.length = m := ⟨_, rfl⟩
        rw [hx] at f4 f5
        rw [hm] at f1 f2 f3 f5 hl8 o3 ⊢
        have WC : ∀ (A : Option Addr) (c m : Nat) (w : World), Ints w A1 n1 xs → Ints w A2 n2 os → Ints w A m nl → Calls Try.prog 16 #[.slice A1 n1 c1, .slice A2 n2 c2, .slice A m c] w fun e w' => e = .returned (.int .i64 x) ∧ Below w.heap.size w w' := fun A c m w h h' h2 => (wc_impl A1 n1 c1 xs A2 n2 c2 os A m c _ w h h' h2).mono fun _ _ h => by
          rw [hx] at h; exact qb h
        have WM : ∀ (k f : Nat) (A : Option Addr) (c j : Nat) (w : World), k < m → f < n1 → Ints w A1 n1 xs → Ints w A2 n2 os → Ints w A j (nl.set k (f : Int)) → Calls Try.prog 16 #[.slice A1 n1 c1, .slice A2 n2 c2, .slice A j c] w fun e w' => ∃ y : Int, e = .returned (.int .i64 y) ∧ x ≤ y ∧ Below w.heap.size w w' := fun k f A c j w hk hf h h' h2 => (wc_impl A1 n1 c1 xs A2 n2 c2 os A j c _ w h h' h2).mono fun _ _ h => by
          obtain ⟨q1, q2⟩ := qb h
          exact ⟨_, q1, f5 k f hk hf, q2⟩
        have HWC := Lib.hid WC
        have HWM := Lib.hid WM
        have HASC := Lib.hid f3
        have HLm := Lib.hid hm
        have m1' : 1 ≤ (m : Int) := by omega
        clear WC WM OS hfacts hempty ho f3 f5 hx hm
        go_wp2_with (go_at_call 11; refine (HOS.out _ S1 S2).mono ?_; rintro x w4 ⟨rfl, b4⟩)
        have R1 := S1.below b4
        have R2 := S2.below b4
        have o4 := o3.below b4
        have T4 : Below w.heap.size w w4 := bvia b4 T3
        have P4 := o4.intsN HLm.out
        have C4 := HWC.out B1 d1 m w4 R1 R2 P4
        refine C4.mono ?_
        rintro x w5 ⟨rfl, b5⟩
        have Q1 := Lib.hid (R1.below b5)
        have Q2 := Lib.hid (R2.below b5)
        have o5 := o4.below b5
        have T5 : Below w.heap.size w w5 := bvia b5 T4
        clear S1 S2 R1 R2 o3 o4
        have hA : B1 = none → d1 = 0 := by
          obtain ⟨A', c', e', ⟨_, q⟩, _⟩ := o5.sl
          injection e' with e1 e2 e3
          rw [e1, e3]; exact q
        have lnl : nl.length ≤ 9 := by rw [HLm.out]; omega
        go_wp2_with fail
        go_loopw [8] (fun i wr => ∃ k : Nat, i = .int .i64 k ∧ k ≤ m ∧ Below w5.heap.size w5 wr) (fun i _ => m - (intOf i).toNat)
        case atStart => exact ⟨0, rfl, by omega, Below.refl _ _⟩
        case round =>
          obtain ⟨k, rfl, hk, hb⟩ := hrel
          by_cases hlt : k < m
          · have hlt' : (k : Int) < (m : Int) := by omega
            go_wp2
            go_loopw [9] (fun i ws => ∃ f : Nat, i = .int .i64 f ∧ f ≤ n1 ∧ Below w5.heap.size w5 ws) (fun i _ => n1 - (intOf i).toNat)
            case atStart => exact ⟨0, rfl, by omega, hb⟩
            case round =>
              clear hb
              obtain ⟨f, rfl, hf, hb⟩ := hrel
              by_cases hlf : f < n1
              · have hlf' : (f : Int) < (n1 : Int) := by omega
                have hbs := hb.size
                have o6 := Lib.hid (o5.below hb)
                have R1 := Lib.hid (Q1.out.below hb)
                have R2 := Lib.hid (Q2.out.below hb)
                have BA : Below wr.heap.size wr (wr.alloc (.cells #[] 3)) := (Below.refl _ wr).alloc (Nat.le_refl _) _
                have Hz := OwnI.made (w := wr.alloc (.cells #[] 3)) (base := wr.heap.size) (g := wr.heap.size) (xs := []) (Nat.le_refl _) (heap_alloc_new wr _) (by unfold maxLen; decide)
                go_wp2_with (at_builtin; refine app_ints rfl _ _ rfl wr.heap.size _ [] B1 m d1 nl rfl rfl Hz ((o6.out.below BA).intsN HLm.out) hA ?_ ?_ ?_; (focus (first | (go_simp; done) | (simp; done) | omega | (simp; omega))); (focus (first | (go_simp; done) | (simp; done) | omega | (simp; omega))); intro v7 w7 h7 g7; have b7 : Below wr.heap.size wr w7 := BA.trans (grown_below Hz (by simp) g7); have z7 := b7.size; have h7' := own_nil h7; obtain ⟨G7, C7, e7, hg7⟩ := h7'.some (by rw [HLm.out]; omega); rw [HLm.out] at e7; subst e7; have p7 := h7'.at_ (i := k) (by rw [HLm.out]; omega); have p70 := p7.1; have p71 := p7.2.1; have H7 := Lib.hid h7'; clear h7 h7' g7 p7 Hz)
                have b8 : Below wr.heap.size wr (w7.setCell ⟨G7, k, none⟩ (.int .i64 (f : Int))) := b7.setCell hg7 _
                have P8 := (H7.out.put (i := k) (f : Int) (by rw [HLm.out]; omega)).intsN (by rw [List.length_set]; exact HLm.out)
                refine (HWM.out k f _ _ _ _ hlt hlf (R1.out.below b8) (R2.out.below b8) P8).mono ?_
                rintro x w9 ⟨y9, rfl, hy9, b9⟩
                have T9 : Below w5.heap.size w5 w9 := hb.trans (below_le hbs (b8.trans (below_le b8.size b9)))
                clear b8 P8 b7 H7
                go_wp2_with fail
                exact ⟨⟨f + 1, by first | go_num | (congr 1; omega), by omega, T9⟩, by simp [intOf]; omega⟩
              · obtain rfl : f = n1 := by omega
                go_wp2
                exact ⟨⟨k + 1, by first | go_num | (congr 1; omega), by omega, hb⟩, by simp [intOf]; omega⟩
          · obtain rfl : k = m := by omega
            have o8 := o5.below hb
            have T8 : Below w.heap.size w wr := bvia hb T5
            go_wp2_with (go_at_call 30; refine (ascend_any _ _ _ nl _ (o8.intsN HLm.out) HASC.out).mono ?_; rintro x w9 hq9; obtain ⟨rfl, b9⟩ := qb hq9)
            go_ret
            exact ⟨rfl, bvia b9 T8⟩
end Go.Proofs.Ytbjnkjookokjaaa
