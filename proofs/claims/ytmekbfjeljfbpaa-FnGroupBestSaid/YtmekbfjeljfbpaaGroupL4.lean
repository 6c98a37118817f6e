/- The walk of the law FnGroupBest. -/
import Derived.Test.YtmekbfjeljfbpaaGroupL3
import Derived.Test.YtmekbfjeljfbpaaSame
namespace Go.Proofs.Ytmekbfjeljfbpaa
open Go.ChangeShapes Go.WideShapes Go.ChangeAt Go.RowKit

theorem more_at (cs : List Int) {c : Nat} (h : c < cs.length) : (cs ++ [0])[c]?.getD 0 = cs[c]?.getD 0 := by rw [List.getElem?_append_left h]
theorem sumK_more (xs cs ks gs : List Int) (n n3 : Nat) : ∀ k, k ≤ cs.length → sumK xs (cs ++ [0]) ks gs n n3 k = sumK xs cs ks gs n n3 k
  | 0, _ => rfl
  | k + 1, h => by
    simp only [sumK]
    rw [sumK_more xs cs ks gs n n3 k (by omega), more_at cs (by omega)]
theorem visK_none {ks gs : List Int} {n3 c n : Nat} (h : ∀ j, j < n3 → gs[j]?.getD 0 ≠ (c : Int)) : visK ks gs n3 c n = [] := by
  unfold visK
  rw [List.filter_eq_nil_iff]
  intro f _
  rw [hereB_iff]
  rintro ⟨j, h1, h2, _⟩
  exact h j h1 h2
/-- With one car more it is not worse. -/
theorem more_facts {xs cs ks : List Int} {n1 n2 n3 : Nat} (h1 : xs.length = n1) (h2 : cs.length = n2) (h3 : ks.length = n3) (hg : grB xs cs ks = true) (hn : n2 < 3) :
    gsI xs (cs ++ [0]) ks (nums (gbL xs (cs ++ [0]) ks)) ≤ gsI xs cs ks (nums (gbL xs cs ks)) := by
  obtain ⟨q1, q2, q3, q4⟩ := grB_iff.1 hg
  obtain ⟨c1, c2⟩ := lfB_iff.1 q3
  have hf := (fv_open q1).1
  have h2' : (cs ++ [0]).length = n2 + 1 := by simp [h2]
  have hg' : grB xs (cs ++ [0]) ks = true := by
    refine grB_iff.2 ⟨q1, by simp, lfB_iff.2 ⟨allB_yes h2' fun k hk => ?_, by rw [h2']; omega⟩, q4⟩
    by_cases e : k < n2
    · rw [more_at cs (by omega)]; exact allB_at c1 h2 e
    · have e' : k = cs.length := by omega
      rw [e']
      simp
      omega
  obtain ⟨b1, b2⟩ := best_facts h2 h3 hg
  obtain ⟨ba, bl⟩ := gvB_iff.1 b1
  obtain ⟨m1, m2⟩ := best_facts h2' h3 hg'
  have hv' : gvB (nums (gbL xs cs ks)) (n2 + 1) n3 = true := gvB_iff.2 ⟨allB_yes bl fun k hk => by
    have := allB_at ba bl hk
    omega, bl⟩
  refine Int.le_trans (m2 _ hv') ?_
  rw [gsI_yes hg' h1 h2' h3 hv', gsI_yes hg h1 h2 h3 b1]
  simp only [sumK]
  rw [sumK_more xs cs ks _ n1 n3 n2 (by omega), visK_none (fun j hj => by have := allB_at ba bl hj; omega), TP.short_nil]
  omega

set_option maxRecDepth 100000 in
set_option maxHeartbeats 4000000 in
theorem walk_FnGroupBest (A : Option Addr) (n c : Nat) (g : Nat → Int) (w : World) (hB : Bytes w A n c g) : Calls Try.prog 6 #[.slice A n c] w fun e w' => e = .returned (.bool true) ∧ Below w.heap.size w w' := by
  by_cases hn : 1048576 < n
  · have hn' : (1048576 : Int) < (n : Int) := by omega
    go_enter Try.func6, Try.ntmps6
    go_wp2
    go_ret
    exact ⟨rfl, by (repeat' (first | (with_reducible exact Below.refl _ _) | (with_reducible assumption) | (with_reducible exact bundrew (by assumption)) | (with_reducible refine balloc ?_ _) | (with_reducible refine bset ?_ _ ?_ _) | (with_reducible refine Below.drew ?_) | (with_reducible refine bdrewN ?_ _) | (with_reducible refine bvia (by assumption) ?_) | (with_reducible refine Below.trans ?_ (by assumption)) | omega | (simp; omega) | (simp; done)))⟩
  · have hn' : (n : Int) ≤ 1048576 := by omega
    go_enter Try.func6, Try.ntmps6
    go_wp2_with fail
    refine (drawGroupBest_any A n c g _ hB).mono ?_
    rintro x wd ⟨v, u, t, xs, cs, ks, rfl, ⟨A1, c1, rfl, -, -, I1⟩, ⟨A2, c2, rfl, ⟨-, hA2⟩, -, I2⟩, ⟨A3, c3, rfl, -, -, I3⟩, l1, l2, l3, hbd⟩
    obtain ⟨n1, hn1⟩ : ∃ n1, xs.length = n1 := ⟨_, rfl⟩
    obtain ⟨n2, hn2⟩ : ∃ n2, cs.length = n2 := ⟨_, rfl⟩
    obtain ⟨n3, hn3⟩ : ∃ n3, ks.length = n3 := ⟨_, rfl⟩
    have hbest := fun hg => best_facts (xs := xs) hn2 hn3 hg
    have hmore := fun hg hn => more_facts hn1 hn2 hn3 hg hn
    have hno := fun hg => gbL_no (xs := xs) (cs := cs) (ks := ks) hg
    have hyes := fun hg hv => gsI_yes (xs := xs) (cs := cs) (ks := ks) (gs := nums (gbL xs cs ks)) hg hn1 hn2 hn3 hv
    obtain ⟨gb, hgb⟩ : ∃ gb, gbL xs cs ks = gb := ⟨_, rfl⟩
    rw [hn1] at I1 l1 ⊢
    rw [hn2] at I2 l2 ⊢
    rw [hn3] at I3 l3 ⊢
    have HLI : Hid (∀ w, Ints w A1 n1 xs → Ints w A2 n2 cs → Ints w A3 n3 ks → Calls Try.prog 11 #[.slice A1 n1 c1, .slice A2 n2 c2, .slice A3 n3 c3] w (NumsOut w gb)) := Lib.hid fun w a1 a2 a3 => by rw [← hgb]; exact gb_impl A1 n1 c1 xs A2 n2 c2 cs A3 n3 c3 ks w a1 a2 a3
    have HLS : Hid (∀ w, Ints w A1 n1 xs → Ints w A2 n2 cs → Ints w A3 n3 ks → Calls Try.prog 9 #[.slice A1 n1 c1, .slice A2 n2 c2, .slice A3 n3 c3] w (NumsOut w gb)) := Lib.hid fun w a1 a2 a3 => by rw [← hgb]; exact gb_spec A1 n1 c1 xs A2 n2 c2 cs A3 n3 c3 ks w a1 a2 a3
    have GS := fun w hx hy hz => gr_spec A1 n1 c1 xs A2 n2 c2 cs A3 n3 c3 ks w hx hy hz
    rw [hgb] at hbest hmore hno hyes
    have HN2 := Lib.hid hn2
    clear hn1 hn2 hn3 hgb
    go_wp2_with fail
    refine (HLI.out _ I1 I2 I3).mono ?_
    rintro e w1 ⟨v1, rfl, o1, b1⟩
    have K1 := I1.below b1
    have K2 := I2.below b1
    have K3 := I3.below b1
    obtain ⟨B1, d1, rfl⟩ := o1.shape
    have T1 : Below w.heap.size w w1 := bvia b1 hbd
    go_wp2_with fail
    refine (HLS.out _ K1 K2 K3).mono ?_
    rintro x w2 ⟨v2, rfl, o2, b2⟩
    have J1 := K1.below b2
    have J2 := K2.below b2
    have J3 := K3.below b2
    obtain ⟨B2, d2, rfl⟩ := o2.shape
    have T2 : Below w.heap.size w w2 := bvia b2 T1
    have o1' := o1.below b2
    clear I1 I2 I3 K1 K2 K3 o1 HLI HLS
    go_wp2_with fail
    refine (same_any _ _ _ _ _ (nums gb) _ o1'.ints.2 o2.ints.2).mono ?_
    rintro x w3 hq
    obtain ⟨rfl, b3⟩ := qnum hq
    clear hq o2
    have S1 := J1.below b3
    have S2 := J2.below b3
    have S3 := J3.below b3
    have o3 := o1'.below b3
    have T3 : Below w.heap.size w w3 := bvia b3 T2
    clear J1 J2 J3 o1'
    cases hg : grB xs cs ks
    · rw [hg] at GS
      obtain rfl := hno hg
      have HGS := Lib.hid GS
      clear GS hbest hmore hno hyes hg
      go_wp2_with (first
        | (go_at_call 22; refine (HGS.out _ S1 S2 S3).mono ?_; rintro x w4 hq4; obtain ⟨rfl, b4⟩ := qnum hq4)
        | (go_at_call 18; refine (alive_any _).mono ?_; rintro x w5 ⟨rfl, b5⟩))
      go_ret
      exact ⟨rfl, bvia b5 (bvia b4 T3)⟩
    · rw [hg] at GS
      have HGS := Lib.hid GS
      have hbv := (hbest hg).1
      have hx0 := hyes hg hbv
      have hlen := (gvB_iff.1 hbv).2
      have hmore' := hmore hg
      obtain ⟨x, hx⟩ : ∃ x, gsI xs cs ks (nums gb) = x := ⟨_, rfl⟩
      rw [hx] at hx0 hmore'
      have x0 : 0 ≤ x := by rw [hx0]; exact sumK_nonneg _ _ _ _ _ _ _
      obtain ⟨y, hy⟩ : ∃ y, gsI xs (cs ++ [0]) ks (nums (gbL xs (cs ++ [0]) ks)) = y := ⟨_, rfl⟩
      obtain ⟨gm, hgm⟩ : ∃ gm, gbL xs (cs ++ [0]) ks = gm := ⟨_, rfl⟩
      rw [hy] at hmore'
      rw [hgm] at hy
      have HSI : Hid (∀ (A : Option Addr) (n c : Nat) (w : World), Ints w A1 n1 xs → Ints w A2 n2 cs → Ints w A3 n3 ks → Ints w A n (nums gb) → Calls Try.prog 16 #[.slice A1 n1 c1, .slice A2 n2 c2, .slice A3 n3 c3, .slice A n c] w (NumOut w x)) := Lib.hid fun A n c w a1 a2 a3 a4 => by rw [← hx]; exact gs_impl A1 n1 c1 xs A2 n2 c2 cs A3 n3 c3 ks A n c (nums gb) w a1 a2 a3 a4
      have HBM : Hid (∀ (A : Option Addr) (n c : Nat) (w : World), Ints w A1 n1 xs → Ints w A n (cs ++ [0]) → Ints w A3 n3 ks → Calls Try.prog 11 #[.slice A1 n1 c1, .slice A n c, .slice A3 n3 c3] w (NumsOut w gm)) := Lib.hid fun A n c w a1 a2 a3 => by rw [← hgm]; exact gb_impl A1 n1 c1 xs A n c (cs ++ [0]) A3 n3 c3 ks w a1 a2 a3
      have HSM : Hid (∀ (A : Option Addr) (n c : Nat) (A' : Option Addr) (n' c' : Nat) (w : World), Ints w A1 n1 xs → Ints w A n (cs ++ [0]) → Ints w A3 n3 ks → Ints w A' n' (nums gm) → Calls Try.prog 16 #[.slice A1 n1 c1, .slice A n c, .slice A3 n3 c3, .slice A' n' c'] w (NumOut w y)) := Lib.hid fun A n c A' n' c' w a1 a2 a3 a4 => by rw [← hy]; exact gs_impl A1 n1 c1 xs A n c (cs ++ [0]) A3 n3 c3 ks A' n' c' (nums gm) w a1 a2 a3 a4
      have lcs : cs.length ≤ 4 := by rw [HN2.out]; exact l2
      have lcm : (cs ++ [0]).length = n2 + 1 := by simp [HN2.out]
      have HLM := Lib.hid lcm
      have HLen := Lib.hid hlen
      have n20 : 0 ≤ (n2 : Int) := by omega
      rw [hlen] at o3 ⊢
      clear GS hbest hmore hno hyes hg hbv hx0 hx hgm hy lcm hlen
      go_wp2_with (go_at_call 22; refine (HGS.out _ S1 S2 S3).mono ?_; rintro x w4 hq4; obtain ⟨rfl, b4⟩ := qnum hq4; clear hq4)
      have P1 := S1.below b4
      have P2 := S2.below b4
      have P3 := S3.below b4
      have o4 := o3.below b4
      have T4 : Below w.heap.size w w4 := bvia b4 T3
      clear S1 S2 S3 o3
      refine (HSI.out _ _ _ _ P1 P2 P3 (o4.intsM HLen.out)).mono ?_
      rintro e w5 ⟨rfl, b5⟩
      have Q1 := Lib.hid (P1.below b5)
      have Q2 := Lib.hid (P2.below b5)
      have Q3 := Lib.hid (P3.below b5)
      have T5 : Below w.heap.size w w5 := bvia b5 T4
      have BA : Below w5.heap.size w5 (w5.alloc (.cells #[] 3)) := (Below.refl _ w5).alloc (Nat.le_refl _) _
      have Hz := OwnI.made (w := w5.alloc (.cells #[] 3)) (base := w5.heap.size) (g := w5.heap.size) (xs := []) (Nat.le_refl _) (heap_alloc_new w5 _) (by unfold maxLen; decide)
      clear P1 P2 P3 o4
      by_cases hn2 : n2 < 3
      · have hn2' : (n2 : Int) < 3 := by omega
        have hle := hmore' hn2
        clear hmore'
        go_wp2_with (first
          | (at_builtin; have _t := h6; refine app_intG rfl _ _ rfl w5.heap.size w6.heap.size _ ([] ++ cs) 0 rfl rfl (h6.alloc _) ?_ ?_ ?_ ?_; (focus (first | (go_simp; done) | (simp; done) | omega | (simp; omega))); (focus (first | (go_simp; done) | (simp; done) | omega | (simp; omega))); (focus (first | (go_simp; done) | (simp; done) | omega | (simp; omega))); intro v7 w7 h7 g7; have b7 : Below w5.heap.size w5 w7 := b6.trans ((((Below.refl _ w6).alloc z6 _)).trans (grown_below (h6.alloc _) (by simp; omega) g7)); have z7 := b7.size)
          | (at_builtin; refine app_ints rfl _ _ rfl w5.heap.size _ [] A2 n2 c2 cs rfl rfl Hz (Q2.out.below BA) hA2 ?_ ?_ ?_; (focus (first | (go_simp; done) | (simp; done) | omega | (simp; omega))); (focus (first | (go_simp; done) | (simp; done) | omega | (simp; omega))); intro v6 w6 h6 g6; have b6 : Below w5.heap.size w5 w6 := BA.trans (grown_below Hz (by simp) g6); have z6 := b6.size))
        have h7' : OwnI w7 w5.heap.size v7 (cs ++ [0]) := h7
        obtain ⟨A7, c7, rfl⟩ := h7'.shape
        have R1 := Q1.out.below b7
        have R3 := Q3.out.below b7
        have R7 := h7'.intsM HLM.out
        have T7 : Below w.heap.size w w7 := T5.trans (below_le T5.size b7)
        rw [HLM.out]
        clear h6 h7 g6 g7 Hz BA h7' b6 z6
        refine (HBM.out _ _ _ _ R1 R7 R3).mono ?_
        rintro e w8 ⟨v8, rfl, o8, b8⟩
        have M1 := R1.below b8
        have M3 := R3.below b8
        have M7 := R7.below b8
        have T8 : Below w.heap.size w w8 := T7.trans (below_le T7.size b8)
        obtain ⟨A8, c8, rfl⟩ := o8.shape
        have R8 := o8.ints.2
        clear R1 R3 R7
        go_wp2_with fail
        refine (HSM.out _ _ _ _ _ _ _ M1 M7 M3 R8).mono ?_
        rintro e w9 ⟨rfl, b9⟩
        go_wp2
        go_ret
        exact ⟨rfl, T8.trans (below_le T8.size b9)⟩
      · have hn2' : (3 : Int) ≤ (n2 : Int) := by omega
        clear hmore'
        go_wp2_with (first
          | (at_builtin; have _t := h6; refine app_intG rfl _ _ rfl w5.heap.size w6.heap.size _ ([] ++ cs) 0 rfl rfl (h6.alloc _) ?_ ?_ ?_ ?_; (focus (first | (go_simp; done) | (simp; done) | omega | (simp; omega))); (focus (first | (go_simp; done) | (simp; done) | omega | (simp; omega))); (focus (first | (go_simp; done) | (simp; done) | omega | (simp; omega))); intro v7 w7 h7 g7; have b7 : Below w5.heap.size w5 w7 := b6.trans ((((Below.refl _ w6).alloc z6 _)).trans (grown_below (h6.alloc _) (by simp; omega) g7)); have z7 := b7.size)
          | (at_builtin; refine app_ints rfl _ _ rfl w5.heap.size _ [] A2 n2 c2 cs rfl rfl Hz (Q2.out.below BA) hA2 ?_ ?_ ?_; (focus (first | (go_simp; done) | (simp; done) | omega | (simp; omega))); (focus (first | (go_simp; done) | (simp; done) | omega | (simp; omega))); intro v6 w6 h6 g6; have b6 : Below w5.heap.size w5 w6 := BA.trans (grown_below Hz (by simp) g6); have z6 := b6.size))
        go_ret
        exact ⟨rfl, T5.trans (below_le T5.size b7)⟩
end Go.Proofs.Ytmekbfjeljfbpaa
