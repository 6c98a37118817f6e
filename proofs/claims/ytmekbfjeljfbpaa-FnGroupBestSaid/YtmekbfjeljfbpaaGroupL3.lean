/- The walk of the law FnGroupSum. -/
import Derived.Test.YtmekbfjeljfbpaaGroupK
import Derived.Test.YtmekbfjeljfbpaaGroupC
import Derived.Test.YtmekbfjeljfbpaaDGiven
namespace Go.Proofs.Ytmekbfjeljfbpaa
open Go.ChangeShapes Go.WideShapes Go.ChangeAt Go.RowKit

theorem sumK_nonneg (xs cs ks gs : List Int) (n n3 : Nat) : ∀ k, 0 ≤ sumK xs cs ks gs n n3 k
  | 0 => Int.le_refl _
  | k + 1 => by
    have := sumK_nonneg xs cs ks gs n n3 k
    have := TP.short_nonneg (xa xs) (cs[k]?.getD 0).toNat (visK ks gs n3 k n)
    simp only [sumK]; omega
theorem sumK_one (xs cs ks gs : List Int) (n n3 : Nat) : ∀ k c, c < k → TP.short (xa xs) (cs[c]?.getD 0).toNat (visK ks gs n3 c n) ≤ sumK xs cs ks gs n n3 k
  | 0, c, h => by omega
  | k + 1, c, h => by
    have h1 := sumK_nonneg xs cs ks gs n n3 k
    have h2 := TP.short_nonneg (xa xs) (cs[k]?.getD 0).toNat (visK ks gs n3 k n)
    simp only [sumK]
    by_cases e : c = k
    · subst e; omega
    · have := sumK_one xs cs ks gs n n3 k c (by omega); omega
theorem longK_bound {xs cs ks gs : List Int} {S : Int} (hS : 0 ≤ S) : ∀ k, (∀ j, j < k → wayI xs (cs[(gs[j]?.getD 0).toNat]?.getD 0) (ks[j]?.getD 0) ≤ S) → longK xs cs ks gs k ≤ S
  | 0, _ => hS
  | k + 1, h => by
    have h1 := longK_bound hS k (fun j hj => h j (by omega))
    have h2 := h k (by omega)
    rw [longK_succ]; omega
theorem longK_sumK {xs cs ks gs : List Int} {n1 n2 n3 : Nat} (h1 : xs.length = n1) (h2 : cs.length = n2) (h3 : ks.length = n3) (hg : grB xs cs ks = true) (hv : gvB gs n2 n3 = true) : longK xs cs ks gs n3 ≤ sumK xs cs ks gs n1 n3 n2 := by
  obtain ⟨hgl, q1, q2, q3, q4, q5, q6, q7⟩ := sum_facts h1 h2 h3 hg hv
  refine longK_bound (sumK_nonneg _ _ _ _ _ _ _) _ fun j hj => ?_
  obtain ⟨c, ec, hc⟩ := q7 j hj
  obtain ⟨f, ef, hf⟩ := q6 j hj
  obtain ⟨a, ea, ha⟩ := q5 c hc
  have h4 := sumK_one xs cs ks gs n1 n3 n2 c hc
  rw [ec, Int.toNat_natCast, ef, ea, wayI_dist q4 h1 ha hf]
  rw [ea, Int.toNat_natCast] at h4
  refine Int.le_trans (TP.short_far (xa xs) ?_) h4
  unfold visK
  rw [List.mem_filter, List.mem_range]
  exact ⟨hf, hereB_iff.2 ⟨j, hj, ec, ef⟩⟩
theorem gv_words {m n : Nat} {l : List Nat} (h : l ∈ HP.words m n) : gvB (nums l) m n = true := by
  obtain ⟨hl, hc⟩ := HP.words_len h
  have hnl : (nums l).length = n := by rw [nums_length]; exact hl
  refine gvB_iff.2 ⟨allB_yes hnl fun k hk => ?_, hnl⟩
  have := hc _ (List.getElem_mem (show k < l.length by omega))
  rw [nums_get, List.getElem?_eq_getElem (by omega)]
  simp
  omega
theorem words_gv {m n : Nat} {gs : List Int} (h : gvB gs m n = true) : toN gs ∈ HP.words m n ∧ nums (toN gs) = gs := by
  obtain ⟨ha, hl⟩ := gvB_iff.1 h
  refine ⟨HP.mem_words (by rw [toN_length]; exact hl) fun c hc => ?_, nums_toN fun k hk => (allB_at ha rfl hk).1⟩
  obtain ⟨x, hx, rfl⟩ := List.mem_map.1 hc
  obtain ⟨k, hk, rfl⟩ := List.getElem_of_mem hx
  have := allB_at ha rfl hk
  rw [List.getElem?_eq_getElem hk] at this
  simp at this
  omega
/-- The best list is one, and none is shorter. -/
theorem best_facts {xs cs ks : List Int} {n2 n3 : Nat} (h2 : cs.length = n2) (h3 : ks.length = n3) (hg : grB xs cs ks = true) :
    gvB (nums (gbL xs cs ks)) n2 n3 = true ∧ ∀ gs, gvB gs n2 n3 = true → gsI xs cs ks (nums (gbL xs cs ks)) ≤ gsI xs cs ks gs := by
  obtain ⟨s1, s2, s3⟩ := gr_small hg h2 h3
  rw [gbL_yes hg h2 h3]
  obtain ⟨b1, b2⟩ := GP.best_mem (gF xs cs ks) n2 n3 s1
  refine ⟨gv_words b1, fun gs hv => ?_⟩
  obtain ⟨w1, w2⟩ := words_gv hv
  have := b2 _ w1
  unfold gF at this
  rw [w2] at this
  exact this
theorem sum_law {xs cs ks gs : List Int} {n1 n2 n3 : Nat} {x : Int} (h1 : xs.length = n1) (h2 : cs.length = n2) (h3 : ks.length = n3) (hx : gsI xs cs ks gs = x) :
    x = -1 ∨ (0 ≤ x ∧ (nums (gbL xs cs ks)).length = n3 ∧ 0 ≤ gsI xs cs ks (nums (gbL xs cs ks)) ∧ gsI xs cs ks (nums (gbL xs cs ks)) ≤ x ∧ longI xs cs ks gs ≤ x) := by
  cases hg : grB xs cs ks
  · left; rw [← hx, gsI_no (by simp [hg])]
  · cases hv : gvB gs n2 n3
    · left; rw [← hx, gsI_no (by rw [h2, h3]; simp [hv])]
    · right
      obtain ⟨b1, b2⟩ := best_facts h2 h3 hg
      have e1 : x = sumK xs cs ks gs n1 n3 n2 := by rw [← hx]; exact gsI_yes hg h1 h2 h3 hv
      refine ⟨by rw [e1]; exact sumK_nonneg _ _ _ _ _ _ _, (gvB_iff.1 b1).2, ?_, by rw [← hx]; exact b2 gs hv, ?_⟩
      · rw [gsI_yes hg h1 h2 h3 b1]; exact sumK_nonneg _ _ _ _ _ _ _
      · rw [longI_yes hg h2 h3 hv, e1]; exact longK_sumK h1 h2 h3 hg hv

set_option maxRecDepth 100000 in
set_option maxHeartbeats 4000000 in
theorem walk_FnGroupSum (A : Option Addr) (n c : Nat) (g : Nat → Int) (w : World) (hB : Bytes w A n c g) : Calls Try.prog 5 #[.slice A n c] w fun e w' => e = .returned (.bool true) ∧ Below w.heap.size w w' := by
  by_cases hn : 1048576 < n
  · have hn' : (1048576 : Int) < (n : Int) := by omega
    go_enter Try.func5, Try.ntmps5
    go_wp2
    go_ret
    exact ⟨rfl, by (repeat' (first | (with_reducible exact Below.refl _ _) | (with_reducible assumption) | (with_reducible exact bundrew (by assumption)) | (with_reducible refine balloc ?_ _) | (with_reducible refine bset ?_ _ ?_ _) | (with_reducible refine Below.drew ?_) | (with_reducible refine bdrewN ?_ _) | (with_reducible refine bvia (by assumption) ?_) | (with_reducible refine Below.trans ?_ (by assumption)) | omega | (simp; omega) | (simp; done)))⟩
  · have hn' : (n : Int) ≤ 1048576 := by omega
    go_enter Try.func5, Try.ntmps5
    go_wp2_with fail
    refine (drawGroupSum_any A n c g _ hB).mono ?_
    rintro x wd ⟨v, u, t, s, xs, cs, ks, gs, rfl, ⟨A1, c1, rfl, -, -, I1⟩, ⟨A2, c2, rfl, -, -, I2⟩, ⟨A3, c3, rfl, -, -, I3⟩, ⟨A4, c4, rfl, -, -, I4⟩, l1, l2, l3, l4, hbd⟩
    obtain ⟨n1, hn1⟩ : ∃ n1, xs.length = n1 := ⟨_, rfl⟩
    obtain ⟨n2, hn2⟩ : ∃ n2, cs.length = n2 := ⟨_, rfl⟩
    obtain ⟨n3, hn3⟩ : ∃ n3, ks.length = n3 := ⟨_, rfl⟩
    obtain ⟨n4, hn4⟩ : ∃ n4, gs.length = n4 := ⟨_, rfl⟩
    obtain ⟨x, hx⟩ : ∃ x, gsI xs cs ks gs = x := ⟨_, rfl⟩
    have hfacts := sum_law hn1 hn2 hn3 hx
    rw [hn1] at I1 l1 ⊢
    rw [hn2] at I2 l2 ⊢
    rw [hn3] at I3 l3 ⊢
    rw [hn4] at I4 l4 ⊢
    obtain ⟨nl, hnl⟩ : ∃ nl, gbL xs cs ks = nl := ⟨_, rfl⟩
    obtain ⟨y, hy⟩ : ∃ y, gsI xs cs ks (nums nl) = y := ⟨_, rfl⟩
    obtain ⟨z, hz⟩ : ∃ z, longI xs cs ks gs = z := ⟨_, rfl⟩
    rw [hnl, hy, hz] at hfacts
    have HSI : Hid (∀ w, Ints w A1 n1 xs → Ints w A2 n2 cs → Ints w A3 n3 ks → Ints w A4 n4 gs → Calls Try.prog 16 #[.slice A1 n1 c1, .slice A2 n2 c2, .slice A3 n3 c3, .slice A4 n4 c4] w (NumOut w x)) := Lib.hid fun w a1 a2 a3 a4 => by rw [← hx]; exact gs_impl A1 n1 c1 xs A2 n2 c2 cs A3 n3 c3 ks A4 n4 c4 gs w a1 a2 a3 a4
    have HSS : Hid (∀ w, Ints w A1 n1 xs → Ints w A2 n2 cs → Ints w A3 n3 ks → Ints w A4 n4 gs → Calls Try.prog 15 #[.slice A1 n1 c1, .slice A2 n2 c2, .slice A3 n3 c3, .slice A4 n4 c4] w (NumOut w x)) := Lib.hid fun w a1 a2 a3 a4 => by rw [← hx]; exact gs_spec A1 n1 c1 xs A2 n2 c2 cs A3 n3 c3 ks A4 n4 c4 gs w a1 a2 a3 a4
    have HBI : Hid (∀ w, Ints w A1 n1 xs → Ints w A2 n2 cs → Ints w A3 n3 ks → Calls Try.prog 11 #[.slice A1 n1 c1, .slice A2 n2 c2, .slice A3 n3 c3] w (NumsOut w nl)) := Lib.hid fun w a1 a2 a3 => by rw [← hnl]; exact gb_impl A1 n1 c1 xs A2 n2 c2 cs A3 n3 c3 ks w a1 a2 a3
    have HSB : Hid (∀ (A : Option Addr) (n c : Nat) (w : World), Ints w A1 n1 xs → Ints w A2 n2 cs → Ints w A3 n3 ks → Ints w A n (nums nl) → Calls Try.prog 16 #[.slice A1 n1 c1, .slice A2 n2 c2, .slice A3 n3 c3, .slice A n c] w (NumOut w y)) := Lib.hid fun A n c w a1 a2 a3 a4 => by rw [← hy]; exact gs_impl A1 n1 c1 xs A2 n2 c2 cs A3 n3 c3 ks A n c (nums nl) w a1 a2 a3 a4
    have HLI : Hid (∀ w, Ints w A1 n1 xs → Ints w A2 n2 cs → Ints w A3 n3 ks → Ints w A4 n4 gs → Calls Try.prog 19 #[.slice A1 n1 c1, .slice A2 n2 c2, .slice A3 n3 c3, .slice A4 n4 c4] w (NumOut w z)) := Lib.hid fun w a1 a2 a3 a4 => (lg_impl A1 n1 c1 xs A2 n2 c2 cs A3 n3 c3 ks A4 n4 c4 gs w a1 a2 a3 a4).mono fun _ _ h => by rw [hz] at h; exact qnum h
    clear hn1 hn2 hn3 hn4 hx hnl hy hz
    go_wp2_with fail
    refine (HSI.out _ I1 I2 I3 I4).mono ?_
    rintro e w1 ⟨rfl, b1⟩
    have K1 := I1.below b1
    have K2 := I2.below b1
    have K3 := I3.below b1
    have K4 := I4.below b1
    have T1 : Below w.heap.size w w1 := bvia b1 hbd
    go_wp2_with fail
    refine (HSS.out _ K1 K2 K3 K4).mono ?_
    rintro e w2 ⟨rfl, b2⟩
    have J1 := K1.below b2
    have J2 := K2.below b2
    have J3 := K3.below b2
    have J4 := K4.below b2
    have T2 : Below w.heap.size w w2 := bvia b2 T1
    clear I1 I2 I3 I4 K1 K2 K3 K4 HSI HSS
    rcases hfacts with rfl | ⟨x0, hnl, y0, yx, zx⟩
    · go_wp2_with (go_at_call 18; refine (alive_any _).mono ?_; rintro x w5 ⟨rfl, b5⟩)
      go_ret
      exact ⟨rfl, bvia b5 T2⟩
    · have HNL := Lib.hid hnl
      clear hnl
      go_wp2_with fail
      refine (HBI.out _ J1 J2 J3).mono ?_
      rintro e w3 ⟨v3, rfl, o3, b3⟩
      have L1 := J1.below b3
      have L2 := J2.below b3
      have L3 := J3.below b3
      have L4 := J4.below b3
      have T3 : Below w.heap.size w w3 := bvia b3 T2
      obtain ⟨B3, d3, rfl⟩ := o3.shape
      have R3 := o3.ints.2
      clear J1 J2 J3 J4
      go_wp2_with fail
      refine (HSB.out _ _ _ _ L1 L2 L3 R3).mono ?_
      rintro e w4 ⟨rfl, b4⟩
      have T4 : Below w.heap.size w w4 := bvia b4 T3
      have M1 := L1.below b4
      have M2 := L2.below b4
      have M3 := L3.below b4
      have M4 := L4.below b4
      clear L1 L2 L3 L4 R3 o3
      go_wp2_with (go_at_call 19; refine (HLI.out _ M1 M2 M3 M4).mono ?_; rintro e w5 ⟨rfl, b5⟩)
      go_ret
      exact ⟨rfl, bvia b5 T4⟩
end Go.Proofs.Ytmekbfjeljfbpaa
