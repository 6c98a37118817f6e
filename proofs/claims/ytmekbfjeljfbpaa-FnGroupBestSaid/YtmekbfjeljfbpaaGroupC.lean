/- GroupLongest of both: contracts. -/
import Derived.Test.YtmekbfjeljfbpaaGroupB
import Derived.Deep.RegionWith
namespace Go.Proofs.Ytmekbfjeljfbpaa
open Go.ChangeShapes Go.WideShapes Go.ChangeAt Go.RowKit

/-- The longest way of the first calls. -/
def longK (xs cs ks gs : List Int) : Nat → Int
  | 0 => 0
  | k + 1 => max (longK xs cs ks gs k) (wayI xs (cs[(gs[k]?.getD 0).toNat]?.getD 0) (ks[k]?.getD 0))
theorem longK_succ (xs cs ks gs : List Int) (k : Nat) : longK xs cs ks gs (k + 1) = max (longK xs cs ks gs k) (wayI xs (cs[(gs[k]?.getD 0).toNat]?.getD 0) (ks[k]?.getD 0)) := rfl
def longI (xs cs ks gs : List Int) : Int := if (grB xs cs ks && gvB gs cs.length ks.length) = true then longK xs cs ks gs ks.length else -1
theorem longI_no {xs cs ks gs : List Int} (h : ¬ (grB xs cs ks && gvB gs cs.length ks.length) = true) : longI xs cs ks gs = -1 := by unfold longI; rw [if_neg h]
theorem longI_yes {xs cs ks gs : List Int} {n1 n2 : Nat} (h : grB xs cs ks = true) (h1 : cs.length = n1) (h2 : ks.length = n2) (hv : gvB gs n1 n2 = true) : longI xs cs ks gs = longK xs cs ks gs n2 := by
  unfold longI; rw [h1, h2, if_pos (by rw [h, hv]; rfl)]

set_option maxHeartbeats 700000 in
theorem lg_spec (A : Option Addr) (n c : Nat) (xs : List Int) (A1 : Option Addr) (n1 c1 : Nat) (cs : List Int) (A2 : Option Addr) (n2 c2 : Nat) (ks : List Int) (A3 : Option Addr) (n3 c3 : Nat) (gs : List Int) (w : World) (h : Ints w A n xs) (h1 : Ints w A1 n1 cs) (h2 : Ints w A2 n2 ks) (h3 : Ints w A3 n3 gs) :
    Calls Try.prog 28 #[.slice A n c, .slice A1 n1 c1, .slice A2 n2 c2, .slice A3 n3 c3] w (Qt w (.int .i64 (longI xs cs ks gs))) := by
  have H := Lib.hid h
  have H1 := Lib.hid h1
  have H2 := Lib.hid h2
  have H3 := Lib.hid h3
  have L1 := Lib.hid h1.1
  have L2 := Lib.hid h2.1
  have L3 := Lib.hid h3.1
  have hm2 : (n2 : Int) ≤ 9223372036854775807 := by have := h2.2.1; omega
  have L := fun w hx => gv_any A1 n1 c1 A2 n2 c2 A3 n3 c3 gs w h1.2.1 hx
  have G := fun w hx hy hz => gr_spec A n c xs A1 n1 c1 cs A2 n2 c2 ks w hx hy hz
  cases hg : grB xs cs ks
  · rw [longI_no (by simp [hg])]
    rw [hg] at G
    have HG := Lib.hid G
    clear G L h h1 h2 h3
    go_enter Try.func28, Try.ntmps28
    go_wp2_with (go_at_call 22; refine (HG.out _ H.out H1.out H2.out).mono ?_; rintro e w' ⟨rfl, m, rfl⟩)
    go_ret
    exact qt_drew _ _ _
  · rw [hg] at G
    have HG := Lib.hid G
    cases hv : gvB gs n1 n2
    · rw [longI_no (by rw [L1.out, L2.out]; simp [hv])]
      rw [hv] at L
      have HV := Lib.hid L
      clear G L h h1 h2 h3
      go_enter Try.func28, Try.ntmps28
      go_wp2_with (go_at_call 22; refine (HG.out _ H.out H1.out H2.out).mono ?_; rintro e w' ⟨rfl, m, rfl⟩)
      refine (HV.out _ (H3.out.drewN m)).mono ?_
      rintro e w' ⟨rfl, rfl⟩
      go_wp2
      go_ret
      exact qt_drew _ _ _
    · rw [longI_yes hg L1.out L2.out hv]
      rw [hv] at L
      have HV := Lib.hid L
      obtain ⟨ha, hgl⟩ := gvB_iff.1 hv
      have HA := Lib.hid ha
      have HGL : Hid (n3 = n2) := Lib.hid (by rw [← h3.1]; exact hgl)
      clear G L h h1 h2 h3 ha hgl hg hv
      go_enter Try.func28, Try.ntmps28
      go_wp2_with (go_at_call 22; refine (HG.out _ H.out H1.out H2.out).mono ?_; rintro e w' ⟨rfl, m0, rfl⟩)
      refine (HV.out _ (H3.out.drewN m0)).mono ?_
      rintro e w' ⟨rfl, rfl⟩
      go_wp2_with fail
      go_loopw [9, 10] (fun x i wr => (∃ m, wr = (w.drewN m0).drewN m) ∧ ∃ k : Nat, k ≤ n2 ∧ i = .int .i64 k ∧ x = .int .i64 (longK xs cs ks gs k)) (fun _ i _ => n2 - (intOf i).toNat)
      case atStart => exact ⟨⟨0, rfl⟩, 0, Nat.zero_le _, rfl, rfl⟩
      case round =>
        obtain ⟨⟨m, hm⟩, k, hk, rfl, rfl⟩ := hrel
        have HR : Hid (Ints wr A n xs) := Lib.hid (by rw [hm]; exact (H.out.drewN m0).drewN m)
        have HR1 : Hid (Ints wr A1 n1 cs) := Lib.hid (by rw [hm]; exact (H1.out.drewN m0).drewN m)
        have HR2 : Hid (Ints wr A2 n2 ks) := Lib.hid (by rw [hm]; exact (H2.out.drewN m0).drewN m)
        have HR3 : Hid (Ints wr A3 n3 gs) := Lib.hid (by rw [hm]; exact (H3.out.drewN m0).drewN m)
        have HM := Lib.hid hm
        clear hm
        by_cases hlt : k < n2
        · have hkn : k < n3 := by have := HGL.out; omega
          have hg1 := allB_at HA.out L3.out hkn
          obtain ⟨u, hu⟩ : ∃ u, gs[k]?.getD 0 = u := ⟨_, rfl⟩
          rw [hu] at hg1
          obtain ⟨j, rfl⟩ := Int.eq_ofNat_of_zero_le hg1.1
          have hj : j < n1 := by omega
          obtain ⟨q1, off1, rfl, hb1, hcc1⟩ := HR1.out.2.2 (by omega)
          obtain ⟨q2, off2, rfl, hb2, hcc2⟩ := HR2.out.2.2 (by omega)
          obtain ⟨q3, off3, rfl, hb3, hcc3⟩ := HR3.out.2.2 (by omega)
          have e1 := hcc1 j hj
          have e2 := hcc2 k hlt
          have e3 := hcc3 k (by omega)
          rw [hu] at e3
          obtain ⟨a, ha⟩ : ∃ a, cs[j]?.getD 0 = a := ⟨_, rfl⟩
          obtain ⟨b, hb⟩ : ∃ b, ks[k]?.getD 0 = b := ⟨_, rfl⟩
          rw [ha] at e1
          rw [hb] at e2
          have HNS : Hid (longK xs cs ks gs (k + 1) = max (longK xs cs ks gs k) (wayI xs a b)) := Lib.hid (by rw [longK_succ, hu, hb, Int.toNat_natCast, ha])
          have hlt' : (k : Int) < (n2 : Int) := by omega
          have hlt3 : (k : Int) < (n3 : Int) := by omega
          have hj' : (j : Int) < (n1 : Int) := by omega
          obtain ⟨p, hp⟩ : ∃ p, longK xs cs ks gs k = p := ⟨_, rfl⟩
          rw [hp] at HNS ⊢
          clear hcc1 hcc2 hcc3 hu ha hb hp hg1
          go_wp2_with fail
          go_region_with (go_at_call 45; refine Calls.mono (way_spec _ _ _ xs _ _ _ ?_) ?_; (focus (exact HR.out)); rintro e w' ⟨rfl, m3, rfl⟩)
          all_goals go_wp2
          all_goals exact ⟨⟨⟨_, by rw [HM.out]; first | exact World.drewN_drewN _ _ _ | (simp [World.drewN_drewN]; done)⟩, k + 1, by omega, by go_num, by rw [HNS.out]; first | rfl | (congr 1; omega) | (congr 1; split <;> omega)⟩, by simp [intOf]; omega⟩
        · obtain rfl : k = n2 := by omega
          go_wp2
          go_ret
          exact ⟨rfl, _, by rw [HM.out]; exact World.drewN_drewN _ _ _⟩
set_option maxHeartbeats 700000 in
theorem lg_impl (A : Option Addr) (n c : Nat) (xs : List Int) (A1 : Option Addr) (n1 c1 : Nat) (cs : List Int) (A2 : Option Addr) (n2 c2 : Nat) (ks : List Int) (A3 : Option Addr) (n3 c3 : Nat) (gs : List Int) (w : World) (h : Ints w A n xs) (h1 : Ints w A1 n1 cs) (h2 : Ints w A2 n2 ks) (h3 : Ints w A3 n3 gs) :
    Calls Try.prog 19 #[.slice A n c, .slice A1 n1 c1, .slice A2 n2 c2, .slice A3 n3 c3] w (Qt w (.int .i64 (longI xs cs ks gs))) := by
  have H := Lib.hid h
  have H1 := Lib.hid h1
  have H2 := Lib.hid h2
  have H3 := Lib.hid h3
  have L1 := Lib.hid h1.1
  have L2 := Lib.hid h2.1
  have L3 := Lib.hid h3.1
  have hm2 : (n2 : Int) ≤ 9223372036854775807 := by have := h2.2.1; omega
  have G := fun w hx hy hz hu => gok_any A n c xs A1 n1 c1 cs A2 n2 c2 ks A3 n3 c3 gs w hx hy hz hu
  cases hg : (grB xs cs ks && gvB gs n1 n2)
  · rw [longI_no (by rw [L1.out, L2.out]; simp [hg])]
    rw [hg] at G
    have HG := Lib.hid G
    clear G h h1 h2 h3
    go_enter Try.func19, Try.ntmps19
    go_wp2_with (go_at_call 35; refine (HG.out _ H.out H1.out H2.out H3.out).mono ?_; rintro e w' ⟨rfl, m, rfl⟩)
    go_ret
    exact qt_drew _ _ _
  · rw [hg] at G
    have HG := Lib.hid G
    rw [Bool.and_eq_true] at hg
    obtain ⟨hg, hv⟩ := hg
    by_cases htrue : True
    · rw [longI_yes hg L1.out L2.out hv]
      obtain ⟨ha, hgl⟩ := gvB_iff.1 hv
      have HA := Lib.hid ha
      have HGL : Hid (n3 = n2) := Lib.hid (by rw [← h3.1]; exact hgl)
      clear G h h1 h2 h3 ha hgl hg hv htrue
      go_enter Try.func19, Try.ntmps19
      go_wp2_with (go_at_call 35; refine (HG.out _ H.out H1.out H2.out H3.out).mono ?_; rintro e w' ⟨rfl, m0, rfl⟩)
      go_loopw [9, 20] (fun x i wr => (∃ m, wr = (w.drewN m0).drewN m) ∧ ∃ k : Nat, k ≤ n2 ∧ i = .int .i64 k ∧ x = .int .i64 (longK xs cs ks gs k)) (fun _ i _ => n2 - (intOf i).toNat)
      case atStart => exact ⟨⟨0, rfl⟩, 0, Nat.zero_le _, rfl, rfl⟩
      case round =>
        obtain ⟨⟨m, hm⟩, k, hk, rfl, rfl⟩ := hrel
        have HR : Hid (Ints wr A n xs) := Lib.hid (by rw [hm]; exact (H.out.drewN m0).drewN m)
        have HR1 : Hid (Ints wr A1 n1 cs) := Lib.hid (by rw [hm]; exact (H1.out.drewN m0).drewN m)
        have HR2 : Hid (Ints wr A2 n2 ks) := Lib.hid (by rw [hm]; exact (H2.out.drewN m0).drewN m)
        have HR3 : Hid (Ints wr A3 n3 gs) := Lib.hid (by rw [hm]; exact (H3.out.drewN m0).drewN m)
        have HM := Lib.hid hm
        clear hm
        by_cases hlt : k < n2
        · have hkn : k < n3 := by have := HGL.out; omega
          have hg1 := allB_at HA.out L3.out hkn
          obtain ⟨u, hu⟩ : ∃ u, gs[k]?.getD 0 = u := ⟨_, rfl⟩
          rw [hu] at hg1
          obtain ⟨j, rfl⟩ := Int.eq_ofNat_of_zero_le hg1.1
          have hj : j < n1 := by omega
          obtain ⟨q1, off1, rfl, hb1, hcc1⟩ := HR1.out.2.2 (by omega)
          obtain ⟨q2, off2, rfl, hb2, hcc2⟩ := HR2.out.2.2 (by omega)
          obtain ⟨q3, off3, rfl, hb3, hcc3⟩ := HR3.out.2.2 (by omega)
          have e1 := hcc1 j hj
          have e2 := hcc2 k hlt
          have e3 := hcc3 k (by omega)
          rw [hu] at e3
          obtain ⟨a, ha⟩ : ∃ a, cs[j]?.getD 0 = a := ⟨_, rfl⟩
          obtain ⟨b, hb⟩ : ∃ b, ks[k]?.getD 0 = b := ⟨_, rfl⟩
          rw [ha] at e1
          rw [hb] at e2
          have HNS : Hid (longK xs cs ks gs (k + 1) = max (longK xs cs ks gs k) (wayI xs a b)) := Lib.hid (by rw [longK_succ, hu, hb, Int.toNat_natCast, ha])
          have hlt' : (k : Int) < (n2 : Int) := by omega
          have hlt3 : (k : Int) < (n3 : Int) := by omega
          have hj' : (j : Int) < (n1 : Int) := by omega
          obtain ⟨p, hp⟩ : ∃ p, longK xs cs ks gs k = p := ⟨_, rfl⟩
          rw [hp] at HNS ⊢
          clear hcc1 hcc2 hcc3 hu ha hb hp hg1
          go_wp2_with (go_at_call 26; refine (way_impl _ _ _ xs _ _ _ HR.out).mono ?_; rintro e w' ⟨rfl, m3, rfl⟩)
          all_goals exact ⟨⟨⟨_, by rw [HM.out]; exact World.drewN_drewN _ _ _⟩, k + 1, by omega, by go_num, by rw [HNS.out]; first | rfl | (congr 1; omega) | (congr 1; split <;> omega)⟩, by simp [intOf]; omega⟩
        · obtain rfl : k = n2 := by omega
          go_wp2
          go_ret
          exact ⟨rfl, _, by rw [HM.out]; exact World.drewN_drewN _ _ _⟩
    · exact absurd trivial htrue
end Go.Proofs.Ytmekbfjeljfbpaa
