/- The walk of the law FnGroupNear. -/
import Derived.Test.YtmekbfjeljfbpaaGroupE
import Derived.Test.YtmekbfjeljfbpaaDGiven
import Derived.Test.YtmekbfjeljfbpaaSame
namespace Go.Proofs.Ytmekbfjeljfbpaa
open Go.ChangeShapes Go.WideShapes Go.ChangeAt Go.RowKit

theorem qb {w w' : World} {v : Value} {e : Ending} (h : Qt w v e w') : e = .returned v ∧ Below w.heap.size w w' := by
  obtain ⟨rfl, m, rfl⟩ := h
  exact ⟨rfl, bdrewN (Below.refl _ _) m⟩
theorem own_nil {w : World} {base : Nat} {v : Value} {xs : List Int} (h : OwnI w base v ([] ++ xs)) : OwnI w base v xs := h
theorem OwnI.intsN {w : World} {base : Nat} {A : Option Addr} {n c : Nat} {xs : List Int} (h : OwnI w base (.slice A n c) xs) (hn : xs.length = n) : Ints w A n xs := by
  have := h.ints.2
  rwa [hn] at this
theorem OwnI.some {w : World} {base : Nat} {v : Value} {xs : List Int} (h : OwnI w base v xs) (h1 : 1 ≤ xs.length) : ∃ g c, v = .slice (.some ⟨g, 0, none⟩) xs.length c ∧ base ≤ g := by
  rcases h.form with ⟨_, h2⟩ | ⟨g, cap, cur, e1, hg, _⟩
  · rw [h2] at h1; simp at h1
  · exact ⟨g, cap, e1, hg⟩

/-- What the law asks of the list of the nearest cars. -/
theorem near_facts {xs cs ks nl : List Int} {n2 n3 : Nat} (hg : grB xs cs ks = true) (h2 : cs.length = n2) (h3 : ks.length = n3) (hn : nearI xs cs ks = nl) :
    nl.length = n3 ∧ ∀ k, k < n3 → ∃ j : Nat, j < n2 ∧ nl[k]?.getD 0 = (j : Int) ∧ ∀ c, c < n2 →
      ¬ wayI xs (cs[c]?.getD 0) (ks[k]?.getD 0) < wayI xs (cs[j]?.getD 0) (ks[k]?.getD 0) ∧ (c < j → wayI xs (cs[j]?.getD 0) (ks[k]?.getD 0) < wayI xs (cs[c]?.getD 0) (ks[k]?.getD 0)) := by
  rw [nearI_yes hg h3] at hn
  subst hn
  have hc := (grB_iff.1 hg).2.1
  refine ⟨nearL_length _ _ _ _, fun k hk => ⟨nearC xs cs (ks[k]?.getD 0) n2, nearC_lt _ _ _ (by omega) (Nat.le_refl _), by rw [nearL_at _ _ _ hk, h2], fun c hc => ?_⟩⟩
  obtain ⟨a, b⟩ := nearC_best xs cs (ks[k]?.getD 0) n2 c hc
  exact ⟨by omega, b⟩

set_option maxRecDepth 100000 in
set_option maxHeartbeats 4000000 in
theorem walk_FnGroupNear (A : Option Addr) (n c : Nat) (g : Nat → Int) (w : World) (hB : Bytes w A n c g) : Calls Try.prog 7 #[.slice A n c] w fun e w' => e = .returned (.bool true) ∧ Below w.heap.size w w' := by
  by_cases hn : 1048576 < n
  · have hn' : (1048576 : Int) < (n : Int) := by omega
    go_enter Try.func7, Try.ntmps7
    go_wp2
    go_ret
    exact ⟨rfl, by (repeat' (first | (with_reducible exact Below.refl _ _) | (with_reducible assumption) | (with_reducible exact bundrew (by assumption)) | (with_reducible refine balloc ?_ _) | (with_reducible refine bset ?_ _ ?_ _) | (with_reducible refine Below.drew ?_) | (with_reducible refine bdrewN ?_ _) | (with_reducible refine bvia (by assumption) ?_) | (with_reducible refine Below.trans ?_ (by assumption)) | omega | (simp; omega) | (simp; done)))⟩
  · have hn' : (n : Int) ≤ 1048576 := by omega
    go_enter Try.func7, Try.ntmps7
    go_wp2_with fail
    refine (drawGroupNear_any A n c g _ hB).mono ?_
    rintro x wd ⟨v, u, t, xs, cs, ks, rfl, ⟨A1, c1, rfl, -, -, I1⟩, ⟨A2, c2, rfl, -, -, I2⟩, ⟨A3, c3, rfl, -, -, I3⟩, l1, l2, l3, hbd⟩
    obtain ⟨n1, hn1⟩ : ∃ n1, xs.length = n1 := ⟨_, rfl⟩
    obtain ⟨n2, hn2⟩ : ∃ n2, cs.length = n2 := ⟨_, rfl⟩
    obtain ⟨n3, hn3⟩ : ∃ n3, ks.length = n3 := ⟨_, rfl⟩
    obtain ⟨nl, hnl⟩ : ∃ nl, nearI xs cs ks = nl := ⟨_, rfl⟩
    have hfacts := fun hg => near_facts (nl := nl) hg hn2 hn3 hnl
    have hempty : grB xs cs ks = false → nl = [] := fun h => by rw [← hnl, nearI_no h]
    rw [hn1] at I1 l1 ⊢
    rw [hn2] at I2 l2 ⊢
    rw [hn3] at I3 l3 ⊢
    have LI : ∀ w, Ints w A1 n1 xs → Ints w A2 n2 cs → Ints w A3 n3 ks → Calls Try.prog 24 #[.slice A1 n1 c1, .slice A2 n2 c2, .slice A3 n3 c3] w (ListOut w nl) := fun w h h' h2 => by
      rw [← hnl]; exact near_impl A1 n1 c1 xs A2 n2 c2 cs A3 n3 c3 ks w h h' h2 (by omega)
    have LS : ∀ w, Ints w A1 n1 xs → Ints w A2 n2 cs → Ints w A3 n3 ks → Calls Try.prog 25 #[.slice A1 n1 c1, .slice A2 n2 c2, .slice A3 n3 c3] w (ListOut w nl) := fun w h h' h2 => by
      rw [← hnl]; exact near_spec A1 n1 c1 xs A2 n2 c2 cs A3 n3 c3 ks w h h' h2 (by omega)
    have GS := fun w hx hy hz => gr_spec A1 n1 c1 xs A2 n2 c2 cs A3 n3 c3 ks w hx hy hz
    have HLI := Lib.hid LI
    have HLS := Lib.hid LS
    have n20 : 0 ≤ (n2 : Int) := by omega
    clear LI LS hnl hn1 hn2 hn3
    go_wp2_with fail
    refine (HLI.out _ I1 I2 I3).mono ?_
    rintro e w1 ⟨v1, rfl, o1, b1⟩
    have K1 := I1.below b1
    have K2 := I2.below b1
    have K3 := I3.below b1
    obtain ⟨B1, d1, rfl⟩ := o1.shape
    have T1 : Below w.heap.size w w1 := bvia b1 hbd
    go_wp2_with fail
    refine (HLS.out _ K1 K2 K3).mono ?_
    rintro x w2 ⟨v2, rfl, o2, b2⟩
    have J1 := K1.below b2
    have J2 := K2.below b2
    have J3 := K3.below b2
    obtain ⟨B2, d2, rfl⟩ := o2.shape
    have T2 : Below w.heap.size w w2 := bvia b2 T1
    have o1' := o1.below b2
    clear I1 I2 I3 K1 K2 K3 o1 HLI HLS
    go_wp2_with fail
    refine (same_any _ _ _ _ _ nl _ o1'.ints.2 o2.ints.2).mono ?_
    rintro x w3 hq
    obtain ⟨rfl, b3⟩ := qb hq
    clear hq o2
    have S1 := J1.below b3
    have S2 := J2.below b3
    have S3 := J3.below b3
    have o3 := o1'.below b3
    have T3 : Below w.heap.size w w3 := bvia b3 T2
    clear J1 J2 J3 o1'
    cases hg : grB xs cs ks
    · rw [hg] at GS
      obtain rfl := hempty hg
      have HGS := Lib.hid GS
      clear GS hfacts hempty hg
      go_wp2_with (first
        | (go_at_call 22; refine (HGS.out _ S1 S2 S3).mono ?_; rintro x w4 hq4; obtain ⟨rfl, b4⟩ := qb hq4)
        | (go_at_call 18; refine (alive_any _).mono ?_; rintro x w5 ⟨rfl, b5⟩))
      go_ret
      exact ⟨rfl, bvia b5 (bvia b4 T3)⟩
    · rw [hg] at GS
      have HGS := Lib.hid GS
      obtain ⟨f1, f2⟩ := hfacts hg
      have HF1 := Lib.hid f1
      have HF2 := Lib.hid f2
      rw [f1] at o3 ⊢
      clear GS hfacts hempty hg f1 f2
      go_wp2_with (go_at_call 22; refine (HGS.out _ S1 S2 S3).mono ?_; rintro x w4 hq4; obtain ⟨rfl, b4⟩ := qb hq4; clear hq4)
      have R1 := Lib.hid (S1.below b4)
      have R2 := Lib.hid (S2.below b4)
      have R3 := Lib.hid (S3.below b4)
      have R4 := Lib.hid ((o3.below b4).intsN HF1.out)
      have T4 : Below w.heap.size w w4 := bvia b4 T3
      clear S1 S2 S3 o3
      go_loopw [7] (fun i wr => (∃ m, wr = w4.drewN m) ∧ ∃ k : Nat, i = .int .i64 k ∧ k ≤ n3) (fun i _ => n3 - (intOf i).toNat)
      case atStart => exact ⟨⟨0, rfl⟩, 0, rfl, by omega⟩
      case round =>
        obtain ⟨⟨m, hm⟩, k, rfl, hk⟩ := hrel
        have Q1 : Hid (Ints wr A1 n1 xs) := Lib.hid (by rw [hm]; exact R1.out.drewN m)
        have Q2 : Hid (Ints wr A2 n2 cs) := Lib.hid (by rw [hm]; exact R2.out.drewN m)
        have Q3 : Hid (Ints wr A3 n3 ks) := Lib.hid (by rw [hm]; exact R3.out.drewN m)
        have Q4 : Hid (Ints wr B1 n3 nl) := Lib.hid (by rw [hm]; exact R4.out.drewN m)
        have HM := Lib.hid hm
        clear hm
        by_cases hlt : k < n3
        · have hlt' : (k : Int) < (n3 : Int) := by omega
          obtain ⟨j, hj, hu, hbest⟩ := HF2.out k hlt
          have hj' : (j : Int) < (n2 : Int) := by omega
          obtain ⟨p2, off2, rfl, hb2, hcc2⟩ := Q2.out.2.2 (by omega)
          obtain ⟨p3, off3, rfl, hb3, hcc3⟩ := Q3.out.2.2 (by omega)
          obtain ⟨p4, off4, rfl, hb4, hcc4⟩ := Q4.out.2.2 (by omega)
          have e2 := hcc2 j hj
          have e3 := hcc3 k hlt
          have e4 := hcc4 k hlt
          rw [hu] at e4
          have HNL := Lib.hid hu
          obtain ⟨f, hf⟩ : ∃ f, ks[k]?.getD 0 = f := ⟨_, rfl⟩
          have HFK := Lib.hid hf
          rw [hf] at e3 hbest
          obtain ⟨a, ha⟩ : ∃ a, cs[j]?.getD 0 = a := ⟨_, rfl⟩
          rw [ha] at e2 hbest
          obtain ⟨y, hy⟩ : ∃ y, wayI xs a f = y := ⟨_, rfl⟩
          have W1 := fun w hx => way_impl A1 n1 c1 xs a f w hx
          rw [hy] at W1 hbest
          have HW1 := Lib.hid W1
          have HBest := Lib.hid hbest
          clear hcc2 hcc3 hcc4 hu hf ha hy W1 hbest
          go_wp2_with fail
          go_quiet ((go_at_call 26; exact Calls.quiet_of (Qt.of (HW1.out _ (Q1.out.drewN _)))))
          go_wp2
          go_loopw [9] (fun i ws => (∃ m, ws = w4.drewN m) ∧ ∃ d : Nat, i = .int .i64 d ∧ d ≤ n2) (fun i _ => n2 - (intOf i).toNat)
          case atStart => exact ⟨⟨_, by rw [HM.out]; exact World.drewN_drewN _ _ _⟩, 0, rfl, by omega⟩
          case round =>
            clear e2 e3 e4 hb2 hb3 hb4
            obtain ⟨⟨m2, hm2⟩, d, rfl, hd⟩ := hrel
            have Q1 : Hid (Ints wr A1 n1 xs) := Lib.hid (by rw [hm2]; exact R1.out.drewN m2)
            have Q2 : Ints wr (some ⟨p2, off2, none⟩) n2 cs := by rw [hm2]; exact R2.out.drewN m2
            have Q3 : Ints wr (some ⟨p3, off3, none⟩) n3 ks := by rw [hm2]; exact R3.out.drewN m2
            have Q4 : Ints wr (some ⟨p4, off4, none⟩) n3 nl := by rw [hm2]; exact R4.out.drewN m2
            have HM2 := Lib.hid hm2
            clear hm2
            by_cases hlt2 : d < n2
            · have hd' : (d : Int) < (n2 : Int) := by omega
              obtain ⟨b1, b2⟩ := HBest.out d hlt2
              obtain ⟨_, _, u2, hb2, hcc2⟩ := Q2.2.2 (by omega)
              obtain ⟨_, _, u3, hb3, hcc3⟩ := Q3.2.2 (by omega)
              obtain ⟨_, _, u4, hb4, hcc4⟩ := Q4.2.2 (by omega)
              cases u2; cases u3; cases u4
              have e2 := hcc2 d hlt2
              have e3 := hcc3 k hlt
              have e4 := hcc4 k hlt
              rw [HNL.out] at e4
              rw [HFK.out] at e3
              obtain ⟨a', ha'⟩ : ∃ a', cs[d]?.getD 0 = a' := ⟨_, rfl⟩
              rw [ha'] at e2 b1 b2
              obtain ⟨z, hz⟩ : ∃ z, wayI xs a' f = z := ⟨_, rfl⟩
              have W2 := fun w hx => way_impl A1 n1 c1 xs a' f w hx
              rw [hz] at W2 b1 b2
              have HW2 := Lib.hid W2
              have hyz : y ≤ z := by omega
              clear hcc2 hcc3 hcc4 Q2 Q3 Q4 ha' hz W2 b1
              by_cases hdj : d < j
              · have hdj' : (d : Int) < (j : Int) := by omega
                have hlt3 := b2 hdj
                have hne : (z == y) = false := by simp; omega
                clear b2
                go_wp2_with fail
                go_quiet ((go_at_call 26; exact Calls.quiet_of (Qt.of (HW2.out _ (Q1.out.drewN _)))))
                go_wp2
                exact ⟨⟨⟨_, by rw [HM2.out]; exact World.drewN_drewN _ _ _⟩, d + 1, by first | go_num | (congr 1; omega), by omega⟩, by simp [intOf]; omega⟩
              · have hdj' : (j : Int) ≤ (d : Int) := by omega
                clear b2
                go_wp2_with fail
                go_quiet ((go_at_call 26; exact Calls.quiet_of (Qt.of (HW2.out _ (Q1.out.drewN _)))))
                go_wp2
                exact ⟨⟨⟨_, by rw [HM2.out]; exact World.drewN_drewN _ _ _⟩, d + 1, by first | go_num | (congr 1; omega), by omega⟩, by simp [intOf]; omega⟩
            · obtain rfl : d = n2 := by omega
              go_wp2
              exact ⟨⟨⟨_, HM2.out⟩, k + 1, by first | go_num | (congr 1; omega), by omega⟩, by simp [intOf]; omega⟩
        · obtain rfl : k = n3 := by omega
          go_wp2
          go_ret
          exact ⟨rfl, by rw [HM.out]; exact bdrewN T4 _⟩
end Go.Proofs.Ytmekbfjeljfbpaa
