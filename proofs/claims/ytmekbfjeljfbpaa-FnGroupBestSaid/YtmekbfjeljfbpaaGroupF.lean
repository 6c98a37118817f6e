/- GroupSum of both: contracts. -/
import Derived.Test.YtmekbfjeljfbpaaVisP
namespace Go.Proofs.Ytmekbfjeljfbpaa
open Go.ChangeShapes Go.WideShapes Go.ChangeAt Go.RowKit

theorem qnum {w w' : World} {v : Value} {e : Ending} (h : Qt w v e w') : e = .returned v ∧ Below w.heap.size w w' := by
  obtain ⟨rfl, m, rfl⟩ := h
  exact ⟨rfl, bdrewN (Below.refl _ _) m⟩

/-- What the walks of GroupSum need of valid arguments. -/
theorem sum_facts {xs cs ks gs : List Int} {n1 n2 n3 : Nat} (h1 : xs.length = n1) (h2 : cs.length = n2) (h3 : ks.length = n3) (hg : grB xs cs ks = true) (hv : gvB gs n2 n3 = true) :
    gs.length = n3 ∧ n1 ≤ 8 ∧ n2 ≤ 4 ∧ n3 ≤ 5 ∧ fvB xs = true ∧ (∀ c, c < n2 → ∃ a : Nat, cs[c]?.getD 0 = (a : Int) ∧ a < n1) ∧ (∀ k, k < n3 → ∃ a : Nat, ks[k]?.getD 0 = (a : Int) ∧ a < n1) ∧ (∀ k, k < n3 → ∃ a : Nat, gs[k]?.getD 0 = (a : Int) ∧ a < n2) := by
  obtain ⟨q1, q2, q3, q4⟩ := grB_iff.1 hg
  obtain ⟨ha, hgl⟩ := gvB_iff.1 hv
  obtain ⟨c1, c2⟩ := lfB_iff.1 q3
  obtain ⟨k1, k2⟩ := lfB_iff.1 q4
  have hf := (fv_open q1).2.1
  refine ⟨hgl, by omega, by omega, by omega, q1, fun c hc => ?_, fun c hc => ?_, fun c hc => ?_⟩
  · have := allB_at c1 h2 hc
    obtain ⟨a, e⟩ := Int.eq_ofNat_of_zero_le this.1
    exact ⟨a, e, by omega⟩
  · have := allB_at k1 h3 hc
    obtain ⟨a, e⟩ := Int.eq_ofNat_of_zero_le this.1
    exact ⟨a, e, by omega⟩
  · have := allB_at ha hgl hc
    obtain ⟨a, e⟩ := Int.eq_ofNat_of_zero_le this.1
    exact ⟨a, e, by omega⟩

set_option maxRecDepth 100000 in
set_option maxHeartbeats 4000000 in
theorem gs_spec (A : Option Addr) (n1 c1 : Nat) (xs : List Int) (A2 : Option Addr) (n2 c2 : Nat) (cs : List Int) (A3 : Option Addr) (n3 c3 : Nat) (ks : List Int) (A4 : Option Addr) (n4 c4 : Nat) (gs : List Int) (w : World) (h1 : Ints w A n1 xs) (h2 : Ints w A2 n2 cs) (h3 : Ints w A3 n3 ks) (h4 : Ints w A4 n4 gs) :
    Calls Try.prog 15 #[.slice A n1 c1, .slice A2 n2 c2, .slice A3 n3 c3, .slice A4 n4 c4] w (NumOut w (gsI xs cs ks gs)) := by
  have H1 := Lib.hid h1
  have H2 := Lib.hid h2
  have H3 := Lib.hid h3
  have H4 := Lib.hid h4
  have L2 := Lib.hid h2.1
  have L3 := Lib.hid h3.1
  have L4 := Lib.hid h4.1
  have L := fun w hx => gv_any A2 n2 c2 A3 n3 c3 A4 n4 c4 gs w h2.2.1 hx
  have G := fun w hx hy hz => gr_spec A n1 c1 xs A2 n2 c2 cs A3 n3 c3 ks w hx hy hz
  cases hg : grB xs cs ks
  · rw [gsI_no (by simp [hg])]
    rw [hg] at G
    have HG := Lib.hid G
    clear G L h1 h2 h3 h4 hg
    go_enter Try.func15, Try.ntmps15
    go_wp2_with (go_at_call 22; refine (HG.out _ H1.out H2.out H3.out).mono ?_; rintro e w' ⟨rfl, m, rfl⟩)
    go_ret
    exact ⟨rfl, bdrewN (Below.refl _ _) _⟩
  · rw [hg] at G
    have HG := Lib.hid G
    cases hv : gvB gs n2 n3
    · rw [gsI_no (by rw [L2.out, L3.out]; simp [hv])]
      rw [hv] at L
      have HV := Lib.hid L
      clear G L h1 h2 h3 h4 hg hv
      go_enter Try.func15, Try.ntmps15
      go_wp2_with (go_at_call 22; refine (HG.out _ H1.out H2.out H3.out).mono ?_; rintro e w' ⟨rfl, m, rfl⟩)
      refine (HV.out _ (H4.out.drewN m)).mono ?_
      rintro e w' ⟨rfl, rfl⟩
      go_wp2
      go_ret
      exact ⟨rfl, bdrewN (Below.refl _ _) _⟩
    · rw [gsI_yes hg h1.1 L2.out L3.out hv]
      rw [hv] at L
      have HV := Lib.hid L
      obtain ⟨hgl, q1, q2, q3, q4, q5, q6, q7⟩ := sum_facts h1.1 L2.out L3.out hg hv
      have hn4 : n4 = n3 := by rw [← L4.out]; exact hgl
      subst hn4
      have HC := Lib.hid q5
      have HK := Lib.hid q6
      have HGv := Lib.hid q7
      have HSL : Hid (∀ k, k ≤ n2 → 0 ≤ sumK xs cs ks gs n1 n4 k ∧ sumK xs cs ks gs n1 n4 k ≤ 100000) := Lib.hid fun k hk => by
        have := sumK_le (ks := ks) (gs := gs) (n3 := n4) q4 h1.1 (fun c hc => by obtain ⟨a, e, ha⟩ := q5 c hc; rw [e]; omega) k hk
        have e : 60 * (n1 : Int) * k ≤ 60 * 8 * 4 := Int.mul_le_mul (by omega) (by omega) (by omega) (by omega)
        omega
      have HSS : Hid (∀ c a : Nat, c < n2 → cs[c]?.getD 0 = (a : Int) → sumK xs cs ks gs n1 n4 (c + 1) = sumK xs cs ks gs n1 n4 c + TP.short (xa xs) a (visK ks gs n4 c n1)) := Lib.hid fun c a hc e => by
        show _ + TP.short (xa xs) (cs[c]?.getD 0).toNat _ = _
        rw [e, Int.toNat_natCast]
      have HSW : Hid (∀ (c a : Nat) (A' : Option Addr) (n' c' : Nat) (w : World), a < n1 → (visK ks gs n4 c n1).length = n' → Ints w A n1 xs → Ints w A' n' (nums (visK ks gs n4 c n1)) → Calls Try.prog 34 #[.slice A n1 c1, .int .i64 a, .slice A' n' c'] w (NumOut w (TP.short (xa xs) a (visK ks gs n4 c n1)))) := Lib.hid fun c a A' n' c' w ha hl hx hy => by
        have := visK_length ks gs n4 c n1
        exact sw_spec A n1 c1 xs a A' n' c' _ w hx hy q4 ha (fun k hk => visK_lt k (by omega)) (visK_asc _ _ _ _ _) (by omega)
      have HSB : Hid (∀ (c a : Nat), a < n1 → 0 ≤ TP.short (xa xs) a (visK ks gs n4 c n1) ∧ TP.short (xa xs) a (visK ks gs n4 c n1) ≤ 1000) := Lib.hid fun c a ha => by
        have := short_le q4 h1.1 ha (vs := visK ks gs n4 c n1) visK_lt
        have := visK_length ks gs n4 c n1
        omega
      have n1' : (n1 : Int) ≤ 8 := by omega
      have n2' : (n2 : Int) ≤ 4 := by omega
      have n4' : (n4 : Int) ≤ 5 := by omega
      clear G L h1 h2 h3 h4 hg hv hgl q3 q4 q5 q6 q7
      go_enter Try.func15, Try.ntmps15
      go_wp2_with (go_at_call 22; refine (HG.out _ H1.out H2.out H3.out).mono ?_; rintro e w' ⟨rfl, m0, rfl⟩)
      refine (HV.out _ (H4.out.drewN m0)).mono ?_
      rintro e w' ⟨rfl, rfl⟩
      go_wp2_with fail
      go_loopw [9, 10] (fun s i wr => ∃ c : Nat, c ≤ n2 ∧ i = .int .i64 c ∧ s = .int .i64 (sumK xs cs ks gs n1 n4 c) ∧ Below w.heap.size w wr) (fun _ i _ => n2 - (intOf i).toNat)
      case atStart => exact ⟨0, Nat.zero_le _, rfl, rfl, bdrewN (Below.refl _ _) _⟩
      case round =>
        obtain ⟨c, hc, rfl, rfl, hb⟩ := hrel
        obtain ⟨wo, hwo⟩ : ∃ wo : World, wo = wr := ⟨_, rfl⟩
        subst hwo
        by_cases hlt : c < n2
        · have hlt' : (c : Int) < (n2 : Int) := by omega
          have HBo := Lib.hid hb
          have hbs := hb.size
          have Hz := OwnI.made (w := wo.alloc (.cells #[] 3)) (base := wo.heap.size) (g := wo.heap.size) (xs := []) (Nat.le_refl _) (heap_alloc_new wo _) (by unfold maxLen; decide)
          have BA : Below wo.heap.size wo (wo.alloc (.cells #[] 3)) := (Below.refl _ wo).alloc (Nat.le_refl _) _
          clear hb
          go_wp2
          go_loopw [11, 12] (fun v' i ws => ∃ (v : Value) (f : Nat), v = v' ∧ f ≤ n1 ∧ i = .int .i64 f ∧ OwnI ws wo.heap.size v (nums (visK ks gs n4 c f)) ∧ Below wo.heap.size wo ws) (fun _ i _ => n1 - (intOf i).toNat)
          case atStart => exact ⟨_, 0, rfl, Nat.zero_le _, rfl, Hz, BA⟩
          case round =>
            clear Hz BA
            obtain ⟨v, f, rfl, hf, rfl, hv, hbm⟩ := hrel
            obtain ⟨wm, hwm⟩ : ∃ wm : World, wm = wr := ⟨_, rfl⟩
            subst hwm
            have T : Below w.heap.size w wm := HBo.out.trans (below_le hbs hbm)
            have HT := Lib.hid T
            have hbms := hbm.size
            clear T
            by_cases hlf : f < n1
            · have hlf' : (f : Int) < (n1 : Int) := by omega
              have HVv := Lib.hid hv
              have HBm := Lib.hid hbm
              clear hv hbm
              go_wp2
              go_loopw [13, 14] (fun b i ws => wm = ws ∧ ∃ k : Nat, k ≤ n4 ∧ i = .int .i64 k ∧ b = .bool (hereB ks gs c f k)) (fun _ i _ => n4 - (intOf i).toNat)
              case atStart => exact ⟨rfl, 0, Nat.zero_le _, rfl, rfl⟩
              case round =>
                obtain ⟨rfl, k, hk, rfl, rfl⟩ := hrel
                by_cases hlk : k < n4
                · have hlk' : (k : Int) < (n4 : Int) := by omega
                  have hsucc : hereB ks gs c f (k + 1) = (hereB ks gs c f k || (decide (gs[k]?.getD 0 = (c : Int)) && decide (ks[k]?.getD 0 = (f : Int)))) := rfl
                  obtain ⟨p3, off3, rfl, hb3, hcc3⟩ := (H3.out.below HT.out).2.2 (by omega)
                  obtain ⟨p4, off4, rfl, hb4, hcc4⟩ := (H4.out.below HT.out).2.2 (by omega)
                  have e3 := hcc3 k hlk
                  have e4 := hcc4 k hlk
                  obtain ⟨y, hy⟩ : ∃ y, ks[k]?.getD 0 = y := ⟨_, rfl⟩
                  obtain ⟨z, hz⟩ : ∃ z, gs[k]?.getD 0 = z := ⟨_, rfl⟩
                  rw [hy] at e3 hsucc
                  rw [hz] at e4 hsucc
                  clear hcc3 hcc4 hy hz
                  cases hh : hereB ks gs c f k
                  · rw [hh] at hsucc
                    rcases beq_or z (c : Int) with ⟨t1, t2⟩ | ⟨t1, t2⟩
                    · rcases beq_or y (f : Int) with ⟨t3, t4⟩ | ⟨t3, t4⟩
                      · have HN : Hid (hereB ks gs c f (k + 1) = true) := Lib.hid (by rw [hsucc]; simp [t2, t4])
                        clear hsucc hh
                        go_wp2
                        exact ⟨⟨by first | trivial | rfl, k + 1, by omega, by first | go_num | (congr 1; omega), by rw [HN.out]⟩, by simp [intOf]; omega⟩
                      · have hne : ¬ y = (f : Int) := by omega
                        have HN : Hid (hereB ks gs c f (k + 1) = false) := Lib.hid (by rw [hsucc]; simp [hne])
                        clear hsucc hh
                        go_wp2
                        exact ⟨⟨by first | trivial | rfl, k + 1, by omega, by first | go_num | (congr 1; omega), by rw [HN.out]⟩, by simp [intOf]; omega⟩
                    · have hne : ¬ z = (c : Int) := by omega
                      have HN : Hid (hereB ks gs c f (k + 1) = false) := Lib.hid (by rw [hsucc]; simp [hne])
                      clear hsucc hh
                      go_wp2
                      exact ⟨⟨by first | trivial | rfl, k + 1, by omega, by first | go_num | (congr 1; omega), by rw [HN.out]⟩, by simp [intOf]; omega⟩
                  · rw [hh] at hsucc
                    have HN : Hid (hereB ks gs c f (k + 1) = true) := Lib.hid (by rw [hsucc]; simp)
                    clear hsucc hh
                    go_wp2
                    exact ⟨⟨by first | trivial | rfl, k + 1, by omega, by first | go_num | (congr 1; omega), by rw [HN.out]⟩, by simp [intOf]; omega⟩
                · obtain rfl : k = n4 := by omega
                  have hv := HVv.out
                  have hbm := HBm.out
                  have hl := visK_length ks gs k c f
                  cases hh : hereB ks gs c f k
                  · have HN := Lib.hid (visK_no hh)
                    clear hh
                    go_wp2
                    exact ⟨⟨_, f + 1, rfl, by omega, by first | go_num | (congr 1; omega), by rw [HN.out]; exact hv, hbm⟩, by simp [intOf]; omega⟩
                  · have HN := Lib.hid (visK_yes hh)
                    obtain ⟨us, hus⟩ : ∃ us, nums (visK ks gs k c f) = us := ⟨_, rfl⟩
                    have hul : us.length ≤ 8 := by rw [← hus, nums_length]; omega
                    rw [hus] at hv HN
                    clear hh hus hl
                    go_wp2_with (at_builtin; refine app_int rfl _ _ rfl (wo.heap.size) wm.heap.size _ us (f : Int) rfl rfl (hv.alloc _) ?_ ?_ ?_ ?_; (focus (first | (go_simp; done) | (simp; done) | omega | (simp; omega))); (focus (first | (go_simp; done) | (simp; done) | omega | (simp; omega))); (focus (first | (go_simp; done) | (simp; done) | omega | (simp; omega))); intro v6 w6 h6 g6; have zw6 := g6.size; (try simp at zw6))
                    have g7 : Below wo.heap.size wm w6 := ((Below.refl _ wm).alloc (by omega) _).trans g6
                    exact ⟨⟨_, f + 1, rfl, by omega, by first | go_num | (congr 1; omega), by rw [HN.out]; exact h6, hbm.trans g7⟩, by simp [intOf]; omega⟩
            · obtain rfl : f = n1 := by omega
              obtain ⟨a, ea, ha⟩ := HC.out c hlt
              have hs1 := HSS.out c a hlt ea
              obtain ⟨b1, b2⟩ := HSB.out c a ha
              obtain ⟨s0, s1⟩ := HSL.out c hc
              obtain ⟨p2, off2, rfl, hb2, hcc2⟩ := (H2.out.below HT.out).2.2 (by omega)
              have e2 := hcc2 c hlt
              rw [ea] at e2
              have hx := H1.out.below HT.out
              obtain ⟨Av, cv, rfl⟩ := hv.shape
              obtain ⟨nv, hnv⟩ : ∃ nv, (nums (visK ks gs n4 c f)).length = nv := ⟨_, rfl⟩
              have hnv' : (visK ks gs n4 c f).length = nv := by rw [← hnv, nums_length]
              have hI := hv.intsM hnv
              have C := HSW.out c a Av nv cv wm ha hnv' hx hI
              rw [hnv]
              obtain ⟨s, hs⟩ : ∃ s, sumK xs cs ks gs f n4 c = s := ⟨_, rfl⟩
              obtain ⟨d, hd⟩ : ∃ d, TP.short (xa xs) a (visK ks gs n4 c f) = d := ⟨_, rfl⟩
              rw [hd] at b1 b2 hs1 C
              rw [hs] at s0 s1 hs1 ⊢
              have HS1 := Lib.hid hs1
              have HCC := Lib.hid C
              clear hcc2 hs1 hs hd hnv hnv' hI C ea hx
              go_wp2_with (go_at_call 34; refine HCC.out.mono ?_; rintro e w7 ⟨rfl, b7⟩)
              exact ⟨⟨c + 1, by omega, by first | go_num | (congr 1; omega), by rw [HS1.out], HT.out.trans (below_le HT.out.size b7)⟩, by simp [intOf]; omega⟩
        · obtain rfl : c = n2 := by omega
          go_wp2
          go_ret
          exact ⟨rfl, hb⟩
end Go.Proofs.Ytmekbfjeljfbpaa
