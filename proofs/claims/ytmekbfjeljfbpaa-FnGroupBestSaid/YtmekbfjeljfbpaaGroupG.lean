/- GroupSum of the program: contract. -/
import Derived.Test.YtmekbfjeljfbpaaGroupF
namespace Go.Proofs.Ytmekbfjeljfbpaa
open Go.ChangeShapes Go.WideShapes Go.ChangeAt Go.RowKit

set_option maxRecDepth 100000 in
set_option maxHeartbeats 4000000 in
theorem gs_impl (A : Option Addr) (n1 c1 : Nat) (xs : List Int) (A2 : Option Addr) (n2 c2 : Nat) (cs : List Int) (A3 : Option Addr) (n3 c3 : Nat) (ks : List Int) (A4 : Option Addr) (n4 c4 : Nat) (gs : List Int) (w : World) (h1 : Ints w A n1 xs) (h2 : Ints w A2 n2 cs) (h3 : Ints w A3 n3 ks) (h4 : Ints w A4 n4 gs) :
    Calls Try.prog 16 #[.slice A n1 c1, .slice A2 n2 c2, .slice A3 n3 c3, .slice A4 n4 c4] w (NumOut w (gsI xs cs ks gs)) := by
  have H1 := Lib.hid h1
  have H2 := Lib.hid h2
  have H3 := Lib.hid h3
  have H4 := Lib.hid h4
  have L2 := Lib.hid h2.1
  have L3 := Lib.hid h3.1
  have L4 := Lib.hid h4.1
  have G := fun w hx hy hz hu => gok_any A n1 c1 xs A2 n2 c2 cs A3 n3 c3 ks A4 n4 c4 gs w hx hy hz hu
  cases hg : (grB xs cs ks && gvB gs n2 n3)
  · rw [gsI_no (by rw [L2.out, L3.out]; simp [hg])]
    rw [hg] at G
    have HG := Lib.hid G
    clear G h1 h2 h3 h4 hg
    go_enter Try.func16, Try.ntmps16
    go_wp2_with (go_at_call 35; refine (HG.out _ H1.out H2.out H3.out H4.out).mono ?_; rintro e w' ⟨rfl, m, rfl⟩)
    go_ret
    exact ⟨rfl, bdrewN (Below.refl _ _) _⟩
  · rw [hg] at G
    have HG := Lib.hid G
    rw [Bool.and_eq_true] at hg
    obtain ⟨hg, hv⟩ := hg
    rw [gsI_yes hg h1.1 L2.out L3.out hv]
    obtain ⟨hgl, q1, q2, q3, q4, q5, q6, q7⟩ := sum_facts h1.1 L2.out L3.out hg hv
    have hn4 : n4 = n3 := by rw [← L4.out]; exact hgl
    subst hn4
    have HC := Lib.hid q5
    have HCV : Hid (∀ c : Nat, Lib.compact (sortI (ofCar ks gs (c : Int) n4)) = nums (visK ks gs n4 c n1)) := Lib.hid fun c => compact_visK fun j hj => by
      obtain ⟨a, e, ha⟩ := q6 j hj; rw [e]; omega
    have HSL : Hid (∀ k, k ≤ n2 → 0 ≤ sumK xs cs ks gs n1 n4 k ∧ sumK xs cs ks gs n1 n4 k ≤ 100000) := Lib.hid fun k hk => by
      have := sumK_le (ks := ks) (gs := gs) (n3 := n4) q4 h1.1 (fun c hc => by obtain ⟨a, e, ha⟩ := q5 c hc; rw [e]; omega) k hk
      have e : 60 * (n1 : Int) * k ≤ 60 * 8 * 4 := Int.mul_le_mul (by omega) (by omega) (by omega) (by omega)
      omega
    have HSS : Hid (∀ c a : Nat, c < n2 → cs[c]?.getD 0 = (a : Int) → sumK xs cs ks gs n1 n4 (c + 1) = sumK xs cs ks gs n1 n4 c + TP.short (xa xs) a (visK ks gs n4 c n1)) := Lib.hid fun c a hc e => by
      show _ + TP.short (xa xs) (cs[c]?.getD 0).toNat _ = _
      rw [e, Int.toNat_natCast]
    have HSW : Hid (∀ (c a : Nat) (A' : Option Addr) (n' c' : Nat) (w : World), a < n1 → (visK ks gs n4 c n1).length = n' → n' ≤ c' → c' ≤ maxLen → Ints w A n1 xs → Ints w A' n' (nums (visK ks gs n4 c n1)) → Calls Try.prog 37 #[.slice A n1 c1, .int .i64 a, .slice A' n' c'] w (NumOut w (TP.short (xa xs) a (visK ks gs n4 c n1)))) := Lib.hid fun c a A' n' c' w ha hl hc1 hc2 hx hy => by
      have := visK_length ks gs n4 c n1
      exact sw_impl A n1 c1 xs a A' n' c' _ w hx hy q4 ha (fun k hk => visK_lt k (by omega)) (visK_asc _ _ _ _ _) (by omega) hc1 hc2
    have HSB : Hid (∀ (c a : Nat), a < n1 → 0 ≤ TP.short (xa xs) a (visK ks gs n4 c n1) ∧ TP.short (xa xs) a (visK ks gs n4 c n1) ≤ 1000) := Lib.hid fun c a ha => by
      have := short_le q4 h1.1 ha (vs := visK ks gs n4 c n1) visK_lt
      have := visK_length ks gs n4 c n1
      omega
    have n1' : (n1 : Int) ≤ 8 := by omega
    have n2' : (n2 : Int) ≤ 4 := by omega
    have n4' : (n4 : Int) ≤ 5 := by omega
    clear G h1 h2 h3 h4 hg hv hgl q3 q4 q5 q6 q7
    go_enter Try.func16, Try.ntmps16
    go_wp2_with (go_at_call 35; refine (HG.out _ H1.out H2.out H3.out H4.out).mono ?_; rintro e w' ⟨rfl, m0, rfl⟩)
    go_loopw [9, 23] (fun s i wr => ∃ c : Nat, c ≤ n2 ∧ i = .int .i64 c ∧ s = .int .i64 (sumK xs cs ks gs n1 n4 c) ∧ Below w.heap.size w wr) (fun _ i _ => n2 - (intOf i).toNat)
    case atStart => exact ⟨0, Nat.zero_le _, rfl, rfl, bdrewN (Below.refl _ _) _⟩
    case round =>
      obtain ⟨c, hc, rfl, rfl, hb⟩ := hrel
      obtain ⟨wo, hwo⟩ : ∃ wo : World, wo = wr := ⟨_, rfl⟩
      subst hwo
      by_cases hlt : c < n2
      · have hlt' : (c : Int) < (n2 : Int) := by omega
        have HBo := Lib.hid hb
        obtain ⟨a, ea, ha⟩ := HC.out c hlt
        obtain ⟨p2, off2, rfl, hb2, hcc2⟩ := (H2.out.below hb).2.2 (by omega)
        have e2 := hcc2 c hlt
        rw [ea] at e2
        have HEA := Lib.hid ea
        have Hz := OwnI.nil wo w.heap.size
        clear hb hcc2 ea
        go_wp2
        go_loopw [12, 30] (fun v' i ws => ∃ (v : Value) (k : Nat), v = v' ∧ k ≤ n4 ∧ i = .int .i64 k ∧ OwnI ws w.heap.size v (ofCar ks gs (c : Int) k) ∧ Below w.heap.size w ws) (fun _ i _ => n4 - (intOf i).toNat)
        case atStart => exact ⟨_, 0, rfl, Nat.zero_le _, rfl, Hz, HBo.out⟩
        case round =>
          clear Hz e2 hb2
          obtain ⟨v, k, rfl, hk, rfl, hv, hbm⟩ := hrel
          have hbms := hbm.size
          have hl := ofCar_length ks gs (c : Int) k
          by_cases hlk : k < n4
          · have hlk' : (k : Int) < (n4 : Int) := by omega
            obtain ⟨p3, off3, rfl, hb3, hcc3⟩ := (H3.out.below hbm).2.2 (by omega)
            obtain ⟨p4, off4, rfl, hb4, hcc4⟩ := (H4.out.below hbm).2.2 (by omega)
            have e3 := hcc3 k hlk
            have e4 := hcc4 k hlk
            have hy1 := ofCar_yes (ks := ks) (gs := gs) (c := (c : Int)) (k := k)
            have hy2 := ofCar_no (ks := ks) (gs := gs) (c := (c : Int)) (k := k)
            obtain ⟨y, hy⟩ : ∃ y, ks[k]?.getD 0 = y := ⟨_, rfl⟩
            obtain ⟨z, hz⟩ : ∃ z, gs[k]?.getD 0 = z := ⟨_, rfl⟩
            rw [hy] at e3 hy1
            rw [hz] at e4 hy1 hy2
            obtain ⟨us, hus⟩ : ∃ us, ofCar ks gs (c : Int) k = us := ⟨_, rfl⟩
            rw [hus] at hv hy1 hy2 hl
            clear hcc3 hcc4 hy hz hus
            rcases beq_or z (c : Int) with ⟨t1, t2⟩ | ⟨t1, t2⟩
            · have HN := Lib.hid (hy1 t2)
              clear hy1 hy2 t2
              go_wp2_with (at_builtin; refine app_int rfl _ _ rfl (w.heap.size) wr.heap.size _ us y rfl rfl (hv.alloc _) ?_ ?_ ?_ ?_; (focus (first | (go_simp; done) | (simp; done) | omega | (simp; omega))); (focus (first | (go_simp; done) | (simp; done) | omega | (simp; omega))); (focus (first | (go_simp; done) | (simp; done) | omega | (simp; omega))); intro v6 w6 h6 g6; have zw6 := g6.size; (try simp at zw6))
              have g7 : Below w.heap.size wr w6 := ((Below.refl _ wr).alloc (by omega) _).trans g6
              exact ⟨⟨_, k + 1, rfl, by omega, by first | go_num | (congr 1; omega), by rw [HN.out]; exact h6, hbm.trans g7⟩, by simp [intOf]; omega⟩
            · have HN := Lib.hid (hy2 (by omega))
              clear hy1 hy2
              go_wp2
              exact ⟨⟨_, k + 1, rfl, by omega, by first | go_num | (congr 1; omega), by rw [HN.out]; exact hv, hbm⟩, by simp [intOf]; omega⟩
          · obtain rfl : k = n4 := by omega
            have hs1 := HSS.out c a hlt HEA.out
            obtain ⟨b1, b2⟩ := HSB.out c a ha
            obtain ⟨s0, s1⟩ := HSL.out c hc
            have hcv := HCV.out c
            obtain ⟨us, hus⟩ : ∃ us, ofCar ks gs (c : Int) k = us := ⟨_, rfl⟩
            rw [hus] at hv hl hcv
            have C := fun A' n' c' w => HSW.out c a A' n' c' w ha
            obtain ⟨s, hs⟩ : ∃ s, sumK xs cs ks gs n1 k c = s := ⟨_, rfl⟩
            obtain ⟨vs, hvs⟩ : ∃ vs, visK ks gs k c n1 = vs := ⟨_, rfl⟩
            rw [hvs] at C b1 b2 hs1 hcv
            obtain ⟨d, hd⟩ : ∃ d, TP.short (xa xs) a vs = d := ⟨_, rfl⟩
            rw [hd] at b1 b2 hs1 C
            rw [hs] at s0 s1 hs1 ⊢
            have HS1 := Lib.hid hs1
            have HCC := Lib.hid C
            have HCV2 := Lib.hid hcv
            clear hs1 hs hd C hcv hus hvs
            go_wp2_with fail
            refine (sort_any w.heap.size v us _ hv hbms (by omega)).mono ?_
            rintro e w7 ⟨rfl, o7, b7⟩
            have T7 : Below w.heap.size w w7 := hbm.trans b7
            have hsl : (sortI us).length ≤ 1000000 := by rw [sortI_length]; omega
            clear hv
            go_wp2_with fail
            refine (compact_any w.heap.size v _ _ o7 T7.size hsl).mono ?_
            rintro e w8 ⟨v8, rfl, o8, b8⟩
            have T8 : Below w.heap.size w w8 := T7.trans b8
            rw [HCV2.out] at o8
            obtain ⟨Av, cv, rfl⟩ := o8.shape
            have hcap := o8.cap
            obtain ⟨nv, hnv⟩ : ∃ nv, (nums vs).length = nv := ⟨_, rfl⟩
            have hnv' : vs.length = nv := by rw [← hnv, nums_length]
            have hI := o8.intsM hnv
            have hx := H1.out.below T8
            rw [hnv] at hcap ⊢
            have C8 := HCC.out Av nv cv w8 hnv' hcap.1 hcap.2 hx hI
            clear o7 o8 hnv hnv' hI hx hcap
            go_wp2_with fail
            refine C8.mono ?_
            rintro e w9 ⟨rfl, b9⟩
            go_wp2
            exact ⟨⟨c + 1, by omega, by first | go_num | (congr 1; omega), by rw [HS1.out], T8.trans (below_le T8.size b9)⟩, by simp [intOf]; omega⟩
      · obtain rfl : c = n2 := by omega
        go_wp2
        go_ret
        exact ⟨rfl, hb⟩
end Go.Proofs.Ytmekbfjeljfbpaa
