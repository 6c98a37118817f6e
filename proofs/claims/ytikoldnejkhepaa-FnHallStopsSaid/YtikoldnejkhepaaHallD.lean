/- HallStops of the program and of the reference: contracts. -/
import Derived.Test.YtikoldnejkhepaaHallC
namespace Go.Proofs.Ytikoldnejkhepaa
open Go.ChangeShapes Go.WideShapes Go.ChangeAt Go.RowKit

/-- Whether one of the first j riders goes to goal g by car y. -/
def alrK (gs ps : List Int) (y g : Int) : Nat → Bool
  | 0 => false
  | j + 1 => alrK gs ps y g j || (decide (ps[j]?.getD 0 = y) && decide (gs[j]?.getD 0 = g))
theorem alrK_succ (gs ps : List Int) (y g : Int) (j : Nat) : alrK gs ps y g (j + 1) = (alrK gs ps y g j || (decide (ps[j]?.getD 0 = y) && decide (gs[j]?.getD 0 = g))) := rfl
theorem alrK_take (gs ps : List Int) (y g : Int) (k : Nat) : ∀ j, j ≤ k → alrK gs (ps.take k) y g j = alrK gs ps y g j
  | 0, _ => rfl
  | j + 1, h => by rw [alrK_succ, alrK_succ, alrK_take gs ps y g k j (by omega), List.getElem?_take, if_pos (by omega)]
theorem alrK_yes (gs ps : List Int) {y g : Int} {k n : Nat} (hk : k < n) (h1 : ps[k]?.getD 0 = y) (h2 : gs[k]?.getD 0 = g) : alrK gs ps y g n = true := by
  induction n with
  | zero => omega
  | succ n ih =>
    rw [alrK_succ]
    by_cases e : k = n
    · subst e; simp [h1, h2]
    · rw [ih (by omega)]; rfl
theorem alrK_no (gs ps : List Int) {y g : Int} {n : Nat} (h : ∀ k, k < n → ps[k]?.getD 0 = y → gs[k]?.getD 0 ≠ g) : alrK gs ps y g n = false := by
  induction n with
  | zero => rfl
  | succ n ih =>
    rw [alrK_succ, ih (fun k hk => h k (by omega))]
    by_cases e : ps[n]?.getD 0 = y
    · simp [h n (by omega) e]
    · simp [e]

set_option maxHeartbeats 1000000 in
theorem already_any (A : Option Addr) (n c : Nat) (gs : List Int) (A' : Option Addr) (n' c' : Nat) (ps : List Int) (y g : Int) (w : World) (h : Ints w A n gs) (h' : Ints w A' n' ps) (hn : n' ≤ n) :
    Calls Try.prog 39 #[.slice A n c, .slice A' n' c', .int .i64 y, .int .i64 g] w fun e w' => e = .returned (.bool (alrK gs ps y g n')) ∧ w = w' := by
  obtain ⟨hl, hm, hc⟩ := h
  obtain ⟨hl', hm', hc'⟩ := h'
  have HC := Lib.hid hc
  have HC' := Lib.hid hc'
  clear hl hc hl' hc'
  go_enter Try.func39, Try.ntmps39
  go_wp2
  go_loop [13] (fun i => ∃ k : Nat, k ≤ n' ∧ i = .int .i64 k ∧ ∀ j, j < k → ps[j]?.getD 0 = y → gs[j]?.getD 0 ≠ g) (fun i => n' - (intOf i).toNat)
  case atStart => exact ⟨0, Nat.zero_le _, rfl, fun j hj => by omega⟩
  case round =>
    obtain ⟨k, hk, rfl, hall⟩ := hrel
    have HA := Lib.hid hall
    clear hall
    by_cases hlt : k < n'
    · obtain ⟨q, off, rfl, hb, hcc⟩ := HC.out (by omega)
      obtain ⟨q', off', rfl, hb', hcc'⟩ := HC'.out (by omega)
      obtain ⟨u, hu⟩ : ∃ u, gs[k]?.getD 0 = u := ⟨_, rfl⟩
      obtain ⟨v, hv⟩ : ∃ v, ps[k]?.getD 0 = v := ⟨_, rfl⟩
      have e0 := hcc k (by omega)
      have e1 := hcc' k hlt
      rw [hu] at e0
      rw [hv] at e1
      have HU := Lib.hid hu
      have HV := Lib.hid hv
      clear hcc hu hcc' hv
      have hlt' : (k : Int) < (n' : Int) := by omega
      have hlt2 : (k : Int) < (n : Int) := by omega
      rcases beq_or v y with ⟨y1, g1⟩ | ⟨y1, g1⟩ <;> rcases beq_or u g with ⟨y2, g2⟩ | ⟨y2, g2⟩
      all_goals
        have G1 := Lib.hid g1
        have G2 := Lib.hid g2
        clear g1 g2
        go_wp2
        first
          | (go_ret
             exact ⟨ret_bool (alrK_yes gs ps hlt (by rw [HV.out, G1.out]) (by rw [HU.out, G2.out])).symm, rfl⟩)
          | (go_round
             case rel => exact ⟨k + 1, by omega, by go_num, fun j hj => by
              by_cases e : j = k
              · subst e; rw [HV.out, HU.out]; have g1 := G1.out; have g2 := G2.out; omega
              · exact HA.out j (by omega)⟩
             case measure => simp [intOf]; omega)
    · obtain rfl : k = n' := by omega
      go_wp2
      go_ret
      exact ⟨ret_bool (alrK_no gs ps HA.out).symm, rfl⟩

/-- How often all cars stop together for the first k riders. -/
def stK (gs ps : List Int) : Nat → Int
  | 0 => 0
  | k + 1 => stK gs ps k + if alrK gs ps (ps[k]?.getD 0) (gs[k]?.getD 0) k = true then 0 else 1
theorem stK_succ (gs ps : List Int) (k : Nat) : stK gs ps (k + 1) = stK gs ps k + if alrK gs ps (ps[k]?.getD 0) (gs[k]?.getD 0) k = true then 0 else 1 := rfl
theorem stK_in (gs ps : List Int) : ∀ k : Nat, 0 ≤ stK gs ps k ∧ stK gs ps k ≤ k
  | 0 => ⟨Int.le_refl _, Int.le_refl _⟩
  | k + 1 => by have := stK_in gs ps k; rw [stK_succ]; split <;> omega
def stopsI (gs rs ps : List Int) : Int := if fitsB gs rs ps = true then stK gs ps ps.length else -1
theorem stopsI_no {gs rs ps : List Int} (h : fitsB gs rs ps = false) : stopsI gs rs ps = -1 := by unfold stopsI; rw [if_neg (by simp [h])]
theorem stopsI_yes {gs rs ps : List Int} {n : Nat} (h : fitsB gs rs ps = true) (hn : ps.length = n) : stopsI gs rs ps = stK gs ps n := by unfold stopsI; rw [if_pos h, hn]
theorem fits_len {gs rs ps : List Int} (h : fitsB gs rs ps = true) : ps.length = gs.length ∧ gs.length ≤ 6 := ⟨(fitsB_iff.1 h).2.1, (hallB_iff.1 (fitsB_iff.1 h).1).1⟩

set_option maxHeartbeats 2000000 in
theorem stops_impl (A : Option Addr) (n c : Nat) (gs : List Int) (A' : Option Addr) (n' c' : Nat) (rs : List Int) (A2 : Option Addr) (n2 c2 : Nat) (ps : List Int) (w : World) (hcap : n2 ≤ c2) (h : Ints w A n gs) (h' : Ints w A' n' rs) (h2 : Ints w A2 n2 ps) :
    Calls Try.prog 22 #[.slice A n c, .slice A' n' c', .slice A2 n2 c2] w fun e w' => e = .returned (.int .i64 (stopsI gs rs ps)) ∧ Below w.heap.size w w' := by
  have HL := Lib.hid h.1
  have HL2 := Lib.hid h2.1
  have HI := Lib.hid h
  have HI2 := Lib.hid h2
  cases hf : fitsB gs rs ps
  · rw [stopsI_no hf]
    go_enter Try.func22, Try.ntmps22
    go_wp2_with fail
    refine (fits_impl _ _ _ gs _ _ _ rs _ _ _ ps _ h h' h2).mono ?_
    rintro e w1 ⟨rfl, hbw1⟩
    obtain ⟨hcw1, hfw1, -, -, -, hsw1⟩ := bfacts5 hbw1
    try simp only [World.size_drew] at hcw1 hfw1
    try simp at hsw1
    go_wp2
    go_ret
    exact ⟨rfl, by (repeat' (first | (with_reducible exact Below.refl _ _) | (with_reducible assumption) | (with_reducible exact bundrew (by assumption)) | (with_reducible refine balloc ?_ _) | (with_reducible refine bset ?_ _ ?_ _) | (with_reducible refine Below.drew ?_) | (with_reducible refine bdrewN ?_ _) | (with_reducible refine bvia (by assumption) ?_) | (with_reducible refine Below.trans ?_ (by assumption)) | omega | (simp; omega) | (simp; done)))⟩
  · rw [stopsI_yes hf HL2.out]
    obtain ⟨f1, f2⟩ := fits_len hf
    have m1 : n2 = n := by have := HL.out; have := HL2.out; omega
    have m2 : n ≤ 6 := by have := HL.out; omega
    have m2' : (n : Int) ≤ 6 := by omega
    subst m1
    clear f1 f2
    go_enter Try.func22, Try.ntmps22
    go_wp2_with fail
    refine (fits_impl _ _ _ gs _ _ _ rs _ _ _ ps _ h h' h2).mono ?_
    rintro e w1 ⟨rfl, hbw1⟩
    obtain ⟨hcw1, hfw1, -, -, -, hsw1⟩ := bfacts5 hbw1
    try simp only [World.size_drew] at hcw1 hfw1
    try simp at hsw1
    have J := Lib.hid (HI.out.below hbw1)
    have J2 := Lib.hid (HI2.out.below hbw1)
    clear h h' h2
    go_wp2
    go_loopw [7, 16] (fun x i wr => (∃ m, wr = w1.drewN m) ∧ ∃ k : Nat, k ≤ n2 ∧ i = .int .i64 k ∧ x = .int .i64 (stK gs ps k)) (fun _ i _ => n2 - (intOf i).toNat)
    case atStart => exact ⟨⟨0, rfl⟩, 0, Nat.zero_le _, rfl, rfl⟩
    case round =>
      obtain ⟨⟨m, hm⟩, k, hk, rfl, rfl⟩ := hrel
      have HR : Hid (Ints wr A n2 gs) := Lib.hid (by rw [hm]; exact J.out.drewN m)
      have HR2 : Hid (Ints wr A2 n2 ps) := Lib.hid (by rw [hm]; exact J2.out.drewN m)
      have HM := Lib.hid hm
      clear hm
      by_cases hlt : k < n2
      · obtain ⟨q, off, rfl, hb, hcc⟩ := HR.out.2.2 (by omega)
        obtain ⟨q', off', rfl, hb', hcc'⟩ := HR2.out.2.2 (by omega)
        obtain ⟨u, hu⟩ : ∃ u, gs[k]?.getD 0 = u := ⟨_, rfl⟩
        obtain ⟨v, hv⟩ : ∃ v, ps[k]?.getD 0 = v := ⟨_, rfl⟩
        have e0 := hcc k hlt
        have e1 := hcc' k hlt
        rw [hu] at e0
        rw [hv] at e1
        have HU := Lib.hid hu
        have HV := Lib.hid hv
        obtain ⟨z0, z1⟩ := stK_in gs ps k
        clear hcc hu hcc' hv
        have hlt' : (k : Int) < (n2 : Int) := by omega
        have hkc : k ≤ c2 := by omega
        cases hs : alrK gs (ps.take k) v u k
        all_goals
          have HS := Lib.hid hs
          rw [alrK_take _ _ _ _ _ _ (Nat.le_refl _)] at HS
          go_wp2_with fail
          go_quiet ((go_at_call 39; exact Calls.quiet_of_same (flipW (already_any _ _ _ gs _ _ _ (ps.take k) _ _ _ HR.out (HR2.out.take k (by omega)) (by omega)))))
          all_goals go_wp2
          all_goals exact ⟨⟨⟨_, by rw [HM.out]; exact World.drewN_drewN _ _ _⟩, k + 1, by omega, by go_num, by rw [stK_succ, HU.out, HV.out, HS.out]; simp⟩, by simp [intOf]; omega⟩
      · obtain rfl : k = n2 := by omega
        go_wp2
        go_ret
        exact ⟨rfl, by have := HM.out; subst this; (repeat' (first | (with_reducible exact Below.refl _ _) | (with_reducible assumption) | (with_reducible exact bundrew (by assumption)) | (with_reducible refine balloc ?_ _) | (with_reducible refine bset ?_ _ ?_ _) | (with_reducible refine Below.drew ?_) | (with_reducible refine bdrewN ?_ _) | (with_reducible refine bvia (by assumption) ?_) | (with_reducible refine Below.trans ?_ (by assumption)) | omega | (simp; omega) | (simp; done)))⟩

set_option maxHeartbeats 2000000 in
theorem stops_spec (A : Option Addr) (n c : Nat) (gs : List Int) (A' : Option Addr) (n' c' : Nat) (rs : List Int) (A2 : Option Addr) (n2 c2 : Nat) (ps : List Int) (w : World) (h : Ints w A n gs) (h' : Ints w A' n' rs) (h2 : Ints w A2 n2 ps) :
    Calls Try.prog 21 #[.slice A n c, .slice A' n' c', .slice A2 n2 c2] w (Qt w (.int .i64 (stopsI gs rs ps))) := by
  have HL := Lib.hid h.1
  have HL2 := Lib.hid h2.1
  have HI := Lib.hid h
  have HI2 := Lib.hid h2
  cases hf : fitsB gs rs ps
  · rw [stopsI_no hf]
    go_enter Try.func21, Try.ntmps21
    go_wp2_with fail
    refine (fits_spec _ _ _ gs _ _ _ rs _ _ _ ps _ h h' h2).mono ?_
    rintro e w' ⟨rfl, rfl⟩
    go_wp2
    go_ret
    exact qt_same _ _
  · rw [stopsI_yes hf HL2.out]
    obtain ⟨f1, f2⟩ := fits_len hf
    have m1 : n2 = n := by have := HL.out; have := HL2.out; omega
    have m2 : n ≤ 6 := by have := HL.out; omega
    have m2' : (n : Int) ≤ 6 := by omega
    subst m1
    clear f1 f2
    go_enter Try.func21, Try.ntmps21
    go_wp2_with fail
    refine (fits_spec _ _ _ gs _ _ _ rs _ _ _ ps _ h h' h2).mono ?_
    rintro e w' ⟨rfl, rfl⟩
    clear h h' h2
    go_wp2
    go_loopw [7, 8] (fun x i wr => (∃ m, wr = w.drewN m) ∧ ∃ k : Nat, k ≤ n2 ∧ i = .int .i64 k ∧ x = .int .i64 (stK gs ps k)) (fun _ i _ => n2 - (intOf i).toNat)
    case atStart => exact ⟨⟨0, rfl⟩, 0, Nat.zero_le _, rfl, rfl⟩
    case round =>
      obtain ⟨⟨m, hm⟩, k, hk, rfl, rfl⟩ := hrel
      have HR : Hid (Ints wr A n2 gs) := Lib.hid (by rw [hm]; exact HI.out.drewN m)
      have HR2 : Hid (Ints wr A2 n2 ps) := Lib.hid (by rw [hm]; exact HI2.out.drewN m)
      have HM := Lib.hid hm
      clear hm
      by_cases hlt : k < n2
      · obtain ⟨u, hu⟩ : ∃ u, gs[k]?.getD 0 = u := ⟨_, rfl⟩
        obtain ⟨v, hv⟩ : ∃ v, ps[k]?.getD 0 = v := ⟨_, rfl⟩
        have HU := Lib.hid hu
        have HV := Lib.hid hv
        obtain ⟨z0, z1⟩ := stK_in gs ps k
        clear hu hv
        have hlt' : (k : Int) < (n2 : Int) := by omega
        obtain ⟨wo, hwo⟩ : ∃ wo : World, wo = wr := ⟨_, rfl⟩
        subst hwo
        go_wp2
        go_loopw [9, 10] (fun b i ws => (∃ m, ws = wo.drewN m) ∧ ∃ (j : Nat) (f : Bool), j ≤ k ∧ i = .int .i64 j ∧ b = .bool f ∧ f = !alrK gs ps v u j) (fun _ i _ => k - (intOf i).toNat)
        case atStart => exact ⟨⟨0, rfl⟩, 0, true, Nat.zero_le _, rfl, rfl, rfl⟩
        case round =>
          obtain ⟨⟨m2, hm2⟩, j, f, hj, rfl, rfl, hf2⟩ := hrel
          have HF2 := Lib.hid hf2
          clear hf2
          have HS1 : Hid (Ints wr A n2 gs) := Lib.hid (by rw [hm2]; exact HR.out.drewN m2)
          have HS2 : Hid (Ints wr A2 n2 ps) := Lib.hid (by rw [hm2]; exact HR2.out.drewN m2)
          have HM2 := Lib.hid hm2
          clear hm2
          by_cases hjl : j < k
          · obtain ⟨q, off, rfl, hb, hcc⟩ := HS1.out.2.2 (by omega)
            obtain ⟨q', off', rfl, hb', hcc'⟩ := HS2.out.2.2 (by omega)
            obtain ⟨u', hu'⟩ : ∃ u', gs[j]?.getD 0 = u' := ⟨_, rfl⟩
            obtain ⟨v', hv'⟩ : ∃ v', ps[j]?.getD 0 = v' := ⟨_, rfl⟩
            have e0 := hcc k hlt
            have e1 := hcc' k hlt
            have e2 := hcc j (by omega)
            have e3 := hcc' j (by omega)
            rw [HU.out] at e0
            rw [HV.out] at e1
            rw [hu'] at e2
            rw [hv'] at e3
            have hnext := alrK_succ gs ps v u j
            rw [hu', hv'] at hnext
            have HN := Lib.hid hnext
            clear hcc hcc' hu' hv' hnext
            have hjl' : (j : Int) < (k : Int) := by omega
            have hjl2 : (j : Int) < (n2 : Int) := by omega
            cases f
            · have hb0 : alrK gs ps v u j = true := by have := HF2.out; simpa using this
              rw [hb0] at HN
              have HB0 := Lib.hid hb0
              clear hb0 HF2
              go_wp2_with fail
              go_quiet (fail)
              all_goals go_wp2
              all_goals exact ⟨⟨⟨_, by rw [HM2.out]; exact World.drewN_drewN _ _ _⟩, j + 1, _, by omega, by go_num, rfl, by rw [HN.out]; simp⟩, by simp [intOf]; omega⟩
            · have hb0 : alrK gs ps v u j = false := by have := HF2.out; simpa using this
              rw [hb0] at HN
              have HB0 := Lib.hid hb0
              clear hb0 HF2
              rcases bne_or u' u with ⟨y0, y1, g1⟩ | ⟨y0, y1, g1⟩ <;> rcases bne_or v' v with ⟨y2, y3, g2⟩ | ⟨y2, y3, g2⟩
              all_goals
                have G1 := Lib.hid g1
                have G2 := Lib.hid g2
                clear g1 g2
                go_wp2_with fail
                go_quiet (fail)
                all_goals go_wp2
                all_goals exact ⟨⟨⟨_, by rw [HM2.out]; exact World.drewN_drewN _ _ _⟩, j + 1, _, by omega, by go_num, rfl, by
                  rw [HN.out]
                  have g1 := G1.out
                  have g2 := G2.out
                  first
                    | (subst g1 g2; simp; done)
                    | (have e : ¬ u' = u := by omega
                       simp [e]; done)
                    | (have e : ¬ v' = v := by omega
                       simp [e]; done)⟩, by simp [intOf]; omega⟩
          · obtain rfl : j = k := by omega
            cases f
            all_goals
              have HB0 : Hid (alrK gs ps v u j = _) := Lib.hid (by have := HF2.out; simpa using this)
              clear HF2
              go_wp2
              exact ⟨⟨⟨_, by rw [HM2.out, HM.out]; exact World.drewN_drewN _ _ _⟩, j + 1, by omega, by go_num, by rw [stK_succ, HU.out, HV.out, HB0.out]; simp⟩, by simp [intOf]; omega⟩
      · obtain rfl : k = n2 := by omega
        go_wp2
        go_ret
        exact ⟨rfl, _, HM.out⟩
end Go.Proofs.Ytikoldnejkhepaa
