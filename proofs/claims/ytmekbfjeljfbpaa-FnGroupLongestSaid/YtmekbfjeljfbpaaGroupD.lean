/- GroupNear of both: contracts. -/
import Derived.Test.YtmekbfjeljfbpaaGroupC
import Derived.Test.YtmekbfjeljfbpaaOwnU
namespace Go.Proofs.Ytmekbfjeljfbpaa
open Go.ChangeShapes Go.WideShapes Go.ChangeAt Go.RowKit

/-- The nearest one of the first cars, the first one of several. -/
def nearC (xs cs : List Int) (f : Int) : Nat → Nat
  | 0 => 0
  | c + 1 => if wayI xs (cs[c]?.getD 0) f < wayI xs (cs[nearC xs cs f c]?.getD 0) f then c else nearC xs cs f c
theorem nearC_lt (xs cs : List Int) (f : Int) {m : Nat} : ∀ {k : Nat}, 0 < m → k ≤ m → nearC xs cs f k < m
  | 0, h, _ => h
  | k + 1, h, hk => by
    unfold nearC
    split
    · omega
    · exact nearC_lt xs cs f h (by omega)
theorem nearC_yes {xs cs : List Int} {f : Int} {c : Nat} (h : wayI xs (cs[c]?.getD 0) f < wayI xs (cs[nearC xs cs f c]?.getD 0) f) : nearC xs cs f (c + 1) = c := by
  show (if _ then _ else _) = _
  rw [if_pos h]
theorem nearC_not {xs cs : List Int} {f : Int} {c : Nat} (h : ¬ wayI xs (cs[c]?.getD 0) f < wayI xs (cs[nearC xs cs f c]?.getD 0) f) : nearC xs cs f (c + 1) = nearC xs cs f c := by
  show (if _ then _ else _) = _
  rw [if_neg h]
/-- No car is nearer, and those before it are farther away. -/
theorem nearC_best (xs cs : List Int) (f : Int) : ∀ (k j : Nat), j < k → wayI xs (cs[nearC xs cs f k]?.getD 0) f ≤ wayI xs (cs[j]?.getD 0) f ∧ (j < nearC xs cs f k → wayI xs (cs[nearC xs cs f k]?.getD 0) f < wayI xs (cs[j]?.getD 0) f)
  | 0, j, h => by omega
  | k + 1, j, h => by
    by_cases hc : wayI xs (cs[k]?.getD 0) f < wayI xs (cs[nearC xs cs f k]?.getD 0) f
    · rw [nearC_yes hc]
      by_cases hj : j = k
      · subst hj; exact ⟨Int.le_refl _, fun h => by omega⟩
      · have := (nearC_best xs cs f k j (by omega)).1
        exact ⟨by omega, fun _ => by omega⟩
    · rw [nearC_not hc]
      by_cases hj : j = k
      · subst hj
        refine ⟨by omega, fun h => ?_⟩
        have : nearC xs cs f j ≤ j := by
          rcases Nat.eq_zero_or_pos j with h0 | h0
          · subst h0; exact Nat.le_refl _
          · have := nearC_lt xs cs f h0 (Nat.le_refl j); omega
        omega
      · exact nearC_best xs cs f k j (by omega)
/-- The nearest cars of the first calls. -/
def nearL (xs cs ks : List Int) (k : Nat) : List Int := (List.range k).map fun j => ((nearC xs cs (ks[j]?.getD 0) cs.length : Nat) : Int)
theorem nearL_length (xs cs ks : List Int) (k : Nat) : (nearL xs cs ks k).length = k := by simp [nearL]
theorem nearL_succ (xs cs ks : List Int) (k : Nat) : nearL xs cs ks (k + 1) = nearL xs cs ks k ++ [((nearC xs cs (ks[k]?.getD 0) cs.length : Nat) : Int)] := by
  simp [nearL, List.range_succ]
theorem nearL_at (xs cs ks : List Int) {k j : Nat} (h : j < k) : (nearL xs cs ks k)[j]?.getD 0 = ((nearC xs cs (ks[j]?.getD 0) cs.length : Nat) : Int) := by
  simp [nearL, h]
def nearI (xs cs ks : List Int) : List Int := if grB xs cs ks = true then nearL xs cs ks ks.length else []
theorem nearI_no {xs cs ks : List Int} (h : grB xs cs ks = false) : nearI xs cs ks = [] := by unfold nearI; rw [if_neg (by simp [h])]
theorem nearI_yes {xs cs ks : List Int} {n2 : Nat} (h : grB xs cs ks = true) (h2 : ks.length = n2) : nearI xs cs ks = nearL xs cs ks n2 := by unfold nearI; rw [if_pos h, h2]

/-- A list in new memory. -/
def ListOut (w : World) (nl : List Int) (e : Ending) (w' : World) : Prop := ∃ v : Value, e = .returned v ∧ OwnI w' w.heap.size v nl ∧ Below w.heap.size w w'

set_option maxHeartbeats 2000000 in
theorem near_spec (A : Option Addr) (n c : Nat) (xs : List Int) (A1 : Option Addr) (n1 c1 : Nat) (cs : List Int) (A2 : Option Addr) (n2 c2 : Nat) (ks : List Int) (w : World) (h : Ints w A n xs) (h1 : Ints w A1 n1 cs) (h2 : Ints w A2 n2 ks) (hs2 : n2 ≤ 1000000) :
    Calls Try.prog 25 #[.slice A n c, .slice A1 n1 c1, .slice A2 n2 c2] w (ListOut w (nearI xs cs ks)) := by
  have BA : Below w.heap.size w (w.alloc (.cells #[] 3)) := (Below.refl _ w).alloc (Nat.le_refl _) _
  have Hz := OwnI.made (w := w.alloc (.cells #[] 3)) (base := w.heap.size) (g := w.heap.size) (xs := []) (Nat.le_refl _) (heap_alloc_new w _) (by unfold maxLen; decide)
  have H := Lib.hid h
  have H1 := Lib.hid h1
  have H2 := Lib.hid h2
  have L1 := Lib.hid h1.1
  have L2 := Lib.hid h2.1
  have hm2 : (n2 : Int) ≤ 1000000 := by omega
  have hm1 : (n1 : Int) ≤ 9223372036854775807 := by have := h1.2.1; omega
  have G := fun w hx hy hz => gr_spec A n c xs A1 n1 c1 cs A2 n2 c2 ks w hx hy hz
  cases hg : grB xs cs ks
  · rw [nearI_no hg]
    rw [hg] at G
    have HG := Lib.hid G
    clear G h h1 h2
    by_cases h0 : n2 = 0
    · subst h0
      go_enter Try.func25, Try.ntmps25
      go_wp2
      go_rounds 1
      go_ret
      exact ⟨_, rfl, Hz, BA⟩
    · have h0' : 0 < (n2 : Int) := by omega
      go_enter Try.func25, Try.ntmps25
      go_wp2
      go_loopw [7, 8] (fun v i wr => i = .int .i64 0 ∧ v = .slice (some ⟨w.heap.size, 0, none⟩) 0 0 ∧ wr = w.alloc (.cells #[] 3)) (fun _ _ _ => 0)
      case atStart => exact ⟨rfl, rfl, rfl⟩
      case round =>
        obtain ⟨rfl, rfl, hwr⟩ := hrel
        have R := Lib.hid (H.out.below BA)
        have R1 := Lib.hid (H1.out.below BA)
        have R2 := Lib.hid (H2.out.below BA)
        rw [← hwr] at R R1 R2 BA Hz
        clear hwr
        go_wp2_with (go_at_call 22; refine (HG.out _ R.out R1.out R2.out).mono ?_; rintro e w' ⟨rfl, m, rfl⟩)
        go_ret
        exact ⟨_, rfl, Hz.drewN m, bdrewN BA m⟩
  · rw [nearI_yes hg L2.out]
    rw [hg] at G
    have HG := Lib.hid G
    have hn1 : 0 < n1 := by have := (grB_iff.1 hg).2.1; have := L1.out; omega
    have hn1' : 0 < (n1 : Int) := by omega
    clear G h h1 h2 hg
    go_enter Try.func25, Try.ntmps25
    go_wp2
    go_loopw [7, 8] (fun v' i wr => ∃ (v : Value) (k : Nat), v = v' ∧ k ≤ n2 ∧ i = .int .i64 k ∧ OwnI wr w.heap.size v (nearL xs cs ks k) ∧ Below w.heap.size w wr) (fun _ i _ => n2 - (intOf i).toNat)
    case atStart => exact ⟨_, 0, rfl, Nat.zero_le _, rfl, Hz, BA⟩
    case round =>
      clear Hz BA
      obtain ⟨v, k, rfl, hk, rfl, hv, hb⟩ := hrel
      obtain ⟨wo, hwo⟩ : ∃ wo : World, wo = wr := ⟨_, rfl⟩
      subst hwo
      have R := Lib.hid (H.out.below hb)
      have R1 := Lib.hid (H1.out.below hb)
      have R2 := Lib.hid (H2.out.below hb)
      by_cases hlt : k < n2
      · have hlt' : (k : Int) < (n2 : Int) := by omega
        obtain ⟨f, hf⟩ : ∃ f, ks[k]?.getD 0 = f := ⟨_, rfl⟩
        have HN : Hid (nearL xs cs ks (k + 1) = nearL xs cs ks k ++ [((nearC xs cs f n1 : Nat) : Int)]) := Lib.hid (by rw [nearL_succ, hf, L1.out])
        obtain ⟨ls, hls⟩ : ∃ ls, nearL xs cs ks k = ls := ⟨_, rfl⟩
        have hll : ls.length = k := by rw [← hls, nearL_length]
        rw [hls] at HN hv
        have HF := Lib.hid hf
        have HV := Lib.hid hv
        have HB := Lib.hid hb
        clear hls hf hv hb
        go_wp2_with (go_at_call 22; refine (HG.out _ R.out R1.out R2.out).mono ?_; rintro e w' ⟨rfl, m0, rfl⟩)
        go_loopw [9, 10] (fun b i ws => (∃ m, ws = (wo.drewN m0).drewN m) ∧ ∃ j : Nat, j ≤ n1 ∧ i = .int .i64 j ∧ b = .int .i64 (nearC xs cs f j : Nat)) (fun _ i _ => n1 - (intOf i).toNat)
        case atStart => exact ⟨⟨0, rfl⟩, 0, Nat.zero_le _, rfl, rfl⟩
        case round =>
          obtain ⟨⟨m, hm⟩, j, hj, rfl, rfl⟩ := hrel
          have HR : Hid (Ints wr A n xs) := Lib.hid (by rw [hm]; exact (R.out.drewN m0).drewN m)
          have HR1 : Hid (Ints wr A1 n1 cs) := Lib.hid (by rw [hm]; exact (R1.out.drewN m0).drewN m)
          have HR2 : Hid (Ints wr A2 n2 ks) := Lib.hid (by rw [hm]; exact (R2.out.drewN m0).drewN m)
          have HM := Lib.hid hm
          clear hm
          by_cases hj2 : j < n1
          · have hb1 : nearC xs cs f j < n1 := nearC_lt xs cs f hn1 hj
            have hys : wayI xs (cs[j]?.getD 0) f < wayI xs (cs[nearC xs cs f j]?.getD 0) f → nearC xs cs f (j + 1) = j := nearC_yes
            have hno : ¬ wayI xs (cs[j]?.getD 0) f < wayI xs (cs[nearC xs cs f j]?.getD 0) f → nearC xs cs f (j + 1) = nearC xs cs f j := nearC_not
            obtain ⟨q, hq⟩ : ∃ q, nearC xs cs f j = q := ⟨_, rfl⟩
            rw [hq] at hb1 hys hno ⊢
            obtain ⟨q1, off1, rfl, hbb1, hcc1⟩ := HR1.out.2.2 (by omega)
            obtain ⟨q2, off2, rfl, hbb2, hcc2⟩ := HR2.out.2.2 (by omega)
            have e1 := hcc1 j hj2
            have e2 := hcc1 q hb1
            have e3 := hcc2 k hlt
            rw [HF.out] at e3
            obtain ⟨a, ha⟩ : ∃ a, cs[j]?.getD 0 = a := ⟨_, rfl⟩
            obtain ⟨b, hb⟩ : ∃ b, cs[q]?.getD 0 = b := ⟨_, rfl⟩
            rw [ha] at e1 hys hno
            rw [hb] at e2 hys hno
            have hj' : (j : Int) < (n1 : Int) := by omega
            have hq' : (q : Int) < (n1 : Int) := by omega
            by_cases hw : wayI xs a f < wayI xs b f
            · have HS := Lib.hid (hys hw)
              clear hcc1 hcc2 hys hno ha hb hq
              go_wp2_with fail
              go_quiet ((go_at_call 45; exact Calls.quiet_of (Qt.of (way_spec _ _ _ xs _ _ _ (HR.out.drewN _)))))
              all_goals go_wp2
              all_goals exact ⟨⟨⟨_, by rw [HM.out]; first | exact World.drewN_drewN _ _ _ | (simp [World.drewN_drewN]; done)⟩, j + 1, by omega, by go_num, by rw [HS.out]⟩, by simp [intOf]; omega⟩
            · have HS := Lib.hid (hno hw)
              have hw' : wayI xs b f ≤ wayI xs a f := by omega
              clear hcc1 hcc2 hys hno ha hb hq
              go_wp2_with fail
              go_quiet ((go_at_call 45; exact Calls.quiet_of (Qt.of (way_spec _ _ _ xs _ _ _ (HR.out.drewN _)))))
              all_goals go_wp2
              all_goals exact ⟨⟨⟨_, by rw [HM.out]; first | exact World.drewN_drewN _ _ _ | (simp [World.drewN_drewN]; done)⟩, j + 1, by omega, by go_num, by rw [HS.out]⟩, by simp [intOf]; omega⟩
          · obtain rfl : j = n1 := by omega
            obtain ⟨q, hq⟩ : ∃ q, nearC xs cs f j = q := ⟨_, rfl⟩
            rw [hq] at HN ⊢
            have hv : OwnI wr w.heap.size v ls := by rw [HM.out]; exact (HV.out.drewN m0).drewN m
            have hb : Below w.heap.size w wr := by rw [HM.out]; exact bdrewN (bdrewN HB.out m0) m
            have hbs := hb.size
            clear hq
            go_wp2_with (at_builtin; refine app_int rfl _ _ rfl (w.heap.size) wr.heap.size _ ls (q : Int) rfl rfl (hv.alloc _) ?_ ?_ ?_ ?_; (focus (first | (go_simp; done) | (simp; done) | omega | (simp; omega))); (focus (first | (go_simp; done) | (simp; done) | omega | (simp; omega))); (focus (first | (go_simp; done) | (simp; done) | omega | (simp; omega))); intro v6 w6 h6 g6; have zw6 := g6.size; (try simp at zw6))
            have g7 : Below w.heap.size wr w6 := ((Below.refl _ wr).alloc (by omega) _).trans g6
            exact ⟨⟨_, k + 1, rfl, by omega, by first | go_num | (congr 1; omega), by rw [HN.out]; exact h6, hb.trans g7⟩, by simp [intOf]; omega⟩
      · obtain rfl : k = n2 := by omega
        go_wp2
        go_ret
        exact ⟨_, rfl, hv, hb⟩
end Go.Proofs.Ytmekbfjeljfbpaa
