/- GroupBest of the reference: contract. -/
import Derived.Test.YtmekbfjeljfbpaaGroupI
namespace Go.Proofs.Ytmekbfjeljfbpaa
open Go.ChangeShapes Go.WideShapes Go.ChangeAt Go.RowKit

/-- What a list of cars costs. -/
def gF (xs cs ks : List Int) (l : List Nat) : Int := gsI xs cs ks (nums l)
/-- The best list behind the first cars. -/
def bestC (f : List Nat → Int) (m n : Nat) (give : List Nat) (c : Nat) : List Nat := (List.range c).foldl (fun b c => let x := GP.bestW f m n (give ++ [c]); if b.length = 0 ∨ f x < f b then x else b) []
theorem bestC_all (f : List Nat → Int) (m n : Nat) (give : List Nat) : GP.bestW f m (n + 1) give = bestC f m n give m := rfl
theorem bestC_succ (f : List Nat → Int) (m n : Nat) (give : List Nat) (c : Nat) : bestC f m n give (c + 1) = if (bestC f m n give c).length = 0 ∨ f (GP.bestW f m n (give ++ [c])) < f (bestC f m n give c) then GP.bestW f m n (give ++ [c]) else bestC f m n give c := by
  unfold bestC
  rw [List.range_succ, List.foldl_append]
  rfl
theorem bestW_len (f : List Nat → Int) {m : Nat} (hm : 0 < m) (n : Nat) (give : List Nat) : (GP.bestW f m n give).length = give.length + n := (GP.bestW_eq f m hm n give).2
theorem bestC_len (f : List Nat → Int) {m : Nat} (hm : 0 < m) (n : Nat) (give : List Nat) : ∀ c, (bestC f m n give (c + 1)).length = give.length + (n + 1)
  | 0 => by
    rw [bestC_succ, if_pos (.inl rfl), bestW_len f hm]; simp; omega
  | c + 1 => by
    rw [bestC_succ]
    split
    · rw [bestW_len f hm]; simp; omega
    · exact bestC_len f hm n give c

/-- A list of the call's own or of the caller's; old memory as it was. -/
def BestOut (w : World) (base : Nat) (l : List Nat) (e : Ending) (w' : World) : Prop := ∃ v : Value, e = .returned v ∧ OwnI w' base v (nums l) ∧ Below w.heap.size w w'

set_option maxRecDepth 100000 in
set_option maxHeartbeats 4000000 in
theorem l12Best_any (A : Option Addr) (n1 c1 : Nat) (xs : List Int) (A2 : Option Addr) (n2 c2 : Nat) (cs : List Int) (A3 : Option Addr) (n3 c3 : Nat) (ks : List Int) (hm : 0 < n2) (h24 : n2 ≤ 4) (h35 : n3 ≤ 5) (n : Nat) : ∀ (give : List Nat) (base : Nat) (v : Value) (w : World),
    give.length + n = n3 → Ints w A n1 xs → Ints w A2 n2 cs → Ints w A3 n3 ks → OwnI w base v (nums give) → base ≤ w.heap.size →
    Calls Try.prog 29 #[.slice A n1 c1, .slice A2 n2 c2, .slice A3 n3 c3, v] w (BestOut w base (GP.bestW (gF xs cs ks) n2 n give)) := by
  induction n with
  | zero =>
    intro give base v w hgl i1 i2 i3 hv hb
    obtain ⟨Ag, cg, rfl⟩ := hv.shape
    have hl : (nums give).length = n3 := by rw [nums_length]; omega
    have HV := Lib.hid hv
    rw [hl]
    have HL := Lib.hid hl
    clear i1 i2 i3 hv hgl hl
    go_enter Try.func29, Try.ntmps29
    go_wp2
    go_ret
    exact ⟨_, rfl, by have := HV.out; rw [HL.out] at this; exact this, Below.refl _ _⟩
  | succ n ih =>
    intro give base v w hgl i1 i2 i3 hv hb
    obtain ⟨Ag, cg, rfl⟩ := hv.shape
    obtain ⟨gl, hl⟩ : ∃ gl, (nums give).length = gl := ⟨_, rfl⟩
    have hgl2 : give.length = gl := by rw [← hl, nums_length]
    have hne : ((gl : Int) == (n3 : Int)) = false := by simp; omega
    have hI := hv.intsM hl
    have hAg := hv.none0
    obtain ⟨gv, hgv⟩ : ∃ gv, nums give = gv := ⟨_, rfl⟩
    rw [hgv] at hI hl
    have hgvl : gv.length ≤ 5 := by omega
    have HGV := Lib.hid hgv
    rw [hgv, hl]
    have H1 := Lib.hid i1
    have H2 := Lib.hid i2
    have H3 := Lib.hid i3
    have HIg := Lib.hid hI
    have HIH : Hid (∀ (c : Nat) (base : Nat) (v : Value) (w : World), Ints w A n1 xs → Ints w A2 n2 cs → Ints w A3 n3 ks → OwnI w base v (gv ++ [(c : Int)]) → base ≤ w.heap.size →
        Calls Try.prog 29 #[.slice A n1 c1, .slice A2 n2 c2, .slice A3 n3 c3, v] w (BestOut w base (GP.bestW (gF xs cs ks) n2 n (give ++ [c])))) := Lib.hid fun c base v w a1 a2 a3 a4 a5 =>
      ih (give ++ [c]) base v w (by simp; omega) a1 a2 a3 (by rw [nums_append, HGV.out]; exact a4) a5
    have HXL : Hid (∀ c : Nat, (GP.bestW (gF xs cs ks) n2 n (give ++ [c])).length = n3) := Lib.hid fun c => by rw [bestW_len _ hm]; simp; omega
    have HBL : Hid (∀ c : Nat, (bestC (gF xs cs ks) n2 n give (c + 1)).length = n3) := Lib.hid fun c => by rw [bestC_len _ hm]; omega
    have HBS : Hid (∀ c : Nat, bestC (gF xs cs ks) n2 n give (c + 1) = if (bestC (gF xs cs ks) n2 n give c).length = 0 ∨ gF xs cs ks (GP.bestW (gF xs cs ks) n2 n (give ++ [c])) < gF xs cs ks (bestC (gF xs cs ks) n2 n give c) then GP.bestW (gF xs cs ks) n2 n (give ++ [c]) else bestC (gF xs cs ks) n2 n give c) := Lib.hid fun c => bestC_succ _ _ _ _ _
    have HGS : Hid (∀ (A' : Option Addr) (c' : Nat) (l : List Nat) (w : World), Ints w A n1 xs → Ints w A2 n2 cs → Ints w A3 n3 ks → Ints w A' n3 (nums l) → Calls Try.prog 15 #[.slice A n1 c1, .slice A2 n2 c2, .slice A3 n3 c3, .slice A' n3 c'] w (NumOut w (gF xs cs ks l))) := Lib.hid fun A' c' l w a1 a2 a3 a4 => gs_spec A n1 c1 xs A2 n2 c2 cs A3 n3 c3 ks A' n3 c' (nums l) w a1 a2 a3 a4
    have hn31 : 1 ≤ n3 := by omega
    have n2' : (n2 : Int) ≤ 4 := by omega
    have n30 : ((n3 : Int) == 0) = false := by simp; omega
    have HAll := Lib.hid (bestC_all (gF xs cs ks) n2 n give)
    rw [HAll.out]
    have Hz := OwnI.made (w := w.alloc (.cells #[] 3)) (base := w.heap.size) (g := w.heap.size) (xs := []) (Nat.le_refl _) (heap_alloc_new w _) (by unfold maxLen; decide)
    have BA : Below w.heap.size w (w.alloc (.cells #[] 3)) := (Below.refl _ w).alloc (Nat.le_refl _) _
    clear ih i1 i2 i3 hv hgl hI hgv hgl2
    go_enter Try.func29, Try.ntmps29
    go_wp2
    go_loopw [9, 10] (fun b' i wr => ∃ (b : Value) (c : Nat), b = b' ∧ i = .int .i64 c ∧ c ≤ n2 ∧ OwnI wr w.heap.size b (nums (bestC (gF xs cs ks) n2 n give c)) ∧ Below w.heap.size w wr) (fun _ i _ => n2 - (intOf i).toNat)
    case atStart => exact ⟨_, 0, rfl, rfl, Nat.zero_le _, Hz, BA⟩
    case round =>
      clear Hz BA
      obtain ⟨b, c, rfl, rfl, hc, hbv, hbl⟩ := hrel
      have hbs := hbl.size
      by_cases hlt : c < n2
      · have hlt' : (c : Int) < (n2 : Int) := by omega
        have R1 := Lib.hid (H1.out.below hbl)
        have R2 := Lib.hid (H2.out.below hbl)
        have R3 := Lib.hid (H3.out.below hbl)
        have RG := Lib.hid (HIg.out.below hbl)
        have BA3 : Below wr.heap.size wr (wr.alloc (.cells #[] 3)) := (Below.refl _ wr).alloc (Nat.le_refl _) _
        have Hz3 := OwnI.made (w := wr.alloc (.cells #[] 3)) (base := wr.heap.size) (g := wr.heap.size) (xs := []) (Nat.le_refl _) (heap_alloc_new wr _) (by unfold maxLen; decide)
        have HBV := Lib.hid hbv
        have HBLw := Lib.hid hbl
        clear hbv hbl
        go_wp2_with (first
          | (at_builtin; have _t := h4; refine app_intG rfl _ _ rfl wr.heap.size w4.heap.size _ ([] ++ gv) (c : Int) rfl rfl (h4.alloc _) ?_ ?_ ?_ ?_; (focus (first | (go_simp; done) | (simp; done) | omega | (simp; omega))); (focus (first | (go_simp; done) | (simp; done) | omega | (simp; omega))); (focus (first | (go_simp; done) | (simp; done) | omega | (simp; omega))); intro v5 w5 h5 g5; have b5 : Below wr.heap.size wr w5 := b4.trans ((((Below.refl _ w4).alloc z4 _)).trans (grown_below (h4.alloc _) (by simp; omega) g5)); have z5 := b5.size)
          | (at_builtin; refine app_ints rfl _ _ rfl wr.heap.size _ [] Ag gl cg gv rfl rfl Hz3 (RG.out.below BA3) hAg ?_ ?_ ?_; (focus (first | (go_simp; done) | (simp; done) | omega | (simp; omega))); (focus (first | (go_simp; done) | (simp; done) | omega | (simp; omega))); intro v4 w4 h4 g4; have b4 : Below wr.heap.size wr w4 := BA3.trans (grown_below Hz3 (by simp) g4); have z4 := b4.size))
        have h5' : OwnI w5 wr.heap.size v5 (gv ++ [(c : Int)]) := by simpa using h5
        have Q1 := R1.out.below b5
        have Q2 := R2.out.below b5
        have Q3 := R3.out.below b5
        clear h4 h5 g4 g5 Hz3 BA3 R1 R2 R3 RG b4 z4
        refine (HIH.out c wr.heap.size v5 w5 Q1 Q2 Q3 h5' z5).mono ?_
        rintro e w6 ⟨vx, rfl, ox, b6⟩
        have S1 := Lib.hid (Q1.below b6)
        have S2 := Lib.hid (Q2.below b6)
        have S3 := Lib.hid (Q3.below b6)
        have T6 : Below wr.heap.size wr w6 := b5.trans (below_le z5 b6)
        have hbv6 := HBV.out.below T6
        have W6 : Below w.heap.size w w6 := HBLw.out.trans (below_le hbs T6)
        have hxl := HXL.out c
        have hstep := HBS.out c
        have hbl0 : (bestC (gF xs cs ks) n2 n give c).length = 0 ∨ (bestC (gF xs cs ks) n2 n give c).length = n3 ∧ 0 < c := by
          cases c with
          | zero => exact .inl rfl
          | succ c => exact .inr ⟨HBL.out c, by omega⟩
        clear h5' Q1 Q2 Q3 b5 b6 HBV
        obtain ⟨X, hX⟩ : ∃ X, GP.bestW (gF xs cs ks) n2 n (give ++ [c]) = X := ⟨_, rfl⟩
        obtain ⟨Y, hY⟩ : ∃ Y, bestC (gF xs cs ks) n2 n give c = Y := ⟨_, rfl⟩
        rw [hX] at hstep hxl ox
        rw [hY] at hstep hbl0 hbv6
        have HW6 := Lib.hid W6
        have ox' := ox.lower hbs
        obtain ⟨Ax, cx, rfl⟩ := ox.shape
        obtain ⟨Ab, cb, rfl⟩ := hbv6.shape
        have ex : (nums X).length = n3 := by rw [nums_length]; exact hxl
        have ix := ox.intsM ex
        rw [ex] at ox' ox ⊢
        rcases hbl0 with h0 | ⟨h0, hc0⟩
        · have hs : bestC (gF xs cs ks) n2 n give (c + 1) = X := by rw [hstep, if_pos (.inl h0)]
          have HS := Lib.hid hs
          have e0 : (nums Y).length = 0 := by rw [nums_length]; exact h0
          rw [e0]
          clear hstep hX hY h0 hs hbv6 ix hxl ex
          go_wp2
          exact ⟨⟨_, c + 1, rfl, by first | go_num | (congr 1; omega), by omega, by rw [HS.out]; exact ox', HW6.out⟩, by simp [intOf]; omega⟩
        · have e0 : (nums Y).length = n3 := by rw [nums_length]; exact h0
          have iy := hbv6.intsM e0
          rw [e0] at hbv6 ⊢
          have hYn : ¬ Y.length = 0 := by omega
          by_cases hf : gF xs cs ks X < gF xs cs ks Y
          · have hs : bestC (gF xs cs ks) n2 n give (c + 1) = X := by rw [hstep, if_pos (.inr hf)]
            have HS := Lib.hid hs
            have HOX := Lib.hid ox'
            have CX := HGS.out Ax cx X w6 S1.out S2.out S3.out ix
            have CY := fun w7 (b7 : Below w6.heap.size w6 w7) => HGS.out Ab cb Y w7 (S1.out.below b7) (S2.out.below b7) (S3.out.below b7) (iy.below b7)
            have HCY := Lib.hid CY
            clear hstep hX hY h0 hs hxl ex e0 ox ox' hbv6 ix iy CY hYn
            go_wp2_with fail
            refine CX.mono ?_
            rintro e w7 ⟨rfl, b7⟩
            go_wp2_with fail
            refine (HCY.out w7 b7).mono ?_
            rintro e w8 ⟨rfl, b8⟩
            go_wp2
            exact ⟨⟨_, c + 1, rfl, by first | go_num | (congr 1; omega), by omega, by rw [HS.out]; exact (HOX.out.below b7).below b8, HW6.out.trans (below_le HW6.out.size (b7.trans (below_le b7.size b8)))⟩, by simp [intOf]; omega⟩
          · have hs : bestC (gF xs cs ks) n2 n give (c + 1) = Y := by rw [hstep, if_neg (by rintro (h | h); exact hYn h; exact hf h)]
            have hf' : gF xs cs ks Y ≤ gF xs cs ks X := by omega
            have HS := Lib.hid hs
            have HOY := Lib.hid hbv6
            have CX := HGS.out Ax cx X w6 S1.out S2.out S3.out ix
            have CY := fun w7 (b7 : Below w6.heap.size w6 w7) => HGS.out Ab cb Y w7 (S1.out.below b7) (S2.out.below b7) (S3.out.below b7) (iy.below b7)
            have HCY := Lib.hid CY
            clear hstep hX hY h0 hs hxl ex e0 ox ox' hbv6 ix iy CY hYn
            go_wp2_with fail
            refine CX.mono ?_
            rintro e w7 ⟨rfl, b7⟩
            go_wp2_with fail
            refine (HCY.out w7 b7).mono ?_
            rintro e w8 ⟨rfl, b8⟩
            go_wp2
            exact ⟨⟨_, c + 1, rfl, by first | go_num | (congr 1; omega), by omega, by rw [HS.out]; exact (HOY.out.below b7).below b8, HW6.out.trans (below_le HW6.out.size (b7.trans (below_le b7.size b8)))⟩, by simp [intOf]; omega⟩
      · obtain rfl : c = n2 := by omega
        go_wp2
        go_ret
        exact ⟨_, rfl, hbv.lower hb, hbl⟩

/-- The best way to give calls. -/
def gbL (xs cs ks : List Int) : List Nat := if grB xs cs ks = true then GP.bestW (gF xs cs ks) cs.length ks.length [] else []
theorem gbL_no {xs cs ks : List Int} (h : grB xs cs ks = false) : gbL xs cs ks = [] := by unfold gbL; rw [if_neg (by simp [h])]
theorem gbL_yes {xs cs ks : List Int} {n2 n3 : Nat} (h : grB xs cs ks = true) (h2 : cs.length = n2) (h3 : ks.length = n3) : gbL xs cs ks = GP.bestW (gF xs cs ks) n2 n3 [] := by unfold gbL; rw [if_pos h, h2, h3]
theorem gr_small {xs cs ks : List Int} {n2 n3 : Nat} (h : grB xs cs ks = true) (h2 : cs.length = n2) (h3 : ks.length = n3) : 0 < n2 ∧ n2 ≤ 4 ∧ n3 ≤ 5 := by
  obtain ⟨q1, q2, q3, q4⟩ := grB_iff.1 h
  have := (lfB_iff.1 q3).2
  have := (lfB_iff.1 q4).2
  omega

set_option maxHeartbeats 1000000 in
theorem gb_spec (A : Option Addr) (n1 c1 : Nat) (xs : List Int) (A2 : Option Addr) (n2 c2 : Nat) (cs : List Int) (A3 : Option Addr) (n3 c3 : Nat) (ks : List Int) (w : World) (h1 : Ints w A n1 xs) (h2 : Ints w A2 n2 cs) (h3 : Ints w A3 n3 ks) :
    Calls Try.prog 9 #[.slice A n1 c1, .slice A2 n2 c2, .slice A3 n3 c3] w (NumsOut w (gbL xs cs ks)) := by
  have H1 := Lib.hid h1
  have H2 := Lib.hid h2
  have H3 := Lib.hid h3
  have G := fun w hx hy hz => gr_spec A n1 c1 xs A2 n2 c2 cs A3 n3 c3 ks w hx hy hz
  cases hg : grB xs cs ks
  · rw [gbL_no hg]
    rw [hg] at G
    have HG := Lib.hid G
    have Hz := OwnI.made (w := w.alloc (.cells #[] 3)) (base := w.heap.size) (g := w.heap.size) (xs := []) (Nat.le_refl _) (heap_alloc_new w _) (by unfold maxLen; decide)
    have BA : Below w.heap.size w (w.alloc (.cells #[] 3)) := (Below.refl _ w).alloc (Nat.le_refl _) _
    clear G h1 h2 h3 hg
    go_enter Try.func9, Try.ntmps9
    go_wp2_with (go_at_call 22; refine (HG.out _ H1.out H2.out H3.out).mono ?_; rintro e w' ⟨rfl, m, rfl⟩)
    go_ret
    exact ⟨_, rfl, Hz.drewN m, bdrewN BA m⟩
  · rw [gbL_yes hg h2.1 h3.1]
    obtain ⟨s1, s2, s3⟩ := gr_small hg h2.1 h3.1
    rw [hg] at G
    have HG := Lib.hid G
    have HB := Lib.hid (fun (v : Value) (w : World) a1 a2 a3 a4 a5 => l12Best_any A n1 c1 xs A2 n2 c2 cs A3 n3 c3 ks s1 s2 s3 n3 [] w.heap.size v (w.alloc (.cells #[] 3)) (by simp) a1 a2 a3 a4 a5)
    clear G h1 h2 h3 hg
    go_enter Try.func9, Try.ntmps9
    go_wp2_with (go_at_call 22; refine (HG.out _ H1.out H2.out H3.out).mono ?_; rintro e w' ⟨rfl, m, hm⟩; have K1 := H1.out.drewN m; have K2 := H2.out.drewN m; have K3 := H3.out.drewN m; have B0 := bdrewN (Below.refl w.heap.size w) m; rw [← hm] at K1 K2 K3 B0; clear hm)
    have Hz := OwnI.made (w := w'.alloc (.cells #[] 3)) (base := w'.heap.size) (g := w'.heap.size) (xs := []) (Nat.le_refl _) (heap_alloc_new w' _) (by unfold maxLen; decide)
    have BA : Below w'.heap.size w' (w'.alloc (.cells #[] 3)) := (Below.refl _ w').alloc (Nat.le_refl _) _
    refine (HB.out _ w' (K1.below BA) (K2.below BA) (K3.below BA) Hz BA.size).mono ?_
    rintro e w2 ⟨v, rfl, ov, bv⟩
    go_wp2
    go_ret
    exact ⟨_, rfl, ov.lower B0.size, B0.trans (below_le B0.size (BA.trans (below_le BA.size bv)))⟩
end Go.Proofs.Ytmekbfjeljfbpaa
