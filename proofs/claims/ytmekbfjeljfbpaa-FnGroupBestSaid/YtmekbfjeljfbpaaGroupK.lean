/- GroupBest of the program: contract. -/
import Derived.Test.YtmekbfjeljfbpaaGroupJ
namespace Go.Proofs.Ytmekbfjeljfbpaa
open Go.ChangeShapes Go.WideShapes Go.ChangeAt Go.RowKit

/-- The number that digits stand for. -/
def valD (m : Nat) : List Nat → Nat
  | [] => 0
  | d :: l => d * m ^ l.length + valD m l
theorem valD_digits (m : Nat) : ∀ n t, valD m (HP.digits m n t) = t % m ^ n
  | 0, t => by simp [valD, HP.digits, Nat.mod_one]
  | n + 1, t => by
    simp only [HP.digits, valD]
    rw [valD_digits m n t, GP.digits_length, Nat.pow_succ, Nat.mod_mul, Nat.mul_comm]
    omega
theorem digits_lt {m : Nat} (hm : 0 < m) : ∀ n t k, k < n → (HP.digits m n t)[k]?.getD 0 < m
  | 0, _, k, h => by omega
  | n + 1, t, 0, _ => by simp only [HP.digits, List.getElem?_cons_zero, Option.getD_some]; exact Nat.mod_lt _ hm
  | n + 1, t, k + 1, h => by
    simp only [HP.digits, List.getElem?_cons_succ]
    exact digits_lt hm n t k (by omega)
/-- What a cell holds, as a natural number. -/
def cellN (w : World) (g i : Nat) : Nat := match w.cell? ⟨g, i, none⟩ with
  | some (.int _ x) => x.toNat
  | _ => 0
theorem cellN_list {w : World} {base g n c : Nat} {l : List Nat} (h : OwnI w base (.slice (some ⟨g, 0, none⟩) n c) (nums l)) (hl : l.length = n) : (List.range n).map (cellN w g) = l := by
  apply List.ext_getElem
  · simp [hl]
  · intro i a1 a2
    have h1 := (h.at_ (i := i) (by rw [nums_length]; exact a2)).1
    rw [nums_get] at h1
    simp only [List.getElem_map, List.getElem_range, cellN, h1]
    rw [List.getElem?_eq_getElem a2]
    simp
/-- The list that lies in a block, as a number. -/
def blockN (m n g : Nat) (w : World) : Nat := valD m ((List.range n).map (cellN w g))
theorem blockN_digits {w : World} {base g n c m t : Nat} (h : OwnI w base (.slice (some ⟨g, 0, none⟩) n c) (nums (HP.digits m n t))) (ht : t < m ^ n) : blockN m n g w = t := by
  unfold blockN
  rw [cellN_list h (GP.digits_length m n t), valD_digits, Nat.mod_eq_of_lt ht]
theorem zeros_nums (n : Nat) : List.replicate n (0 : Int) = nums (List.replicate n 0) := by simp [nums]
theorem scan_len (f : List Nat → Int) (m n : Nat) : ∀ k, (GP.scan f m n k).length = n
  | 0 => GP.digits_length m n 0
  | k + 1 => by
    simp only [GP.scan]
    split
    · exact GP.digits_length m n _
    · exact scan_len f m n k
theorem scan_yes {f : List Nat → Int} {m n t : Nat} (h : f (HP.digits m n (t + 1)) < f (GP.scan f m n t)) : GP.scan f m n (t + 1) = HP.digits m n (t + 1) := by simp only [GP.scan]; rw [if_pos h]
theorem scan_no {f : List Nat → Int} {m n t : Nat} (h : ¬ f (HP.digits m n (t + 1)) < f (GP.scan f m n t)) : GP.scan f m n (t + 1) = GP.scan f m n t := by simp only [GP.scan]; rw [if_neg h]
theorem OwnI.zerosK {w : World} {g n : Nat} (h : w.heap[g]? = some (.cells (madeCells #[.int .i64 0] n) 3 (0, 0))) (hn : n ≤ 1000000) {base : Nat} (hb : base ≤ g) : OwnI w base (.slice (some ⟨g, 0, none⟩) n n) (List.replicate n 0) := by
  refine ⟨by simp, .inr ⟨g, n, _, by simp, hb, h, by simp, by unfold maxLen; omega, by simp [size_madeCells], ?_⟩⟩
  rw [toList_madeCells_one]
  simp

set_option maxRecDepth 100000 in
set_option maxHeartbeats 4000000 in
theorem gb_impl (A : Option Addr) (n1 c1 : Nat) (xs : List Int) (A2 : Option Addr) (n2 c2 : Nat) (cs : List Int) (A3 : Option Addr) (n3 c3 : Nat) (ks : List Int) (w : World) (h1 : Ints w A n1 xs) (h2 : Ints w A2 n2 cs) (h3 : Ints w A3 n3 ks) :
    Calls Try.prog 11 #[.slice A n1 c1, .slice A2 n2 c2, .slice A3 n3 c3] w (NumsOut w (gbL xs cs ks)) := by
  have H1 := Lib.hid h1
  have H2 := Lib.hid h2
  have H3 := Lib.hid h3
  have G := fun w hx hy hz => gr_impl A n1 c1 xs A2 n2 c2 cs A3 n3 c3 ks w hx hy hz
  cases hg : grB xs cs ks
  · rw [gbL_no hg]
    rw [hg] at G
    have HG := Lib.hid G
    clear G h1 h2 h3 hg
    go_enter Try.func11, Try.ntmps11
    go_wp2_with (go_at_call 30; refine (HG.out _ H1.out H2.out H3.out).mono ?_; rintro e w' ⟨rfl, m, rfl⟩)
    go_ret
    exact ⟨_, rfl, OwnI.nil _ _, bdrewN (Below.refl _ _) m⟩
  · rw [gbL_yes hg h2.1 h3.1]
    obtain ⟨s1, s2, s3⟩ := gr_small hg h2.1 h3.1
    rw [hg] at G
    have HG := Lib.hid G
    obtain ⟨M, hM⟩ : ∃ M, n2 ^ n3 = M := ⟨_, rfl⟩
    have hM1 : 1 ≤ M := by rw [← hM]; exact Nat.pow_pos s1
    have HSB : Hid (GP.scan (gF xs cs ks) n2 n3 (M - 1) = GP.bestW (gF xs cs ks) n2 n3 []) := Lib.hid (by rw [← hM]; exact GP.scan_best _ n2 n3 s1)
    have HNX : Hid (∀ t, t < M → GP.nxt n2 (HP.digits n2 n3 t) = if t + 1 < M then some (HP.digits n2 n3 (t + 1)) else none) := Lib.hid fun t ht => by
      have := GP.nxt_digits n2 s1 n3 t (by rw [hM]; exact ht)
      rwa [hM] at this
    have HBN : Hid (∀ (w : World) (base g c t : Nat), OwnI w base (.slice (some ⟨g, 0, none⟩) n3 c) (nums (HP.digits n2 n3 t)) → t < M → blockN n2 n3 g w = t) := Lib.hid fun w base g c t h ht => blockN_digits h (by rw [hM]; exact ht)
    have HD0 : Hid (List.replicate n3 (0 : Int) = nums (HP.digits n2 n3 0)) := Lib.hid (by rw [GP.digits_zero, zeros_nums])
    have HDL : Hid (∀ t, (nums (HP.digits n2 n3 t)).length = n3) := Lib.hid fun t => by rw [nums_length]; exact GP.digits_length _ _ _
    have HSL : Hid (∀ t, (nums (GP.scan (gF xs cs ks) n2 n3 t)).length = n3) := Lib.hid fun t => by rw [nums_length]; exact scan_len _ _ _ t
    have HNG : Hid (∀ (base g c t : Nat) (w : World), OwnI w base (.slice (some ⟨g, 0, none⟩) n3 c) (nums (HP.digits n2 n3 t)) → Calls Try.prog 32 #[.slice (some ⟨g, 0, none⟩) n3 c, .int .i64 n2] w (NextOut w base g n3 c n2 (HP.digits n2 n3 t))) := Lib.hid fun base g c t w h => next_any base g n3 c n2 _ w h (GP.digits_length _ _ _) (by omega) (by omega) (fun k hk => by have := digits_lt s1 n3 t k hk; omega)
    have HGS : Hid (∀ (A' : Option Addr) (c' : Nat) (l : List Nat) (w : World), Ints w A n1 xs → Ints w A2 n2 cs → Ints w A3 n3 ks → Ints w A' n3 (nums l) → Calls Try.prog 16 #[.slice A n1 c1, .slice A2 n2 c2, .slice A3 n3 c3, .slice A' n3 c'] w (NumOut w (gF xs cs ks l))) := Lib.hid fun A' c' l w a1 a2 a3 a4 => gs_impl A n1 c1 xs A2 n2 c2 cs A3 n3 c3 ks A' n3 c' (nums l) w a1 a2 a3 a4
    have hm3 : (n3 : Int) ≤ 5 := by omega
    obtain ⟨i0, hi, hz0, hz1, hz2⟩ := info_parts infoInt
    have hmk : ∀ W : World, (Instr.makeSlice 22 (.int .i64 (n3 : Int)) (.int .i64 (n3 : Int))).run Try.prog W = .ok (.slice (some ⟨W.heap.size, 0, none⟩) n3 n3) (W.alloc (.cells (madeCells #[.int .i64 0] n3) 3)) := fun W => by
      have h := make_row (P := Try.prog) 22 3 i0 _ Try.underlying22 hi hz0 n3 (by rw [hz2]; omega) (by omega) W
      rw [hz1, Nat.mul_one] at h
      exact h
    have HM1 := Lib.hid hM1
    clear G h1 h2 h3 hg hi hz0 hz1 hz2 hM hM1
    go_enter Try.func11, Try.ntmps11
    go_wp2_with (go_at_call 30; refine (HG.out _ H1.out H2.out H3.out).mono ?_; rintro e w1 ⟨rfl, m, hw1⟩; have K1 := H1.out.drewN m; have K2 := H2.out.drewN m; have K3 := H3.out.drewN m; have B1 := bdrewN (Below.refl w.heap.size w) m; rw [← hw1] at K1 K2 K3 B1; clear hw1)
    obtain ⟨g, hg⟩ : ∃ g, w1.heap.size = g := ⟨_, rfl⟩
    have hgw : w.heap.size ≤ g := by rw [← hg]; exact B1.size
    obtain ⟨w2, hw2⟩ : ∃ w2 : World, w2 = w1.alloc (.cells (madeCells #[.int .i64 0] n3) 3) := ⟨_, rfl⟩
    have B2 : Below w1.heap.size w1 w2 := by rw [hw2]; exact (Below.refl _ _).alloc (Nat.le_refl _) _
    have O2 : OwnI w2 g (.slice (some ⟨g, 0, none⟩) n3 n3) (nums (HP.digits n2 n3 0)) := by
      rw [← HD0.out, hw2, ← hg]
      exact OwnI.zerosK (heap_alloc_new w1 _) (by omega) (Nat.le_refl _)
    have S2 : w2.heap.size = g + 1 := by rw [hw2, ← hg]; simp
    have J1 := K1.below B2
    have J2 := K2.below B2
    have J3 := K3.below B2
    have T2 : Below w.heap.size w w2 := B1.trans (below_le B1.size B2)
    have I2 := O2.intsM (HDL.out 0)
    rw [← hw2, hg]
    clear hw2 hg K1 K2 K3 B1 B2
    refine (clone_any _ _ _ _ _ I2 (by omega)).mono ?_
    rintro e w3 ⟨vb, rfl, ob, b3⟩
    have O3 := O2.below b3
    have L1 := J1.below b3
    have L2 := J2.below b3
    have L3 := J3.below b3
    have T3 : Below w.heap.size w w3 := T2.trans (below_le T2.size b3)
    have I3 := O3.intsM (HDL.out 0)
    rw [S2] at ob
    have S3 : g + 1 ≤ w3.heap.size := by have := b3.size; omega
    clear O2 J1 J2 J3 T2 I2 b3 S2
    go_wp2_with fail
    refine (HGS.out _ _ (HP.digits n2 n3 0) _ L1 L2 L3 I3).mono ?_
    rintro e w4 ⟨rfl, b4⟩
    have O4 := O3.below b4
    have ob4 := ob.below b4
    have T4 : Below w.heap.size w w4 := T3.trans (below_le T3.size b4)
    have S4 : g + 1 ≤ w4.heap.size := by have := b4.size; omega
    clear O3 ob L1 L2 L3 I3 T3 S3 b4
    go_wp2_with fail
    go_loopw [9] (fun s wr => ∃ t : Nat, t < M ∧ s = .int .i64 (gF xs cs ks (GP.scan (gF xs cs ks) n2 n3 t)) ∧ OwnI wr g (.slice (some ⟨g, 0, none⟩) n3 n3) (nums (HP.digits n2 n3 t)) ∧ OwnI wr (g + 1) vb (nums (GP.scan (gF xs cs ks) n2 n3 t)) ∧ Below w.heap.size w wr ∧ g + 1 ≤ wr.heap.size) (fun _ wr => M - blockN n2 n3 g wr)
    case atStart => exact ⟨0, HM1.out, rfl, O4, ob4, T4, S4⟩
    case round =>
      clear O4 ob4 T4 S4
      obtain ⟨t, ht, rfl, og, ob, hbl, hs⟩ := hrel
      have hbn := HBN.out wr g g n3 t og ht
      have hnx := HNX.out t ht
      have HBNt := Lib.hid hbn
      have C := HNG.out g g n3 t wr og
      have HOB := Lib.hid ob
      have HBL := Lib.hid hbl
      have HT := Lib.hid ht
      clear hbn og ob hbl ht
      by_cases hlt : t + 1 < M
      · rw [if_pos hlt] at hnx
        have hsome : (GP.nxt n2 (HP.digits n2 n3 t)).isSome = true := by rw [hnx]; rfl
        have HNx := Lib.hid hnx
        have HLt := Lib.hid hlt
        clear hnx hlt
        go_wp2_with fail
        refine C.mono ?_
        rintro e w5 ⟨ys, rfl, oy, hy, hyl, on5⟩
        have hyt := hy _ HNx.out
        subst hyt
        rw [hsome]
        have ob5 := HOB.out.only on5 (by omega)
        have b5 : Below w.heap.size w w5 := HBL.out.trans (on5.below (by omega) HBL.out.size)
        have s5 : g + 1 ≤ w5.heap.size := Nat.le_trans hs on5.size
        have L1 := H1.out.below b5
        have L2 := H2.out.below b5
        have L3 := H3.out.below b5
        have I5 := oy.intsM (HDL.out (t + 1))
        clear hy hyl on5 C hsome
        go_wp2_with fail
        refine (HGS.out _ _ (HP.digits n2 n3 (t + 1)) _ L1 L2 L3 I5).mono ?_
        rintro e w6 ⟨rfl, b6⟩
        have og6 := oy.below b6
        have ob6 := ob5.below b6
        have T6 : Below w.heap.size w w6 := b5.trans (below_le b5.size b6)
        have s6 : g + 1 ≤ w6.heap.size := Nat.le_trans s5 b6.size
        have hyes := scan_yes (f := gF xs cs ks) (m := n2) (n := n3) (t := t)
        have hno := scan_no (f := gF xs cs ks) (m := n2) (n := n3) (t := t)
        have J1 := og6.intsM (HDL.out (t + 1))
        have J2 := HSL.out t
        have HOG := Lib.hid og6
        clear oy ob5 b5 s5 L1 L2 L3 I5 b6 og6
        by_cases hf : gF xs cs ks (HP.digits n2 n3 (t + 1)) < gF xs cs ks (GP.scan (gF xs cs ks) n2 n3 t)
        · have HS := Lib.hid (hyes hf)
          clear hyes hno
          go_wp2_with (refine copy_int rfl _ _ rfl (g + 1) vb (nums (GP.scan (gF xs cs ks) n2 n3 t)) (some ⟨g, 0, none⟩) n3 n3 (nums (HP.digits n2 n3 (t + 1))) rfl rfl ob6 J1 J2 ?_; intro w7 o7 g7)
          go_simp
          have og7 : OwnI w7 g (.slice (some ⟨g, 0, none⟩) n3 n3) (nums (HP.digits n2 n3 (t + 1))) := HOG.out.grown g7 fun k h1 h2 => by
            have := ob6.block k h2
            have : g = k := by simpa [Value.ownBlock] using h1
            omega
          have hb7 : Below (g + 1) w6 w7 := grown_below ob6 s6 g7
          exact ⟨⟨t + 1, HLt.out, by rw [HS.out], og7, by rw [HS.out]; exact o7, T6.trans (below_le (by omega) hb7), Nat.le_trans s6 hb7.size⟩, by
            have e1 := HBN.out w7 g g n3 (t + 1) og7 HLt.out
            have e2 := HBNt.out
            have e3 := HLt.out
            first | (rw [e1, e2]; omega) | (simp only [e1, e2]; omega)⟩
        · have HS := Lib.hid (hno hf)
          have hf' : gF xs cs ks (GP.scan (gF xs cs ks) n2 n3 t) ≤ gF xs cs ks (HP.digits n2 n3 (t + 1)) := by omega
          clear hyes hno
          go_wp2
          exact ⟨⟨t + 1, HLt.out, by rw [HS.out], HOG.out, by rw [HS.out]; exact ob6, T6, s6⟩, by
            have e1 := HBN.out w6 g g n3 (t + 1) HOG.out HLt.out
            have e2 := HBNt.out
            have e3 := HLt.out
            first | (rw [e1, e2]; omega) | (simp only [e1, e2]; omega)⟩
      · rw [if_neg hlt] at hnx
        have hsome : (GP.nxt n2 (HP.digits n2 n3 t)).isSome = false := by rw [hnx]; rfl
        have HTM : Hid (t = M - 1) := Lib.hid (by have := HT.out; omega)
        clear hnx hlt
        go_wp2_with fail
        refine C.mono ?_
        rintro e w5 ⟨ys, rfl, oy, hy, hyl, on5⟩
        rw [hsome]
        have ob5 := HOB.out.only on5 (by omega)
        have b5 : Below w.heap.size w w5 := HBL.out.trans (on5.below (by omega) HBL.out.size)
        clear hy oy on5
        go_wp2
        go_ret
        exact ⟨_, rfl, by rw [← HSB.out, ← HTM.out]; exact ob5.lower (by omega), b5⟩
end Go.Proofs.Ytmekbfjeljfbpaa
