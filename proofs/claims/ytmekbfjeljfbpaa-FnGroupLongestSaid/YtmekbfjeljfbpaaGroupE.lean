/- GroupNear of the program: contract. -/
import Derived.Test.YtmekbfjeljfbpaaGroupD
namespace Go.Proofs.Ytmekbfjeljfbpaa
open Go.ChangeShapes Go.WideShapes Go.ChangeAt Go.RowKit

/-- The list in the middle: the first k calls are done, call k has car b so far, the others car 0. -/
def NearSt (xs cs ks : List Int) (n1 n2 k : Nat) (b : Int) (ys : List Int) : Prop :=
  ys.length = n2 ∧ (∀ j, j < k → ys[j]?.getD 0 = ((nearC xs cs (ks[j]?.getD 0) n1 : Nat) : Int)) ∧ (k < n2 → ys[k]?.getD 0 = b) ∧ ∀ j, k < j → j < n2 → ys[j]?.getD 0 = 0
theorem NearSt.start (xs cs ks : List Int) (n1 n2 : Nat) : NearSt xs cs ks n1 n2 0 0 (List.replicate n2 0) :=
  ⟨by simp, fun j hj => by omega, fun h => by simp [h], fun j _ hj => by simp [hj]⟩
theorem NearSt.put {xs cs ks ys : List Int} {n1 n2 k : Nat} {b : Int} (h : NearSt xs cs ks n1 n2 k b ys) (hk : k < n2) (y : Int) : NearSt xs cs ks n1 n2 k y (ys.set k y) := by
  have hl := h.1
  refine ⟨by simp [hl], fun j hj => ?_, fun _ => ?_, fun j h1 h2 => ?_⟩
  · rw [List.getElem?_set_ne (by omega)]; exact h.2.1 j hj
  · rw [List.getElem?_set_self (by omega)]; rfl
  · rw [List.getElem?_set_ne (by omega)]; exact h.2.2.2 j h1 h2
theorem NearSt.next {xs cs ks ys : List Int} {n1 n2 k : Nat} (h : NearSt xs cs ks n1 n2 k ((nearC xs cs (ks[k]?.getD 0) n1 : Nat) : Int) ys) (hk : k < n2) : NearSt xs cs ks n1 n2 (k + 1) 0 ys := by
  refine ⟨h.1, fun j hj => ?_, fun h1 => h.2.2.2 (k + 1) (by omega) h1, fun j h1 h2 => h.2.2.2 j (by omega) h2⟩
  by_cases e : j = k
  · subst e; exact h.2.2.1 hk
  · exact h.2.1 j (by omega)
theorem NearSt.done {xs cs ks ys : List Int} {n1 n2 : Nat} {b : Int} (h : NearSt xs cs ks n1 n2 n2 b ys) (h1 : cs.length = n1) : ys = nearL xs cs ks n2 := by
  apply List.ext_getElem
  · rw [h.1, nearL_length]
  · intro i a1 a2
    have hi : i < n2 := by rw [← h.1]; exact a1
    have e1 := h.2.1 i hi
    have e2 := nearL_at xs cs ks hi
    rw [List.getElem?_eq_getElem a1] at e1
    rw [List.getElem?_eq_getElem a2] at e2
    simp only [Option.getD_some] at e1 e2
    rw [e1, e2, h1]

/-- A made list of zeros. -/
theorem OwnI.zeros {w : World} {g n : Nat} (h : w.heap[g]? = some (.cells (madeCells #[.int .i64 0] n) 3 (0, 0))) (hn : n ≤ 1000000) {base : Nat} (hb : base ≤ g) : OwnI w base (.slice (some ⟨g, 0, none⟩) n n) (List.replicate n 0) := by
  refine ⟨by simp, .inr ⟨g, n, _, by simp, hb, h, by simp, by unfold maxLen; omega, by simp [size_madeCells], ?_⟩⟩
  rw [toList_madeCells_one]
  simp

set_option maxHeartbeats 2000000 in
theorem near_impl (A : Option Addr) (n c : Nat) (xs : List Int) (A1 : Option Addr) (n1 c1 : Nat) (cs : List Int) (A2 : Option Addr) (n2 c2 : Nat) (ks : List Int) (w : World) (h : Ints w A n xs) (h1 : Ints w A1 n1 cs) (h2 : Ints w A2 n2 ks) (hs2 : n2 ≤ 1000000) :
    Calls Try.prog 24 #[.slice A n c, .slice A1 n1 c1, .slice A2 n2 c2] w (ListOut w (nearI xs cs ks)) := by
  have H := Lib.hid h
  have H1 := Lib.hid h1
  have H2 := Lib.hid h2
  have L1 := Lib.hid h1.1
  have L2 := Lib.hid h2.1
  have hm2 : (n2 : Int) ≤ 1000000 := by omega
  have hm1 : (n1 : Int) ≤ 9223372036854775807 := by have := h1.2.1; omega
  have G := fun w hx hy hz => gr_impl A n c xs A1 n1 c1 cs A2 n2 c2 ks w hx hy hz
  cases hg : grB xs cs ks
  · rw [nearI_no hg]
    rw [hg] at G
    have HG := Lib.hid G
    clear G h h1 h2
    go_enter Try.func24, Try.ntmps24
    go_wp2_with (go_at_call 30; refine (HG.out _ H.out H1.out H2.out).mono ?_; rintro e w' ⟨rfl, m, rfl⟩)
    go_ret
    exact ⟨_, rfl, OwnI.nil _ _, bdrewN (Below.refl _ _) m⟩
  · rw [nearI_yes hg L2.out]
    rw [hg] at G
    have HG := Lib.hid G
    have hn1 : 0 < n1 := by have := (grB_iff.1 hg).2.1; have := L1.out; omega
    have hn1' : 0 < (n1 : Int) := by omega
    obtain ⟨i0, hi, hz0, hz1, hz2⟩ := info_parts infoInt
    have hmk : ∀ W : World, (Instr.makeSlice 22 (.int .i64 (n2 : Int)) (.int .i64 (n2 : Int))).run Try.prog W = .ok (.slice (some ⟨W.heap.size, 0, none⟩) n2 n2) (W.alloc (.cells (madeCells #[.int .i64 0] n2) 3)) := fun W => by
      have h := make_row (P := Try.prog) 22 3 i0 _ Try.underlying22 hi hz0 n2 (by rw [hz2]; omega) (by omega) W
      rw [hz1, Nat.mul_one] at h
      exact h
    clear G h h1 h2 hg hi hz0 hz1 hz2
    go_enter Try.func24, Try.ntmps24
    go_wp2_with (go_at_call 30; refine (HG.out _ H.out H1.out H2.out).mono ?_; rintro e w' ⟨rfl, m0, rfl⟩)
    have BA : Below w.heap.size w (w.alloc (.cells (madeCells #[.int .i64 0] n2) 3)) := (Below.refl _ w).alloc (Nat.le_refl _) _
    have Hz : OwnI (w.alloc (.cells (madeCells #[.int .i64 0] n2) 3)) w.heap.size (.slice (some ⟨w.heap.size, 0, none⟩) n2 n2) (List.replicate n2 0) := OwnI.zeros (heap_alloc_new w _) (by omega) (Nat.le_refl _)
    go_loopw [22] (fun i wr => ∃ (k : Nat) (ys : List Int), k ≤ n2 ∧ i = .int .i64 k ∧ OwnI wr w.heap.size (.slice (some ⟨w.heap.size, 0, none⟩) n2 n2) ys ∧ NearSt xs cs ks n1 n2 k 0 ys ∧ Below w.heap.size w wr) (fun i _ => n2 - (intOf i).toNat)
    case atStart => exact ⟨0, _, Nat.zero_le _, rfl, Hz, NearSt.start _ _ _ _ _, bdrewN BA _⟩
    case round =>
      clear Hz BA
      obtain ⟨k, ys, hk, rfl, hv, hst, hb⟩ := hrel
      by_cases hlt : k < n2
      · have hlt' : (k : Int) < (n2 : Int) := by omega
        have hI2 := H2.out.below hb
        obtain ⟨p2, off2, rfl, hb2, hcc2⟩ := hI2.2.2 (by omega)
        have e2 := hcc2 k hlt
        obtain ⟨f, hf⟩ : ∃ f, ks[k]?.getD 0 = f := ⟨_, rfl⟩
        rw [hf] at e2
        have HF := Lib.hid hf
        clear hcc2 hf hI2
        go_wp2
        go_loopw [29] (fun i wr => ∃ (j : Nat) (ys : List Int), j ≤ n1 ∧ i = .int .i64 j ∧ OwnI wr w.heap.size (.slice (some ⟨w.heap.size, 0, none⟩) n2 n2) ys ∧ NearSt xs cs ks n1 n2 k ((nearC xs cs f j : Nat) : Int) ys ∧ Below w.heap.size w wr) (fun i _ => n1 - (intOf i).toNat)
        case atStart => exact ⟨0, ys, Nat.zero_le _, rfl, hv, hst, hb⟩
        case round =>
          clear hv hst hb e2 hb2
          obtain ⟨j, ys, hj, rfl, hv, hst, hb⟩ := hrel
          by_cases hj2 : j < n1
          · have HR := Lib.hid (H.out.below hb)
            have hb1 : nearC xs cs f j < n1 := nearC_lt xs cs f hn1 hj
            have hys : wayI xs (cs[j]?.getD 0) f < wayI xs (cs[nearC xs cs f j]?.getD 0) f → nearC xs cs f (j + 1) = j := nearC_yes
            have hno : ¬ wayI xs (cs[j]?.getD 0) f < wayI xs (cs[nearC xs cs f j]?.getD 0) f → nearC xs cs f (j + 1) = nearC xs cs f j := nearC_not
            have hat := hv.at_ (i := k) (by rw [hst.1]; exact hlt)
            rw [hst.2.2.1 hlt] at hat
            obtain ⟨q, hq⟩ : ∃ q, nearC xs cs f j = q := ⟨_, rfl⟩
            rw [hq] at hb1 hys hno hat hst
            obtain ⟨a1, a2, a3, a4⟩ := hat
            obtain ⟨q1, off1, rfl, hbb1, hcc1⟩ := (H1.out.below hb).2.2 (by omega)
            have e1 := hcc1 j hj2
            have e2 := hcc1 q hb1
            obtain ⟨a, ha⟩ : ∃ a, cs[j]?.getD 0 = a := ⟨_, rfl⟩
            obtain ⟨b, hb'⟩ : ∃ b, cs[q]?.getD 0 = b := ⟨_, rfl⟩
            rw [ha] at e1 hys hno
            rw [hb'] at e2 hys hno
            have hj' : (j : Int) < (n1 : Int) := by omega
            have hq' : (q : Int) < (n1 : Int) := by omega
            have HV := Lib.hid hv
            have HST := Lib.hid hst
            have HB := Lib.hid hb
            by_cases hw : wayI xs a f < wayI xs b f
            · have HS := Lib.hid (hys hw)
              clear hcc1 hys hno ha hb' hq hv hst hb
              go_wp2_with fail
              go_quiet ((go_at_call 26; exact Calls.quiet_of (Qt.of (way_impl _ _ _ xs _ _ _ (HR.out.drewN _)))))
              go_wp2
              exact ⟨⟨j + 1, _, by omega, by go_num, HV.out.put (i := k) (j : Int) (by rw [HST.out.1]; exact hlt), by rw [HS.out]; exact HST.out.put hlt _, bdrewN (bset HB.out _ (Nat.le_refl _) _) _⟩, by simp [intOf]; omega⟩
            · have HS := Lib.hid (hno hw)
              have hw' : wayI xs b f ≤ wayI xs a f := by omega
              clear hcc1 hys hno ha hb' hq hv hst hb
              go_wp2_with fail
              go_quiet ((go_at_call 26; exact Calls.quiet_of (Qt.of (way_impl _ _ _ xs _ _ _ (HR.out.drewN _)))))
              go_wp2
              exact ⟨⟨j + 1, ys, by omega, by go_num, HV.out, by rw [HS.out]; exact HST.out, bdrewN HB.out _⟩, by simp [intOf]; omega⟩
          · obtain rfl : j = n1 := by omega
            go_wp2
            refine ⟨⟨k + 1, ys, by omega, by first | go_num | (congr 1; omega), hv, NearSt.next (by rw [HF.out]; exact hst) hlt, hb⟩, by simp [intOf]; omega⟩
      · obtain rfl : k = n2 := by omega
        go_wp2
        go_ret
        refine ⟨_, rfl, ?_, hb⟩
        rw [← hst.done L1.out]
        exact hv
end Go.Proofs.Ytmekbfjeljfbpaa
