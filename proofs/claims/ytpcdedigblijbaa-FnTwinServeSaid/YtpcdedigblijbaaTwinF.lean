/- Lists of moves: toTwinMoveS, eqTwinMove, eqTwinMoveS, szTwinMoveS: contracts. -/
import Derived.Test.YtpcdedigblijbaaTwinE
import Derived.Test.YtpcdedigblijbaaBlk
namespace Go.Proofs.Ytpcdedigblijbaa
open Go.ChangeShapes Go.WideShapes Go.ChangeAt Go.RowKit

theorem infoMove : (Try.prog.info? 34).map (fun i => (i.zero, i.size, i.bytes)) = some (some (.agg #[.int .i64 0, .int .i64 0]), 2, 16) := by kernel_rfl

/-- The first k pairs of a row of cells. -/
def Filled2 (cs : Array Value) (n k : Nat) (xs : List (Int × Int)) : Prop :=
  cs.size = n * 2 ∧ ∀ j, j < k → cs[j * 2]? = some (.int .i64 (px xs j)) ∧ cs[j * 2 + 1]? = some (.int .i64 (py xs j))
theorem Filled2.next {cs : Array Value} {n k : Nat} {xs : List (Int × Int)} (h : Filled2 cs n k xs) (hk : k < n) :
    Filled2 ((cs.setIfInBounds (k * 2) (.int .i64 (px xs k))).setIfInBounds (k * 2 + 1) (.int .i64 (py xs k))) n (k + 1) xs := by
  refine ⟨by simpa using h.1, fun j hj => ?_⟩
  have hs := h.1
  by_cases e : j = k
  · subst e
    constructor
    · rw [Array.getElem?_setIfInBounds_ne (by omega), Array.getElem?_setIfInBounds_self_of_lt (by omega)]
    · rw [Array.getElem?_setIfInBounds_self_of_lt (by simp; omega)]
  · obtain ⟨a1, a2⟩ := h.2 j (by omega)
    constructor
    · rw [Array.getElem?_setIfInBounds_ne (by omega), Array.getElem?_setIfInBounds_ne (by omega)]; exact a1
    · rw [Array.getElem?_setIfInBounds_ne (by omega), Array.getElem?_setIfInBounds_ne (by omega)]; exact a2

/-- A slice of pairs in new memory. -/
def PairsNew (w : World) (xs : List (Int × Int)) (e : Ending) (w' : World) : Prop :=
  ∃ (g c : Nat), e = .returned (.slice (some ⟨g, 0, none⟩) xs.length c) ∧ w.heap.size ≤ g ∧ Pairs w' (some ⟨g, 0, none⟩) xs.length xs ∧ Below w.heap.size w w'

set_option maxHeartbeats 2000000 in
theorem toMoves_any (A : Option Addr) (n c : Nat) (xs : List (Int × Int)) (w : World) (hP : Pairs w A n xs) (hn : n ≤ 1048576) :
    Calls Try.prog 31 #[.slice A n c] w (PairsNew w xs) := by
  obtain ⟨hl, hm, hc⟩ := hP
  obtain ⟨i0, hi, hz0, hz1, hz2⟩ := info_parts infoMove
  have hmk : ∀ W : World, (Instr.makeSlice 38 (.int .i64 (n : Int)) (.int .i64 (n : Int))).run Try.prog W = .ok (.slice (some ⟨W.heap.size, 0, none⟩) n n) (W.alloc (.cells (madeCells #[.int .i64 0, .int .i64 0] (n * 2)) 34)) := fun W => by
    have h := make_row (P := Try.prog) 38 34 i0 _ Try.underlying38 hi hz0 n (by rw [hz2]; omega) (by omega) W
    rw [hz1] at h
    exact h
  have HL := Lib.hid hl
  have HC := Lib.hid hc
  clear hl hc hi hz0 hz1 hz2
  go_enter Try.func31, Try.ntmps31
  go_wp2
  go_loopw [4] (fun i wr => ∃ k : Nat, k ≤ n ∧ i = .int .i64 k ∧ Below w.heap.size w wr ∧ ∃ cs : Array Value, Blk wr w.heap.size 34 cs ∧ Filled2 cs n k xs) (fun i _ => n - (intOf i).toNat)
  case atStart =>
    exact ⟨0, Nat.zero_le _, rfl, by (repeat' (first | (with_reducible exact Below.refl _ _) | (with_reducible assumption) | (with_reducible exact bundrew (by assumption)) | (with_reducible refine balloc ?_ _) | (with_reducible refine bset ?_ _ ?_ _) | (with_reducible refine Below.drew ?_) | (with_reducible refine bdrewN ?_ _) | (with_reducible refine bvia (by assumption) ?_) | (with_reducible refine Below.trans ?_ (by assumption)) | omega | (simp; omega) | (simp; done))), _, Blk.new _ _ _, size_madeCells _ _, fun j hj => by omega⟩
  case round =>
    obtain ⟨k, hk, rfl, B1, cs, hb1, hF⟩ := hrel
    have hlt1 := hb1.lt
    obtain ⟨y1, x1, v1, u1, t1⟩ := far_facts hlt1
    obtain ⟨s1, s2, s3, s4, s5, s6, s7, s8, s9⟩ := selfs wr.heap.size
    by_cases hlt : k < n
    · obtain ⟨b, off, rfl, hb, hcc⟩ := HC.out (by omega)
      obtain ⟨d0, d1⟩ := hcc k hlt
      have e0 : wr.cell? ⟨b, off + k * 2, none⟩ = some (.int .i64 (px xs k)) := (B1.cell (p := ⟨b, off + k * 2, none⟩) hb).trans d0
      have e1 : wr.cell? ⟨b, off + k * 2 + 1, none⟩ = some (.int .i64 (py xs k)) := (B1.cell (p := ⟨b, off + k * 2 + 1, none⟩) hb).trans d1
      have hlt' : (k : Int) < (n : Int) := by omega
      have hs := hF.1
      obtain ⟨u2, e2⟩ : ∃ u, wr.cell? ⟨w.heap.size, k * 2, none⟩ = some u := ⟨_, by rw [hb1.cell]; exact Array.getElem?_eq_getElem (by omega)⟩
      obtain ⟨u3, e3⟩ : ∃ u, wr.cell? ⟨w.heap.size, k * 2 + 1, none⟩ = some u := ⟨_, by rw [hb1.cell]; exact Array.getElem?_eq_getElem (by omega)⟩
      have e4 := hb1.frozen (k * 2)
      have e5 := hb1.frozen (k * 2 + 1)
      have HB := Lib.hid hb1
      have HF := Lib.hid hF
      clear hcc d0 d1 hs hb1 hF
      go_wp2_with (go_at_call 21; refine (toTwinMove_ex _ _ _).mono ?_; rintro e w' ⟨rfl, rfl⟩)
      refine ⟨⟨k + 1, by omega, by go_num, ?_, _, ?_, HF.out.next hlt⟩, by simp [intOf]; omega⟩
      · (repeat' (first | (with_reducible exact Below.refl _ _) | (with_reducible assumption) | (with_reducible exact bundrew (by assumption)) | (with_reducible refine balloc ?_ _) | (with_reducible refine bset ?_ _ ?_ _) | (with_reducible refine Below.drew ?_) | (with_reducible refine bdrewN ?_ _) | (with_reducible refine bvia (by assumption) ?_) | (with_reducible refine Below.trans ?_ (by assumption)) | omega | (simp; omega) | (simp; done)))
      exact ((((HB.out.set_ (k * 2) _).set_ (k * 2 + 1) _).alloc _).alloc _).alloc _
    · obtain rfl : k = n := by omega
      go_wp2
      go_ret
      refine ⟨w.heap.size, k, ?_, Nat.le_refl _, ⟨rfl, by rw [HL.out]; omega, fun hn0 => ⟨w.heap.size, 0, rfl, hlt1, fun j hj => ?_⟩⟩, by (repeat' (first | (with_reducible exact Below.refl _ _) | (with_reducible assumption) | (with_reducible exact bundrew (by assumption)) | (with_reducible refine balloc ?_ _) | (with_reducible refine bset ?_ _ ?_ _) | (with_reducible refine Below.drew ?_) | (with_reducible refine bdrewN ?_ _) | (with_reducible refine bvia (by assumption) ?_) | (with_reducible refine Below.trans ?_ (by assumption)) | omega | (simp; omega) | (simp; done)))⟩
      · rw [HL.out]; rfl
      · obtain ⟨a1, a2⟩ := hF.2 j (by rw [HL.out] at hj; exact hj)
        rw [Nat.zero_add, hb1.cell, hb1.cell]
        exact ⟨a1, a2⟩

theorem eqTwinMove_any (a b a' b' : Int) (w : World) : Calls Try.prog 46 #[.agg #[.int .i64 a, .int .i64 b], .agg #[.int .i64 a', .int .i64 b']] w fun e w' => e = .returned (.bool (decide (a = a' ∧ b = b'))) ∧ Below w.heap.size w w' := by
  go_enter Try.func46, Try.ntmps46
  go_wp2
  all_goals go_ret
  all_goals exact ⟨ret_bool (by first | (simp only [bne_iff_ne, ne_eq, bne_eq_false_iff_eq] at *; simp [*]) | skip), by go_grown⟩

/-- Equal lists are equal. -/
theorem eqMoves_any (A A' : Option Addr) (n c c' : Nat) (xs : List (Int × Int)) (w : World) (hP : Pairs w A n xs) (hP' : Pairs w A' n xs) :
    Calls Try.prog 26 #[.slice A n c, .slice A' n c'] w fun e w' => e = .returned (.bool true) ∧ Below w.heap.size w w' := by
  obtain ⟨hl, hm, hc⟩ := hP
  obtain ⟨hl', hm', hc'⟩ := hP'
  have HC := Lib.hid hc
  have HC' := Lib.hid hc'
  clear hl hl' hc hc'
  go_enter Try.func26, Try.ntmps26
  go_wp2
  go_loopw [5] (fun i wr => ∃ k : Nat, k ≤ n ∧ i = .int .i64 k ∧ Below w.heap.size w wr) (fun i _ => n - (intOf i).toNat)
  case atStart => exact ⟨0, Nat.zero_le _, rfl, by (repeat' (first | (with_reducible exact Below.refl _ _) | (with_reducible assumption) | (with_reducible exact bundrew (by assumption)) | (with_reducible refine balloc ?_ _) | (with_reducible refine bset ?_ _ ?_ _) | (with_reducible refine Below.drew ?_) | (with_reducible refine bdrewN ?_ _) | (with_reducible refine bvia (by assumption) ?_) | (with_reducible refine Below.trans ?_ (by assumption)) | omega | (simp; omega) | (simp; done)))⟩
  case round =>
    obtain ⟨k, hk, rfl, B1⟩ := hrel
    by_cases hlt : k < n
    · obtain ⟨b, off, rfl, hb, hcc⟩ := HC.out (by omega)
      obtain ⟨b', off', rfl, hb', hcc'⟩ := HC'.out (by omega)
      obtain ⟨d0, d1⟩ := hcc k hlt
      obtain ⟨d0', d1'⟩ := hcc' k hlt
      have hlt' : (k : Int) < (n : Int) := by omega
      have hB := B1.size
      have hb1 : b < wr.heap.size := by omega
      have hb1' : b' < wr.heap.size := by omega
      have e0 : wr.cell? ⟨b, off + k * 2, none⟩ = some (.int .i64 (px xs k)) := (B1.cell (p := ⟨b, off + k * 2, none⟩) hb).trans d0
      have e1 : wr.cell? ⟨b, off + k * 2 + 1, none⟩ = some (.int .i64 (py xs k)) := (B1.cell (p := ⟨b, off + k * 2 + 1, none⟩) hb).trans d1
      have e0' : wr.cell? ⟨b', off' + k * 2, none⟩ = some (.int .i64 (px xs k)) := (B1.cell (p := ⟨b', off' + k * 2, none⟩) hb').trans d0'
      have e1' : wr.cell? ⟨b', off' + k * 2 + 1, none⟩ = some (.int .i64 (py xs k)) := (B1.cell (p := ⟨b', off' + k * 2 + 1, none⟩) hb').trans d1'
      clear hcc hcc' d0 d1 d0' d1'
      go_wp2_with fail
      go_region_held3 (fun w' => w'.cell? ⟨b, off + k * 2, none⟩ = some (.int .i64 (px xs k)) ∧ w'.cell? ⟨b, off + k * 2 + 1, none⟩ = some (.int .i64 (py xs k)) ∧ w'.cell? ⟨b', off' + k * 2, none⟩ = some (.int .i64 (px xs k)) ∧ w'.cell? ⟨b', off' + k * 2 + 1, none⟩ = some (.int .i64 (py xs k)) ∧ Below w.heap.size w w')
        (first | (refine ⟨?_, ?_, ?_, ?_, ?_⟩ <;> first | (go_simp; done) | (repeat' (first | (with_reducible exact Below.refl _ _) | (with_reducible assumption) | (with_reducible exact bundrew (by assumption)) | (with_reducible refine balloc ?_ _) | (with_reducible refine bset ?_ _ ?_ _) | (with_reducible refine Below.drew ?_) | (with_reducible refine bdrewN ?_ _) | (with_reducible refine bvia (by assumption) ?_) | (with_reducible refine Below.trans ?_ (by assumption)) | omega | (simp; omega) | (simp; done)))))
        (first | (go_at_call 46; go_must (refine (eqTwinMove_any _ _ _ _ _).mono ?_; rintro e w1 ⟨rfl, hbw1⟩; obtain ⟨hcw1, hfw1, -, -, -, hsw1⟩ := bfacts5 hbw1; (try simp only [World.size_drew] at hcw1 hfw1); (try simp at hsw1); have qw10 : b < w1.heap.size := (by omega); have rw10 : ∀ m : Nat, b < w1.heap.size + m := fun m => (by omega); have qw11 : b' < w1.heap.size := (by omega); have rw11 : ∀ m : Nat, b' < w1.heap.size + m := fun m => (by omega))))
      all_goals go_wp2
      all_goals exact ⟨⟨k + 1, by omega, by go_num, by (repeat' (first | (with_reducible exact Below.refl _ _) | (with_reducible assumption) | (with_reducible exact bundrew (by assumption)) | (with_reducible refine balloc ?_ _) | (with_reducible refine bset ?_ _ ?_ _) | (with_reducible refine Below.drew ?_) | (with_reducible refine bdrewN ?_ _) | (with_reducible refine bvia (by assumption) ?_) | (with_reducible refine Below.trans ?_ (by assumption)) | omega | (simp; omega) | (simp; done)))⟩, by simp [intOf]; omega⟩
    · obtain rfl : k = n := by omega
      go_wp2
      go_ret
      exact ⟨rfl, B1⟩
end Go.Proofs.Ytpcdedigblijbaa
