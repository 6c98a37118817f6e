/- Lists of numbers: toIntS, eqIntS of the laws: contracts. -/
import Derived.Test.YtmekbfjeljfbpaaFloors
import Derived.Test.YtmekbfjeljfbpaaBlk
namespace Go.Proofs.Ytmekbfjeljfbpaa
open Go.ChangeShapes Go.WideShapes Go.ChangeAt Go.RowKit

theorem infoInt : (Try.prog.info? 3).map (fun i => (i.zero, i.size, i.bytes)) = some (some (.int .i64 0), 1, 8) := by kernel_rfl

theorem Ints.drewN {w : World} {A : Option Addr} {n : Nat} {xs : List Int} (h : Ints w A n xs) (m : Nat) : Ints (w.drewN m) A n xs := h

/-- The first k numbers of a row of cells. -/
def Filled1 (cs : Array Value) (n k : Nat) (xs : List Int) : Prop := cs.size = n ∧ ∀ j, j < k → cs[j]? = some (.int .i64 (xs[j]?.getD 0))
theorem Filled1.next {cs : Array Value} {n k : Nat} {xs : List Int} (h : Filled1 cs n k xs) (hk : k < n) : Filled1 (cs.setIfInBounds k (.int .i64 (xs[k]?.getD 0))) n (k + 1) xs := by
  refine ⟨by simpa using h.1, fun j hj => ?_⟩
  have hs := h.1
  by_cases e : j = k
  · subst e
    rw [Array.getElem?_setIfInBounds_self_of_lt (by omega)]
  · rw [Array.getElem?_setIfInBounds_ne (by omega)]; exact h.2 j (by omega)

/-- A slice of numbers in new memory: block g, its cells may be written. -/
def IntsNew (w : World) (xs : List Int) (e : Ending) (w' : World) : Prop :=
  ∃ (g c : Nat), e = .returned (.slice (some ⟨g, 0, none⟩) xs.length c) ∧ w.heap.size ≤ g ∧ Ints w' (some ⟨g, 0, none⟩) xs.length xs ∧ Below w.heap.size w w'

/-- The same; the slice is as long as its row. -/
def IntsNewC (w : World) (xs : List Int) (e : Ending) (w' : World) : Prop :=
  ∃ g : Nat, e = .returned (.slice (some ⟨g, 0, none⟩) xs.length xs.length) ∧ w.heap.size ≤ g ∧ Ints w' (some ⟨g, 0, none⟩) xs.length xs ∧ Below w.heap.size w w'

set_option maxHeartbeats 1000000 in
theorem toIntsC_any (A : Option Addr) (n c : Nat) (xs : List Int) (w : World) (hI : Ints w A n xs) (hn : n ≤ 1048576) :
    Calls Try.prog 10 #[.slice A n c] w (IntsNewC w xs) := by
  obtain ⟨hl, hm, hc⟩ := hI
  obtain ⟨i0, hi, hz0, hz1, hz2⟩ := info_parts infoInt
  have hmk : ∀ W : World, (Instr.makeSlice 22 (.int .i64 (n : Int)) (.int .i64 (n : Int))).run Try.prog W = .ok (.slice (some ⟨W.heap.size, 0, none⟩) n n) (W.alloc (.cells (madeCells #[.int .i64 0] n) 3)) := fun W => by
    have h := make_row (P := Try.prog) 22 3 i0 _ Try.underlying22 hi hz0 n (by rw [hz2]; omega) (by omega) W
    rw [hz1, Nat.mul_one] at h
    exact h
  have HL := Lib.hid hl
  have HC := Lib.hid hc
  clear hl hc hi hz0 hz1 hz2
  go_enter Try.func10, Try.ntmps10
  go_wp2
  go_loopw [4] (fun i wr => ∃ k : Nat, k ≤ n ∧ i = .int .i64 k ∧ Below w.heap.size w wr ∧ ∃ cs : Array Value, Blk wr w.heap.size 3 cs ∧ Filled1 cs n k xs) (fun i _ => n - (intOf i).toNat)
  case atStart =>
    exact ⟨0, Nat.zero_le _, rfl, by (repeat' (first | (with_reducible exact Below.refl _ _) | (with_reducible assumption) | (with_reducible exact bundrew (by assumption)) | (with_reducible refine balloc ?_ _) | (with_reducible refine bset ?_ _ ?_ _) | (with_reducible refine Below.drew ?_) | (with_reducible refine bdrewN ?_ _) | (with_reducible refine bvia (by assumption) ?_) | (with_reducible refine Below.trans ?_ (by assumption)) | omega | (simp; omega) | (simp; done))), _, Blk.new _ _ _, size_madeCells _ _, fun j hj => by omega⟩
  case round =>
    obtain ⟨k, hk, rfl, B1, cs, hb1, hF⟩ := hrel
    have hlt1 := hb1.lt
    by_cases hlt : k < n
    · obtain ⟨b, off, rfl, hb, hcc⟩ := HC.out (by omega)
      have e0 : wr.cell? ⟨b, off + k, none⟩ = some (.int .i64 (xs[k]?.getD 0)) := (B1.cell (p := ⟨b, off + k, none⟩) hb).trans (hcc k hlt)
      have hlt' : (k : Int) < (n : Int) := by omega
      have hs := hF.1
      obtain ⟨u2, e2⟩ : ∃ u, wr.cell? ⟨w.heap.size, k, none⟩ = some u := ⟨_, by rw [hb1.cell]; exact Array.getElem?_eq_getElem (by omega)⟩
      have e4 := hb1.frozen k
      have HB := Lib.hid hb1
      have HF := Lib.hid hF
      clear hcc hs hb1 hF
      go_wp2
      try go_region
      all_goals try go_wp2
      all_goals refine ⟨⟨k + 1, by omega, by go_num, ?_, _, ?_, HF.out.next hlt⟩, by simp [intOf]; omega⟩
      all_goals first | exact (HB.out.set_ k _) | exact (HB.out.set_ k _).drew | (repeat' (first | (with_reducible exact Below.refl _ _) | (with_reducible assumption) | (with_reducible exact bundrew (by assumption)) | (with_reducible refine balloc ?_ _) | (with_reducible refine bset ?_ _ ?_ _) | (with_reducible refine Below.drew ?_) | (with_reducible refine bdrewN ?_ _) | (with_reducible refine bvia (by assumption) ?_) | (with_reducible refine Below.trans ?_ (by assumption)) | omega | (simp; omega) | (simp; done)))
    · obtain rfl : k = n := by omega
      go_wp2
      go_ret
      refine ⟨w.heap.size, ?_, Nat.le_refl _, ⟨rfl, by rw [HL.out]; omega, fun hn0 => ⟨w.heap.size, 0, rfl, hlt1, fun j hj => ?_⟩⟩, by (repeat' (first | (with_reducible exact Below.refl _ _) | (with_reducible assumption) | (with_reducible exact bundrew (by assumption)) | (with_reducible refine balloc ?_ _) | (with_reducible refine bset ?_ _ ?_ _) | (with_reducible refine Below.drew ?_) | (with_reducible refine bdrewN ?_ _) | (with_reducible refine bvia (by assumption) ?_) | (with_reducible refine Below.trans ?_ (by assumption)) | omega | (simp; omega) | (simp; done)))⟩
      · rw [HL.out]; rfl
      · rw [Nat.zero_add, hb1.cell]
        exact hF.2 j (by rw [HL.out] at hj; exact hj)
theorem toInts_any (A : Option Addr) (n c : Nat) (xs : List Int) (w : World) (hI : Ints w A n xs) (hn : n ≤ 1048576) :
    Calls Try.prog 10 #[.slice A n c] w (IntsNew w xs) := (toIntsC_any A n c xs w hI hn).mono fun _ _ ⟨g, h⟩ => ⟨g, _, h⟩
/-- Equal lists are equal. -/
theorem eqInts_any (A A' : Option Addr) (n c c' : Nat) (xs : List Int) (w : World) (hP : Ints w A n xs) (hP' : Ints w A' n xs) :
    Calls Try.prog 12 #[.slice A n c, .slice A' n c'] w (Qt w (.bool true)) := by
  obtain ⟨hl, hm, hc⟩ := hP
  obtain ⟨hl', hm', hc'⟩ := hP'
  have HC := Lib.hid hc
  have HC' := Lib.hid hc'
  clear hl hl' hc hc'
  go_enter Try.func12, Try.ntmps12
  go_wp2
  go_loopw [5] (fun i wr => ∃ k : Nat, k ≤ n ∧ i = .int .i64 k ∧ ∃ m, wr = w.drewN m) (fun i _ => n - (intOf i).toNat)
  case atStart => exact ⟨0, Nat.zero_le _, rfl, 0, rfl⟩
  case round =>
    obtain ⟨k, hk, rfl, m, rfl⟩ := hrel
    by_cases hlt : k < n
    · obtain ⟨b, off, rfl, hb, hcc⟩ := HC.out (by omega)
      obtain ⟨b', off', rfl, hb', hcc'⟩ := HC'.out (by omega)
      have e0 := hcc k hlt
      have e1 := hcc' k hlt
      have hlt' : (k : Int) < (n : Int) := by omega
      clear hcc hcc'
      go_wp2
      try go_quiet (fail)
      all_goals try go_wp2
      all_goals exact ⟨⟨k + 1, by omega, by go_num, _, rfl⟩, by simp [intOf]; omega⟩
    · obtain rfl : k = n := by omega
      go_wp2
      go_ret
      exact qt_drew _ _ _
end Go.Proofs.Ytmekbfjeljfbpaa
