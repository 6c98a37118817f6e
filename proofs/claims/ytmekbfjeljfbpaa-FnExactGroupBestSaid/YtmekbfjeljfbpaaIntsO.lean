/- toIntS: its result is a list of the call's own. -/
import Derived.Test.YtmekbfjeljfbpaaOwn
namespace Go.Proofs.Ytmekbfjeljfbpaa
open Go.ChangeShapes Go.WideShapes Go.ChangeAt Go.RowKit

theorem Filled1.list {cs : Array Value} {n : Nat} {xs : List Int} (h : Filled1 cs n n xs) (hl : xs.length = n) : cs = (xs.map (Value.int .i64)).toArray := by
  apply Array.ext
  · simp [h.1, hl]
  · intro i h1 h2
    have h3 := h.2 i (by have := h.1; omega)
    rw [Array.getElem?_eq_getElem h1] at h3
    injection h3 with h3
    rw [h3]
    simp at h2
    simp [List.getElem?_eq_getElem h2]
/-- A list of the call's own. -/
def OwnOut (w : World) (xs : List Int) (e : Ending) (w' : World) : Prop := ∃ v : Value, e = .returned v ∧ OwnI w' w.heap.size v xs ∧ Below w.heap.size w w'

set_option maxHeartbeats 1000000 in
theorem toIntsO_any (A : Option Addr) (n c : Nat) (xs : List Int) (w : World) (hI : Ints w A n xs) (hn : n ≤ 1048576) :
    Calls Try.prog 10 #[.slice A n c] w (OwnOut w xs) := by
  obtain ⟨hl, hm, hc⟩ := hI
  obtain ⟨i0, hi, hz0, hz1, hz2⟩ := info_parts infoInt
  have hmk : ∀ W : World, (Instr.makeSlice 22 (.int .i64 (n : Int)) (.int .i64 (n : Int))).run Try.prog W = .ok (.slice (some ⟨W.heap.size, 0, none⟩) n n) (W.alloc (.cells (madeCells #[.int .i64 0] n) 3)) := fun W => by
    have h := make_row (P := Try.prog) 22 3 i0 _ Try.underlying22 hi hz0 n (by rw [hz2]; omega) (by omega) W
    rw [hz1, Nat.mul_one] at h
    exact h
  have HL := Lib.hid hl
  have HC := Lib.hid hc
  clear hl hc hi hz0 hz1 hz2
  go_enter Try.func10, Try.ntmps10
  go_wp2
  go_loopw [4] (fun i wr => ∃ k : Nat, k ≤ n ∧ i = .int .i64 k ∧ Below w.heap.size w wr ∧ ∃ cs : Array Value, Blk wr w.heap.size 3 cs ∧ Filled1 cs n k xs) (fun i _ => n - (intOf i).toNat)
  case atStart =>
    exact ⟨0, Nat.zero_le _, rfl, by (repeat' (first | (with_reducible exact Below.refl _ _) | (with_reducible assumption) | (with_reducible exact bundrew (by assumption)) | (with_reducible refine balloc ?_ _) | (with_reducible refine bset ?_ _ ?_ _) | (with_reducible refine Below.drew ?_) | (with_reducible refine bdrewN ?_ _) | (with_reducible refine bvia (by assumption) ?_) | (with_reducible refine Below.trans ?_ (by assumption)) | omega | (simp; omega) | (simp; done))), _, Blk.new _ _ _, size_madeCells _ _, fun j hj => by omega⟩
  case round =>
    obtain ⟨k, hk, rfl, B1, cs, hb1, hF⟩ := hrel
    have hlt1 := hb1.lt
    by_cases hlt : k < n
    · obtain ⟨b, off, rfl, hb, hcc⟩ := HC.out (by omega)
      have e0 : wr.cell? ⟨b, off + k, none⟩ = some (.int .i64 (xs[k]?.getD 0)) := (B1.cell (p := ⟨b, off + k, none⟩) hb).trans (hcc k hlt)
      have hlt' : (k : Int) < (n : Int) := by omega
      have hs := hF.1
      obtain ⟨u2, e2⟩ : ∃ u, wr.cell? ⟨w.heap.size, k, none⟩ = some u := ⟨_, by rw [hb1.cell]; exact Array.getElem?_eq_getElem (by omega)⟩
      have e4 := hb1.frozen k
      have HB := Lib.hid hb1
      have HF := Lib.hid hF
      clear hcc hs hb1 hF
      go_wp2
      try go_region
      all_goals try go_wp2
      all_goals refine ⟨⟨k + 1, by omega, by go_num, ?_, _, ?_, HF.out.next hlt⟩, by simp [intOf]; omega⟩
      all_goals first | exact (HB.out.set_ k _) | exact (HB.out.set_ k _).drew | (repeat' (first | (with_reducible exact Below.refl _ _) | (with_reducible assumption) | (with_reducible exact bundrew (by assumption)) | (with_reducible refine balloc ?_ _) | (with_reducible refine bset ?_ _ ?_ _) | (with_reducible refine Below.drew ?_) | (with_reducible refine bdrewN ?_ _) | (with_reducible refine bvia (by assumption) ?_) | (with_reducible refine Below.trans ?_ (by assumption)) | omega | (simp; omega) | (simp; done)))
    · obtain rfl : k = n := by omega
      have hcs := hF.list HL.out
      have hO : OwnI wr w.heap.size (.slice (some ⟨w.heap.size, 0, none⟩) xs.length xs.length) xs := OwnI.made (Nat.le_refl _) (by have := hb1; rw [hcs] at this; exact this) (by rw [HL.out]; unfold maxLen; omega)
      rw [HL.out] at hO
      go_wp2
      go_ret
      exact ⟨_, rfl, hO, by (repeat' (first | (with_reducible exact Below.refl _ _) | (with_reducible assumption) | (with_reducible exact bundrew (by assumption)) | (with_reducible refine balloc ?_ _) | (with_reducible refine bset ?_ _ ?_ _) | (with_reducible refine Below.drew ?_) | (with_reducible refine bdrewN ?_ _) | (with_reducible refine bvia (by assumption) ?_) | (with_reducible refine Below.trans ?_ (by assumption)) | omega | (simp; omega) | (simp; done)))⟩
end Go.Proofs.Ytmekbfjeljfbpaa
