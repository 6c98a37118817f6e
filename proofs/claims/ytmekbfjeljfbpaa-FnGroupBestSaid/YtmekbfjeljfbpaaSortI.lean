/- slices.Sort, slices.Reverse and slices.Compact of a list of the call's own: contracts. -/
import Derived.Test.YtmekbfjeljfbpaaShelf
import Derived.Test.YtmekbfjeljfbpaaClone
import Derived.Sort.OwnSortedInts
import Derived.Lib.OwnBridge
namespace Go.Proofs.Ytmekbfjeljfbpaa
open Go.ChangeShapes Go.WideShapes Go.ChangeAt Go.RowKit

/-- The sorted list. -/
def sortI (zs : List Int) : List Int := zs.mergeSort fun x y => decide (x ≤ y)
theorem sortI_length (zs : List Int) : (sortI zs).length = zs.length := List.length_mergeSort _
/-- It returns nothing; the list has become ys. -/
def Turned (w : World) (base : Nat) (v : Value) (ys : List Int) (e : Ending) (w' : World) : Prop := e = .returned (.tuple #[]) ∧ OwnI w' base v ys ∧ Below base w w'
theorem sort_any (base : Nat) (v : Value) (zs : List Int) (w : World) (h : OwnI w base v zs) (hb : base ≤ w.heap.size) (hn : zs.length ≤ 1000000) : Calls Try.prog 36 #[v] w (Turned w base v (sortI zs)) := by
  rcases h.form with ⟨h1, h2⟩ | ⟨g, cap, cur, h1, h2, h3, h4, h5, h6, h7⟩
  · subst h1 h2
    refine (Try.slices_Sort_int_none none 0 w).mono fun e w' ⟨he, hw⟩ => ?_
    subst hw
    exact ⟨he, by rw [show sortI [] = [] from by simp [sortI]]; exact OwnI.nil _ _, Below.refl _ _⟩
  · subst h1
    have hg : g < w.heap.size := (Array.getElem?_eq_some_iff.1 h3).1
    refine (Try.slices_Sort_int g 0 cap zs w (holds_of_blockI h3 h7) hg (by omega)).mono fun e w' ⟨he, n, os, hw⟩ => ?_
    subst hw
    refine ⟨he, ?_, (Below.refl _ _).grown (grownBy_sortedI _) hb (fun k hk => ?_)⟩
    · have := ownsRow_sortedI (n := n) (os := os) (ts := sortI zs) (sortI_length zs) h2 h3 h4 h5 (by omega)
      unfold OwnI
      rw [sortI_length]
      exact this
    · cases hk; exact h2
theorem reverse_any (base : Nat) (v : Value) (zs : List Int) (w : World) (h : OwnI w base v zs) (hb : base ≤ w.heap.size) (hn : zs.length ≤ 1000000) : Calls Try.prog 81 #[v] w (Turned w base v zs.reverse) := by
  rcases h.form with ⟨h1, h2⟩ | ⟨g, cap, cur, h1, h2, h3, h4, h5, h6, h7⟩
  · subst h1 h2
    refine (Try.slices_Reverse_int_empty none 0 w).mono fun e w' ⟨he, hw⟩ => ?_
    subst hw
    exact ⟨he, OwnI.nil _ _, Below.refl _ _⟩
  · subst h1
    refine (Try.slices_Reverse_int g 0 cap zs w (holds_of_blockI h3 h7) (by omega)).mono fun e w' ⟨he, n, hw⟩ => ?_
    subst hw
    have h' : w.ownsRow base 3 1 (.slice (some ⟨g, 0, none⟩) zs.length cap) zs.length (zs.map (Value.int .i64)) := h
    refine ⟨he, ?_, Lib.below_putRow (Below.refl _ _) h2⟩
    have := Lib.ownsRow_putRow (q := n) (k := zs.length) (ys := zs.reverse) h' (by simp) (Nat.le_refl _)
    unfold OwnI
    rw [List.length_reverse]
    rw [List.take_of_length_le (by simp)] at this
    exact this
/-- The list without what is equal to the one before it. -/
def Cut (w : World) (base : Nat) (ys : List Int) (e : Ending) (w' : World) : Prop := ∃ v' : Value, e = .returned v' ∧ OwnI w' base v' ys ∧ Below base w w'
theorem compact_any (base : Nat) (v : Value) (zs : List Int) (w : World) (h : OwnI w base v zs) (hb : base ≤ w.heap.size) (hn : zs.length ≤ 1000000) : Calls Try.prog 38 #[v] w (Cut w base (Lib.compact zs)) := by
  rcases h.form with ⟨h1, h2⟩ | ⟨g, cap, cur, h1, h2, h3, h4, h5, h6, h7⟩
  · subst h1 h2
    refine (Try.slices_Compact_int_empty none 0 w).mono fun e w' ⟨he, hw⟩ => ?_
    subst hw
    exact ⟨_, he, OwnI.nil _ _, Below.refl _ _⟩
  · subst h1
    refine (Try.slices_Compact_int g 0 cap zs w (holds_of_blockI h3 h7) (by omega) h4).mono fun e w' ⟨he, q, hw⟩ => ?_
    subst hw
    have h' : w.ownsRow base 3 1 (.slice (some ⟨g, 0, none⟩) zs.length cap) zs.length (zs.map (Value.int .i64)) := h
    have hle := Lib.compact_length_le zs
    refine ⟨_, he, ?_, Lib.below_putRow (Below.refl _ _) h2⟩
    have := Lib.ownsRow_putRow (q := q) (k := (Lib.compact zs).length) (ys := Lib.compact zs ++ List.replicate (zs.length - (Lib.compact zs).length) 0) h' (by simp; omega) hle
    rw [List.take_left] at this
    exact this
/-- A copy of the call's own in the other order. -/
theorem turned_any (A : Option Addr) (n c : Nat) (xs : List Int) (w : World) (h : Ints w A n xs) (hn : n ≤ 100000) : Calls Try.prog 74 #[.slice A n c] w (Cloned w xs.reverse) := by
  go_enter Try.func74, Try.ntmps74
  go_wp2_with fail
  refine (clone_any A n c xs _ h hn).mono ?_
  rintro e w1 ⟨v1, rfl, o1, b1⟩
  have hl : xs.length = n := h.1
  go_wp2_with fail
  refine (reverse_any _ v1 xs _ o1 b1.size (by omega)).mono ?_
  rintro e w2 ⟨rfl, o2, b2⟩
  go_wp2
  go_ret
  exact ⟨_, rfl, o2, b1.trans b2⟩
end Go.Proofs.Ytmekbfjeljfbpaa
