/- slices.Clone at []int: contract. -/
import Derived.Test.YtmekbfjeljfbpaaLower
import Derived.Lib.SliceRun
namespace Go.Proofs.Ytmekbfjeljfbpaa
open Go.ChangeShapes Go.WideShapes Go.ChangeAt Go.RowKit

theorem eql_nil (w : World) (a : Option Addr) (n c n' c' : Nat) : (binOp .eql 22 (.slice a n c) (.slice none n' c')).run Try.prog w = .ok (.bool a.isNone) w := Lib.run_eql_slice_nil w _ _ a n c n' c' Try.underlying22

/-- A copy in new memory. -/
def Cloned (w : World) (xs : List Int) (e : Ending) (w' : World) : Prop := ∃ v : Value, e = .returned v ∧ OwnI w' w.heap.size v xs ∧ Below w.heap.size w w'

set_option maxHeartbeats 1000000 in
theorem clone_any (A : Option Addr) (n c : Nat) (xs : List Int) (w : World) (h : Ints w A n xs) (hn : n ≤ 100000) :
    Calls Try.prog 31 #[.slice A n c] w (Cloned w xs) := by
  have q := eql_nil
  cases A with
  | none =>
    have hx : xs = [] := by
      obtain ⟨h1, _, h3⟩ := h
      rcases Nat.eq_zero_or_pos n with h0 | h0
      · exact List.eq_nil_of_length_eq_zero (by omega)
      · obtain ⟨b, off, e, _⟩ := h3 h0; cases e
    subst hx
    go_enter Try.func31, Try.ntmps31
    go_wp2
    go_ret
    exact ⟨_, rfl, OwnI.nil _ _, by (repeat' (first | (with_reducible exact Below.refl _ _) | (with_reducible assumption) | (with_reducible exact bundrew (by assumption)) | (with_reducible refine balloc ?_ _) | (with_reducible refine bset ?_ _ ?_ _) | (with_reducible refine Below.drew ?_) | (with_reducible refine bdrewN ?_ _) | (with_reducible refine bvia (by assumption) ?_) | (with_reducible refine Below.trans ?_ (by assumption)) | omega | (simp; omega) | (simp; done)))⟩
  | some ad =>
    have Hz0 := OwnI.made (w := w.alloc (.cells #[] 3)) (base := w.heap.size) (g := w.heap.size) (xs := []) (Nat.le_refl _) (heap_alloc_new w _) (by unfold maxLen; decide)
    have BA : Below w.heap.size w (w.alloc (.cells #[] 3)) := (Below.refl _ w).alloc (Nat.le_refl _) _
    have H1 := Lib.hid (h.below BA)
    clear h
    go_enter Try.func31, Try.ntmps31
    go_wp2_with (at_builtin; refine app_ints rfl _ _ rfl w.heap.size _ [] (some ad) n c xs rfl rfl Hz0 H1.out (fun e => by cases e) ?_ ?_ ?_; (focus (first | (simp; omega) | omega)); (focus (first | (go_simp; done) | (simp; done) | omega | (simp; omega))); intro v1 w1 h1 g1; have b1 : Below w.heap.size w w1 := BA.trans (grown_below Hz0 (by simp) g1))
    go_ret
    exact ⟨_, rfl, by simpa using h1, b1⟩
end Go.Proofs.Ytmekbfjeljfbpaa
