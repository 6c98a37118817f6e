/- FireBack of the reference; the walk of the law FnFireBack. -/
import Derived.Test.YtmoifakcjmdghaaDoorFireC
namespace Go.Proofs.YtmoifakcjmdghaaDoor
open Go.ChangeShapes Go.WideShapes Go.ChangeAt Go.RowKit

set_option maxHeartbeats 1000000 in
theorem back_spec (m : Int) (w : World) : Calls Tryd.prog 19 #[.int .i64 m] w (IntsOut w (backL m)) := by
  have hz := OwnI.made (w := w.alloc (.cells #[] 3)) (base := w.heap.size) (xs := []) (Nat.le_refl _) (heap_alloc_new w _) (by unfold maxLen; decide)
  have HZ := Lib.hid hz
  clear hz
  by_cases hA : inB m 0 3 = true
  · obtain ⟨h0, h3⟩ := inB_open hA
    rcases beq_or m 1 with ⟨e1, g1⟩ | ⟨e1, g1⟩ <;> rcases beq_or m 3 with ⟨e3, g3⟩ | ⟨e3, g3⟩ <;> rcases bne_or m 0 with ⟨z1, z2, g0⟩ | ⟨z1, z2, g0⟩ <;> try omega
    · have hb : backL m = [1, 4] := by unfold backL; rw [if_pos g1]
      rw [hb]
      clear g1 g3 g0 hb
      go_enter Tryd.func19, Tryd.ntmps19
      go_wp2_with (first | (go_at_call 21; refine (l1In_any _ _ _ _).mono ?_; rintro e w' ⟨rfl, rfl⟩) | (at_builtin; have _t := h1; refine app_int rfl _ _ rfl w.heap.size w1.heap.size _ ([] ++ [1]) 4 rfl rfl (h1.alloc _) ?_ ?_ ?_ ?_; (focus (first | (go_simp; done) | (simp; done) | omega | (simp; omega))); (focus (first | (go_simp; done) | (simp; done) | omega | (simp; omega))); (focus (first | (go_simp; done) | (simp; done) | omega | (simp; omega))); intro v2 w2 h2 g2; have zw2 := g2.size; (try simp at zw2)) | (at_builtin; refine app_int rfl _ _ rfl w.heap.size (w.heap.size + 1) _ [] 1 rfl rfl (HZ.out.alloc _) ?_ ?_ ?_ ?_; (focus (first | (go_simp; done) | (simp; done) | omega | (simp; omega))); (focus (first | (go_simp; done) | (simp; done) | omega | (simp; omega))); (focus (first | (go_simp; done) | (simp; done) | omega | (simp; omega))); intro v1 w1 h1 g1; have zw1 := g1.size; (try simp at zw1)))
      go_ret
      exact ⟨_, rfl, h2, by (repeat' (first | (with_reducible exact Below.refl _ _) | (with_reducible assumption) | (with_reducible exact bundrew (by assumption)) | (with_reducible refine balloc ?_ _) | (with_reducible refine bset ?_ _ ?_ _) | (with_reducible refine Below.drew ?_) | (with_reducible refine bdrewN ?_ _) | (with_reducible refine bvia (by assumption) ?_) | (with_reducible refine Below.trans ?_ (by assumption)) | omega | (simp; omega) | (simp; done)))⟩
    · have hb : backL m = [3, 1, 4] := by unfold backL; rw [if_neg (by omega), if_neg (by omega), if_pos g3]
      rw [hb]
      clear g1 g3 g0 hb
      go_enter Tryd.func19, Tryd.ntmps19
      go_wp2_with (first | (go_at_call 21; refine (l1In_any _ _ _ _).mono ?_; rintro e w' ⟨rfl, rfl⟩) | (at_builtin; have _t := h2; refine app_int rfl _ _ rfl w.heap.size w2.heap.size _ (([] ++ [3]) ++ [1]) 4 rfl rfl (h2.alloc _) ?_ ?_ ?_ ?_; (focus (first | (go_simp; done) | (simp; done) | omega | (simp; omega))); (focus (first | (go_simp; done) | (simp; done) | omega | (simp; omega))); (focus (first | (go_simp; done) | (simp; done) | omega | (simp; omega))); intro v3 w3 h3 g3; have zw3 := g3.size; (try simp at zw3)) | (at_builtin; have _t := h1; refine app_int rfl _ _ rfl w.heap.size w1.heap.size _ ([] ++ [3]) 1 rfl rfl (h1.alloc _) ?_ ?_ ?_ ?_; (focus (first | (go_simp; done) | (simp; done) | omega | (simp; omega))); (focus (first | (go_simp; done) | (simp; done) | omega | (simp; omega))); (focus (first | (go_simp; done) | (simp; done) | omega | (simp; omega))); intro v2 w2 h2 g2; have zw2 := g2.size; (try simp at zw2)) | (at_builtin; refine app_int rfl _ _ rfl w.heap.size (w.heap.size + 1) _ [] 3 rfl rfl (HZ.out.alloc _) ?_ ?_ ?_ ?_; (focus (first | (go_simp; done) | (simp; done) | omega | (simp; omega))); (focus (first | (go_simp; done) | (simp; done) | omega | (simp; omega))); (focus (first | (go_simp; done) | (simp; done) | omega | (simp; omega))); intro v1 w1 h1 g1; have zw1 := g1.size; (try simp at zw1)))
      go_ret
      exact ⟨_, rfl, h3, by (repeat' (first | (with_reducible exact Below.refl _ _) | (with_reducible assumption) | (with_reducible exact bundrew (by assumption)) | (with_reducible refine balloc ?_ _) | (with_reducible refine bset ?_ _ ?_ _) | (with_reducible refine Below.drew ?_) | (with_reducible refine bdrewN ?_ _) | (with_reducible refine bvia (by assumption) ?_) | (with_reducible refine Below.trans ?_ (by assumption)) | omega | (simp; omega) | (simp; done)))⟩
    · have hb : backL m = [] := by unfold backL; rw [if_neg (by omega), if_neg (by omega), if_neg (by omega)]
      rw [hb]
      clear g1 g3 g0 hb
      go_enter Tryd.func19, Tryd.ntmps19
      go_wp2_with (go_at_call 21; refine (l1In_any _ _ _ _).mono ?_; rintro e w' ⟨rfl, rfl⟩)
      go_ret
      exact ⟨_, rfl, HZ.out, by (repeat' (first | (with_reducible exact Below.refl _ _) | (with_reducible assumption) | (with_reducible exact bundrew (by assumption)) | (with_reducible refine balloc ?_ _) | (with_reducible refine bset ?_ _ ?_ _) | (with_reducible refine Below.drew ?_) | (with_reducible refine bdrewN ?_ _) | (with_reducible refine bvia (by assumption) ?_) | (with_reducible refine Below.trans ?_ (by assumption)) | omega | (simp; omega) | (simp; done)))⟩
    · have hb : backL m = [4] := by unfold backL; rw [if_neg (by omega), if_pos (by omega)]
      rw [hb]
      clear g1 g3 g0 hb
      go_enter Tryd.func19, Tryd.ntmps19
      go_wp2_with (first | (go_at_call 21; refine (l1In_any _ _ _ _).mono ?_; rintro e w' ⟨rfl, rfl⟩) | (at_builtin; refine app_int rfl _ _ rfl w.heap.size (w.heap.size + 1) _ [] 4 rfl rfl (HZ.out.alloc _) ?_ ?_ ?_ ?_; (focus (first | (go_simp; done) | (simp; done) | omega | (simp; omega))); (focus (first | (go_simp; done) | (simp; done) | omega | (simp; omega))); (focus (first | (go_simp; done) | (simp; done) | omega | (simp; omega))); intro v1 w1 h1 g1; have zw1 := g1.size; (try simp at zw1)))
      go_ret
      exact ⟨_, rfl, h1, by (repeat' (first | (with_reducible exact Below.refl _ _) | (with_reducible assumption) | (with_reducible exact bundrew (by assumption)) | (with_reducible refine balloc ?_ _) | (with_reducible refine bset ?_ _ ?_ _) | (with_reducible refine Below.drew ?_) | (with_reducible refine bdrewN ?_ _) | (with_reducible refine bvia (by assumption) ?_) | (with_reducible refine Below.trans ?_ (by assumption)) | omega | (simp; omega) | (simp; done)))⟩
  · have hA' := bfalse hA
    have hb : backL m = [] := by have := inB_shut hA; unfold backL; rw [if_neg (by omega), if_neg (by omega), if_neg (by omega)]
    rw [hb]
    clear hb
    go_enter Tryd.func19, Tryd.ntmps19
    go_wp2_with (go_at_call 21; refine (l1In_any _ _ _ _).mono ?_; rintro e w' ⟨rfl, rfl⟩)
    go_ret
    exact ⟨_, rfl, HZ.out, by (repeat' (first | (with_reducible exact Below.refl _ _) | (with_reducible assumption) | (with_reducible exact bundrew (by assumption)) | (with_reducible refine balloc ?_ _) | (with_reducible refine bset ?_ _ ?_ _) | (with_reducible refine Below.drew ?_) | (with_reducible refine bdrewN ?_ _) | (with_reducible refine bvia (by assumption) ?_) | (with_reducible refine Below.trans ?_ (by assumption)) | omega | (simp; omega) | (simp; done)))⟩
end Go.Proofs.YtmoifakcjmdghaaDoor
