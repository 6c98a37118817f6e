/- FireBack of the program and of the reference; the walk of the law FnExactFireBack. -/
import Derived.Test.YtmoifakcjmdghaaMark
namespace Go.Proofs.Ytmoifakcjmdghaa
open Go.ChangeShapes Go.WideShapes Go.ChangeAt Go.RowKit

/-- The events that lead back. -/
def backL (m : Int) : List Int := if m = 1 then [1, 4] else if m = 2 then [4] else if m = 3 then [3, 1, 4] else []
/-- A slice of numbers, in new memory but for nil. -/
def IntsOut (w : World) (xs : List Int) (e : Ending) (w' : World) : Prop := ∃ v : Value, e = .returned v ∧ OwnI w' w.heap.size v xs ∧ Below w.heap.size w w'

theorem back_impl (m : Int) (w : World) : Calls Try.prog 7 #[.int .i64 m] w (IntsOut w (backL m)) := by
  rcases beq_or m 1 with ⟨e1, g1⟩ | ⟨e1, g1⟩ <;> rcases beq_or m 2 with ⟨e2, g2⟩ | ⟨e2, g2⟩ <;> rcases beq_or m 3 with ⟨e3, g3⟩ | ⟨e3, g3⟩ <;> try omega
  · have hb : backL m = [1, 4] := by unfold backL; rw [if_pos g1]
    rw [hb]
    clear g1 g2 g3 hb
    go_enter Try.func7, Try.ntmps7
    go_wp2
    go_ret
    exact ⟨_, rfl, OwnI.made (Nat.le_refl _) (heap_alloc_new w _) (by unfold maxLen; decide), by (repeat' (first | (with_reducible exact Below.refl _ _) | (with_reducible assumption) | (with_reducible exact bundrew (by assumption)) | (with_reducible refine balloc ?_ _) | (with_reducible refine bset ?_ _ ?_ _) | (with_reducible refine Below.drew ?_) | (with_reducible refine bdrewN ?_ _) | (with_reducible refine bvia (by assumption) ?_) | (with_reducible refine Below.trans ?_ (by assumption)) | omega | (simp; omega) | (simp; done)))⟩
  · have hb : backL m = [4] := by unfold backL; rw [if_neg (by omega), if_pos g2]
    rw [hb]
    clear g1 g2 g3 hb
    go_enter Try.func7, Try.ntmps7
    go_wp2
    go_ret
    exact ⟨_, rfl, OwnI.made (Nat.le_refl _) (heap_alloc_new w _) (by unfold maxLen; decide), by (repeat' (first | (with_reducible exact Below.refl _ _) | (with_reducible assumption) | (with_reducible exact bundrew (by assumption)) | (with_reducible refine balloc ?_ _) | (with_reducible refine bset ?_ _ ?_ _) | (with_reducible refine Below.drew ?_) | (with_reducible refine bdrewN ?_ _) | (with_reducible refine bvia (by assumption) ?_) | (with_reducible refine Below.trans ?_ (by assumption)) | omega | (simp; omega) | (simp; done)))⟩
  · have hb : backL m = [3, 1, 4] := by unfold backL; rw [if_neg (by omega), if_neg (by omega), if_pos g3]
    rw [hb]
    clear g1 g2 g3 hb
    go_enter Try.func7, Try.ntmps7
    go_wp2
    go_ret
    exact ⟨_, rfl, OwnI.made (Nat.le_refl _) (heap_alloc_new w _) (by unfold maxLen; decide), by (repeat' (first | (with_reducible exact Below.refl _ _) | (with_reducible assumption) | (with_reducible exact bundrew (by assumption)) | (with_reducible refine balloc ?_ _) | (with_reducible refine bset ?_ _ ?_ _) | (with_reducible refine Below.drew ?_) | (with_reducible refine bdrewN ?_ _) | (with_reducible refine bvia (by assumption) ?_) | (with_reducible refine Below.trans ?_ (by assumption)) | omega | (simp; omega) | (simp; done)))⟩
  · have hb : backL m = [] := by unfold backL; rw [if_neg (by omega), if_neg (by omega), if_neg (by omega)]
    rw [hb]
    clear g1 g2 g3 hb
    go_enter Try.func7, Try.ntmps7
    go_wp2
    go_ret
    exact ⟨_, rfl, OwnI.nil _ _, by (repeat' (first | (with_reducible exact Below.refl _ _) | (with_reducible assumption) | (with_reducible exact bundrew (by assumption)) | (with_reducible refine balloc ?_ _) | (with_reducible refine bset ?_ _ ?_ _) | (with_reducible refine Below.drew ?_) | (with_reducible refine bdrewN ?_ _) | (with_reducible refine bvia (by assumption) ?_) | (with_reducible refine Below.trans ?_ (by assumption)) | omega | (simp; omega) | (simp; done)))⟩

set_option maxHeartbeats 1000000 in
theorem back_spec (m : Int) (w : World) : Calls Try.prog 6 #[.int .i64 m] w (IntsOut w (backL m)) := by
  have hz := OwnI.made (w := w.alloc (.cells #[] 3)) (base := w.heap.size) (xs := []) (Nat.le_refl _) (heap_alloc_new w _) (by unfold maxLen; decide)
  have HZ := Lib.hid hz
  clear hz
  by_cases hA : inB m 0 3 = true
  · obtain ⟨h0, h3⟩ := inB_open hA
    rcases beq_or m 1 with ⟨e1, g1⟩ | ⟨e1, g1⟩ <;> rcases beq_or m 3 with ⟨e3, g3⟩ | ⟨e3, g3⟩ <;> rcases bne_or m 0 with ⟨z1, z2, g0⟩ | ⟨z1, z2, g0⟩ <;> try omega
    · have hb : backL m = [1, 4] := by unfold backL; rw [if_pos g1]
      rw [hb]
      clear g1 g3 g0 hb
      go_enter Try.func6, Try.ntmps6
      go_wp2_with (first | (go_at_call 22; refine (l1In_any _ _ _ _).mono ?_; rintro e w' ⟨rfl, rfl⟩) | (at_builtin; have _t := h1; refine app_int rfl _ _ rfl w.heap.size w1.heap.size _ ([] ++ [1]) 4 rfl rfl (h1.alloc _) ?_ ?_ ?_ ?_; (focus (first | (go_simp; done) | (simp; done) | omega | (simp; omega))); (focus (first | (go_simp; done) | (simp; done) | omega | (simp; omega))); (focus (first | (go_simp; done) | (simp; done) | omega | (simp; omega))); intro v2 w2 h2 g2; have zw2 := g2.size; (try simp at zw2)) | (at_builtin; refine app_int rfl _ _ rfl w.heap.size (w.heap.size + 1) _ [] 1 rfl rfl (HZ.out.alloc _) ?_ ?_ ?_ ?_; (focus (first | (go_simp; done) | (simp; done) | omega | (simp; omega))); (focus (first | (go_simp; done) | (simp; done) | omega | (simp; omega))); (focus (first | (go_simp; done) | (simp; done) | omega | (simp; omega))); intro v1 w1 h1 g1; have zw1 := g1.size; (try simp at zw1)))
      go_ret
      exact ⟨_, rfl, h2, by (repeat' (first | (with_reducible exact Below.refl _ _) | (with_reducible assumption) | (with_reducible exact bundrew (by assumption)) | (with_reducible refine balloc ?_ _) | (with_reducible refine bset ?_ _ ?_ _) | (with_reducible refine Below.drew ?_) | (with_reducible refine bdrewN ?_ _) | (with_reducible refine bvia (by assumption) ?_) | (with_reducible refine Below.trans ?_ (by assumption)) | omega | (simp; omega) | (simp; done)))⟩
    · have hb : backL m = [3, 1, 4] := by unfold backL; rw [if_neg (by omega), if_neg (by omega), if_pos g3]
      rw [hb]
      clear g1 g3 g0 hb
      go_enter Try.func6, Try.ntmps6
      go_wp2_with (first | (go_at_call 22; refine (l1In_any _ _ _ _).mono ?_; rintro e w' ⟨rfl, rfl⟩) | (at_builtin; have _t := h2; refine app_int rfl _ _ rfl w.heap.size w2.heap.size _ (([] ++ [3]) ++ [1]) 4 rfl rfl (h2.alloc _) ?_ ?_ ?_ ?_; (focus (first | (go_simp; done) | (simp; done) | omega | (simp; omega))); (focus (first | (go_simp; done) | (simp; done) | omega | (simp; omega))); (focus (first | (go_simp; done) | (simp; done) | omega | (simp; omega))); intro v3 w3 h3 g3; have zw3 := g3.size; (try simp at zw3)) | (at_builtin; have _t := h1; refine app_int rfl _ _ rfl w.heap.size w1.heap.size _ ([] ++ [3]) 1 rfl rfl (h1.alloc _) ?_ ?_ ?_ ?_; (focus (first | (go_simp; done) | (simp; done) | omega | (simp; omega))); (focus (first | (go_simp; done) | (simp; done) | omega | (simp; omega))); (focus (first | (go_simp; done) | (simp; done) | omega | (simp; omega))); intro v2 w2 h2 g2; have zw2 := g2.size; (try simp at zw2)) | (at_builtin; refine app_int rfl _ _ rfl w.heap.size (w.heap.size + 1) _ [] 3 rfl rfl (HZ.out.alloc _) ?_ ?_ ?_ ?_; (focus (first | (go_simp; done) | (simp; done) | omega | (simp; omega))); (focus (first | (go_simp; done) | (simp; done) | omega | (simp; omega))); (focus (first | (go_simp; done) | (simp; done) | omega | (simp; omega))); intro v1 w1 h1 g1; have zw1 := g1.size; (try simp at zw1)))
      go_ret
      exact ⟨_, rfl, h3, by (repeat' (first | (with_reducible exact Below.refl _ _) | (with_reducible assumption) | (with_reducible exact bundrew (by assumption)) | (with_reducible refine balloc ?_ _) | (with_reducible refine bset ?_ _ ?_ _) | (with_reducible refine Below.drew ?_) | (with_reducible refine bdrewN ?_ _) | (with_reducible refine bvia (by assumption) ?_) | (with_reducible refine Below.trans ?_ (by assumption)) | omega | (simp; omega) | (simp; done)))⟩
    · have hb : backL m = [] := by unfold backL; rw [if_neg (by omega), if_neg (by omega), if_neg (by omega)]
      rw [hb]
      clear g1 g3 g0 hb
      go_enter Try.func6, Try.ntmps6
      go_wp2_with (go_at_call 22; refine (l1In_any _ _ _ _).mono ?_; rintro e w' ⟨rfl, rfl⟩)
      go_ret
      exact ⟨_, rfl, HZ.out, by (repeat' (first | (with_reducible exact Below.refl _ _) | (with_reducible assumption) | (with_reducible exact bundrew (by assumption)) | (with_reducible refine balloc ?_ _) | (with_reducible refine bset ?_ _ ?_ _) | (with_reducible refine Below.drew ?_) | (with_reducible refine bdrewN ?_ _) | (with_reducible refine bvia (by assumption) ?_) | (with_reducible refine Below.trans ?_ (by assumption)) | omega | (simp; omega) | (simp; done)))⟩
    · have hb : backL m = [4] := by unfold backL; rw [if_neg (by omega), if_pos (by omega)]
      rw [hb]
      clear g1 g3 g0 hb
      go_enter Try.func6, Try.ntmps6
      go_wp2_with (first | (go_at_call 22; refine (l1In_any _ _ _ _).mono ?_; rintro e w' ⟨rfl, rfl⟩) | (at_builtin; refine app_int rfl _ _ rfl w.heap.size (w.heap.size + 1) _ [] 4 rfl rfl (HZ.out.alloc _) ?_ ?_ ?_ ?_; (focus (first | (go_simp; done) | (simp; done) | omega | (simp; omega))); (focus (first | (go_simp; done) | (simp; done) | omega | (simp; omega))); (focus (first | (go_simp; done) | (simp; done) | omega | (simp; omega))); intro v1 w1 h1 g1; have zw1 := g1.size; (try simp at zw1)))
      go_ret
      exact ⟨_, rfl, h1, by (repeat' (first | (with_reducible exact Below.refl _ _) | (with_reducible assumption) | (with_reducible exact bundrew (by assumption)) | (with_reducible refine balloc ?_ _) | (with_reducible refine bset ?_ _ ?_ _) | (with_reducible refine Below.drew ?_) | (with_reducible refine bdrewN ?_ _) | (with_reducible refine bvia (by assumption) ?_) | (with_reducible refine Below.trans ?_ (by assumption)) | omega | (simp; omega) | (simp; done)))⟩
  · have hA' := bfalse hA
    have hb : backL m = [] := by have := inB_shut hA; unfold backL; rw [if_neg (by omega), if_neg (by omega), if_neg (by omega)]
    rw [hb]
    clear hb
    go_enter Try.func6, Try.ntmps6
    go_wp2_with (go_at_call 22; refine (l1In_any _ _ _ _).mono ?_; rintro e w' ⟨rfl, rfl⟩)
    go_ret
    exact ⟨_, rfl, HZ.out, by (repeat' (first | (with_reducible exact Below.refl _ _) | (with_reducible assumption) | (with_reducible exact bundrew (by assumption)) | (with_reducible refine balloc ?_ _) | (with_reducible refine bset ?_ _ ?_ _) | (with_reducible refine Below.drew ?_) | (with_reducible refine bdrewN ?_ _) | (with_reducible refine bvia (by assumption) ?_) | (with_reducible refine Below.trans ?_ (by assumption)) | omega | (simp; omega) | (simp; done)))⟩

theorem backL_length (m : Int) : (backL m).length ≤ 3 := by
  unfold backL
  repeat' split
  all_goals simp

/-- What a change of one list of the call's own leaves of another one. -/
theorem OwnI.grown {w w' : World} {base : Nat} {v u : Value} {xs : List Int} (h : OwnI w base v xs) (hg : w.grownBy w' u.ownBlock) (hd : ∀ g, v.ownBlock = some g → u.ownBlock ≠ some g) : OwnI w' base v xs :=
  h.keep fun g hv hlt => hg.block g hlt fun e => hd g hv e.symm
theorem OwnI.apart {w w' : World} {b1 b2 : Nat} {v u : Value} {xs ys : List Int} (h : OwnI w b1 v xs) (k : OwnI w' b2 u ys) (hs : w.heap.size ≤ b2) : ∀ g, v.ownBlock = some g → u.ownBlock ≠ some g := fun g hv hu => by
  have h1 := k.block g hu
  rcases h.form with ⟨e, _⟩ | ⟨g', cap, cur, e, _, hh, _⟩
  · subst e; simp [Value.ownBlock] at hv
  · subst e
    have : g' = g := by simpa [Value.ownBlock] using hv
    subst this
    have := (Array.getElem?_eq_some_iff.1 hh).1
    omega
theorem below_grown {w W w' : World} {base : Nat} {v : Value} {xs : List Int} (h : Below w.heap.size w W) (o : OwnI W base v xs) (hb : w.heap.size ≤ base) (hg : W.grownBy w' v.ownBlock) : Below w.heap.size w w' :=
  h.trans ((Below.refl _ _).grown hg h.size fun k hk => Nat.le_trans hb (o.block k hk))

set_option maxHeartbeats 2000000 in
theorem walk_FnExactFireBack (m : Int) (w : World) (_ : (Lit.int .i64 m).wf = true) :
    Calls Try.prog 3 #[.int .i64 m] w fun e w' => e = .returned (.bool true) ∧ Below w.heap.size w w' := by
  have hL := backL_length m
  have hL' : ((backL m).length : Int) ≤ 3 := by omega
  go_enter Try.func3, Try.ntmps3
  go_wp2_with fail
  refine (back_spec _ _).mono ?_
  rintro e w1 ⟨v1, rfl, o1, hb1⟩
  obtain ⟨A1, c1, rfl⟩ := o1.shape
  go_wp2_with fail
  refine (back_impl _ _).mono ?_
  rintro e w2 ⟨v2, rfl, o2, hb2⟩
  obtain ⟨A2, c2, rfl⟩ := o2.shape
  have o1' := o1.below hb2
  have ap := o1.apart o2 (Nat.le_refl _)
  have B2 : Below w.heap.size w w2 := by (repeat' (first | (with_reducible exact Below.refl _ _) | (with_reducible assumption) | (with_reducible exact bundrew (by assumption)) | (with_reducible refine balloc ?_ _) | (with_reducible refine bset ?_ _ ?_ _) | (with_reducible refine Below.drew ?_) | (with_reducible refine bdrewN ?_ _) | (with_reducible refine bvia (by assumption) ?_) | (with_reducible refine Below.trans ?_ (by assumption)) | omega | (simp; omega) | (simp; done)))
  have z2 := hb1.size
  go_wp2_with fail
  refine (eqInts_any _ _ _ _ _ (backL m) _ o2.ints.2 o1'.ints.2).mono ?_
  rintro e w' ⟨rfl, m3, rfl⟩
  go_wp2_with fail
  refine (mark_any _ _ _ _ _ _ 1 (o2.drewN m3) (by omega) (by omega) (by omega)).mono ?_
  rintro e w4 ⟨rfl, o4, gr4⟩
  have o1'' := (o1'.drewN m3).grown gr4 ap
  have B4 : Below w.heap.size w w4 := below_grown (bdrewN B2 m3) (o2.drewN m3) z2 gr4
  go_wp2_with fail
  refine (held_any _ _ _ _ 1 (by have := o4.ints.2; rw [marksL_length] at this; exact this) (by omega) (by omega) (by omega)).mono ?_
  rintro e w' ⟨rfl, m5, rfl⟩
  go_wp2_with fail
  refine (back_impl _ _).mono ?_
  rintro e w6 ⟨v6, rfl, o6, hb6⟩
  obtain ⟨A6, c6, rfl⟩ := o6.shape
  go_wp2_with fail
  refine (eqInts_any _ _ _ _ _ (backL m) _ o6.ints.2 ((o1''.drewN m5).below hb6).ints.2).mono ?_
  rintro e w' ⟨rfl, m7, rfl⟩
  go_wp2_with fail
  refine (held_any _ _ _ _ 1 (by have := (((o4.drewN m5).below hb6).drewN m7).ints.2; rw [marksL_length] at this; exact this) (by omega) (by omega) (by omega)).mono ?_
  rintro e w' ⟨rfl, m8, rfl⟩
  go_wp2
  go_ret
  exact ⟨rfl, by (repeat' (first | (with_reducible exact Below.refl _ _) | (with_reducible assumption) | (with_reducible exact bundrew (by assumption)) | (with_reducible refine balloc ?_ _) | (with_reducible refine bset ?_ _ ?_ _) | (with_reducible refine Below.drew ?_) | (with_reducible refine bdrewN ?_ _) | (with_reducible refine bvia (by assumption) ?_) | (with_reducible refine Below.trans ?_ (by assumption)) | omega | (simp; omega) | (simp; done)))⟩
end Go.Proofs.Ytmoifakcjmdghaa
