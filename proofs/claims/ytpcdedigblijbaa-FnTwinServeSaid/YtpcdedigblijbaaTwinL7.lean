/- The walk of the law FnTwinFor. -/
import Derived.Test.YtpcdedigblijbaaTwinJ2
import Derived.Test.YtpcdedigblijbaaTwinI
namespace Go.Proofs.Ytpcdedigblijbaa
open Go.ChangeShapes Go.WideShapes Go.ChangeAt Go.RowKit

/-- The ends of the shaft. -/
def endsP (f a b : Int) : Prop := (a = 0 ∧ b = f - 1) ∨ (b = 0 ∧ a = f - 1)
theorem tfor_in {f l h a b : Int} (hv : tvB f l h = true) (ha0 : 0 ≤ a) (ha1 : a < f) (hb0 : 0 ≤ b) (hb1 : b < f) (hab : a ≠ b) :
    tforI f l h a b = if (a < f - 1 ∧ b < f - 1) ∧ (a = 0 ∨ b = 0 ∨ farI l a ≤ farI h a) then 0 else if 0 < a ∧ 0 < b then 1 else -1 := by
  unfold tforI
  rw [if_neg]
  rintro (h | h | h | h | h | h)
  · exact h hv
  all_goals omega
theorem tfor_ge {f l h a b : Int} (hv : tvB f l h = true) (ha0 : 0 ≤ a) (ha1 : a < f) (hb0 : 0 ≤ b) (hb1 : b < f) (hab : a ≠ b) (he : ¬ endsP f a b) : 0 ≤ tforI f l h a b := by
  obtain ⟨p1, p2, p3, p4, p5⟩ := tv_open hv
  rw [tfor_in hv ha0 ha1 hb0 hb1 hab]
  unfold endsP at he
  split
  · omega
  · split
    · omega
    · rename_i h1 h2
      exfalso
      apply h1
      refine ⟨by omega, ?_⟩
      by_cases h3 : a = 0
      · exact .inl h3
      · exact .inr (.inl (by omega))
theorem tfor_ends {f l h a b : Int} (hv : tvB f l h = true) (ha0 : 0 ≤ a) (ha1 : a < f) (hb0 : 0 ≤ b) (hb1 : b < f) (hab : a ≠ b) (he : endsP f a b) : tforI f l h a b = -1 := by
  obtain ⟨p1, p2, p3, p4, p5⟩ := tv_open hv
  rw [tfor_in hv ha0 ha1 hb0 hb1 hab]
  unfold endsP at he
  rw [if_neg (by omega), if_neg (by omega)]
theorem tfor_facts {f l h a b : Int} (hv : tvB f l h = true) (ha0 : 0 ≤ a) (ha1 : a < f) (hb0 : 0 ≤ b) (hb1 : b < f) (hab : a ≠ b) (he : ¬ endsP f a b) :
    (tforI f l h a b = 0 ∨ tforI f l h a b = 1) ∧ (wayT f l h (tforI f l h a b) a).2 = true ∧ (wayT f l h (tforI f l h a b) b).2 = true := by
  obtain ⟨p1, p2, p3, p4, p5⟩ := tv_open hv
  have hA : inB a 0 (f - 1) = true := inB_yes (by omega)
  have hB : inB b 0 (f - 1) = true := inB_yes (by omega)
  have hge := tfor_ge hv ha0 ha1 hb0 hb1 hab he
  rw [wayT_yes hv hA, wayT_yes hv hB]
  rw [tfor_in hv ha0 ha1 hb0 hb1 hab] at hge ⊢
  by_cases h1 : (a < f - 1 ∧ b < f - 1) ∧ (a = 0 ∨ b = 0 ∨ farI l a ≤ farI h a)
  · rw [if_pos h1] at hge ⊢
    obtain ⟨⟨h2, h3⟩, _⟩ := h1
    refine ⟨.inl rfl, ?_, ?_⟩
    · rw [if_pos rfl, if_neg (by omega)]; split <;> rfl
    · rw [if_pos rfl, if_neg (by omega)]; split <;> rfl
  · rw [if_neg h1] at hge ⊢
    by_cases h2 : 0 < a ∧ 0 < b
    · rw [if_pos h2] at hge ⊢
      refine ⟨.inr rfl, ?_, ?_⟩
      · rw [if_neg (by omega), if_pos rfl, if_neg (by omega)]; split <;> rfl
      · rw [if_neg (by omega), if_pos rfl, if_neg (by omega)]; split <;> rfl
    · rw [if_neg h2] at hge; omega

/-- Some moves, and that they lead there. -/
def WayYes (w : World) (b : Bool) (e : Ending) (w' : World) : Prop := ∃ v : Value, e = .returned (.tuple #[v, .bool b]) ∧ Below w.heap.size w w'

set_option maxRecDepth 100000 in
set_option maxHeartbeats 4000000 in
theorem walk_FnTwinFor (A : Option Addr) (n c : Nat) (g : Nat → Int) (w : World) (hB : Bytes w A n c g) : Calls Try.prog 12 #[.slice A n c] w fun e w' => e = .returned (.bool true) ∧ Below w.heap.size w w' := by
  by_cases hn : 1048576 < n
  · have hn' : (1048576 : Int) < (n : Int) := by omega
    go_enter Try.func12, Try.ntmps12
    go_wp2
    go_ret
    exact ⟨rfl, by (repeat' (first | (with_reducible exact Below.refl _ _) | (with_reducible assumption) | (with_reducible exact bundrew (by assumption)) | (with_reducible refine balloc ?_ _) | (with_reducible refine bset ?_ _ ?_ _) | (with_reducible refine Below.drew ?_) | (with_reducible refine bdrewN ?_ _) | (with_reducible refine bvia (by assumption) ?_) | (with_reducible refine Below.trans ?_ (by assumption)) | omega | (simp; omega) | (simp; done)))⟩
  · have hn' : (n : Int) ≤ 1048576 := by omega
    go_enter Try.func12, Try.ntmps12
    go_wp2_with fail
    refine (drawTwinFor_any A n c g _ hB).mono ?_
    rintro x wd ⟨f, l, h, a, b, rfl, hbd⟩
    obtain ⟨x, hx⟩ : ∃ x, tforI f l h a b = x := ⟨_, rfl⟩
    have FI := fun w => tfor_impl f l h a b w
    have FS := fun w => tfor_spec f l h a b w
    rw [hx] at FI FS
    have HI := Lib.hid FI
    have HS := Lib.hid FS
    have TV := fun w => tv_spec f l h w
    have HX := Lib.hid hx
    clear FI FS hx
    go_wp2_with fail
    refine (HI.out _).mono ?_
    rintro e w1 ⟨rfl, hb1⟩
    have B1 : Below w.heap.size w w1 := by (repeat' (first | (with_reducible exact Below.refl _ _) | (with_reducible assumption) | (with_reducible exact bundrew (by assumption)) | (with_reducible refine balloc ?_ _) | (with_reducible refine bset ?_ _ ?_ _) | (with_reducible refine Below.drew ?_) | (with_reducible refine bdrewN ?_ _) | (with_reducible refine bvia (by assumption) ?_) | (with_reducible refine Below.trans ?_ (by assumption)) | omega | (simp; omega) | (simp; done)))
    have J1 : Hold3 w1 wd.heap.size f l h := Hold3.keep ⟨by simp, by go_simp, by go_simp, by go_simp⟩ hb1
    obtain ⟨q1, k10, k11, k12⟩ := J1
    go_wp2_with fail
    refine (HS.out _).mono ?_
    rintro e w2 ⟨rfl, hb2⟩
    have B2 : Below w.heap.size w w2 := bvia hb2 B1
    have J2 : Hold3 w2 wd.heap.size f l h := Hold3.keep ⟨q1, k10, k11, k12⟩ hb2
    obtain ⟨q2, k20, k21, k22⟩ := J2
    clear k10 k11 k12 q1 hb1 HI HS
    cases hv : tvB f l h
    · rw [hv] at TV
      have HTV := Lib.hid TV
      obtain rfl : x = -1 := by rw [← HX.out]; exact tfor_no (.inl (by simp [hv]))
      clear TV HX hv
      go_wp2_with (first | (go_at_call 15; refine (HTV.out _).mono ?_; rintro e w3 ⟨rfl, hb3⟩) | (go_at_call 36; refine (alive_any _).mono ?_; rintro e w4 ⟨rfl, hb4⟩))
      go_ret
      exact ⟨rfl, bvia hb4 (bvia hb3 B2)⟩
    · rw [hv] at TV
      have HTV := Lib.hid TV
      by_cases c1 : a < 0
      · obtain rfl : x = -1 := by rw [← HX.out]; exact tfor_no (.inr (.inl c1))
        clear TV HX hv
        go_wp2_with (first | (go_at_call 15; refine (HTV.out _).mono ?_; rintro e w3 ⟨rfl, hb3⟩) | (go_at_call 36; refine (alive_any _).mono ?_; rintro e w4 ⟨rfl, hb4⟩))
        go_ret
        exact ⟨rfl, bvia hb4 (bvia hb3 B2)⟩
      · have c1' : 0 ≤ a := by omega
        by_cases c2 : f ≤ a
        · obtain rfl : x = -1 := by rw [← HX.out]; exact tfor_no (.inr (.inr (.inl c2)))
          clear TV HX hv
          go_wp2_with (first | (go_at_call 15; refine (HTV.out _).mono ?_; rintro e w3 ⟨rfl, hb3⟩; have J3 : Hold3 w3 wd.heap.size f l h := Hold3.keep ⟨q2, k20, k21, k22⟩ hb3; obtain ⟨q3, k30, k31, k32⟩ := J3) | (go_at_call 36; refine (alive_any _).mono ?_; rintro e w4 ⟨rfl, hb4⟩))
          go_ret
          exact ⟨rfl, bvia hb4 (bvia hb3 B2)⟩
        · have c2' : a < f := by omega
          by_cases c3 : b < 0
          · obtain rfl : x = -1 := by rw [← HX.out]; exact tfor_no (.inr (.inr (.inr (.inl c3))))
            clear TV HX hv
            go_wp2_with (first | (go_at_call 15; refine (HTV.out _).mono ?_; rintro e w3 ⟨rfl, hb3⟩; have J3 : Hold3 w3 wd.heap.size f l h := Hold3.keep ⟨q2, k20, k21, k22⟩ hb3; obtain ⟨q3, k30, k31, k32⟩ := J3) | (go_at_call 36; refine (alive_any _).mono ?_; rintro e w4 ⟨rfl, hb4⟩))
            go_ret
            exact ⟨rfl, bvia hb4 (bvia hb3 B2)⟩
          · have c3' : 0 ≤ b := by omega
            by_cases c4 : f ≤ b
            · obtain rfl : x = -1 := by rw [← HX.out]; exact tfor_no (.inr (.inr (.inr (.inr (.inl c4)))))
              clear TV HX hv
              go_wp2_with (first | (go_at_call 15; refine (HTV.out _).mono ?_; rintro e w3 ⟨rfl, hb3⟩; have J3 : Hold3 w3 wd.heap.size f l h := Hold3.keep ⟨q2, k20, k21, k22⟩ hb3; obtain ⟨q3, k30, k31, k32⟩ := J3) | (go_at_call 36; refine (alive_any _).mono ?_; rintro e w4 ⟨rfl, hb4⟩))
              go_ret
              exact ⟨rfl, bvia hb4 (bvia hb3 B2)⟩
            · have c4' : b < f := by omega
              rcases beq_or a b with ⟨t1, t2⟩ | ⟨t1, t2⟩
              · obtain rfl : x = -1 := by rw [← HX.out]; exact tfor_no (.inr (.inr (.inr (.inr (.inr t2)))))
                subst t2
                clear TV HX hv
                go_wp2_with (first | (go_at_call 15; refine (HTV.out _).mono ?_; rintro e w3 ⟨rfl, hb3⟩; have J3 : Hold3 w3 wd.heap.size f l h := Hold3.keep ⟨q2, k20, k21, k22⟩ hb3; obtain ⟨q3, k30, k31, k32⟩ := J3) | (go_at_call 36; refine (alive_any _).mono ?_; rintro e w4 ⟨rfl, hb4⟩))
                go_ret
                exact ⟨rfl, bvia hb4 (bvia hb3 B2)⟩
              · have FB := fun w => tfor_impl f l h b a w
                have WA : ∀ w, Calls Try.prog 25 #[.agg #[.int .i64 f, .int .i64 l, .int .i64 h], .int .i64 x, .int .i64 a] w (WayYes w (wayT f l h x a).2) := fun w => (way_impl f l h x a w).mono fun _ _ ⟨v, e, _, hb⟩ => ⟨v, e, hb⟩
                have WB : ∀ w, Calls Try.prog 25 #[.agg #[.int .i64 f, .int .i64 l, .int .i64 h], .int .i64 x, .int .i64 b] w (WayYes w (wayT f l h x b).2) := fun w => (way_impl f l h x b w).mono fun _ _ ⟨v, e, _, hb⟩ => ⟨v, e, hb⟩
                obtain ⟨y, hy⟩ : ∃ y, tforI f l h b a = y := ⟨_, rfl⟩
                obtain ⟨p, hp⟩ : ∃ p, (wayT f l h x a).2 = p := ⟨_, rfl⟩
                obtain ⟨q, hq⟩ : ∃ q, (wayT f l h x b).2 = q := ⟨_, rfl⟩
                rw [hy] at FB
                rw [hp] at WA
                rw [hq] at WB
                have hab : a ≠ b := by omega
                have f0 : ¬ f ≤ 0 := by omega
                have f00 : decide (f ≤ 0) = false := by simp; omega
                obtain ⟨p1, p2, p3, p4, p5⟩ := tv_open hv
                have HFB := Lib.hid FB
                have HWA := Lib.hid WA
                have HWB := Lib.hid WB
                by_cases he : endsP f a b
                · obtain rfl : x = -1 := by rw [← HX.out]; exact tfor_ends hv c1' c2' c3' c4' hab he
                  obtain rfl : y = -1 := by rw [← hy]; exact tfor_ends hv c3' c4' c1' c2' (Ne.symm hab) (by unfold endsP at he ⊢; omega)
                  clear TV HX hv FB WA WB hy hp hq hab
                  rcases he with ⟨rfl, h5⟩ | ⟨rfl, h5⟩
                  · have h6 : f - 1 = b := by omega
                    have h7 : (0 : Int) < b := by omega
                    clear h5 t2
                    go_wp2_with (go_at_call 15; refine (HTV.out _).mono ?_; rintro e w3 ⟨rfl, hb3⟩; have J3 : Hold3 w3 wd.heap.size f l h := Hold3.keep ⟨q2, k20, k21, k22⟩ hb3; obtain ⟨q3, k30, k31, k32⟩ := J3)
                    refine (HWA.out _).mono ?_
                    rintro e w4 ⟨v4, rfl, hb4⟩
                    have J4 : Hold3 w4 wd.heap.size f l h := Hold3.keep ⟨q3, k30, k31, k32⟩ hb4
                    obtain ⟨q4, k40, k41, k42⟩ := J4
                    have B4 : Below w.heap.size w w4 := bvia hb4 (bvia hb3 B2)
                    clear k30 k31 k32 q3 hb3 hb4 k20 k21 k22 q2
                    go_wp2_with fail
                    refine (HWB.out _).mono ?_
                    rintro e w5 ⟨v5, rfl, hb5⟩
                    have J5 : Hold3 w5 wd.heap.size f l h := Hold3.keep ⟨q4, k40, k41, k42⟩ hb5
                    obtain ⟨q5, k50, k51, k52⟩ := J5
                    have B5 : Below w.heap.size w w5 := bvia hb5 B4
                    clear k40 k41 k42 q4 hb5
                    go_wp2_with (go_at_call 19; refine (HFB.out _).mono ?_; rintro e w6 ⟨rfl, hb6⟩)
                    go_ret
                    exact ⟨rfl, bvia hb6 B5⟩
                  · have h6 : f - 1 = a := by omega
                    have h7 : (0 : Int) < a := by omega
                    clear h5 t2
                    go_wp2_with (go_at_call 15; refine (HTV.out _).mono ?_; rintro e w3 ⟨rfl, hb3⟩; have J3 : Hold3 w3 wd.heap.size f l h := Hold3.keep ⟨q2, k20, k21, k22⟩ hb3; obtain ⟨q3, k30, k31, k32⟩ := J3)
                    refine (HWA.out _).mono ?_
                    rintro e w4 ⟨v4, rfl, hb4⟩
                    have J4 : Hold3 w4 wd.heap.size f l h := Hold3.keep ⟨q3, k30, k31, k32⟩ hb4
                    obtain ⟨q4, k40, k41, k42⟩ := J4
                    have B4 : Below w.heap.size w w4 := bvia hb4 (bvia hb3 B2)
                    clear k30 k31 k32 q3 hb3 hb4 k20 k21 k22 q2
                    go_wp2_with fail
                    refine (HWB.out _).mono ?_
                    rintro e w5 ⟨v5, rfl, hb5⟩
                    have J5 : Hold3 w5 wd.heap.size f l h := Hold3.keep ⟨q4, k40, k41, k42⟩ hb5
                    obtain ⟨q5, k50, k51, k52⟩ := J5
                    have B5 : Below w.heap.size w w5 := bvia hb5 B4
                    clear k40 k41 k42 q4 hb5
                    go_wp2_with (go_at_call 19; refine (HFB.out _).mono ?_; rintro e w6 ⟨rfl, hb6⟩)
                    go_ret
                    exact ⟨rfl, bvia hb6 B5⟩
                · obtain ⟨g1, g2, g3⟩ := tfor_facts hv c1' c2' c3' c4' hab he
                  have g4 := tfor_ge hv c3' c4' c1' c2' (Ne.symm hab) (by unfold endsP at he ⊢; omega)
                  rw [HX.out] at g1 g2 g3
                  rw [hy] at g4
                  rw [hp] at g2
                  rw [hq] at g3
                  subst g2 g3
                  have hends : (a = 0 → b ≠ f - 1) ∧ (b = 0 → a ≠ f - 1) := by unfold endsP at he; omega
                  obtain ⟨he1, he2⟩ := hends
                  clear TV HX hv FB WA WB hy hp hq hab he
                  rcases t2 with t3 | t3
                  · rcases beq_or a 0 with ⟨t4, t5⟩ | ⟨t4, t5⟩
                    · have hne : (b == f - 1) = false := by have := he1 t5; simp; omega
                      clear he1 he2 t4
                      subst t5
                      rcases g1 with rfl | rfl
                      · go_wp2_with (go_at_call 15; refine (HTV.out _).mono ?_; rintro e w3 ⟨rfl, hb3⟩; have J3 : Hold3 w3 wd.heap.size f l h := Hold3.keep ⟨q2, k20, k21, k22⟩ hb3; obtain ⟨q3, k30, k31, k32⟩ := J3)
                        refine (HWA.out _).mono ?_
                        rintro e w4 ⟨v4, rfl, hb4⟩
                        have J4 : Hold3 w4 wd.heap.size f l h := Hold3.keep ⟨q3, k30, k31, k32⟩ hb4
                        obtain ⟨q4, k40, k41, k42⟩ := J4
                        have B4 : Below w.heap.size w w4 := bvia hb4 (bvia hb3 B2)
                        clear k30 k31 k32 q3 hb3 hb4 k20 k21 k22 q2
                        go_wp2_with fail
                        refine (HWB.out _).mono ?_
                        rintro e w5 ⟨v5, rfl, hb5⟩
                        have J5 : Hold3 w5 wd.heap.size f l h := Hold3.keep ⟨q4, k40, k41, k42⟩ hb5
                        obtain ⟨q5, k50, k51, k52⟩ := J5
                        have B5 : Below w.heap.size w w5 := bvia hb5 B4
                        clear k40 k41 k42 q4 hb5
                        go_wp2_with (go_at_call 19; refine (HFB.out _).mono ?_; rintro e w6 ⟨rfl, hb6⟩)
                        go_ret
                        exact ⟨rfl, bvia hb6 B5⟩
                      · go_wp2_with (go_at_call 15; refine (HTV.out _).mono ?_; rintro e w3 ⟨rfl, hb3⟩; have J3 : Hold3 w3 wd.heap.size f l h := Hold3.keep ⟨q2, k20, k21, k22⟩ hb3; obtain ⟨q3, k30, k31, k32⟩ := J3)
                        refine (HWA.out _).mono ?_
                        rintro e w4 ⟨v4, rfl, hb4⟩
                        have J4 : Hold3 w4 wd.heap.size f l h := Hold3.keep ⟨q3, k30, k31, k32⟩ hb4
                        obtain ⟨q4, k40, k41, k42⟩ := J4
                        have B4 : Below w.heap.size w w4 := bvia hb4 (bvia hb3 B2)
                        clear k30 k31 k32 q3 hb3 hb4 k20 k21 k22 q2
                        go_wp2_with fail
                        refine (HWB.out _).mono ?_
                        rintro e w5 ⟨v5, rfl, hb5⟩
                        have J5 : Hold3 w5 wd.heap.size f l h := Hold3.keep ⟨q4, k40, k41, k42⟩ hb5
                        obtain ⟨q5, k50, k51, k52⟩ := J5
                        have B5 : Below w.heap.size w w5 := bvia hb5 B4
                        clear k40 k41 k42 q4 hb5
                        go_wp2_with (go_at_call 19; refine (HFB.out _).mono ?_; rintro e w6 ⟨rfl, hb6⟩)
                        go_ret
                        exact ⟨rfl, bvia hb6 B5⟩
                    · clear he1 he2
                      rcases g1 with rfl | rfl
                      · go_wp2_with (go_at_call 15; refine (HTV.out _).mono ?_; rintro e w3 ⟨rfl, hb3⟩; have J3 : Hold3 w3 wd.heap.size f l h := Hold3.keep ⟨q2, k20, k21, k22⟩ hb3; obtain ⟨q3, k30, k31, k32⟩ := J3)
                        refine (HWA.out _).mono ?_
                        rintro e w4 ⟨v4, rfl, hb4⟩
                        have J4 : Hold3 w4 wd.heap.size f l h := Hold3.keep ⟨q3, k30, k31, k32⟩ hb4
                        obtain ⟨q4, k40, k41, k42⟩ := J4
                        have B4 : Below w.heap.size w w4 := bvia hb4 (bvia hb3 B2)
                        clear k30 k31 k32 q3 hb3 hb4 k20 k21 k22 q2
                        go_wp2_with fail
                        refine (HWB.out _).mono ?_
                        rintro e w5 ⟨v5, rfl, hb5⟩
                        have J5 : Hold3 w5 wd.heap.size f l h := Hold3.keep ⟨q4, k40, k41, k42⟩ hb5
                        obtain ⟨q5, k50, k51, k52⟩ := J5
                        have B5 : Below w.heap.size w w5 := bvia hb5 B4
                        clear k40 k41 k42 q4 hb5
                        go_wp2_with (go_at_call 19; refine (HFB.out _).mono ?_; rintro e w6 ⟨rfl, hb6⟩)
                        go_ret
                        exact ⟨rfl, bvia hb6 B5⟩
                      · go_wp2_with (go_at_call 15; refine (HTV.out _).mono ?_; rintro e w3 ⟨rfl, hb3⟩; have J3 : Hold3 w3 wd.heap.size f l h := Hold3.keep ⟨q2, k20, k21, k22⟩ hb3; obtain ⟨q3, k30, k31, k32⟩ := J3)
                        refine (HWA.out _).mono ?_
                        rintro e w4 ⟨v4, rfl, hb4⟩
                        have J4 : Hold3 w4 wd.heap.size f l h := Hold3.keep ⟨q3, k30, k31, k32⟩ hb4
                        obtain ⟨q4, k40, k41, k42⟩ := J4
                        have B4 : Below w.heap.size w w4 := bvia hb4 (bvia hb3 B2)
                        clear k30 k31 k32 q3 hb3 hb4 k20 k21 k22 q2
                        go_wp2_with fail
                        refine (HWB.out _).mono ?_
                        rintro e w5 ⟨v5, rfl, hb5⟩
                        have J5 : Hold3 w5 wd.heap.size f l h := Hold3.keep ⟨q4, k40, k41, k42⟩ hb5
                        obtain ⟨q5, k50, k51, k52⟩ := J5
                        have B5 : Below w.heap.size w w5 := bvia hb5 B4
                        clear k40 k41 k42 q4 hb5
                        go_wp2_with (go_at_call 19; refine (HFB.out _).mono ?_; rintro e w6 ⟨rfl, hb6⟩)
                        go_ret
                        exact ⟨rfl, bvia hb6 B5⟩
                  · rcases beq_or b 0 with ⟨t4, t5⟩ | ⟨t4, t5⟩
                    · have hne : (a == f - 1) = false := by have := he2 t5; simp; omega
                      clear he1 he2 t4
                      subst t5
                      rcases g1 with rfl | rfl
                      · go_wp2_with (go_at_call 15; refine (HTV.out _).mono ?_; rintro e w3 ⟨rfl, hb3⟩; have J3 : Hold3 w3 wd.heap.size f l h := Hold3.keep ⟨q2, k20, k21, k22⟩ hb3; obtain ⟨q3, k30, k31, k32⟩ := J3)
                        refine (HWA.out _).mono ?_
                        rintro e w4 ⟨v4, rfl, hb4⟩
                        have J4 : Hold3 w4 wd.heap.size f l h := Hold3.keep ⟨q3, k30, k31, k32⟩ hb4
                        obtain ⟨q4, k40, k41, k42⟩ := J4
                        have B4 : Below w.heap.size w w4 := bvia hb4 (bvia hb3 B2)
                        clear k30 k31 k32 q3 hb3 hb4 k20 k21 k22 q2
                        go_wp2_with fail
                        refine (HWB.out _).mono ?_
                        rintro e w5 ⟨v5, rfl, hb5⟩
                        have J5 : Hold3 w5 wd.heap.size f l h := Hold3.keep ⟨q4, k40, k41, k42⟩ hb5
                        obtain ⟨q5, k50, k51, k52⟩ := J5
                        have B5 : Below w.heap.size w w5 := bvia hb5 B4
                        clear k40 k41 k42 q4 hb5
                        go_wp2_with (go_at_call 19; refine (HFB.out _).mono ?_; rintro e w6 ⟨rfl, hb6⟩)
                        go_ret
                        exact ⟨rfl, bvia hb6 B5⟩
                      · go_wp2_with (go_at_call 15; refine (HTV.out _).mono ?_; rintro e w3 ⟨rfl, hb3⟩; have J3 : Hold3 w3 wd.heap.size f l h := Hold3.keep ⟨q2, k20, k21, k22⟩ hb3; obtain ⟨q3, k30, k31, k32⟩ := J3)
                        refine (HWA.out _).mono ?_
                        rintro e w4 ⟨v4, rfl, hb4⟩
                        have J4 : Hold3 w4 wd.heap.size f l h := Hold3.keep ⟨q3, k30, k31, k32⟩ hb4
                        obtain ⟨q4, k40, k41, k42⟩ := J4
                        have B4 : Below w.heap.size w w4 := bvia hb4 (bvia hb3 B2)
                        clear k30 k31 k32 q3 hb3 hb4 k20 k21 k22 q2
                        go_wp2_with fail
                        refine (HWB.out _).mono ?_
                        rintro e w5 ⟨v5, rfl, hb5⟩
                        have J5 : Hold3 w5 wd.heap.size f l h := Hold3.keep ⟨q4, k40, k41, k42⟩ hb5
                        obtain ⟨q5, k50, k51, k52⟩ := J5
                        have B5 : Below w.heap.size w w5 := bvia hb5 B4
                        clear k40 k41 k42 q4 hb5
                        go_wp2_with (go_at_call 19; refine (HFB.out _).mono ?_; rintro e w6 ⟨rfl, hb6⟩)
                        go_ret
                        exact ⟨rfl, bvia hb6 B5⟩
                    · clear he1 he2
                      rcases g1 with rfl | rfl
                      · go_wp2_with (go_at_call 15; refine (HTV.out _).mono ?_; rintro e w3 ⟨rfl, hb3⟩; have J3 : Hold3 w3 wd.heap.size f l h := Hold3.keep ⟨q2, k20, k21, k22⟩ hb3; obtain ⟨q3, k30, k31, k32⟩ := J3)
                        refine (HWA.out _).mono ?_
                        rintro e w4 ⟨v4, rfl, hb4⟩
                        have J4 : Hold3 w4 wd.heap.size f l h := Hold3.keep ⟨q3, k30, k31, k32⟩ hb4
                        obtain ⟨q4, k40, k41, k42⟩ := J4
                        have B4 : Below w.heap.size w w4 := bvia hb4 (bvia hb3 B2)
                        clear k30 k31 k32 q3 hb3 hb4 k20 k21 k22 q2
                        go_wp2_with fail
                        refine (HWB.out _).mono ?_
                        rintro e w5 ⟨v5, rfl, hb5⟩
                        have J5 : Hold3 w5 wd.heap.size f l h := Hold3.keep ⟨q4, k40, k41, k42⟩ hb5
                        obtain ⟨q5, k50, k51, k52⟩ := J5
                        have B5 : Below w.heap.size w w5 := bvia hb5 B4
                        clear k40 k41 k42 q4 hb5
                        go_wp2_with (go_at_call 19; refine (HFB.out _).mono ?_; rintro e w6 ⟨rfl, hb6⟩)
                        go_ret
                        exact ⟨rfl, bvia hb6 B5⟩
                      · go_wp2_with (go_at_call 15; refine (HTV.out _).mono ?_; rintro e w3 ⟨rfl, hb3⟩; have J3 : Hold3 w3 wd.heap.size f l h := Hold3.keep ⟨q2, k20, k21, k22⟩ hb3; obtain ⟨q3, k30, k31, k32⟩ := J3)
                        refine (HWA.out _).mono ?_
                        rintro e w4 ⟨v4, rfl, hb4⟩
                        have J4 : Hold3 w4 wd.heap.size f l h := Hold3.keep ⟨q3, k30, k31, k32⟩ hb4
                        obtain ⟨q4, k40, k41, k42⟩ := J4
                        have B4 : Below w.heap.size w w4 := bvia hb4 (bvia hb3 B2)
                        clear k30 k31 k32 q3 hb3 hb4 k20 k21 k22 q2
                        go_wp2_with fail
                        refine (HWB.out _).mono ?_
                        rintro e w5 ⟨v5, rfl, hb5⟩
                        have J5 : Hold3 w5 wd.heap.size f l h := Hold3.keep ⟨q4, k40, k41, k42⟩ hb5
                        obtain ⟨q5, k50, k51, k52⟩ := J5
                        have B5 : Below w.heap.size w w5 := bvia hb5 B4
                        clear k40 k41 k42 q4 hb5
                        go_wp2_with (go_at_call 19; refine (HFB.out _).mono ?_; rintro e w6 ⟨rfl, hb6⟩)
                        go_ret
                        exact ⟨rfl, bvia hb6 B5⟩
end Go.Proofs.Ytpcdedigblijbaa
