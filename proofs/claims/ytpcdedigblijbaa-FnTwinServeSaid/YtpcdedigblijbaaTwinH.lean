/- TwinWay of the program and of the reference: contracts. -/
import Derived.Test.YtpcdedigblijbaaOwnP
namespace Go.Proofs.Ytpcdedigblijbaa
open Go.ChangeShapes Go.WideShapes Go.ChangeAt Go.RowKit

/-- The moves by which a car comes to a floor. -/
def wayT (f l h car d : Int) : List (Int × Int) × Bool :=
  if ¬ (tvB f l h = true ∧ inB d 0 (f - 1) = true) then ([], false)
  else if car = 0 then (if d = f - 1 then ([], false) else if h ≤ d then ([(1, d + 1), (0, d)], true) else ([(0, d)], true))
  else if car = 1 then (if d = 0 then ([], false) else if d ≤ l then ([(0, d - 1), (1, d)], true) else ([(1, d)], true))
  else ([], false)
/-- A slice of moves of the call's own, and a truth. -/
def WayOut (w : World) (xs : List (Int × Int)) (b : Bool) (e : Ending) (w' : World) : Prop := ∃ v : Value, e = .returned (.tuple #[v, .bool b]) ∧ OwnP w' w.heap.size v xs ∧ Below w.heap.size w w'

theorem wayT_yes {f l h d : Int} (hv : tvB f l h = true) (hi : inB d 0 (f - 1) = true) (car : Int) : wayT f l h car d = if car = 0 then (if d = f - 1 then ([], false) else if h ≤ d then ([(1, d + 1), (0, d)], true) else ([(0, d)], true))
  else if car = 1 then (if d = 0 then ([], false) else if d ≤ l then ([(0, d - 1), (1, d)], true) else ([(1, d)], true)) else ([], false) := by
  unfold wayT; rw [if_neg (by simp [hv, hi])]
theorem wayT_no {f l h car d : Int} (hn : ¬ (tvB f l h = true ∧ inB d 0 (f - 1) = true)) : wayT f l h car d = ([], false) := by
  unfold wayT; rw [if_pos hn]

set_option maxHeartbeats 2000000 in
theorem way_impl (f l h car d : Int) (w : World) : Calls Try.prog 25 #[.agg #[.int .i64 f, .int .i64 l, .int .i64 h], .int .i64 car, .int .i64 d] w (WayOut w (wayT f l h car d).1 (wayT f l h car d).2) := by
  by_cases hv : tvB f l h = true
  · by_cases hi : inB d 0 (f - 1) = true
    · obtain ⟨p1, p2, p3, p4, p5⟩ := tv_open hv
      obtain ⟨p6, p7⟩ := inB_open hi
      have hx := wayT_yes (f := f) (l := l) (h := h) hv hi
      rcases beq_or car 0 with ⟨e0, g0⟩ | ⟨e0, g0⟩
      · subst g0
        rcases beq_or d (f - 1) with ⟨e1, g1⟩ | ⟨e1, g1⟩
        · replace hx := (hx 0).trans ((if_pos rfl).trans (if_pos g1))
          rw [hx]; clear hx g1 e0
          go_enter Try.func25, Try.ntmps25
          go_wp2_with (first | (go_at_call 17; go_must (refine (tv_impl _ _ _ _).mono ?_; rintro e w1 ⟨rfl, hbw1⟩; obtain ⟨hcw1, hfw1, -, -, -, hsw1⟩ := bfacts5 hbw1; (try simp only [World.size_drew] at hcw1 hfw1); (try simp at hsw1); have qw10 : w.heap.size < w1.heap.size := (by omega); have rw10 : ∀ m : Nat, w.heap.size < w1.heap.size + m := fun m => (by omega))) | (go_at_call 44; refine (isFloor_any _ _ _).mono ?_; rintro e w' ⟨rfl, rfl⟩))
          go_ret2
          exact ⟨_, rfl, OwnP.nil _ _, by (repeat' (first | (with_reducible exact Below.refl _ _) | (with_reducible assumption) | (with_reducible exact bundrew (by assumption)) | (with_reducible refine balloc ?_ _) | (with_reducible refine bset ?_ _ ?_ _) | (with_reducible refine Below.drew ?_) | (with_reducible refine bdrewN ?_ _) | (with_reducible refine bvia (by assumption) ?_) | (with_reducible refine Below.trans ?_ (by assumption)) | omega | (simp; omega) | (simp; done)))⟩
        · by_cases g2 : h ≤ d
          · replace hx := (hx 0).trans ((if_pos rfl).trans ((if_neg (by omega)).trans (if_pos g2)))
            rw [hx]; clear hx g1 e0
            go_enter Try.func25, Try.ntmps25
            go_wp2_with (first | (go_at_call 17; go_must (refine (tv_impl _ _ _ _).mono ?_; rintro e w1 ⟨rfl, hbw1⟩; obtain ⟨hcw1, hfw1, -, -, -, hsw1⟩ := bfacts5 hbw1; (try simp only [World.size_drew] at hcw1 hfw1); (try simp at hsw1); have qw10 : w.heap.size < w1.heap.size := (by omega); have rw10 : ∀ m : Nat, w.heap.size < w1.heap.size + m := fun m => (by omega))) | (go_at_call 44; refine (isFloor_any _ _ _).mono ?_; rintro e w' ⟨rfl, rfl⟩) | (at_builtin; have _t := h2; refine app_pair rfl _ _ rfl w.heap.size w2.heap.size _ ([] ++ [(1, d + 1)]) 0 d rfl rfl (h2.alloc _) ?_ ?_ ?_ ?_ ?_; (focus (first | (go_simp; done) | (simp; done) | omega | (simp; omega))); (focus (first | (go_simp; done) | (simp; done) | omega | (simp; omega))); (focus (first | (go_simp; done) | (simp; done) | omega | (simp; omega))); (focus (first | (go_simp; done) | (simp; done) | omega | (simp; omega))); intro v3 w3 h3 g3; have zw3 := g3.size; (try simp at zw3)) | (at_builtin; refine app_pair rfl _ _ rfl w.heap.size w1.heap.size _ [] 1 (d + 1) rfl rfl ((OwnP.nil _ _)) ?_ ?_ ?_ ?_ ?_; (focus (first | (go_simp; done) | (simp; done) | omega | (simp; omega))); (focus (first | (go_simp; done) | (simp; done) | omega | (simp; omega))); (focus (first | (go_simp; done) | (simp; done) | omega | (simp; omega))); (focus (first | (go_simp; done) | (simp; done) | omega | (simp; omega))); intro v2 w2 h2 g2; have zw2 := g2.size; (try simp at zw2)))
            go_ret2
            exact ⟨_, rfl, h3, by (repeat' (first | (with_reducible exact Below.refl _ _) | (with_reducible assumption) | (with_reducible exact bundrew (by assumption)) | (with_reducible refine balloc ?_ _) | (with_reducible refine bset ?_ _ ?_ _) | (with_reducible refine Below.drew ?_) | (with_reducible refine bdrewN ?_ _) | (with_reducible refine bvia (by assumption) ?_) | (with_reducible refine Below.trans ?_ (by assumption)) | omega | (simp; omega) | (simp; done)))⟩
          · replace hx := (hx 0).trans ((if_pos rfl).trans ((if_neg (by omega)).trans (if_neg g2)))
            rw [hx]; clear hx g1 e0
            go_enter Try.func25, Try.ntmps25
            go_wp2_with (first | (go_at_call 17; go_must (refine (tv_impl _ _ _ _).mono ?_; rintro e w1 ⟨rfl, hbw1⟩; obtain ⟨hcw1, hfw1, -, -, -, hsw1⟩ := bfacts5 hbw1; (try simp only [World.size_drew] at hcw1 hfw1); (try simp at hsw1); have qw10 : w.heap.size < w1.heap.size := (by omega); have rw10 : ∀ m : Nat, w.heap.size < w1.heap.size + m := fun m => (by omega))) | (go_at_call 44; refine (isFloor_any _ _ _).mono ?_; rintro e w' ⟨rfl, rfl⟩) | (at_builtin; refine app_pair rfl _ _ rfl w.heap.size w1.heap.size _ [] 0 d rfl rfl ((OwnP.nil _ _)) ?_ ?_ ?_ ?_ ?_; (focus (first | (go_simp; done) | (simp; done) | omega | (simp; omega))); (focus (first | (go_simp; done) | (simp; done) | omega | (simp; omega))); (focus (first | (go_simp; done) | (simp; done) | omega | (simp; omega))); (focus (first | (go_simp; done) | (simp; done) | omega | (simp; omega))); intro v2 w2 h2 g2; have zw2 := g2.size; (try simp at zw2)))
            go_ret2
            exact ⟨_, rfl, h2, by (repeat' (first | (with_reducible exact Below.refl _ _) | (with_reducible assumption) | (with_reducible exact bundrew (by assumption)) | (with_reducible refine balloc ?_ _) | (with_reducible refine bset ?_ _ ?_ _) | (with_reducible refine Below.drew ?_) | (with_reducible refine bdrewN ?_ _) | (with_reducible refine bvia (by assumption) ?_) | (with_reducible refine Below.trans ?_ (by assumption)) | omega | (simp; omega) | (simp; done)))⟩
      · rcases beq_or car 1 with ⟨e9, g9⟩ | ⟨e9, g9⟩
        · subst g9
          rcases beq_or d 0 with ⟨e1, g1⟩ | ⟨e1, g1⟩
          · replace hx := (hx 1).trans ((if_neg (by omega)).trans ((if_pos rfl).trans (if_pos g1)))
            rw [hx]; clear hx g1 g0 e0 e9
            go_enter Try.func25, Try.ntmps25
            go_wp2_with (first | (go_at_call 17; go_must (refine (tv_impl _ _ _ _).mono ?_; rintro e w1 ⟨rfl, hbw1⟩; obtain ⟨hcw1, hfw1, -, -, -, hsw1⟩ := bfacts5 hbw1; (try simp only [World.size_drew] at hcw1 hfw1); (try simp at hsw1); have qw10 : w.heap.size < w1.heap.size := (by omega); have rw10 : ∀ m : Nat, w.heap.size < w1.heap.size + m := fun m => (by omega))) | (go_at_call 44; refine (isFloor_any _ _ _).mono ?_; rintro e w' ⟨rfl, rfl⟩))
            go_ret2
            exact ⟨_, rfl, OwnP.nil _ _, by (repeat' (first | (with_reducible exact Below.refl _ _) | (with_reducible assumption) | (with_reducible exact bundrew (by assumption)) | (with_reducible refine balloc ?_ _) | (with_reducible refine bset ?_ _ ?_ _) | (with_reducible refine Below.drew ?_) | (with_reducible refine bdrewN ?_ _) | (with_reducible refine bvia (by assumption) ?_) | (with_reducible refine Below.trans ?_ (by assumption)) | omega | (simp; omega) | (simp; done)))⟩
          · by_cases g2 : d ≤ l
            · replace hx := (hx 1).trans ((if_neg (by omega)).trans ((if_pos rfl).trans ((if_neg (by omega)).trans (if_pos g2))))
              rw [hx]; clear hx g1 g0 e0 e9
              go_enter Try.func25, Try.ntmps25
              go_wp2_with (first | (go_at_call 17; go_must (refine (tv_impl _ _ _ _).mono ?_; rintro e w1 ⟨rfl, hbw1⟩; obtain ⟨hcw1, hfw1, -, -, -, hsw1⟩ := bfacts5 hbw1; (try simp only [World.size_drew] at hcw1 hfw1); (try simp at hsw1); have qw10 : w.heap.size < w1.heap.size := (by omega); have rw10 : ∀ m : Nat, w.heap.size < w1.heap.size + m := fun m => (by omega))) | (go_at_call 44; refine (isFloor_any _ _ _).mono ?_; rintro e w' ⟨rfl, rfl⟩) | (at_builtin; have _t := h2; refine app_pair rfl _ _ rfl w.heap.size w2.heap.size _ ([] ++ [(0, d - 1)]) 1 d rfl rfl (h2.alloc _) ?_ ?_ ?_ ?_ ?_; (focus (first | (go_simp; done) | (simp; done) | omega | (simp; omega))); (focus (first | (go_simp; done) | (simp; done) | omega | (simp; omega))); (focus (first | (go_simp; done) | (simp; done) | omega | (simp; omega))); (focus (first | (go_simp; done) | (simp; done) | omega | (simp; omega))); intro v3 w3 h3 g3; have zw3 := g3.size; (try simp at zw3)) | (at_builtin; refine app_pair rfl _ _ rfl w.heap.size w1.heap.size _ [] 0 (d - 1) rfl rfl ((OwnP.nil _ _)) ?_ ?_ ?_ ?_ ?_; (focus (first | (go_simp; done) | (simp; done) | omega | (simp; omega))); (focus (first | (go_simp; done) | (simp; done) | omega | (simp; omega))); (focus (first | (go_simp; done) | (simp; done) | omega | (simp; omega))); (focus (first | (go_simp; done) | (simp; done) | omega | (simp; omega))); intro v2 w2 h2 g2; have zw2 := g2.size; (try simp at zw2)))
              go_ret2
              exact ⟨_, rfl, h3, by (repeat' (first | (with_reducible exact Below.refl _ _) | (with_reducible assumption) | (with_reducible exact bundrew (by assumption)) | (with_reducible refine balloc ?_ _) | (with_reducible refine bset ?_ _ ?_ _) | (with_reducible refine Below.drew ?_) | (with_reducible refine bdrewN ?_ _) | (with_reducible refine bvia (by assumption) ?_) | (with_reducible refine Below.trans ?_ (by assumption)) | omega | (simp; omega) | (simp; done)))⟩
            · replace hx := (hx 1).trans ((if_neg (by omega)).trans ((if_pos rfl).trans ((if_neg (by omega)).trans (if_neg g2))))
              rw [hx]; clear hx g1 g0 e0 e9
              go_enter Try.func25, Try.ntmps25
              go_wp2_with (first | (go_at_call 17; go_must (refine (tv_impl _ _ _ _).mono ?_; rintro e w1 ⟨rfl, hbw1⟩; obtain ⟨hcw1, hfw1, -, -, -, hsw1⟩ := bfacts5 hbw1; (try simp only [World.size_drew] at hcw1 hfw1); (try simp at hsw1); have qw10 : w.heap.size < w1.heap.size := (by omega); have rw10 : ∀ m : Nat, w.heap.size < w1.heap.size + m := fun m => (by omega))) | (go_at_call 44; refine (isFloor_any _ _ _).mono ?_; rintro e w' ⟨rfl, rfl⟩) | (at_builtin; refine app_pair rfl _ _ rfl w.heap.size w1.heap.size _ [] 1 d rfl rfl ((OwnP.nil _ _)) ?_ ?_ ?_ ?_ ?_; (focus (first | (go_simp; done) | (simp; done) | omega | (simp; omega))); (focus (first | (go_simp; done) | (simp; done) | omega | (simp; omega))); (focus (first | (go_simp; done) | (simp; done) | omega | (simp; omega))); (focus (first | (go_simp; done) | (simp; done) | omega | (simp; omega))); intro v2 w2 h2 g2; have zw2 := g2.size; (try simp at zw2)))
              go_ret2
              exact ⟨_, rfl, h2, by (repeat' (first | (with_reducible exact Below.refl _ _) | (with_reducible assumption) | (with_reducible exact bundrew (by assumption)) | (with_reducible refine balloc ?_ _) | (with_reducible refine bset ?_ _ ?_ _) | (with_reducible refine Below.drew ?_) | (with_reducible refine bdrewN ?_ _) | (with_reducible refine bvia (by assumption) ?_) | (with_reducible refine Below.trans ?_ (by assumption)) | omega | (simp; omega) | (simp; done)))⟩
        · replace hx := (hx car).trans ((if_neg (by omega)).trans (if_neg (by omega)))
          rw [hx]; clear hx g9 g0
          go_enter Try.func25, Try.ntmps25
          go_wp2_with (first | (go_at_call 17; go_must (refine (tv_impl _ _ _ _).mono ?_; rintro e w1 ⟨rfl, hbw1⟩; obtain ⟨hcw1, hfw1, -, -, -, hsw1⟩ := bfacts5 hbw1; (try simp only [World.size_drew] at hcw1 hfw1); (try simp at hsw1); have qw10 : w.heap.size < w1.heap.size := (by omega); have rw10 : ∀ m : Nat, w.heap.size < w1.heap.size + m := fun m => (by omega))) | (go_at_call 44; refine (isFloor_any _ _ _).mono ?_; rintro e w' ⟨rfl, rfl⟩))
          go_ret2
          exact ⟨_, rfl, OwnP.nil _ _, by (repeat' (first | (with_reducible exact Below.refl _ _) | (with_reducible assumption) | (with_reducible exact bundrew (by assumption)) | (with_reducible refine balloc ?_ _) | (with_reducible refine bset ?_ _ ?_ _) | (with_reducible refine Below.drew ?_) | (with_reducible refine bdrewN ?_ _) | (with_reducible refine bvia (by assumption) ?_) | (with_reducible refine Below.trans ?_ (by assumption)) | omega | (simp; omega) | (simp; done)))⟩
    · rw [wayT_no (by simp [hi])]
      have hi' := bfalse hi
      go_enter Try.func25, Try.ntmps25
      go_wp2_with (first | (go_at_call 17; go_must (refine (tv_impl _ _ _ _).mono ?_; rintro e w1 ⟨rfl, hbw1⟩; obtain ⟨hcw1, hfw1, -, -, -, hsw1⟩ := bfacts5 hbw1; (try simp only [World.size_drew] at hcw1 hfw1); (try simp at hsw1); have qw10 : w.heap.size < w1.heap.size := (by omega); have rw10 : ∀ m : Nat, w.heap.size < w1.heap.size + m := fun m => (by omega))) | (go_at_call 44; refine (isFloor_any _ _ _).mono ?_; rintro e w' ⟨rfl, rfl⟩))
      go_ret2
      exact ⟨_, rfl, OwnP.nil _ _, by (repeat' (first | (with_reducible exact Below.refl _ _) | (with_reducible assumption) | (with_reducible exact bundrew (by assumption)) | (with_reducible refine balloc ?_ _) | (with_reducible refine bset ?_ _ ?_ _) | (with_reducible refine Below.drew ?_) | (with_reducible refine bdrewN ?_ _) | (with_reducible refine bvia (by assumption) ?_) | (with_reducible refine Below.trans ?_ (by assumption)) | omega | (simp; omega) | (simp; done)))⟩
  · rw [wayT_no (by simp [hv])]
    have hv' := bfalse hv
    go_enter Try.func25, Try.ntmps25
    go_wp2_with (first | (go_at_call 17; go_must (refine (tv_impl _ _ _ _).mono ?_; rintro e w1 ⟨rfl, hbw1⟩; obtain ⟨hcw1, hfw1, -, -, -, hsw1⟩ := bfacts5 hbw1; (try simp only [World.size_drew] at hcw1 hfw1); (try simp at hsw1); have qw10 : w.heap.size < w1.heap.size := (by omega); have rw10 : ∀ m : Nat, w.heap.size < w1.heap.size + m := fun m => (by omega))) | (go_at_call 44; refine (isFloor_any _ _ _).mono ?_; rintro e w' ⟨rfl, rfl⟩))
    go_ret2
    exact ⟨_, rfl, OwnP.nil _ _, by (repeat' (first | (with_reducible exact Below.refl _ _) | (with_reducible assumption) | (with_reducible exact bundrew (by assumption)) | (with_reducible refine balloc ?_ _) | (with_reducible refine bset ?_ _ ?_ _) | (with_reducible refine Below.drew ?_) | (with_reducible refine bdrewN ?_ _) | (with_reducible refine bvia (by assumption) ?_) | (with_reducible refine Below.trans ?_ (by assumption)) | omega | (simp; omega) | (simp; done)))⟩

set_option maxHeartbeats 2000000 in
theorem way_spec (f l h car d : Int) (w : World) : Calls Try.prog 24 #[.agg #[.int .i64 f, .int .i64 l, .int .i64 h], .int .i64 car, .int .i64 d] w (WayOut w (wayT f l h car d).1 (wayT f l h car d).2) := by
  have HZ : ∀ o, OwnP ((w.alloc o).alloc (.cells #[] 34)) w.heap.size (.slice (some ⟨w.heap.size + 1, 0, none⟩) 0 0) [] := fun o => OwnP.empty (by omega) (by have := heap_alloc_new (w.alloc o) (.cells #[] 34); simpa using this)
  by_cases hv : tvB f l h = true
  · by_cases hi : inB d 0 (f - 1) = true
    · obtain ⟨p1, p2, p3, p4, p5⟩ := tv_open hv
      obtain ⟨p6, p7⟩ := inB_open hi
      have hx := wayT_yes (f := f) (l := l) (h := h) hv hi
      rcases beq_or car 0 with ⟨e0, g0⟩ | ⟨e0, g0⟩
      · subst g0
        by_cases g1 : d = f - 1
        · have q1 : f - 1 ≤ d := by omega
          rw [(hx 0).trans ((if_pos rfl).trans (if_pos g1))]
          clear hx e0 g1
          go_enter Try.func24, Try.ntmps24
          go_wp2_with fail
          refine (tv_spec _ _ _ _).mono ?_
          rintro e w1 ⟨rfl, hbw1⟩
          obtain ⟨hcw1, hfw1, -, -, -, hsw1⟩ := bfacts5 hbw1
          try simp only [World.size_drew] at hcw1 hfw1
          try simp at hsw1
          have qw10 : w.heap.size < w1.heap.size := (by omega)
          have rw10 : ∀ m : Nat, w.heap.size < w1.heap.size + m := fun m => (by omega)
          have qw11 : w.heap.size + 1 < w1.heap.size := (by omega)
          have rw11 : ∀ m : Nat, w.heap.size + 1 < w1.heap.size + m := fun m => (by omega)
          have h1 := (HZ _).below hbw1
          go_wp2_with (first | (go_at_call 42; refine (l1In_any _ _ _ _).mono ?_; rintro e w' ⟨rfl, rfl⟩))
          go_ret2
          exact ⟨_, rfl, h1, by (repeat' (first | (with_reducible exact Below.refl _ _) | (with_reducible assumption) | (with_reducible exact bundrew (by assumption)) | (with_reducible refine balloc ?_ _) | (with_reducible refine bset ?_ _ ?_ _) | (with_reducible refine Below.drew ?_) | (with_reducible refine bdrewN ?_ _) | (with_reducible refine bvia (by assumption) ?_) | (with_reducible refine Below.trans ?_ (by assumption)) | omega | (simp; omega) | (simp; done)))⟩
        · have q1 : d < f - 1 := by omega
          by_cases g2 : h ≤ d
          · rw [(hx 0).trans ((if_pos rfl).trans ((if_neg g1).trans (if_pos g2)))]
            clear g1
            clear hx e0
            go_enter Try.func24, Try.ntmps24
            go_wp2_with fail
            refine (tv_spec _ _ _ _).mono ?_
            rintro e w1 ⟨rfl, hbw1⟩
            obtain ⟨hcw1, hfw1, -, -, -, hsw1⟩ := bfacts5 hbw1
            try simp only [World.size_drew] at hcw1 hfw1
            try simp at hsw1
            have qw10 : w.heap.size < w1.heap.size := (by omega)
            have rw10 : ∀ m : Nat, w.heap.size < w1.heap.size + m := fun m => (by omega)
            have qw11 : w.heap.size + 1 < w1.heap.size := (by omega)
            have rw11 : ∀ m : Nat, w.heap.size + 1 < w1.heap.size + m := fun m => (by omega)
            have h1 := (HZ _).below hbw1
            go_wp2_with (first | (go_at_call 42; refine (l1In_any _ _ _ _).mono ?_; rintro e w' ⟨rfl, rfl⟩) | (at_builtin; have _t := h2; refine app_pair rfl _ _ rfl w.heap.size w2.heap.size _ ([] ++ [(1, d + 1)]) 0 d rfl rfl (h2.alloc _) ?_ ?_ ?_ ?_ ?_; (focus (first | (go_simp; done) | (simp; done) | omega | (simp; omega))); (focus (first | (go_simp; done) | (simp; done) | omega | (simp; omega))); (focus (first | (go_simp; done) | (simp; done) | omega | (simp; omega))); (focus (first | (go_simp; done) | (simp; done) | omega | (simp; omega))); intro v3 w3 h3 g3; have zw3 := g3.size; (try simp at zw3)) | (at_builtin; refine app_pair rfl _ _ rfl w.heap.size w1.heap.size _ [] 1 (d + 1) rfl rfl (h1.alloc _) ?_ ?_ ?_ ?_ ?_; (focus (first | (go_simp; done) | (simp; done) | omega | (simp; omega))); (focus (first | (go_simp; done) | (simp; done) | omega | (simp; omega))); (focus (first | (go_simp; done) | (simp; done) | omega | (simp; omega))); (focus (first | (go_simp; done) | (simp; done) | omega | (simp; omega))); intro v2 w2 h2 g2; have zw2 := g2.size; (try simp at zw2)))
            go_ret2
            exact ⟨_, rfl, h3, by (repeat' (first | (with_reducible exact Below.refl _ _) | (with_reducible assumption) | (with_reducible exact bundrew (by assumption)) | (with_reducible refine balloc ?_ _) | (with_reducible refine bset ?_ _ ?_ _) | (with_reducible refine Below.drew ?_) | (with_reducible refine bdrewN ?_ _) | (with_reducible refine bvia (by assumption) ?_) | (with_reducible refine Below.trans ?_ (by assumption)) | omega | (simp; omega) | (simp; done)))⟩
          · rw [(hx 0).trans ((if_pos rfl).trans ((if_neg g1).trans (if_neg g2)))]
            have g3 : d < h := by omega
            clear hx e0 g1 g2
            go_enter Try.func24, Try.ntmps24
            go_wp2_with fail
            refine (tv_spec _ _ _ _).mono ?_
            rintro e w1 ⟨rfl, hbw1⟩
            obtain ⟨hcw1, hfw1, -, -, -, hsw1⟩ := bfacts5 hbw1
            try simp only [World.size_drew] at hcw1 hfw1
            try simp at hsw1
            have qw10 : w.heap.size < w1.heap.size := (by omega)
            have rw10 : ∀ m : Nat, w.heap.size < w1.heap.size + m := fun m => (by omega)
            have qw11 : w.heap.size + 1 < w1.heap.size := (by omega)
            have rw11 : ∀ m : Nat, w.heap.size + 1 < w1.heap.size + m := fun m => (by omega)
            have h1 := (HZ _).below hbw1
            go_wp2_with (first | (go_at_call 42; refine (l1In_any _ _ _ _).mono ?_; rintro e w' ⟨rfl, rfl⟩) | (at_builtin; refine app_pair rfl _ _ rfl w.heap.size w1.heap.size _ [] 0 d rfl rfl (h1.alloc _) ?_ ?_ ?_ ?_ ?_; (focus (first | (go_simp; done) | (simp; done) | omega | (simp; omega))); (focus (first | (go_simp; done) | (simp; done) | omega | (simp; omega))); (focus (first | (go_simp; done) | (simp; done) | omega | (simp; omega))); (focus (first | (go_simp; done) | (simp; done) | omega | (simp; omega))); intro v2 w2 h2 g2; have zw2 := g2.size; (try simp at zw2)))
            go_ret2
            exact ⟨_, rfl, h2, by (repeat' (first | (with_reducible exact Below.refl _ _) | (with_reducible assumption) | (with_reducible exact bundrew (by assumption)) | (with_reducible refine balloc ?_ _) | (with_reducible refine bset ?_ _ ?_ _) | (with_reducible refine Below.drew ?_) | (with_reducible refine bdrewN ?_ _) | (with_reducible refine bvia (by assumption) ?_) | (with_reducible refine Below.trans ?_ (by assumption)) | omega | (simp; omega) | (simp; done)))⟩
      · rcases beq_or car 1 with ⟨e9, g9⟩ | ⟨e9, g9⟩
        · subst g9
          by_cases g1 : d = 0
          · have q1 : d ≤ 0 := by omega
            rw [(hx 1).trans ((if_neg (by omega)).trans ((if_pos rfl).trans (if_pos g1)))]
            clear hx e9 g1 g0
            go_enter Try.func24, Try.ntmps24
            go_wp2_with fail
            refine (tv_spec _ _ _ _).mono ?_
            rintro e w1 ⟨rfl, hbw1⟩
            obtain ⟨hcw1, hfw1, -, -, -, hsw1⟩ := bfacts5 hbw1
            try simp only [World.size_drew] at hcw1 hfw1
            try simp at hsw1
            have qw10 : w.heap.size < w1.heap.size := (by omega)
            have rw10 : ∀ m : Nat, w.heap.size < w1.heap.size + m := fun m => (by omega)
            have qw11 : w.heap.size + 1 < w1.heap.size := (by omega)
            have rw11 : ∀ m : Nat, w.heap.size + 1 < w1.heap.size + m := fun m => (by omega)
            have h1 := (HZ _).below hbw1
            go_wp2_with (first | (go_at_call 42; refine (l1In_any _ _ _ _).mono ?_; rintro e w' ⟨rfl, rfl⟩))
            go_ret2
            exact ⟨_, rfl, h1, by (repeat' (first | (with_reducible exact Below.refl _ _) | (with_reducible assumption) | (with_reducible exact bundrew (by assumption)) | (with_reducible refine balloc ?_ _) | (with_reducible refine bset ?_ _ ?_ _) | (with_reducible refine Below.drew ?_) | (with_reducible refine bdrewN ?_ _) | (with_reducible refine bvia (by assumption) ?_) | (with_reducible refine Below.trans ?_ (by assumption)) | omega | (simp; omega) | (simp; done)))⟩
          · have q1 : 0 < d := by omega
            by_cases g2 : d ≤ l
            · rw [(hx 1).trans ((if_neg (by omega)).trans ((if_pos rfl).trans ((if_neg g1).trans (if_pos g2))))]
              clear g1
              clear hx e9 g0
              go_enter Try.func24, Try.ntmps24
              go_wp2_with fail
              refine (tv_spec _ _ _ _).mono ?_
              rintro e w1 ⟨rfl, hbw1⟩
              obtain ⟨hcw1, hfw1, -, -, -, hsw1⟩ := bfacts5 hbw1
              try simp only [World.size_drew] at hcw1 hfw1
              try simp at hsw1
              have qw10 : w.heap.size < w1.heap.size := (by omega)
              have rw10 : ∀ m : Nat, w.heap.size < w1.heap.size + m := fun m => (by omega)
              have qw11 : w.heap.size + 1 < w1.heap.size := (by omega)
              have rw11 : ∀ m : Nat, w.heap.size + 1 < w1.heap.size + m := fun m => (by omega)
              have h1 := (HZ _).below hbw1
              go_wp2_with (first | (go_at_call 42; refine (l1In_any _ _ _ _).mono ?_; rintro e w' ⟨rfl, rfl⟩) | (at_builtin; have _t := h2; refine app_pair rfl _ _ rfl w.heap.size w2.heap.size _ ([] ++ [(0, d - 1)]) 1 d rfl rfl (h2.alloc _) ?_ ?_ ?_ ?_ ?_; (focus (first | (go_simp; done) | (simp; done) | omega | (simp; omega))); (focus (first | (go_simp; done) | (simp; done) | omega | (simp; omega))); (focus (first | (go_simp; done) | (simp; done) | omega | (simp; omega))); (focus (first | (go_simp; done) | (simp; done) | omega | (simp; omega))); intro v3 w3 h3 g3; have zw3 := g3.size; (try simp at zw3)) | (at_builtin; refine app_pair rfl _ _ rfl w.heap.size w1.heap.size _ [] 0 (d - 1) rfl rfl (h1.alloc _) ?_ ?_ ?_ ?_ ?_; (focus (first | (go_simp; done) | (simp; done) | omega | (simp; omega))); (focus (first | (go_simp; done) | (simp; done) | omega | (simp; omega))); (focus (first | (go_simp; done) | (simp; done) | omega | (simp; omega))); (focus (first | (go_simp; done) | (simp; done) | omega | (simp; omega))); intro v2 w2 h2 g2; have zw2 := g2.size; (try simp at zw2)))
              go_ret2
              exact ⟨_, rfl, h3, by (repeat' (first | (with_reducible exact Below.refl _ _) | (with_reducible assumption) | (with_reducible exact bundrew (by assumption)) | (with_reducible refine balloc ?_ _) | (with_reducible refine bset ?_ _ ?_ _) | (with_reducible refine Below.drew ?_) | (with_reducible refine bdrewN ?_ _) | (with_reducible refine bvia (by assumption) ?_) | (with_reducible refine Below.trans ?_ (by assumption)) | omega | (simp; omega) | (simp; done)))⟩
            · rw [(hx 1).trans ((if_neg (by omega)).trans ((if_pos rfl).trans ((if_neg g1).trans (if_neg g2))))]
              have g3 : l < d := by omega
              clear hx e9 g0 g1 g2
              go_enter Try.func24, Try.ntmps24
              go_wp2_with fail
              refine (tv_spec _ _ _ _).mono ?_
              rintro e w1 ⟨rfl, hbw1⟩
              obtain ⟨hcw1, hfw1, -, -, -, hsw1⟩ := bfacts5 hbw1
              try simp only [World.size_drew] at hcw1 hfw1
              try simp at hsw1
              have qw10 : w.heap.size < w1.heap.size := (by omega)
              have rw10 : ∀ m : Nat, w.heap.size < w1.heap.size + m := fun m => (by omega)
              have qw11 : w.heap.size + 1 < w1.heap.size := (by omega)
              have rw11 : ∀ m : Nat, w.heap.size + 1 < w1.heap.size + m := fun m => (by omega)
              have h1 := (HZ _).below hbw1
              go_wp2_with (first | (go_at_call 42; refine (l1In_any _ _ _ _).mono ?_; rintro e w' ⟨rfl, rfl⟩) | (at_builtin; refine app_pair rfl _ _ rfl w.heap.size w1.heap.size _ [] 1 d rfl rfl (h1.alloc _) ?_ ?_ ?_ ?_ ?_; (focus (first | (go_simp; done) | (simp; done) | omega | (simp; omega))); (focus (first | (go_simp; done) | (simp; done) | omega | (simp; omega))); (focus (first | (go_simp; done) | (simp; done) | omega | (simp; omega))); (focus (first | (go_simp; done) | (simp; done) | omega | (simp; omega))); intro v2 w2 h2 g2; have zw2 := g2.size; (try simp at zw2)))
              go_ret2
              exact ⟨_, rfl, h2, by (repeat' (first | (with_reducible exact Below.refl _ _) | (with_reducible assumption) | (with_reducible exact bundrew (by assumption)) | (with_reducible refine balloc ?_ _) | (with_reducible refine bset ?_ _ ?_ _) | (with_reducible refine Below.drew ?_) | (with_reducible refine bdrewN ?_ _) | (with_reducible refine bvia (by assumption) ?_) | (with_reducible refine Below.trans ?_ (by assumption)) | omega | (simp; omega) | (simp; done)))⟩
        · rw [(hx car).trans ((if_neg (by omega)).trans (if_neg (by omega)))]
          clear hx
          clear g9 g0
          go_enter Try.func24, Try.ntmps24
          go_wp2_with fail
          refine (tv_spec _ _ _ _).mono ?_
          rintro e w1 ⟨rfl, hbw1⟩
          obtain ⟨hcw1, hfw1, -, -, -, hsw1⟩ := bfacts5 hbw1
          try simp only [World.size_drew] at hcw1 hfw1
          try simp at hsw1
          have qw10 : w.heap.size < w1.heap.size := (by omega)
          have rw10 : ∀ m : Nat, w.heap.size < w1.heap.size + m := fun m => (by omega)
          have qw11 : w.heap.size + 1 < w1.heap.size := (by omega)
          have rw11 : ∀ m : Nat, w.heap.size + 1 < w1.heap.size + m := fun m => (by omega)
          have h1 := (HZ _).below hbw1
          go_wp2_with (first | (go_at_call 42; refine (l1In_any _ _ _ _).mono ?_; rintro e w' ⟨rfl, rfl⟩))
          go_ret2
          exact ⟨_, rfl, h1, by (repeat' (first | (with_reducible exact Below.refl _ _) | (with_reducible assumption) | (with_reducible exact bundrew (by assumption)) | (with_reducible refine balloc ?_ _) | (with_reducible refine bset ?_ _ ?_ _) | (with_reducible refine Below.drew ?_) | (with_reducible refine bdrewN ?_ _) | (with_reducible refine bvia (by assumption) ?_) | (with_reducible refine Below.trans ?_ (by assumption)) | omega | (simp; omega) | (simp; done)))⟩
    · rw [wayT_no (by simp [hi])]
      obtain ⟨p1, p2, p3, p4, p5⟩ := tv_open hv
      have hi' := bfalse hi
      go_enter Try.func24, Try.ntmps24
      go_wp2_with fail
      refine (tv_spec _ _ _ _).mono ?_
      rintro e w1 ⟨rfl, hbw1⟩
      obtain ⟨hcw1, hfw1, -, -, -, hsw1⟩ := bfacts5 hbw1
      try simp only [World.size_drew] at hcw1 hfw1
      try simp at hsw1
      have qw10 : w.heap.size < w1.heap.size := (by omega)
      have rw10 : ∀ m : Nat, w.heap.size < w1.heap.size + m := fun m => (by omega)
      have qw11 : w.heap.size + 1 < w1.heap.size := (by omega)
      have rw11 : ∀ m : Nat, w.heap.size + 1 < w1.heap.size + m := fun m => (by omega)
      have h1 := (HZ _).below hbw1
      go_wp2_with (first | (go_at_call 42; refine (l1In_any _ _ _ _).mono ?_; rintro e w' ⟨rfl, rfl⟩))
      go_ret2
      exact ⟨_, rfl, h1, by (repeat' (first | (with_reducible exact Below.refl _ _) | (with_reducible assumption) | (with_reducible exact bundrew (by assumption)) | (with_reducible refine balloc ?_ _) | (with_reducible refine bset ?_ _ ?_ _) | (with_reducible refine Below.drew ?_) | (with_reducible refine bdrewN ?_ _) | (with_reducible refine bvia (by assumption) ?_) | (with_reducible refine Below.trans ?_ (by assumption)) | omega | (simp; omega) | (simp; done)))⟩
  · rw [wayT_no (by simp [hv])]
    have hv' := bfalse hv
    go_enter Try.func24, Try.ntmps24
    go_wp2_with fail
    refine (tv_spec _ _ _ _).mono ?_
    rintro e w1 ⟨rfl, hbw1⟩
    obtain ⟨hcw1, hfw1, -, -, -, hsw1⟩ := bfacts5 hbw1
    try simp only [World.size_drew] at hcw1 hfw1
    try simp at hsw1
    have qw10 : w.heap.size < w1.heap.size := (by omega)
    have rw10 : ∀ m : Nat, w.heap.size < w1.heap.size + m := fun m => (by omega)
    have qw11 : w.heap.size + 1 < w1.heap.size := (by omega)
    have rw11 : ∀ m : Nat, w.heap.size + 1 < w1.heap.size + m := fun m => (by omega)
    have h1 := (HZ _).below hbw1
    go_wp2_with (first | (go_at_call 42; refine (l1In_any _ _ _ _).mono ?_; rintro e w' ⟨rfl, rfl⟩))
    go_ret2
    exact ⟨_, rfl, h1, by (repeat' (first | (with_reducible exact Below.refl _ _) | (with_reducible assumption) | (with_reducible exact bundrew (by assumption)) | (with_reducible refine balloc ?_ _) | (with_reducible refine bset ?_ _ ?_ _) | (with_reducible refine Below.drew ?_) | (with_reducible refine bdrewN ?_ _) | (with_reducible refine bvia (by assumption) ?_) | (with_reducible refine Below.trans ?_ (by assumption)) | omega | (simp; omega) | (simp; done)))⟩
end Go.Proofs.Ytpcdedigblijbaa
