/- The walk of the law FnTwinWay. -/
import Derived.Test.YtpcdedigblijbaaTwinJ3
import Derived.Test.YtpcdedigblijbaaTwinJ4
import Derived.Test.YtpcdedigblijbaaTwinL2
namespace Go.Proofs.Ytpcdedigblijbaa
open Go.ChangeShapes Go.WideShapes Go.ChangeAt Go.RowKit

/-- What a way does, move by move. -/
structure WayDone (f l h car d : Int) (xs : List (Int × Int)) : Prop where
  valid : tvB f l h = true
  lo : 0 ≤ d
  hi : d < f
  at0 : car = 0 ∧ d < f - 1 ∨ car = 1 ∧ 0 < d
  can : ∀ k, k < xs.length → (tdoT (trS f l h xs k).1 (trS f l h xs k).2.1 (trS f l h xs k).2.2 (px xs k) (py xs k)).2.2.2 = true
  there : car = 0 ∧ (trS f l h xs xs.length).2.1 = d ∨ car = 1 ∧ (trS f l h xs xs.length).2.2 = d
  direct : (tdoT f l h car d).2.2.2 = decide (xs.length = 1)
theorem tdoT_can0 {f l h t : Int} (h1 : tvB f l h = true) (h2 : tvB f t h = true) : tdoT f l h 0 t = (f, t, h, true) := tdoT_low h1 h2
theorem way_done {f l h car d : Int} {xs : List (Int × Int)} (hw : wayT f l h car d = (xs, true)) : WayDone f l h car d xs := by
  by_cases hv : tvB f l h = true
  · by_cases hi : inB d 0 (f - 1) = true
    · obtain ⟨p1, p2, p3, p4, p5⟩ := tv_open hv
      obtain ⟨p6, p7⟩ := inB_open hi
      rw [wayT_yes hv hi] at hw
      by_cases g0 : car = 0
      · subst g0
        rw [if_pos rfl] at hw
        by_cases g1 : d = f - 1
        · rw [if_pos g1] at hw; cases hw
        · rw [if_neg g1] at hw
          by_cases g2 : h ≤ d
          · rw [if_pos g2] at hw
            injection hw with hw
            subst hw
            have v1 : tvB f l (d + 1) = true := by simp only [tvB, decide_eq_true_eq]; omega
            have v2 : tvB f d (d + 1) = true := by simp only [tvB, decide_eq_true_eq]; omega
            have v3 : ¬ tvB f d h = true := by simp only [tvB, decide_eq_true_eq]; omega
            have e1 : tdoT f l h 1 (d + 1) = (f, l, d + 1, true) := tdoT_high hv v1
            have e2 : tdoT f l (d + 1) 0 d = (f, d, d + 1, true) := tdoT_low v1 v2
            have s1 : trS f l h [(1, d + 1), (0, d)] 1 = (f, l, d + 1) := by simp [trS, px, py, e1]
            have s2 : trS f l h [(1, d + 1), (0, d)] 2 = (f, d, d + 1) := by rw [trS_succ, s1]; simp [px, py, e2]
            refine ⟨hv, p6, by omega, .inl ⟨rfl, by omega⟩, fun k hk => ?_, .inl ⟨rfl, by rw [show [((1 : Int), d + 1), (0, d)].length = 2 from rfl, s2]⟩, ?_⟩
            · match k, hk with
              | 0, _ => simp [trS, px, py, e1]
              | 1, _ => rw [s1]; simp [px, py, e2]
              | k + 2, hk => simp at hk; omega
            · rw [tdoT_stay hv (by simp [v3]) (by simp)]; simp
          · rw [if_neg g2] at hw
            injection hw with hw
            subst hw
            have v1 : tvB f d h = true := by simp only [tvB, decide_eq_true_eq]; omega
            have e1 : tdoT f l h 0 d = (f, d, h, true) := tdoT_low hv v1
            refine ⟨hv, p6, by omega, .inl ⟨rfl, by omega⟩, fun k hk => ?_, .inl ⟨rfl, by simp [trS, px, py, e1]⟩, by rw [e1]; simp⟩
            match k, hk with
            | 0, _ => simp [trS, px, py, e1]
            | k + 1, hk => simp at hk
      · rw [if_neg g0] at hw
        by_cases g9 : car = 1
        · subst g9
          rw [if_pos rfl] at hw
          by_cases g1 : d = 0
          · rw [if_pos g1] at hw; cases hw
          · rw [if_neg g1] at hw
            by_cases g2 : d ≤ l
            · rw [if_pos g2] at hw
              injection hw with hw
              subst hw
              have v1 : tvB f (d - 1) h = true := by simp only [tvB, decide_eq_true_eq]; omega
              have v2 : tvB f (d - 1) d = true := by simp only [tvB, decide_eq_true_eq]; omega
              have v3 : ¬ tvB f l d = true := by simp only [tvB, decide_eq_true_eq]; omega
              have e1 : tdoT f l h 0 (d - 1) = (f, d - 1, h, true) := tdoT_low hv v1
              have e2 : tdoT f (d - 1) h 1 d = (f, d - 1, d, true) := tdoT_high v1 v2
              have s1 : trS f l h [(0, d - 1), (1, d)] 1 = (f, d - 1, h) := by simp [trS, px, py, e1]
              have s2 : trS f l h [(0, d - 1), (1, d)] 2 = (f, d - 1, d) := by rw [trS_succ, s1]; simp [px, py, e2]
              refine ⟨hv, p6, by omega, .inr ⟨rfl, by omega⟩, fun k hk => ?_, .inr ⟨rfl, by rw [show [((0 : Int), d - 1), (1, d)].length = 2 from rfl, s2]⟩, ?_⟩
              · match k, hk with
                | 0, _ => simp [trS, px, py, e1]
                | 1, _ => rw [s1]; simp [px, py, e2]
                | k + 2, hk => simp at hk; omega
              · rw [tdoT_stay hv (by simp) (by simp [v3])]; simp
            · rw [if_neg g2] at hw
              injection hw with hw
              subst hw
              have v1 : tvB f l d = true := by simp only [tvB, decide_eq_true_eq]; omega
              have e1 : tdoT f l h 1 d = (f, l, d, true) := tdoT_high hv v1
              refine ⟨hv, p6, by omega, .inr ⟨rfl, by omega⟩, fun k hk => ?_, .inr ⟨rfl, by simp [trS, px, py, e1]⟩, by rw [e1]; simp⟩
              match k, hk with
              | 0, _ => simp [trS, px, py, e1]
              | k + 1, hk => simp at hk
        · rw [if_neg g9] at hw; cases hw
    · rw [wayT_no (by simp [hi])] at hw; cases hw
  · rw [wayT_no (by simp [hv])] at hw; cases hw
/-- Where there is no way. -/
theorem way_not {f l h car d : Int} {xs : List (Int × Int)} (hw : wayT f l h car d = (xs, false)) : xs = [] ∧ (tvB f l h = true → inB d 0 (f - 1) = true → car = 0 ∧ d = f - 1 ∨ car = 1 ∧ d = 0 ∨ car < 0 ∨ 1 < car) := by
  by_cases hv : tvB f l h = true
  · by_cases hi : inB d 0 (f - 1) = true
    · rw [wayT_yes hv hi] at hw
      by_cases g0 : car = 0
      · rw [if_pos g0] at hw
        by_cases g1 : d = f - 1
        · rw [if_pos g1] at hw; cases hw; exact ⟨rfl, fun _ _ => .inl ⟨g0, g1⟩⟩
        · rw [if_neg g1] at hw; split at hw <;> cases hw
      · rw [if_neg g0] at hw
        by_cases g9 : car = 1
        · rw [if_pos g9] at hw
          by_cases g1 : d = 0
          · rw [if_pos g1] at hw; cases hw; exact ⟨rfl, fun _ _ => .inr (.inl ⟨g9, g1⟩)⟩
          · rw [if_neg g1] at hw; split at hw <;> cases hw
        · rw [if_neg g9] at hw; cases hw; exact ⟨rfl, fun _ _ => by omega⟩
    · rw [wayT_no (by simp [hi])] at hw; cases hw; exact ⟨rfl, fun _ h => absurd h hi⟩
  · rw [wayT_no (by simp [hv])] at hw; cases hw; exact ⟨rfl, fun h _ => absurd h hv⟩
theorem way_len {f l h car d : Int} {xs : List (Int × Int)} {b : Bool} (hw : wayT f l h car d = (xs, b)) : xs.length ≤ 2 := by
  have := wayT_length f l h car d
  rwa [hw] at this
end Go.Proofs.Ytpcdedigblijbaa
