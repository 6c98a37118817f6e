/- The law FnExactTwinDo: the walk. -/
import Derived.Test.YtpcdedigblijbaaTwinC
import Derived.Deep.DeepCutAuto
namespace Go.Proofs.Ytpcdedigblijbaa
open Go.ChangeShapes Go.WideShapes Go.ChangeAt Go.RowKit

/-- Block g of a world holds three numbers. -/
def Hold3 (w : World) (g : Nat) (a b c : Int) : Prop := g < w.heap.size ∧ w.cell? ⟨g, 0, none⟩ = some (.int .i64 a) ∧ w.cell? ⟨g, 1, none⟩ = some (.int .i64 b) ∧ w.cell? ⟨g, 2, none⟩ = some (.int .i64 c)
theorem Hold3.keep {w w1 : World} {g : Nat} {a b c : Int} (h : Hold3 w g a b c) (hb : Below w.heap.size w w1) : Hold3 w1 g a b c :=
  ⟨Nat.lt_of_lt_of_le h.1 hb.size, (hb.cell (p := ⟨g, 0, none⟩) h.1).trans h.2.1, (hb.cell (p := ⟨g, 1, none⟩) h.1).trans h.2.2.1, (hb.cell (p := ⟨g, 2, none⟩) h.1).trans h.2.2.2⟩
def Hold2 (w : World) (g : Nat) (a b : Int) : Prop := g < w.heap.size ∧ w.cell? ⟨g, 0, none⟩ = some (.int .i64 a) ∧ w.cell? ⟨g, 1, none⟩ = some (.int .i64 b)
theorem Hold2.keep {w w1 : World} {g : Nat} {a b : Int} (h : Hold2 w g a b) (hb : Below w.heap.size w w1) : Hold2 w1 g a b :=
  ⟨Nat.lt_of_lt_of_le h.1 hb.size, (hb.cell (p := ⟨g, 0, none⟩) h.1).trans h.2.1, (hb.cell (p := ⟨g, 1, none⟩) h.1).trans h.2.2⟩

set_option maxHeartbeats 2000000 in
theorem walk_FnExactTwinDo (f l h c t : Int) (w : World) (_ : (Lit.int .i64 f).wf = true) (_ : (Lit.int .i64 l).wf = true) (_ : (Lit.int .i64 h).wf = true) (_ : (Lit.int .i64 c).wf = true) (_ : (Lit.int .i64 t).wf = true) :
    Calls Try.prog 5 #[.agg #[.int .i64 f, .int .i64 l, .int .i64 h], .agg #[.int .i64 c, .int .i64 t]] w fun e w' => e = .returned (.bool true) ∧ Below w.heap.size w w' := by
  go_enter Try.func5, Try.ntmps5
  go_upto_region 1 with fail
  go_cut [5, 6] (fun s5 s6 wx => ∃ g : Nat, s5 = .pointer (some ⟨g, 0, none⟩) ∧ s6 = .bool (tdoT f l h c t).2.2.2 ∧ Hold3 wx g (tdoT f l h c t).1 (tdoT f l h c t).2.1 (tdoT f l h c t).2.2.1 ∧
    Hold3 wx w.heap.size f l h ∧ Hold2 wx (w.heap.size + 1) c t ∧ Below w.heap.size w wx)
  case first =>
    go_region_held3 (fun w' => w'.cell? ⟨w.heap.size, 0, none⟩ = some (.int .i64 f) ∧ w'.cell? ⟨w.heap.size, 1, none⟩ = some (.int .i64 l) ∧ w'.cell? ⟨w.heap.size, 2, none⟩ = some (.int .i64 h) ∧
        w'.cell? ⟨w.heap.size + 1, 0, none⟩ = some (.int .i64 c) ∧ w'.cell? ⟨w.heap.size + 1, 1, none⟩ = some (.int .i64 t) ∧ Below w.heap.size w w' ∧ w.heap.size + 2 ≤ w'.heap.size)
      (first | (refine ⟨?_, ?_, ?_, ?_, ?_, ?_, ?_⟩ <;> first | (go_simp; done) | (simp; omega) | (repeat' (first | (with_reducible exact Below.refl _ _) | (with_reducible assumption) | (with_reducible exact bundrew (by assumption)) | (with_reducible refine balloc ?_ _) | (with_reducible refine bset ?_ _ ?_ _) | (with_reducible refine Below.drew ?_) | (with_reducible refine bdrewN ?_ _) | (with_reducible refine bvia (by assumption) ?_) | (with_reducible refine Below.trans ?_ (by assumption)) | omega | (simp; omega) | (simp; done)))))
      (first | (go_at_call 16; refine (toTwin_ex _ _ _ _).mono ?_; rintro e w' ⟨rfl, rfl⟩) | (go_at_call 21; refine (toTwinMove_ex _ _ _).mono ?_; rintro e w' ⟨rfl, rfl⟩) | (go_at_call 20; go_must (refine (tdo_spec _ _ _ _ _ _).mono ?_; rintro e w1 ⟨rfl, hbw1⟩; obtain ⟨hcw1, hfw1, -, -, -, hsw1⟩ := bfacts5 hbw1; (try simp only [World.size_drew] at hcw1 hfw1); (try simp at hsw1); have qw10 : w.heap.size < w1.heap.size := (by omega); have rw10 : ∀ m : Nat, w.heap.size < w1.heap.size + m := fun m => (by omega); have qw11 : w.heap.size + 1 < w1.heap.size := (by omega); have rw11 : ∀ m : Nat, w.heap.size + 1 < w1.heap.size + m := fun m => (by omega); have qw12 : w.heap.size + 2 < w1.heap.size := (by omega); have rw12 : ∀ m : Nat, w.heap.size + 2 < w1.heap.size + m := fun m => (by omega); have qw13 : w.heap.size + 3 < w1.heap.size := (by omega); have rw13 : ∀ m : Nat, w.heap.size + 3 < w1.heap.size + m := fun m => (by omega); have qw14 : w.heap.size + 4 < w1.heap.size := (by omega); have rw14 : ∀ m : Nat, w.heap.size + 4 < w1.heap.size + m := fun m => (by omega); have qw15 : w.heap.size + 5 < w1.heap.size := (by omega); have rw15 : ∀ m : Nat, w.heap.size + 5 < w1.heap.size + m := fun m => (by omega); have qw16 : w.heap.size + 6 < w1.heap.size := (by omega); have rw16 : ∀ m : Nat, w.heap.size + 6 < w1.heap.size + m := fun m => (by omega); have qw17 : w.heap.size + 7 < w1.heap.size := (by omega); have rw17 : ∀ m : Nat, w.heap.size + 7 < w1.heap.size + m := fun m => (by omega); (try have qw18 : w.heap.size + 8 < w1.heap.size := (by omega)); (try have rw18 : ∀ m : Nat, w.heap.size + 8 < w1.heap.size + m := fun m => (by omega)))))
    all_goals
      go_wp2_with fail
      go_meet
      refine ⟨_, rfl, rfl, ?_, ?_, ?_, ?_⟩
      · refine ⟨?_, ?_, ?_, ?_⟩ <;> first | (go_simp; done) | (simp; omega) | omega
      · refine ⟨?_, ?_, ?_, ?_⟩ <;> first | (go_simp; done) | (simp; omega) | omega
      · refine ⟨?_, ?_, ?_⟩ <;> first | (go_simp; done) | (simp; omega) | omega
      · (repeat' (first | (with_reducible exact Below.refl _ _) | (with_reducible assumption) | (with_reducible exact bundrew (by assumption)) | (with_reducible refine balloc ?_ _) | (with_reducible refine bset ?_ _ ?_ _) | (with_reducible refine Below.drew ?_) | (with_reducible refine bdrewN ?_ _) | (with_reducible refine bvia (by assumption) ?_) | (with_reducible refine Below.trans ?_ (by assumption)) | omega | (simp; omega) | (simp; done)))
  case rest =>
    obtain ⟨g, rfl, rfl, ⟨z1, c10, c11, c12⟩, ⟨z2, c20, c21, c22⟩, ⟨z3, c30, c31⟩, B1⟩ := hcut
    obtain ⟨y1, y11, y12, y13, y14⟩ := far_facts z1
    obtain ⟨s1, s2, s3, s4, s5, s6, s7, s8, s9⟩ := selfs wc.heap.size
    have y2 := lt_more z2
    have y3 := lt_more z3
    go_upto_region 2 with fail
    go_cut [7, 8] (fun s7 s8 wx => ∃ g7 : Nat, s7 = .pointer (some ⟨g7, 0, none⟩) ∧ s8 = .bool (tdoT f l h c t).2.2.2 ∧ Hold3 wx g7 (tdoT f l h c t).1 (tdoT f l h c t).2.1 (tdoT f l h c t).2.2.1 ∧
      Hold3 wx g (tdoT f l h c t).1 (tdoT f l h c t).2.1 (tdoT f l h c t).2.2.1 ∧ Below w.heap.size w wx)
    case first =>
      go_region_held3 (fun w' => w'.cell? ⟨w.heap.size, 0, none⟩ = some (.int .i64 f) ∧ w'.cell? ⟨w.heap.size, 1, none⟩ = some (.int .i64 l) ∧ w'.cell? ⟨w.heap.size, 2, none⟩ = some (.int .i64 h) ∧
          w'.cell? ⟨w.heap.size + 1, 0, none⟩ = some (.int .i64 c) ∧ w'.cell? ⟨w.heap.size + 1, 1, none⟩ = some (.int .i64 t) ∧ w'.cell? ⟨g, 0, none⟩ = some (.int .i64 (tdoT f l h c t).1) ∧ w'.cell? ⟨g, 1, none⟩ = some (.int .i64 (tdoT f l h c t).2.1) ∧ w'.cell? ⟨g, 2, none⟩ = some (.int .i64 (tdoT f l h c t).2.2.1) ∧ Below w.heap.size w w' ∧ wc.heap.size ≤ w'.heap.size)
        (first | (refine ⟨?_, ?_, ?_, ?_, ?_, ?_, ?_, ?_, ?_, ?_⟩ <;> first | (go_simp; done) | (simp; omega) | (repeat' (first | (with_reducible exact Below.refl _ _) | (with_reducible assumption) | (with_reducible exact bundrew (by assumption)) | (with_reducible refine balloc ?_ _) | (with_reducible refine bset ?_ _ ?_ _) | (with_reducible refine Below.drew ?_) | (with_reducible refine bdrewN ?_ _) | (with_reducible refine bvia (by assumption) ?_) | (with_reducible refine Below.trans ?_ (by assumption)) | omega | (simp; omega) | (simp; done)))))
        (first | (go_at_call 16; refine (toTwin_ex _ _ _ _).mono ?_; rintro e w' ⟨rfl, rfl⟩) | (go_at_call 21; refine (toTwinMove_ex _ _ _).mono ?_; rintro e w' ⟨rfl, rfl⟩) | (go_at_call 22; go_must (refine (tdo_impl _ _ _ _ _ _).mono ?_; rintro e w1 ⟨rfl, hbw1⟩; obtain ⟨hcw1, hfw1, -, -, -, hsw1⟩ := bfacts5 hbw1; (try simp only [World.size_drew] at hcw1 hfw1); (try simp at hsw1); have qw10 : w.heap.size < w1.heap.size := (by omega); have rw10 : ∀ m : Nat, w.heap.size < w1.heap.size + m := fun m => (by omega); have qw11 : w.heap.size + 1 < w1.heap.size := (by omega); have rw11 : ∀ m : Nat, w.heap.size + 1 < w1.heap.size + m := fun m => (by omega); have qw12 : g < w1.heap.size := (by omega); have rw12 : ∀ m : Nat, g < w1.heap.size + m := fun m => (by omega); have qw13 : wc.heap.size < w1.heap.size := (by omega); have rw13 : ∀ m : Nat, wc.heap.size < w1.heap.size + m := fun m => (by omega); have qw14 : wc.heap.size + 1 < w1.heap.size := (by omega); have rw14 : ∀ m : Nat, wc.heap.size + 1 < w1.heap.size + m := fun m => (by omega); have qw15 : wc.heap.size + 2 < w1.heap.size := (by omega); have rw15 : ∀ m : Nat, wc.heap.size + 2 < w1.heap.size + m := fun m => (by omega); have qw16 : wc.heap.size + 3 < w1.heap.size := (by omega); have rw16 : ∀ m : Nat, wc.heap.size + 3 < w1.heap.size + m := fun m => (by omega); have qw17 : wc.heap.size + 4 < w1.heap.size := (by omega); have rw17 : ∀ m : Nat, wc.heap.size + 4 < w1.heap.size + m := fun m => (by omega); have qw18 : wc.heap.size + 5 < w1.heap.size := (by omega); have rw18 : ∀ m : Nat, wc.heap.size + 5 < w1.heap.size + m := fun m => (by omega); (try have qw19 : wc.heap.size + 6 < w1.heap.size := (by omega)); (try have rw19 : ∀ m : Nat, wc.heap.size + 6 < w1.heap.size + m := fun m => (by omega)))))
      all_goals
        go_wp2_with fail
        go_meet
        refine ⟨_, rfl, rfl, ?_, ?_, ?_⟩
        · refine ⟨?_, ?_, ?_, ?_⟩ <;> first | (go_simp; done) | (simp; omega) | omega
        · refine ⟨?_, ?_, ?_, ?_⟩ <;> first | (go_simp; done) | (simp; omega) | omega
        · (repeat' (first | (with_reducible exact Below.refl _ _) | (with_reducible assumption) | (with_reducible exact bundrew (by assumption)) | (with_reducible refine balloc ?_ _) | (with_reducible refine bset ?_ _ ?_ _) | (with_reducible refine Below.drew ?_) | (with_reducible refine bdrewN ?_ _) | (with_reducible refine bvia (by assumption) ?_) | (with_reducible refine Below.trans ?_ (by assumption)) | omega | (simp; omega) | (simp; done)))
    case rest =>
      obtain ⟨g7, rfl, rfl, ⟨z4, c40, c41, c42⟩, ⟨z5, c50, c51, c52⟩, B2⟩ := hcut
      go_wp2_with fail
      refine (eqTwin_any _ _ _ _ _ _ _).mono ?_
      rintro e w1 ⟨rfl, hbw1⟩
      have B3 := B2.trans (hbw1.mono B2.size)
      go_wp2
      go_ret
      exact ⟨rfl, B3⟩
end Go.Proofs.Ytpcdedigblijbaa
