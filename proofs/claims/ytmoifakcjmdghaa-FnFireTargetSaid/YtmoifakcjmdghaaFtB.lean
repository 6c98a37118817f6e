/- CallsValid of the reference, stopValid, l9Ok, callToGo: contracts. -/
import Derived.Test.YtmoifakcjmdghaaFtA
namespace Go.Proofs.Ytmoifakcjmdghaa
open Go.ChangeShapes Go.WideShapes Go.ChangeAt Go.RowKit

set_option maxHeartbeats 1000000 in
theorem cv_spec (A1 : Option Addr) (n1 c1 : Nat) (us : List Bool) (A2 : Option Addr) (n2 c2 : Nat) (ds : List Bool) (A3 : Option Addr) (n3 c3 : Nat) (cs : List Bool) (w : World) (h : BC w A1 n1 us A2 n2 ds A3 n3 cs) :
    Calls Try.prog 38 #[.agg #[.slice A1 n1 c1, .slice A2 n2 c2, .slice A3 n3 c3]] w fun e w' => e = .returned (.bool (cvB us ds cs)) ∧ Below w.heap.size w w' := by
  obtain ⟨hu, hd, hc⟩ := h
  have LU := Lib.hid hu.1
  have LD := Lib.hid hd.1
  have LC := Lib.hid hc.1
  have n30 : 0 ≤ (n3 : Int) := by omega
  by_cases k1 : inB (n3 : Int) 1 8 = true
  · obtain ⟨k2, k3⟩ := inB_open k1
    rcases beq_or (n1 : Int) (n3 : Int) with ⟨t1, t2⟩ | ⟨t1, t2⟩
    · obtain rfl : n1 = n3 := by omega
      rcases beq_or (n2 : Int) (n1 : Int) with ⟨t3, t4⟩ | ⟨t3, t4⟩
      · obtain rfl : n2 = n1 := by omega
        obtain ⟨L, rfl⟩ : ∃ L, n2 = L + 1 := ⟨n2 - 1, by omega⟩
        obtain ⟨b1, o1, rfl, hb1, q1⟩ := hu.2.2 (by omega)
        obtain ⟨b2, o2, rfl, hb2, q2⟩ := hd.2.2 (by omega)
        have e1 := q1 L (by omega)
        have e2 : w.cell? ⟨b2, o2, none⟩ = some (.bool (ds[0]?.getD false)) := q2 0 (by omega)
        have HV : Hid (cvB us ds cs = (!(us[L]?.getD false) && !(ds[0]?.getD false))) := Lib.hid (by
          have hL : us.length - 1 = L := by rw [LU.out]; omega
          unfold cvB
          rw [hL, LU.out, LD.out, LC.out, Bool.eq_iff_iff]
          simp
          omega)
        obtain ⟨x, hx⟩ : ∃ x, us[L]?.getD false = x := ⟨_, rfl⟩
        obtain ⟨y, hy⟩ : ∃ y, ds[0]?.getD false = y := ⟨_, rfl⟩
        rw [hx] at e1 HV
        rw [hy] at e2 HV
        rw [HV.out]
        have hl1 : IntKind.i64.wrap (((L + 1 : Nat) : Int) - 1) = (L : Int) := by rw [IntWalk.i64_in _ ⟨by omega, by omega⟩]; omega
        have hl2 : (L : Int) < ((L + 1 : Nat) : Int) := by omega
        have hl3 : (0 : Int) < ((L + 1 : Nat) : Int) := by omega
        have hb1' : ¬ b1 = w.heap.size := by omega
        have hb2' : ¬ b2 = w.heap.size := by omega
        clear q1 q2 hx hy hu hd hc HV t1 t2 t3 t4
        cases x <;> cases y
        all_goals (go_enter Try.func38, Try.ntmps38; go_wp2_with (go_at_call 22; refine (l1In_any _ _ _ _).mono ?_; rintro e w' ⟨rfl, rfl⟩); go_ret; exact ⟨rfl, by (repeat' (first | (with_reducible exact Below.refl _ _) | (with_reducible assumption) | (with_reducible exact bundrew (by assumption)) | (with_reducible refine balloc ?_ _) | (with_reducible refine bset ?_ _ ?_ _) | (with_reducible refine Below.drew ?_) | (with_reducible refine bdrewN ?_ _) | (with_reducible refine bvia (by assumption) ?_) | (with_reducible refine Below.trans ?_ (by assumption)) | omega | (simp; omega) | (simp; done)))⟩)
      · have HF : cvB us ds cs = false := cvB_no fun h => by have := LU.out; have := LD.out; omega
        rw [HF]
        clear HF hu hd hc
        go_enter Try.func38, Try.ntmps38
        go_wp2_with (go_at_call 22; refine (l1In_any _ _ _ _).mono ?_; rintro e w' ⟨rfl, rfl⟩)
        go_ret
        exact ⟨rfl, by (repeat' (first | (with_reducible exact Below.refl _ _) | (with_reducible assumption) | (with_reducible exact bundrew (by assumption)) | (with_reducible refine balloc ?_ _) | (with_reducible refine bset ?_ _ ?_ _) | (with_reducible refine Below.drew ?_) | (with_reducible refine bdrewN ?_ _) | (with_reducible refine bvia (by assumption) ?_) | (with_reducible refine Below.trans ?_ (by assumption)) | omega | (simp; omega) | (simp; done)))⟩
    · have HF : cvB us ds cs = false := cvB_no fun h => by have := LU.out; have := LC.out; omega
      rw [HF]
      clear HF hu hd hc
      go_enter Try.func38, Try.ntmps38
      go_wp2_with (go_at_call 22; refine (l1In_any _ _ _ _).mono ?_; rintro e w' ⟨rfl, rfl⟩)
      go_ret
      exact ⟨rfl, by (repeat' (first | (with_reducible exact Below.refl _ _) | (with_reducible assumption) | (with_reducible exact bundrew (by assumption)) | (with_reducible refine balloc ?_ _) | (with_reducible refine bset ?_ _ ?_ _) | (with_reducible refine Below.drew ?_) | (with_reducible refine bdrewN ?_ _) | (with_reducible refine bvia (by assumption) ?_) | (with_reducible refine Below.trans ?_ (by assumption)) | omega | (simp; omega) | (simp; done)))⟩
  · have k2 := inB_shut k1
    have k1' := bfalse k1
    have HF : cvB us ds cs = false := cvB_no fun h => by have := LU.out; have := LC.out; omega
    rw [HF]
    clear HF hu hd hc
    go_enter Try.func38, Try.ntmps38
    go_wp2_with (go_at_call 22; refine (l1In_any _ _ _ _).mono ?_; rintro e w' ⟨rfl, rfl⟩)
    go_ret
    exact ⟨rfl, by (repeat' (first | (with_reducible exact Below.refl _ _) | (with_reducible assumption) | (with_reducible exact bundrew (by assumption)) | (with_reducible refine balloc ?_ _) | (with_reducible refine bset ?_ _ ?_ _) | (with_reducible refine Below.drew ?_) | (with_reducible refine bdrewN ?_ _) | (with_reducible refine bvia (by assumption) ?_) | (with_reducible refine Below.trans ?_ (by assumption)) | omega | (simp; omega) | (simp; done)))⟩

/-- A direction. -/
def dirB (d : Int) : Bool := decide (d = 1 ∨ d = -1)
theorem dirB_open {d : Int} (h : dirB d = true) : d = 1 ∨ d = -1 := by simpa [dirB] using h
theorem isFloor_any (n f : Int) (w : World) : Calls Try.prog 29 #[.int .i64 n, .int .i64 f] w fun e w' => e = .returned (.bool (inB n 0 (f - 1))) ∧ w = w' := by
  go_enter Try.func29, Try.ntmps29
  go_wp2
  all_goals go_ret
  all_goals refine ⟨ret_bool ?_, rfl⟩
  all_goals (rw [Bool.eq_iff_iff]; simp only [inB, decide_eq_true_eq, Bool.false_eq_true, false_iff] at *; omega)

set_option maxHeartbeats 1000000 in
theorem sv_any (f d : Int) (n : Int) (w : World) : Calls Try.prog 28 #[.agg #[.int .i64 f, .int .i64 d], .int .i64 n] w fun e w' => e = .returned (.bool (inB f 0 (n - 1) && dirB d)) ∧ Below w.heap.size w w' := by
  cases k1 : inB f 0 (n - 1)
  · go_enter Try.func28, Try.ntmps28
    go_wp2_with (go_at_call 29; refine (isFloor_any _ _ _).mono ?_; rintro e w' ⟨rfl, rfl⟩)
    go_ret
    exact ⟨rfl, by (repeat' (first | (with_reducible exact Below.refl _ _) | (with_reducible assumption) | (with_reducible exact bundrew (by assumption)) | (with_reducible refine balloc ?_ _) | (with_reducible refine bset ?_ _ ?_ _) | (with_reducible refine Below.drew ?_) | (with_reducible refine bdrewN ?_ _) | (with_reducible refine bvia (by assumption) ?_) | (with_reducible refine Below.trans ?_ (by assumption)) | omega | (simp; omega) | (simp; done)))⟩
  · rcases beq_or d 1 with ⟨t1, t2⟩ | ⟨t1, t2⟩
    · subst t2
      have hd : dirB 1 = true := by decide
      rw [hd]
      go_enter Try.func28, Try.ntmps28
      go_wp2_with (go_at_call 29; refine (isFloor_any _ _ _).mono ?_; rintro e w' ⟨rfl, rfl⟩)
      go_ret
      exact ⟨rfl, by (repeat' (first | (with_reducible exact Below.refl _ _) | (with_reducible assumption) | (with_reducible exact bundrew (by assumption)) | (with_reducible refine balloc ?_ _) | (with_reducible refine bset ?_ _ ?_ _) | (with_reducible refine Below.drew ?_) | (with_reducible refine bdrewN ?_ _) | (with_reducible refine bvia (by assumption) ?_) | (with_reducible refine Below.trans ?_ (by assumption)) | omega | (simp; omega) | (simp; done)))⟩
    · rcases beq_or d (-1) with ⟨t3, t4⟩ | ⟨t3, t4⟩
      · subst t4
        have hd : dirB (-1) = true := by decide
        rw [hd]
        go_enter Try.func28, Try.ntmps28
        go_wp2_with (go_at_call 29; refine (isFloor_any _ _ _).mono ?_; rintro e w' ⟨rfl, rfl⟩)
        go_ret
        exact ⟨rfl, by (repeat' (first | (with_reducible exact Below.refl _ _) | (with_reducible assumption) | (with_reducible exact bundrew (by assumption)) | (with_reducible refine balloc ?_ _) | (with_reducible refine bset ?_ _ ?_ _) | (with_reducible refine Below.drew ?_) | (with_reducible refine bdrewN ?_ _) | (with_reducible refine bvia (by assumption) ?_) | (with_reducible refine Below.trans ?_ (by assumption)) | omega | (simp; omega) | (simp; done)))⟩
      · have hd : dirB d = false := by unfold dirB; simp; omega
        rw [hd]
        clear hd
        go_enter Try.func28, Try.ntmps28
        go_wp2_with (go_at_call 29; refine (isFloor_any _ _ _).mono ?_; rintro e w' ⟨rfl, rfl⟩)
        go_ret
        exact ⟨rfl, by (repeat' (first | (with_reducible exact Below.refl _ _) | (with_reducible assumption) | (with_reducible exact bundrew (by assumption)) | (with_reducible refine balloc ?_ _) | (with_reducible refine bset ?_ _ ?_ _) | (with_reducible refine Below.drew ?_) | (with_reducible refine bdrewN ?_ _) | (with_reducible refine bvia (by assumption) ?_) | (with_reducible refine Below.trans ?_ (by assumption)) | omega | (simp; omega) | (simp; done)))⟩

/-- What the reference asks of calls and a stop. -/
def l9B (us ds cs : List Bool) (f d : Int) : Bool := cvB us ds cs && (inB f 0 ((us.length : Int) - 1) && dirB d)
theorem l9B_no {us ds cs : List Bool} {f d : Int} (h : cvB us ds cs = false) : l9B us ds cs f d = false := by unfold l9B; rw [h]; rfl
theorem l9B_yes {us ds cs : List Bool} {f d : Int} {n : Nat} (h : cvB us ds cs = true) (hn : us.length = n) : l9B us ds cs f d = (inB f 0 ((n : Int) - 1) && dirB d) := by unfold l9B; rw [h, hn]; rfl
set_option maxHeartbeats 2000000 in
theorem l9_any (A1 : Option Addr) (n1 c1 : Nat) (us : List Bool) (A2 : Option Addr) (n2 c2 : Nat) (ds : List Bool) (A3 : Option Addr) (n3 c3 : Nat) (cs : List Bool) (f d : Int) (w : World) (h : BC w A1 n1 us A2 n2 ds A3 n3 cs) :
    Calls Try.prog 24 #[.agg #[.slice A1 n1 c1, .slice A2 n2 c2, .slice A3 n3 c3], .agg #[.int .i64 f, .int .i64 d]] w fun e w' => e = .returned (.bool (l9B us ds cs f d)) ∧ Below w.heap.size w w' := by
  have V := fun w hx => cv_spec A1 n1 c1 us A2 n2 c2 ds A3 n3 c3 cs w hx
  have hn3 : (n3 : Int) ≤ 9223372036854775807 := by have := h.c.2.1; omega
  have n30 : 0 ≤ (n3 : Int) := by omega
  have H := Lib.hid h
  cases hv : cvB us ds cs
  · rw [hv] at V
    have HV := Lib.hid V
    rw [l9B_no hv]
    clear V h hv
    go_enter Try.func24, Try.ntmps24
    go_wp2_with fail
    refine (HV.out _ (BC.below (H.out.below ((Below.refl _ w).alloc (Nat.le_refl _) _)) ((Below.refl _ _).alloc (Nat.le_refl _) _))).mono ?_
    rintro e w1 ⟨rfl, hb1⟩
    go_wp2
    go_ret
    exact ⟨rfl, by (repeat' (first | (with_reducible exact Below.refl _ _) | (with_reducible assumption) | (with_reducible exact bundrew (by assumption)) | (with_reducible refine balloc ?_ _) | (with_reducible refine bset ?_ _ ?_ _) | (with_reducible refine Below.drew ?_) | (with_reducible refine bdrewN ?_ _) | (with_reducible refine bvia (by assumption) ?_) | (with_reducible refine Below.trans ?_ (by assumption)) | omega | (simp; omega) | (simp; done)))⟩
  · obtain ⟨p1, p2, p3, p4, p5, p6⟩ := cvB_open hv
    have e3 : n3 = n1 := by rw [← h.c.1, ← h.u.1]; exact p4
    subst e3
    rw [hv] at V
    have HV := Lib.hid V
    rw [l9B_yes hv h.u.1]
    clear V h hv p1 p2 p3 p4 p5 p6
    cases k1 : inB f 0 ((n3 : Int) - 1)
    · go_enter Try.func24, Try.ntmps24
      go_wp2_with fail
      refine (HV.out _ (BC.below (H.out.below ((Below.refl _ w).alloc (Nat.le_refl _) _)) ((Below.refl _ _).alloc (Nat.le_refl _) _))).mono ?_
      rintro e w1 ⟨rfl, hb1⟩
      obtain ⟨m1, m2, m3, m4, m5, m6⟩ := bfacts5 hb1
      simp at m6
      have q0 : w.heap.size < w1.heap.size := by omega
      have q1 : w.heap.size + 1 < w1.heap.size := by omega
      go_wp2_with (go_at_call 22; refine (l1In_any _ _ _ _).mono ?_; rintro e w' ⟨rfl, rfl⟩)
      go_ret
      exact ⟨rfl, by (repeat' (first | (with_reducible exact Below.refl _ _) | (with_reducible assumption) | (with_reducible exact bundrew (by assumption)) | (with_reducible refine balloc ?_ _) | (with_reducible refine bset ?_ _ ?_ _) | (with_reducible refine Below.drew ?_) | (with_reducible refine bdrewN ?_ _) | (with_reducible refine bvia (by assumption) ?_) | (with_reducible refine Below.trans ?_ (by assumption)) | omega | (simp; omega) | (simp; done)))⟩
    · rcases beq_or d 1 with ⟨t1, t2⟩ | ⟨t1, t2⟩
      · subst t2
        have hd : dirB 1 = true := by decide
        rw [hd]
        go_enter Try.func24, Try.ntmps24
        go_wp2_with fail
        refine (HV.out _ (BC.below (H.out.below ((Below.refl _ w).alloc (Nat.le_refl _) _)) ((Below.refl _ _).alloc (Nat.le_refl _) _))).mono ?_
        rintro e w1 ⟨rfl, hb1⟩
        obtain ⟨m1, m2, m3, m4, m5, m6⟩ := bfacts5 hb1
        simp at m6
        have q0 : w.heap.size < w1.heap.size := by omega
        have q1 : w.heap.size + 1 < w1.heap.size := by omega
        go_wp2_with (go_at_call 22; refine (l1In_any _ _ _ _).mono ?_; rintro e w' ⟨rfl, rfl⟩)
        go_ret
        exact ⟨rfl, by (repeat' (first | (with_reducible exact Below.refl _ _) | (with_reducible assumption) | (with_reducible exact bundrew (by assumption)) | (with_reducible refine balloc ?_ _) | (with_reducible refine bset ?_ _ ?_ _) | (with_reducible refine Below.drew ?_) | (with_reducible refine bdrewN ?_ _) | (with_reducible refine bvia (by assumption) ?_) | (with_reducible refine Below.trans ?_ (by assumption)) | omega | (simp; omega) | (simp; done)))⟩
      · rcases beq_or d (-1) with ⟨t3, t4⟩ | ⟨t3, t4⟩
        · subst t4
          have hd : dirB (-1) = true := by decide
          rw [hd]
          go_enter Try.func24, Try.ntmps24
          go_wp2_with fail
          refine (HV.out _ (BC.below (H.out.below ((Below.refl _ w).alloc (Nat.le_refl _) _)) ((Below.refl _ _).alloc (Nat.le_refl _) _))).mono ?_
          rintro e w1 ⟨rfl, hb1⟩
          obtain ⟨m1, m2, m3, m4, m5, m6⟩ := bfacts5 hb1
          simp at m6
          have q0 : w.heap.size < w1.heap.size := by omega
          have q1 : w.heap.size + 1 < w1.heap.size := by omega
          go_wp2_with (go_at_call 22; refine (l1In_any _ _ _ _).mono ?_; rintro e w' ⟨rfl, rfl⟩)
          go_ret
          exact ⟨rfl, by (repeat' (first | (with_reducible exact Below.refl _ _) | (with_reducible assumption) | (with_reducible exact bundrew (by assumption)) | (with_reducible refine balloc ?_ _) | (with_reducible refine bset ?_ _ ?_ _) | (with_reducible refine Below.drew ?_) | (with_reducible refine bdrewN ?_ _) | (with_reducible refine bvia (by assumption) ?_) | (with_reducible refine Below.trans ?_ (by assumption)) | omega | (simp; omega) | (simp; done)))⟩
        · have hd : dirB d = false := by unfold dirB; simp; omega
          rw [hd]
          clear hd
          go_enter Try.func24, Try.ntmps24
          go_wp2_with fail
          refine (HV.out _ (BC.below (H.out.below ((Below.refl _ w).alloc (Nat.le_refl _) _)) ((Below.refl _ _).alloc (Nat.le_refl _) _))).mono ?_
          rintro e w1 ⟨rfl, hb1⟩
          obtain ⟨m1, m2, m3, m4, m5, m6⟩ := bfacts5 hb1
          simp at m6
          have q0 : w.heap.size < w1.heap.size := by omega
          have q1 : w.heap.size + 1 < w1.heap.size := by omega
          go_wp2_with (go_at_call 22; refine (l1In_any _ _ _ _).mono ?_; rintro e w' ⟨rfl, rfl⟩)
          go_ret
          exact ⟨rfl, by (repeat' (first | (with_reducible exact Below.refl _ _) | (with_reducible assumption) | (with_reducible exact bundrew (by assumption)) | (with_reducible refine balloc ?_ _) | (with_reducible refine bset ?_ _ ?_ _) | (with_reducible refine Below.drew ?_) | (with_reducible refine bdrewN ?_ _) | (with_reducible refine bvia (by assumption) ?_) | (with_reducible refine Below.trans ?_ (by assumption)) | omega | (simp; omega) | (simp; done)))⟩
end Go.Proofs.Ytmoifakcjmdghaa
