/- NextStop of the program, for valid arguments: contract. -/
import Derived.Test.YtmoifakcjmdghaaFtD
namespace Go.Proofs.Ytmoifakcjmdghaa
open Go.ChangeShapes Go.WideShapes Go.ChangeAt Go.RowKit

/-- The floor of the next stop. -/
def nextF (us ds cs : List Bool) (n : Nat) (f d : Int) : Int := if 0 ≤ towardF us ds cs n f d then towardF us ds cs n f d else towardF us ds cs n f (-d)
theorem nextF_yes {us ds cs : List Bool} {n : Nat} {f d x : Int} (h : towardF us ds cs n f d = x) (h0 : 0 ≤ x) : nextF us ds cs n f d = x := by unfold nextF; rw [h, if_pos h0]
theorem nextF_no {us ds cs : List Bool} {n : Nat} {f d x : Int} (h : towardF us ds cs n f d = x) (h0 : x < 0) : nextF us ds cs n f d = towardF us ds cs n f (-d) := by unfold nextF; rw [h, if_neg (by omega)]
theorem cv_len {us ds cs : List Bool} {n1 n2 n3 : Nat} (hv : cvB us ds cs = true) (h1 : us.length = n1) (h2 : ds.length = n2) (h3 : cs.length = n3) : n2 = n1 ∧ n3 = n1 ∧ 1 ≤ n1 ∧ n1 ≤ 8 := by
  obtain ⟨p1, p2, p3, p4, _⟩ := cvB_open hv
  omega

set_option maxRecDepth 100000 in
set_option maxHeartbeats 4000000 in
theorem ns_impl (A1 : Option Addr) (n c1 : Nat) (us : List Bool) (A2 : Option Addr) (c2 : Nat) (ds : List Bool) (A3 : Option Addr) (c3 : Nat) (cs : List Bool) (f d : Int) (w : World) (h : BC w A1 n us A2 n ds A3 n cs) (hv : cvB us ds cs = true) (hf : inB f 0 ((n : Int) - 1) = true) (hd : d = 1 ∨ d = -1) :
    Calls Try.prog 21 #[.agg #[.slice A1 n c1, .slice A2 n c2, .slice A3 n c3], .agg #[.int .i64 f, .int .i64 d]] w (StopAt w (nextF us ds cs n f d)) := by
  obtain ⟨_, _, hn1, hn8⟩ := cv_len hv h.u.1 h.d.1 h.c.1
  obtain ⟨f0, f1⟩ := inB_open hf
  have H := Lib.hid h
  have V := fun w hx => cv_impl A1 n c1 us A2 n c2 ds A3 n c3 cs w hx
  rw [hv] at V
  have SV := fun w => sv_any f d (n : Int) w
  have hdb : dirB d = true := by rcases hd with rfl | rfl <;> decide
  rw [hf, hdb] at SV
  have HV := Lib.hid V
  have HSV : Hid (∀ w : World, Calls Try.prog 28 #[.agg #[.int .i64 f, .int .i64 d], .int .i64 n] w fun e w' => e = .returned (.bool true) ∧ Below w.heap.size w w') := Lib.hid SV
  obtain ⟨x, hx⟩ : ∃ x, towardF us ds cs n f d = x := ⟨_, rfl⟩
  have T1 := fun w hh => toward_any A1 n c1 us A2 c2 ds A3 c3 cs f d w hh hn8 f0 f1 hd
  have T2 := fun w hh => toward_any A1 n c1 us A2 c2 ds A3 c3 cs f (-d) w hh hn8 f0 f1 (by omega)
  rw [hx] at T1
  have HT1 := Lib.hid T1
  have n0 : 0 ≤ (n : Int) := by omega
  by_cases h0 : 0 ≤ x
  · rw [nextF_yes hx h0]
    clear V SV T1 T2 hx hdb h hv
    go_enter Try.func21, Try.ntmps21
    go_wp2_with fail
    refine (HV.out _ (H.out.below (by (repeat' (first | (with_reducible exact Below.refl _ _) | (with_reducible assumption) | (with_reducible exact bundrew (by assumption)) | (with_reducible refine balloc ?_ _) | (with_reducible refine bset ?_ _ ?_ _) | (with_reducible refine Below.drew ?_) | (with_reducible refine bdrewN ?_ _) | (with_reducible refine bvia (by assumption) ?_) | (with_reducible refine Below.trans ?_ (by assumption)) | omega | (simp; omega) | (simp; done)))))).mono ?_
    rintro e w1 ⟨rfl, hbw1⟩
    obtain ⟨hcw1, hfw1, -, -, -, hsw1⟩ := bfacts5 hbw1
    try simp only [World.size_drew] at hcw1 hfw1
    try simp at hsw1
    have qw10 : w.heap.size < w1.heap.size := (by omega)
    have rw10 : ∀ m : Nat, w.heap.size < w1.heap.size + m := fun m => (by omega)
    have qw11 : w.heap.size + 1 < w1.heap.size := (by omega)
    have rw11 : ∀ m : Nat, w.heap.size + 1 < w1.heap.size + m := fun m => (by omega)
    have qw12 : w.heap.size + 2 < w1.heap.size := (by omega)
    have rw12 : ∀ m : Nat, w.heap.size + 2 < w1.heap.size + m := fun m => (by omega)
    go_wp2_with fail
    refine (HSV.out _).mono ?_
    rintro e w2 ⟨rfl, hbw2⟩
    obtain ⟨hcw2, hfw2, -, -, -, hsw2⟩ := bfacts5 hbw2
    try simp only [World.size_drew] at hcw2 hfw2
    try simp at hsw2
    have qw20 : w.heap.size < w2.heap.size := (by omega)
    have rw20 : ∀ m : Nat, w.heap.size < w2.heap.size + m := fun m => (by omega)
    have qw21 : w.heap.size + 1 < w2.heap.size := (by omega)
    have rw21 : ∀ m : Nat, w.heap.size + 1 < w2.heap.size + m := fun m => (by omega)
    have qw22 : w.heap.size + 2 < w2.heap.size := (by omega)
    have rw22 : ∀ m : Nat, w.heap.size + 2 < w2.heap.size + m := fun m => (by omega)
    go_wp2_with fail
    refine (HT1.out _ (H.out.below (by (repeat' (first | (with_reducible exact Below.refl _ _) | (with_reducible assumption) | (with_reducible exact bundrew (by assumption)) | (with_reducible refine balloc ?_ _) | (with_reducible refine bset ?_ _ ?_ _) | (with_reducible refine Below.drew ?_) | (with_reducible refine bdrewN ?_ _) | (with_reducible refine bvia (by assumption) ?_) | (with_reducible refine Below.trans ?_ (by assumption)) | omega | (simp; omega) | (simp; done)))))).mono ?_
    rintro e w3 ⟨y3, rfl, hbw3⟩
    obtain ⟨hcw3, hfw3, -, -, -, hsw3⟩ := bfacts5 hbw3
    try simp only [World.size_drew] at hcw3 hfw3
    try simp at hsw3
    have qw30 : w.heap.size < w3.heap.size := (by omega)
    have rw30 : ∀ m : Nat, w.heap.size < w3.heap.size + m := fun m => (by omega)
    have qw31 : w.heap.size + 1 < w3.heap.size := (by omega)
    have rw31 : ∀ m : Nat, w.heap.size + 1 < w3.heap.size + m := fun m => (by omega)
    have qw32 : w.heap.size + 2 < w3.heap.size := (by omega)
    have rw32 : ∀ m : Nat, w.heap.size + 2 < w3.heap.size + m := fun m => (by omega)
    go_wp2
    refine bodyPost_ret (by simp [results, Try.results21, go_sem, *]; try rfl) rfl ?_
    exact ⟨y3, rfl, by (repeat' (first | (with_reducible exact Below.refl _ _) | (with_reducible assumption) | (with_reducible exact bundrew (by assumption)) | (with_reducible refine balloc ?_ _) | (with_reducible refine bset ?_ _ ?_ _) | (with_reducible refine Below.drew ?_) | (with_reducible refine bdrewN ?_ _) | (with_reducible refine bvia (by assumption) ?_) | (with_reducible refine Below.trans ?_ (by assumption)) | omega | (simp; omega) | (simp; done)))⟩
  · rw [nextF_no hx (by omega)]
    have h0' : x < 0 := by omega
    rcases hd with rfl | rfl
    · have HT2 := Lib.hid T2
      clear V SV T1 T2 hx hdb h hv h0
      go_enter Try.func21, Try.ntmps21
      go_wp2_with fail
      refine (HV.out _ (H.out.below (by (repeat' (first | (with_reducible exact Below.refl _ _) | (with_reducible assumption) | (with_reducible exact bundrew (by assumption)) | (with_reducible refine balloc ?_ _) | (with_reducible refine bset ?_ _ ?_ _) | (with_reducible refine Below.drew ?_) | (with_reducible refine bdrewN ?_ _) | (with_reducible refine bvia (by assumption) ?_) | (with_reducible refine Below.trans ?_ (by assumption)) | omega | (simp; omega) | (simp; done)))))).mono ?_
      rintro e w1 ⟨rfl, hbw1⟩
      obtain ⟨hcw1, hfw1, -, -, -, hsw1⟩ := bfacts5 hbw1
      try simp only [World.size_drew] at hcw1 hfw1
      try simp at hsw1
      have qw10 : w.heap.size < w1.heap.size := (by omega)
      have rw10 : ∀ m : Nat, w.heap.size < w1.heap.size + m := fun m => (by omega)
      have qw11 : w.heap.size + 1 < w1.heap.size := (by omega)
      have rw11 : ∀ m : Nat, w.heap.size + 1 < w1.heap.size + m := fun m => (by omega)
      have qw12 : w.heap.size + 2 < w1.heap.size := (by omega)
      have rw12 : ∀ m : Nat, w.heap.size + 2 < w1.heap.size + m := fun m => (by omega)
      go_wp2_with fail
      refine (HSV.out _).mono ?_
      rintro e w2 ⟨rfl, hbw2⟩
      obtain ⟨hcw2, hfw2, -, -, -, hsw2⟩ := bfacts5 hbw2
      try simp only [World.size_drew] at hcw2 hfw2
      try simp at hsw2
      have qw20 : w.heap.size < w2.heap.size := (by omega)
      have rw20 : ∀ m : Nat, w.heap.size < w2.heap.size + m := fun m => (by omega)
      have qw21 : w.heap.size + 1 < w2.heap.size := (by omega)
      have rw21 : ∀ m : Nat, w.heap.size + 1 < w2.heap.size + m := fun m => (by omega)
      have qw22 : w.heap.size + 2 < w2.heap.size := (by omega)
      have rw22 : ∀ m : Nat, w.heap.size + 2 < w2.heap.size + m := fun m => (by omega)
      go_wp2_with fail
      refine (HT1.out _ (H.out.below (by (repeat' (first | (with_reducible exact Below.refl _ _) | (with_reducible assumption) | (with_reducible exact bundrew (by assumption)) | (with_reducible refine balloc ?_ _) | (with_reducible refine bset ?_ _ ?_ _) | (with_reducible refine Below.drew ?_) | (with_reducible refine bdrewN ?_ _) | (with_reducible refine bvia (by assumption) ?_) | (with_reducible refine Below.trans ?_ (by assumption)) | omega | (simp; omega) | (simp; done)))))).mono ?_
      rintro e w3 ⟨y3, rfl, hbw3⟩
      obtain ⟨hcw3, hfw3, -, -, -, hsw3⟩ := bfacts5 hbw3
      try simp only [World.size_drew] at hcw3 hfw3
      try simp at hsw3
      have qw30 : w.heap.size < w3.heap.size := (by omega)
      have rw30 : ∀ m : Nat, w.heap.size < w3.heap.size + m := fun m => (by omega)
      have qw31 : w.heap.size + 1 < w3.heap.size := (by omega)
      have rw31 : ∀ m : Nat, w.heap.size + 1 < w3.heap.size + m := fun m => (by omega)
      have qw32 : w.heap.size + 2 < w3.heap.size := (by omega)
      have rw32 : ∀ m : Nat, w.heap.size + 2 < w3.heap.size + m := fun m => (by omega)
      go_wp2_with fail
      refine (HT2.out _ (H.out.below (by (repeat' (first | (with_reducible exact Below.refl _ _) | (with_reducible assumption) | (with_reducible exact bundrew (by assumption)) | (with_reducible refine balloc ?_ _) | (with_reducible refine bset ?_ _ ?_ _) | (with_reducible refine Below.drew ?_) | (with_reducible refine bdrewN ?_ _) | (with_reducible refine bvia (by assumption) ?_) | (with_reducible refine Below.trans ?_ (by assumption)) | omega | (simp; omega) | (simp; done)))))).mono ?_
      rintro e w4 ⟨y4, rfl, hbw4⟩
      obtain ⟨hcw4, hfw4, -, -, -, hsw4⟩ := bfacts5 hbw4
      try simp only [World.size_drew] at hcw4 hfw4
      try simp at hsw4
      have qw40 : w.heap.size < w4.heap.size := (by omega)
      have rw40 : ∀ m : Nat, w.heap.size < w4.heap.size + m := fun m => (by omega)
      have qw41 : w.heap.size + 1 < w4.heap.size := (by omega)
      have rw41 : ∀ m : Nat, w.heap.size + 1 < w4.heap.size + m := fun m => (by omega)
      have qw42 : w.heap.size + 2 < w4.heap.size := (by omega)
      have rw42 : ∀ m : Nat, w.heap.size + 2 < w4.heap.size + m := fun m => (by omega)
      have qw43 : w3.heap.size < w4.heap.size := (by omega)
      have rw43 : ∀ m : Nat, w3.heap.size < w4.heap.size + m := fun m => (by omega)
      go_wp2
      refine bodyPost_ret (by simp [results, Try.results21, go_sem, *]; try rfl) rfl ?_
      exact ⟨y4, rfl, by (repeat' (first | (with_reducible exact Below.refl _ _) | (with_reducible assumption) | (with_reducible exact bundrew (by assumption)) | (with_reducible refine balloc ?_ _) | (with_reducible refine bset ?_ _ ?_ _) | (with_reducible refine Below.drew ?_) | (with_reducible refine bdrewN ?_ _) | (with_reducible refine bvia (by assumption) ?_) | (with_reducible refine Below.trans ?_ (by assumption)) | omega | (simp; omega) | (simp; done)))⟩
    · have T2' : ∀ w, BC w A1 n us A2 n ds A3 n cs → Calls Try.prog 37 #[.agg #[.slice A1 n c1, .slice A2 n c2, .slice A3 n c3], .int .i64 f, .int .i64 1] w (StopAt w (towardF us ds cs n f 1)) := T2
      have HT2 := Lib.hid T2'
      have e11 : (- -1 : Int) = 1 := by decide
      rw [e11]
      clear V SV T1 T2 T2' hx hdb h hv h0 e11
      go_enter Try.func21, Try.ntmps21
      go_wp2_with fail
      refine (HV.out _ (H.out.below (by (repeat' (first | (with_reducible exact Below.refl _ _) | (with_reducible assumption) | (with_reducible exact bundrew (by assumption)) | (with_reducible refine balloc ?_ _) | (with_reducible refine bset ?_ _ ?_ _) | (with_reducible refine Below.drew ?_) | (with_reducible refine bdrewN ?_ _) | (with_reducible refine bvia (by assumption) ?_) | (with_reducible refine Below.trans ?_ (by assumption)) | omega | (simp; omega) | (simp; done)))))).mono ?_
      rintro e w1 ⟨rfl, hbw1⟩
      obtain ⟨hcw1, hfw1, -, -, -, hsw1⟩ := bfacts5 hbw1
      try simp only [World.size_drew] at hcw1 hfw1
      try simp at hsw1
      have qw10 : w.heap.size < w1.heap.size := (by omega)
      have rw10 : ∀ m : Nat, w.heap.size < w1.heap.size + m := fun m => (by omega)
      have qw11 : w.heap.size + 1 < w1.heap.size := (by omega)
      have rw11 : ∀ m : Nat, w.heap.size + 1 < w1.heap.size + m := fun m => (by omega)
      have qw12 : w.heap.size + 2 < w1.heap.size := (by omega)
      have rw12 : ∀ m : Nat, w.heap.size + 2 < w1.heap.size + m := fun m => (by omega)
      go_wp2_with fail
      refine (HSV.out _).mono ?_
      rintro e w2 ⟨rfl, hbw2⟩
      obtain ⟨hcw2, hfw2, -, -, -, hsw2⟩ := bfacts5 hbw2
      try simp only [World.size_drew] at hcw2 hfw2
      try simp at hsw2
      have qw20 : w.heap.size < w2.heap.size := (by omega)
      have rw20 : ∀ m : Nat, w.heap.size < w2.heap.size + m := fun m => (by omega)
      have qw21 : w.heap.size + 1 < w2.heap.size := (by omega)
      have rw21 : ∀ m : Nat, w.heap.size + 1 < w2.heap.size + m := fun m => (by omega)
      have qw22 : w.heap.size + 2 < w2.heap.size := (by omega)
      have rw22 : ∀ m : Nat, w.heap.size + 2 < w2.heap.size + m := fun m => (by omega)
      go_wp2_with fail
      refine (HT1.out _ (H.out.below (by (repeat' (first | (with_reducible exact Below.refl _ _) | (with_reducible assumption) | (with_reducible exact bundrew (by assumption)) | (with_reducible refine balloc ?_ _) | (with_reducible refine bset ?_ _ ?_ _) | (with_reducible refine Below.drew ?_) | (with_reducible refine bdrewN ?_ _) | (with_reducible refine bvia (by assumption) ?_) | (with_reducible refine Below.trans ?_ (by assumption)) | omega | (simp; omega) | (simp; done)))))).mono ?_
      rintro e w3 ⟨y3, rfl, hbw3⟩
      obtain ⟨hcw3, hfw3, -, -, -, hsw3⟩ := bfacts5 hbw3
      try simp only [World.size_drew] at hcw3 hfw3
      try simp at hsw3
      have qw30 : w.heap.size < w3.heap.size := (by omega)
      have rw30 : ∀ m : Nat, w.heap.size < w3.heap.size + m := fun m => (by omega)
      have qw31 : w.heap.size + 1 < w3.heap.size := (by omega)
      have rw31 : ∀ m : Nat, w.heap.size + 1 < w3.heap.size + m := fun m => (by omega)
      have qw32 : w.heap.size + 2 < w3.heap.size := (by omega)
      have rw32 : ∀ m : Nat, w.heap.size + 2 < w3.heap.size + m := fun m => (by omega)
      go_wp2_with fail
      refine (HT2.out _ (H.out.below (by (repeat' (first | (with_reducible exact Below.refl _ _) | (with_reducible assumption) | (with_reducible exact bundrew (by assumption)) | (with_reducible refine balloc ?_ _) | (with_reducible refine bset ?_ _ ?_ _) | (with_reducible refine Below.drew ?_) | (with_reducible refine bdrewN ?_ _) | (with_reducible refine bvia (by assumption) ?_) | (with_reducible refine Below.trans ?_ (by assumption)) | omega | (simp; omega) | (simp; done)))))).mono ?_
      rintro e w4 ⟨y4, rfl, hbw4⟩
      obtain ⟨hcw4, hfw4, -, -, -, hsw4⟩ := bfacts5 hbw4
      try simp only [World.size_drew] at hcw4 hfw4
      try simp at hsw4
      have qw40 : w.heap.size < w4.heap.size := (by omega)
      have rw40 : ∀ m : Nat, w.heap.size < w4.heap.size + m := fun m => (by omega)
      have qw41 : w.heap.size + 1 < w4.heap.size := (by omega)
      have rw41 : ∀ m : Nat, w.heap.size + 1 < w4.heap.size + m := fun m => (by omega)
      have qw42 : w.heap.size + 2 < w4.heap.size := (by omega)
      have rw42 : ∀ m : Nat, w.heap.size + 2 < w4.heap.size + m := fun m => (by omega)
      have qw43 : w3.heap.size < w4.heap.size := (by omega)
      have rw43 : ∀ m : Nat, w3.heap.size < w4.heap.size + m := fun m => (by omega)
      go_wp2
      refine bodyPost_ret (by simp [results, Try.results21, go_sem, *]; try rfl) rfl ?_
      exact ⟨y4, rfl, by (repeat' (first | (with_reducible exact Below.refl _ _) | (with_reducible assumption) | (with_reducible exact bundrew (by assumption)) | (with_reducible refine balloc ?_ _) | (with_reducible refine bset ?_ _ ?_ _) | (with_reducible refine Below.drew ?_) | (with_reducible refine bdrewN ?_ _) | (with_reducible refine bvia (by assumption) ?_) | (with_reducible refine Below.trans ?_ (by assumption)) | omega | (simp; omega) | (simp; done)))⟩
end Go.Proofs.Ytmoifakcjmdghaa
