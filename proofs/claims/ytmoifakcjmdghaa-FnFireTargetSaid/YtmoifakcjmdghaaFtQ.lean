/- The law's test of its arguments (stopOk): contract; where a car without calls goes. -/
import Derived.Test.YtmoifakcjmdghaaFtP
namespace Go.Proofs.Ytmoifakcjmdghaa
open Go.ChangeShapes Go.WideShapes Go.ChangeAt Go.RowKit

theorem ok_yes {f d : Int} {n : Nat} (f0 : 0 ≤ f) (f1 : f < (n : Int)) (hd : d = 1 ∨ d = -1) : (inB f 0 ((n : Int) - 1) && dirB d) = true := by
  rw [inB_yes (by omega)]
  simp [dirB, hd]
theorem ok_nof {f d : Int} {n : Nat} (h : f < 0 ∨ (n : Int) ≤ f) : (inB f 0 ((n : Int) - 1) && dirB d) = false := by
  rw [inB_no (by omega)]
  rfl
theorem ok_nod {f d : Int} {n : Nat} (h1 : ¬ d = 1) (h2 : ¬ d = -1) : (inB f 0 ((n : Int) - 1) && dirB d) = false := by
  have : dirB d = false := by simp [dirB, h1, h2]
  rw [this, Bool.and_false]

set_option maxRecDepth 100000 in
set_option maxHeartbeats 2000000 in
theorem stopOk_any (A1 : Option Addr) (n1 c1 : Nat) (us : List Bool) (A2 : Option Addr) (n2 c2 : Nat) (ds : List Bool) (A3 : Option Addr) (n3 c3 : Nat) (cs : List Bool) (f d : Int) (w : World) (h : BC w A1 n1 us A2 n2 ds A3 n3 cs) :
    Calls Try.prog 18 #[.agg #[.slice A1 n1 c1, .slice A2 n2 c2, .slice A3 n3 c3], .agg #[.int .i64 f, .int .i64 d]] w fun e w' => e = .returned (.bool (l9B us ds cs f d)) ∧ Below w.heap.size w w' := by
  have V := fun w hx => cv_impl A1 n1 c1 us A2 n2 c2 ds A3 n3 c3 cs w hx
  have H := Lib.hid h
  have hl1 := h.u.1
  cases hv : cvB us ds cs
  · rw [hv] at V
    have HV := Lib.hid V
    rw [l9B_no hv]
    clear V h hv hl1
    go_enter Try.func18, Try.ntmps18
    go_wp2_with fail
    refine (HV.out _ (H.out.below (by (repeat' (first | (with_reducible exact Below.refl _ _) | (with_reducible assumption) | (with_reducible exact bundrew (by assumption)) | (with_reducible refine balloc ?_ _) | (with_reducible refine bset ?_ _ ?_ _) | (with_reducible refine Below.drew ?_) | (with_reducible refine bdrewN ?_ _) | (with_reducible refine bvia (by assumption) ?_) | (with_reducible refine Below.trans ?_ (by assumption)) | omega | (simp; omega) | (simp; done)))))).mono ?_
    rintro e w1 ⟨rfl, hbw1⟩
    obtain ⟨hcw1, hfw1, -, -, -, hsw1⟩ := bfacts5 hbw1
    try simp only [World.size_drew] at hcw1 hfw1
    try simp at hsw1
    have qw10 : w.heap.size < w1.heap.size := (by omega)
    have rw10 : ∀ m : Nat, w.heap.size < w1.heap.size + m := fun m => (by omega)
    have qw11 : w.heap.size + 1 < w1.heap.size := (by omega)
    have rw11 : ∀ m : Nat, w.heap.size + 1 < w1.heap.size + m := fun m => (by omega)
    go_wp2
    go_ret
    exact ⟨rfl, by (repeat' (first | (with_reducible exact Below.refl _ _) | (with_reducible assumption) | (with_reducible exact bundrew (by assumption)) | (with_reducible refine balloc ?_ _) | (with_reducible refine bset ?_ _ ?_ _) | (with_reducible refine Below.drew ?_) | (with_reducible refine bdrewN ?_ _) | (with_reducible refine bvia (by assumption) ?_) | (with_reducible refine Below.trans ?_ (by assumption)) | omega | (simp; omega) | (simp; done)))⟩
  · obtain ⟨rfl, rfl, hn1, hn8⟩ := cv_len hv h.u.1 h.d.1 h.c.1
    rw [l9B_yes hv hl1]
    rw [hv] at V
    have HV := Lib.hid V
    have n0 : 0 ≤ (n3 : Int) := by omega
    have n9 : (n3 : Int) ≤ 9 := by omega
    clear V h hv hl1
    by_cases f0 : f < 0
    · rw [ok_nof (.inl f0)]
      go_enter Try.func18, Try.ntmps18
      go_wp2_with fail
      refine (HV.out _ (H.out.below (by (repeat' (first | (with_reducible exact Below.refl _ _) | (with_reducible assumption) | (with_reducible exact bundrew (by assumption)) | (with_reducible refine balloc ?_ _) | (with_reducible refine bset ?_ _ ?_ _) | (with_reducible refine Below.drew ?_) | (with_reducible refine bdrewN ?_ _) | (with_reducible refine bvia (by assumption) ?_) | (with_reducible refine Below.trans ?_ (by assumption)) | omega | (simp; omega) | (simp; done)))))).mono ?_
      rintro e w1 ⟨rfl, hbw1⟩
      obtain ⟨hcw1, hfw1, -, -, -, hsw1⟩ := bfacts5 hbw1
      try simp only [World.size_drew] at hcw1 hfw1
      try simp at hsw1
      have qw10 : w.heap.size < w1.heap.size := (by omega)
      have rw10 : ∀ m : Nat, w.heap.size < w1.heap.size + m := fun m => (by omega)
      have qw11 : w.heap.size + 1 < w1.heap.size := (by omega)
      have rw11 : ∀ m : Nat, w.heap.size + 1 < w1.heap.size + m := fun m => (by omega)
      go_wp2
      go_ret
      exact ⟨rfl, by (repeat' (first | (with_reducible exact Below.refl _ _) | (with_reducible assumption) | (with_reducible exact bundrew (by assumption)) | (with_reducible refine balloc ?_ _) | (with_reducible refine bset ?_ _ ?_ _) | (with_reducible refine Below.drew ?_) | (with_reducible refine bdrewN ?_ _) | (with_reducible refine bvia (by assumption) ?_) | (with_reducible refine Below.trans ?_ (by assumption)) | omega | (simp; omega) | (simp; done)))⟩
    · have f0' : 0 ≤ f := by omega
      clear f0
      by_cases f1 : f < (n3 : Int)
      · rcases beq_or d 1 with ⟨t1, t2⟩ | ⟨t1, t2⟩
        · rw [ok_yes f0' f1 (.inl t2)]
          subst t2
          go_enter Try.func18, Try.ntmps18
          go_wp2_with fail
          refine (HV.out _ (H.out.below (by (repeat' (first | (with_reducible exact Below.refl _ _) | (with_reducible assumption) | (with_reducible exact bundrew (by assumption)) | (with_reducible refine balloc ?_ _) | (with_reducible refine bset ?_ _ ?_ _) | (with_reducible refine Below.drew ?_) | (with_reducible refine bdrewN ?_ _) | (with_reducible refine bvia (by assumption) ?_) | (with_reducible refine Below.trans ?_ (by assumption)) | omega | (simp; omega) | (simp; done)))))).mono ?_
          rintro e w1 ⟨rfl, hbw1⟩
          obtain ⟨hcw1, hfw1, -, -, -, hsw1⟩ := bfacts5 hbw1
          try simp only [World.size_drew] at hcw1 hfw1
          try simp at hsw1
          have qw10 : w.heap.size < w1.heap.size := (by omega)
          have rw10 : ∀ m : Nat, w.heap.size < w1.heap.size + m := fun m => (by omega)
          have qw11 : w.heap.size + 1 < w1.heap.size := (by omega)
          have rw11 : ∀ m : Nat, w.heap.size + 1 < w1.heap.size + m := fun m => (by omega)
          go_wp2
          go_ret
          exact ⟨rfl, by (repeat' (first | (with_reducible exact Below.refl _ _) | (with_reducible assumption) | (with_reducible exact bundrew (by assumption)) | (with_reducible refine balloc ?_ _) | (with_reducible refine bset ?_ _ ?_ _) | (with_reducible refine Below.drew ?_) | (with_reducible refine bdrewN ?_ _) | (with_reducible refine bvia (by assumption) ?_) | (with_reducible refine Below.trans ?_ (by assumption)) | omega | (simp; omega) | (simp; done)))⟩
        · rcases beq_or d (-1) with ⟨t3, t4⟩ | ⟨t3, t4⟩
          · rw [ok_yes f0' f1 (.inr t4)]
            subst t4
            go_enter Try.func18, Try.ntmps18
            go_wp2_with fail
            refine (HV.out _ (H.out.below (by (repeat' (first | (with_reducible exact Below.refl _ _) | (with_reducible assumption) | (with_reducible exact bundrew (by assumption)) | (with_reducible refine balloc ?_ _) | (with_reducible refine bset ?_ _ ?_ _) | (with_reducible refine Below.drew ?_) | (with_reducible refine bdrewN ?_ _) | (with_reducible refine bvia (by assumption) ?_) | (with_reducible refine Below.trans ?_ (by assumption)) | omega | (simp; omega) | (simp; done)))))).mono ?_
            rintro e w1 ⟨rfl, hbw1⟩
            obtain ⟨hcw1, hfw1, -, -, -, hsw1⟩ := bfacts5 hbw1
            try simp only [World.size_drew] at hcw1 hfw1
            try simp at hsw1
            have qw10 : w.heap.size < w1.heap.size := (by omega)
            have rw10 : ∀ m : Nat, w.heap.size < w1.heap.size + m := fun m => (by omega)
            have qw11 : w.heap.size + 1 < w1.heap.size := (by omega)
            have rw11 : ∀ m : Nat, w.heap.size + 1 < w1.heap.size + m := fun m => (by omega)
            go_wp2
            go_ret
            exact ⟨rfl, by (repeat' (first | (with_reducible exact Below.refl _ _) | (with_reducible assumption) | (with_reducible exact bundrew (by assumption)) | (with_reducible refine balloc ?_ _) | (with_reducible refine bset ?_ _ ?_ _) | (with_reducible refine Below.drew ?_) | (with_reducible refine bdrewN ?_ _) | (with_reducible refine bvia (by assumption) ?_) | (with_reducible refine Below.trans ?_ (by assumption)) | omega | (simp; omega) | (simp; done)))⟩
          · rw [ok_nod (by omega) (by omega)]
            go_enter Try.func18, Try.ntmps18
            go_wp2_with fail
            refine (HV.out _ (H.out.below (by (repeat' (first | (with_reducible exact Below.refl _ _) | (with_reducible assumption) | (with_reducible exact bundrew (by assumption)) | (with_reducible refine balloc ?_ _) | (with_reducible refine bset ?_ _ ?_ _) | (with_reducible refine Below.drew ?_) | (with_reducible refine bdrewN ?_ _) | (with_reducible refine bvia (by assumption) ?_) | (with_reducible refine Below.trans ?_ (by assumption)) | omega | (simp; omega) | (simp; done)))))).mono ?_
            rintro e w1 ⟨rfl, hbw1⟩
            obtain ⟨hcw1, hfw1, -, -, -, hsw1⟩ := bfacts5 hbw1
            try simp only [World.size_drew] at hcw1 hfw1
            try simp at hsw1
            have qw10 : w.heap.size < w1.heap.size := (by omega)
            have rw10 : ∀ m : Nat, w.heap.size < w1.heap.size + m := fun m => (by omega)
            have qw11 : w.heap.size + 1 < w1.heap.size := (by omega)
            have rw11 : ∀ m : Nat, w.heap.size + 1 < w1.heap.size + m := fun m => (by omega)
            go_wp2
            go_ret
            exact ⟨rfl, by (repeat' (first | (with_reducible exact Below.refl _ _) | (with_reducible assumption) | (with_reducible exact bundrew (by assumption)) | (with_reducible refine balloc ?_ _) | (with_reducible refine bset ?_ _ ?_ _) | (with_reducible refine Below.drew ?_) | (with_reducible refine bdrewN ?_ _) | (with_reducible refine bvia (by assumption) ?_) | (with_reducible refine Below.trans ?_ (by assumption)) | omega | (simp; omega) | (simp; done)))⟩
      · have f1' : (n3 : Int) ≤ f := by omega
        rw [ok_nof (.inr f1')]
        go_enter Try.func18, Try.ntmps18
        go_wp2_with fail
        refine (HV.out _ (H.out.below (by (repeat' (first | (with_reducible exact Below.refl _ _) | (with_reducible assumption) | (with_reducible exact bundrew (by assumption)) | (with_reducible refine balloc ?_ _) | (with_reducible refine bset ?_ _ ?_ _) | (with_reducible refine Below.drew ?_) | (with_reducible refine bdrewN ?_ _) | (with_reducible refine bvia (by assumption) ?_) | (with_reducible refine Below.trans ?_ (by assumption)) | omega | (simp; omega) | (simp; done)))))).mono ?_
        rintro e w1 ⟨rfl, hbw1⟩
        obtain ⟨hcw1, hfw1, -, -, -, hsw1⟩ := bfacts5 hbw1
        try simp only [World.size_drew] at hcw1 hfw1
        try simp at hsw1
        have qw10 : w.heap.size < w1.heap.size := (by omega)
        have rw10 : ∀ m : Nat, w.heap.size < w1.heap.size + m := fun m => (by omega)
        have qw11 : w.heap.size + 1 < w1.heap.size := (by omega)
        have rw11 : ∀ m : Nat, w.heap.size + 1 < w1.heap.size + m := fun m => (by omega)
        go_wp2
        go_ret
        exact ⟨rfl, by (repeat' (first | (with_reducible exact Below.refl _ _) | (with_reducible assumption) | (with_reducible exact bundrew (by assumption)) | (with_reducible refine balloc ?_ _) | (with_reducible refine bset ?_ _ ?_ _) | (with_reducible refine Below.drew ?_) | (with_reducible refine bdrewN ?_ _) | (with_reducible refine bvia (by assumption) ?_) | (with_reducible refine Below.trans ?_ (by assumption)) | omega | (simp; omega) | (simp; done)))⟩

/-- A car without calls in a fire goes to the recall floor, too. -/
theorem ftR_none {m f d r : Int} {n : Nat} (h1 : 1 ≤ n) (h8 : n ≤ 8) (hk : (inB f 0 ((n : Int) - 1) && dirB d) = true) (hr : inB r 0 ((n : Int) - 1) = true) (hm : m = 1 ∨ m = 2) : ftR (List.replicate n false) (List.replicate n false) (List.replicate n false) m f d r = r := by
  rw [ftR_yes (n := n) (by simp) (by rw [l9B_yes (n := n) (cvB_none n h1 h8) (by simp), hk, hr]; rfl), if_neg (by omega), if_pos hm]
end Go.Proofs.Ytmoifakcjmdghaa
