/- FireTarget of both: contracts. -/
import Derived.Test.YtmoifakcjmdghaaFtF
namespace Go.Proofs.Ytmoifakcjmdghaa
open Go.ChangeShapes Go.WideShapes Go.ChangeAt Go.RowKit

/-- Where a car goes. -/
def ftR (us ds cs : List Bool) (m f d r : Int) : Int :=
  if (l9B us ds cs f d && inB r 0 ((us.length : Int) - 1)) = true then (if m = 0 then nextF us ds cs us.length f d else if m = 1 ∨ m = 2 then r else -1) else -1
theorem ftR_no {us ds cs : List Bool} {m f d r : Int} (h : (l9B us ds cs f d && inB r 0 ((us.length : Int) - 1)) = false) : ftR us ds cs m f d r = -1 := by unfold ftR; rw [if_neg (by simp [h])]
theorem ftR_yes {us ds cs : List Bool} {m f d r : Int} {n : Nat} (hn : us.length = n) (h : (l9B us ds cs f d && inB r 0 ((n : Int) - 1)) = true) : ftR us ds cs m f d r = if m = 0 then nextF us ds cs n f d else if m = 1 ∨ m = 2 then r else -1 := by unfold ftR; rw [hn, if_pos h]

theorem field_stop (x y : Int) (w : World) : (Instr.field 36 (.agg #[.int .i64 x, .int .i64 y]) 0).run Try.prog w = .ok (.int .i64 x) w := by kernel_rfl

set_option maxRecDepth 100000 in
set_option maxHeartbeats 4000000 in
theorem ft_spec (m : Int) (A1 : Option Addr) (n1 c1 : Nat) (us : List Bool) (A2 : Option Addr) (n2 c2 : Nat) (ds : List Bool) (A3 : Option Addr) (n3 c3 : Nat) (cs : List Bool) (f d r : Int) (w : World) (h : BC w A1 n1 us A2 n2 ds A3 n3 cs) :
    Calls Try.prog 12 #[.int .i64 m, .agg #[.slice A1 n1 c1, .slice A2 n2 c2, .slice A3 n3 c3], .agg #[.int .i64 f, .int .i64 d], .int .i64 r] w fun e w' => e = .returned (.int .i64 (ftR us ds cs m f d r)) ∧ Below w.heap.size w w' := by
  have V := fun w hx => l9_any A1 n1 c1 us A2 n2 c2 ds A3 n3 c3 cs f d w hx
  have H := Lib.hid h
  have hl1 := h.u.1
  cases hv : l9B us ds cs f d
  · rw [hv] at V
    have HV := Lib.hid V
    rw [ftR_no (by rw [hv]; rfl)]
    clear V h hv hl1
    go_enter Try.func12, Try.ntmps12
    go_wp2_with fail
    refine (HV.out _ (H.out.below (by (repeat' (first | (with_reducible exact Below.refl _ _) | (with_reducible assumption) | (with_reducible exact bundrew (by assumption)) | (with_reducible refine balloc ?_ _) | (with_reducible refine bset ?_ _ ?_ _) | (with_reducible refine Below.drew ?_) | (with_reducible refine bdrewN ?_ _) | (with_reducible refine bvia (by assumption) ?_) | (with_reducible refine Below.trans ?_ (by assumption)) | omega | (simp; omega) | (simp; done)))))).mono ?_
    rintro e w1 ⟨rfl, hbw1⟩
    obtain ⟨hcw1, hfw1, -, -, -, hsw1⟩ := bfacts5 hbw1
    try simp only [World.size_drew] at hcw1 hfw1
    try simp at hsw1
    have qw10 : w.heap.size < w1.heap.size := (by omega)
    have rw10 : ∀ m : Nat, w.heap.size < w1.heap.size + m := fun m => (by omega)
    have qw11 : w.heap.size + 1 < w1.heap.size := (by omega)
    have rw11 : ∀ m : Nat, w.heap.size + 1 < w1.heap.size + m := fun m => (by omega)
    go_wp2
    go_ret
    exact ⟨rfl, by (repeat' (first | (with_reducible exact Below.refl _ _) | (with_reducible assumption) | (with_reducible exact bundrew (by assumption)) | (with_reducible refine balloc ?_ _) | (with_reducible refine bset ?_ _ ?_ _) | (with_reducible refine Below.drew ?_) | (with_reducible refine bdrewN ?_ _) | (with_reducible refine bvia (by assumption) ?_) | (with_reducible refine Below.trans ?_ (by assumption)) | omega | (simp; omega) | (simp; done)))⟩
  · have hcv : cvB us ds cs = true := by cases hc : cvB us ds cs <;> first | rfl | (rw [l9B_no hc] at hv; cases hv)
    obtain ⟨rfl, rfl, hn1, hn8⟩ := cv_len hcv h.u.1 h.d.1 h.c.1
    have hfq := hv
    rw [l9B_yes hcv h.u.1] at hfq
    have hf : inB f 0 ((n3 : Int) - 1) = true := by cases hc : inB f 0 ((n3 : Int) - 1) <;> first | rfl | (rw [hc] at hfq; cases hfq)
    have hd : d = 1 ∨ d = -1 := dirB_open (by rw [hf] at hfq; exact hfq)
    have NS := fun w hx => ns_spec A1 n3 c1 us A2 c2 ds A3 c3 cs f d w hx hcv hf hd
    rw [hv] at V
    have HV := Lib.hid V
    have HNS := Lib.hid NS
    have hfd := field_stop
    have n0 : 0 ≤ (n3 : Int) := by omega
    have n9 : (n3 : Int) ≤ 9 := by omega
    cases hr : inB r 0 ((n3 : Int) - 1)
    · rw [ftR_no (by rw [hv, hl1, hr]; rfl)]
      clear V NS h hv hl1 hf hd hfq hcv
      go_enter Try.func12, Try.ntmps12
      go_wp2_with fail
      refine (HV.out _ (H.out.below (by (repeat' (first | (with_reducible exact Below.refl _ _) | (with_reducible assumption) | (with_reducible exact bundrew (by assumption)) | (with_reducible refine balloc ?_ _) | (with_reducible refine bset ?_ _ ?_ _) | (with_reducible refine Below.drew ?_) | (with_reducible refine bdrewN ?_ _) | (with_reducible refine bvia (by assumption) ?_) | (with_reducible refine Below.trans ?_ (by assumption)) | omega | (simp; omega) | (simp; done)))))).mono ?_
      rintro e w1 ⟨rfl, hbw1⟩
      obtain ⟨hcw1, hfw1, -, -, -, hsw1⟩ := bfacts5 hbw1
      try simp only [World.size_drew] at hcw1 hfw1
      try simp at hsw1
      have qw10 : w.heap.size < w1.heap.size := (by omega)
      have rw10 : ∀ m : Nat, w.heap.size < w1.heap.size + m := fun m => (by omega)
      have qw11 : w.heap.size + 1 < w1.heap.size := (by omega)
      have rw11 : ∀ m : Nat, w.heap.size + 1 < w1.heap.size + m := fun m => (by omega)
      go_wp2_with (go_at_call 22; refine (l1In_any _ _ _ _).mono ?_; rintro e w' ⟨rfl, rfl⟩)
      go_ret
      exact ⟨rfl, by (repeat' (first | (with_reducible exact Below.refl _ _) | (with_reducible assumption) | (with_reducible exact bundrew (by assumption)) | (with_reducible refine balloc ?_ _) | (with_reducible refine bset ?_ _ ?_ _) | (with_reducible refine Below.drew ?_) | (with_reducible refine bdrewN ?_ _) | (with_reducible refine bvia (by assumption) ?_) | (with_reducible refine Below.trans ?_ (by assumption)) | omega | (simp; omega) | (simp; done)))⟩
    · rw [ftR_yes hl1 (by rw [hv, hr]; rfl)]
      clear V NS h hv hl1 hf hd hfq hcv
      rcases beq_or m 0 with ⟨t1, t2⟩ | ⟨t1, t2⟩
      · subst t2
        rw [if_pos rfl]
        go_enter Try.func12, Try.ntmps12
        go_wp2_with fail
        refine (HV.out _ (H.out.below (by (repeat' (first | (with_reducible exact Below.refl _ _) | (with_reducible assumption) | (with_reducible exact bundrew (by assumption)) | (with_reducible refine balloc ?_ _) | (with_reducible refine bset ?_ _ ?_ _) | (with_reducible refine Below.drew ?_) | (with_reducible refine bdrewN ?_ _) | (with_reducible refine bvia (by assumption) ?_) | (with_reducible refine Below.trans ?_ (by assumption)) | omega | (simp; omega) | (simp; done)))))).mono ?_
        rintro e w1 ⟨rfl, hbw1⟩
        obtain ⟨hcw1, hfw1, -, -, -, hsw1⟩ := bfacts5 hbw1
        try simp only [World.size_drew] at hcw1 hfw1
        try simp at hsw1
        have qw10 : w.heap.size < w1.heap.size := (by omega)
        have rw10 : ∀ m : Nat, w.heap.size < w1.heap.size + m := fun m => (by omega)
        have qw11 : w.heap.size + 1 < w1.heap.size := (by omega)
        have rw11 : ∀ m : Nat, w.heap.size + 1 < w1.heap.size + m := fun m => (by omega)
        go_wp2_with (go_at_call 22; refine (l1In_any _ _ _ _).mono ?_; rintro e w' ⟨rfl, rfl⟩)
        refine (HNS.out _ (H.out.below (by (repeat' (first | (with_reducible exact Below.refl _ _) | (with_reducible assumption) | (with_reducible exact bundrew (by assumption)) | (with_reducible refine balloc ?_ _) | (with_reducible refine bset ?_ _ ?_ _) | (with_reducible refine Below.drew ?_) | (with_reducible refine bdrewN ?_ _) | (with_reducible refine bvia (by assumption) ?_) | (with_reducible refine Below.trans ?_ (by assumption)) | omega | (simp; omega) | (simp; done)))))).mono ?_
        rintro e w2 ⟨y, rfl, hb2⟩
        go_wp2
        go_ret
        exact ⟨rfl, by (repeat' (first | (with_reducible exact Below.refl _ _) | (with_reducible assumption) | (with_reducible exact bundrew (by assumption)) | (with_reducible refine balloc ?_ _) | (with_reducible refine bset ?_ _ ?_ _) | (with_reducible refine Below.drew ?_) | (with_reducible refine bdrewN ?_ _) | (with_reducible refine bvia (by assumption) ?_) | (with_reducible refine Below.trans ?_ (by assumption)) | omega | (simp; omega) | (simp; done)))⟩
      · rw [if_neg (by omega)]
        rcases beq_or m 1 with ⟨t3, t4⟩ | ⟨t3, t4⟩
        · subst t4
          rw [if_pos (.inl rfl)]
          go_enter Try.func12, Try.ntmps12
          go_wp2_with fail
          refine (HV.out _ (H.out.below (by (repeat' (first | (with_reducible exact Below.refl _ _) | (with_reducible assumption) | (with_reducible exact bundrew (by assumption)) | (with_reducible refine balloc ?_ _) | (with_reducible refine bset ?_ _ ?_ _) | (with_reducible refine Below.drew ?_) | (with_reducible refine bdrewN ?_ _) | (with_reducible refine bvia (by assumption) ?_) | (with_reducible refine Below.trans ?_ (by assumption)) | omega | (simp; omega) | (simp; done)))))).mono ?_
          rintro e w1 ⟨rfl, hbw1⟩
          obtain ⟨hcw1, hfw1, -, -, -, hsw1⟩ := bfacts5 hbw1
          try simp only [World.size_drew] at hcw1 hfw1
          try simp at hsw1
          have qw10 : w.heap.size < w1.heap.size := (by omega)
          have rw10 : ∀ m : Nat, w.heap.size < w1.heap.size + m := fun m => (by omega)
          have qw11 : w.heap.size + 1 < w1.heap.size := (by omega)
          have rw11 : ∀ m : Nat, w.heap.size + 1 < w1.heap.size + m := fun m => (by omega)
          go_wp2_with (go_at_call 22; refine (l1In_any _ _ _ _).mono ?_; rintro e w' ⟨rfl, rfl⟩)
          go_ret
          exact ⟨rfl, by (repeat' (first | (with_reducible exact Below.refl _ _) | (with_reducible assumption) | (with_reducible exact bundrew (by assumption)) | (with_reducible refine balloc ?_ _) | (with_reducible refine bset ?_ _ ?_ _) | (with_reducible refine Below.drew ?_) | (with_reducible refine bdrewN ?_ _) | (with_reducible refine bvia (by assumption) ?_) | (with_reducible refine Below.trans ?_ (by assumption)) | omega | (simp; omega) | (simp; done)))⟩
        · rcases beq_or m 2 with ⟨t5, t6⟩ | ⟨t5, t6⟩
          · subst t6
            rw [if_pos (.inr rfl)]
            go_enter Try.func12, Try.ntmps12
            go_wp2_with fail
            refine (HV.out _ (H.out.below (by (repeat' (first | (with_reducible exact Below.refl _ _) | (with_reducible assumption) | (with_reducible exact bundrew (by assumption)) | (with_reducible refine balloc ?_ _) | (with_reducible refine bset ?_ _ ?_ _) | (with_reducible refine Below.drew ?_) | (with_reducible refine bdrewN ?_ _) | (with_reducible refine bvia (by assumption) ?_) | (with_reducible refine Below.trans ?_ (by assumption)) | omega | (simp; omega) | (simp; done)))))).mono ?_
            rintro e w1 ⟨rfl, hbw1⟩
            obtain ⟨hcw1, hfw1, -, -, -, hsw1⟩ := bfacts5 hbw1
            try simp only [World.size_drew] at hcw1 hfw1
            try simp at hsw1
            have qw10 : w.heap.size < w1.heap.size := (by omega)
            have rw10 : ∀ m : Nat, w.heap.size < w1.heap.size + m := fun m => (by omega)
            have qw11 : w.heap.size + 1 < w1.heap.size := (by omega)
            have rw11 : ∀ m : Nat, w.heap.size + 1 < w1.heap.size + m := fun m => (by omega)
            go_wp2_with (go_at_call 22; refine (l1In_any _ _ _ _).mono ?_; rintro e w' ⟨rfl, rfl⟩)
            go_ret
            exact ⟨rfl, by (repeat' (first | (with_reducible exact Below.refl _ _) | (with_reducible assumption) | (with_reducible exact bundrew (by assumption)) | (with_reducible refine balloc ?_ _) | (with_reducible refine bset ?_ _ ?_ _) | (with_reducible refine Below.drew ?_) | (with_reducible refine bdrewN ?_ _) | (with_reducible refine bvia (by assumption) ?_) | (with_reducible refine Below.trans ?_ (by assumption)) | omega | (simp; omega) | (simp; done)))⟩
          · rw [if_neg (by omega)]
            go_enter Try.func12, Try.ntmps12
            go_wp2_with fail
            refine (HV.out _ (H.out.below (by (repeat' (first | (with_reducible exact Below.refl _ _) | (with_reducible assumption) | (with_reducible exact bundrew (by assumption)) | (with_reducible refine balloc ?_ _) | (with_reducible refine bset ?_ _ ?_ _) | (with_reducible refine Below.drew ?_) | (with_reducible refine bdrewN ?_ _) | (with_reducible refine bvia (by assumption) ?_) | (with_reducible refine Below.trans ?_ (by assumption)) | omega | (simp; omega) | (simp; done)))))).mono ?_
            rintro e w1 ⟨rfl, hbw1⟩
            obtain ⟨hcw1, hfw1, -, -, -, hsw1⟩ := bfacts5 hbw1
            try simp only [World.size_drew] at hcw1 hfw1
            try simp at hsw1
            have qw10 : w.heap.size < w1.heap.size := (by omega)
            have rw10 : ∀ m : Nat, w.heap.size < w1.heap.size + m := fun m => (by omega)
            have qw11 : w.heap.size + 1 < w1.heap.size := (by omega)
            have rw11 : ∀ m : Nat, w.heap.size + 1 < w1.heap.size + m := fun m => (by omega)
            go_wp2_with (go_at_call 22; refine (l1In_any _ _ _ _).mono ?_; rintro e w' ⟨rfl, rfl⟩)
            go_ret
            exact ⟨rfl, by (repeat' (first | (with_reducible exact Below.refl _ _) | (with_reducible assumption) | (with_reducible exact bundrew (by assumption)) | (with_reducible refine balloc ?_ _) | (with_reducible refine bset ?_ _ ?_ _) | (with_reducible refine Below.drew ?_) | (with_reducible refine bdrewN ?_ _) | (with_reducible refine bvia (by assumption) ?_) | (with_reducible refine Below.trans ?_ (by assumption)) | omega | (simp; omega) | (simp; done)))⟩

set_option maxRecDepth 100000 in
set_option maxHeartbeats 4000000 in
theorem ft_impl (m : Int) (A1 : Option Addr) (n1 c1 : Nat) (us : List Bool) (A2 : Option Addr) (n2 c2 : Nat) (ds : List Bool) (A3 : Option Addr) (n3 c3 : Nat) (cs : List Bool) (f d r : Int) (w : World) (h : BC w A1 n1 us A2 n2 ds A3 n3 cs) :
    Calls Try.prog 15 #[.int .i64 m, .agg #[.slice A1 n1 c1, .slice A2 n2 c2, .slice A3 n3 c3], .agg #[.int .i64 f, .int .i64 d], .int .i64 r] w fun e w' => e = .returned (.int .i64 (ftR us ds cs m f d r)) ∧ Below w.heap.size w w' := by
  have V := fun w hx => cv_impl A1 n1 c1 us A2 n2 c2 ds A3 n3 c3 cs w hx
  have H := Lib.hid h
  have hl1 := h.u.1
  cases hv : cvB us ds cs
  · rw [hv] at V
    have HV := Lib.hid V
    rw [ftR_no (by rw [l9B_no hv]; rfl)]
    clear V h hv hl1
    go_enter Try.func15, Try.ntmps15
    go_wp2_with fail
    refine (HV.out _ (H.out.below (by (repeat' (first | (with_reducible exact Below.refl _ _) | (with_reducible assumption) | (with_reducible exact bundrew (by assumption)) | (with_reducible refine balloc ?_ _) | (with_reducible refine bset ?_ _ ?_ _) | (with_reducible refine Below.drew ?_) | (with_reducible refine bdrewN ?_ _) | (with_reducible refine bvia (by assumption) ?_) | (with_reducible refine Below.trans ?_ (by assumption)) | omega | (simp; omega) | (simp; done)))))).mono ?_
    rintro e w1 ⟨rfl, hbw1⟩
    obtain ⟨hcw1, hfw1, -, -, -, hsw1⟩ := bfacts5 hbw1
    try simp only [World.size_drew] at hcw1 hfw1
    try simp at hsw1
    have qw10 : w.heap.size < w1.heap.size := (by omega)
    have rw10 : ∀ m : Nat, w.heap.size < w1.heap.size + m := fun m => (by omega)
    have qw11 : w.heap.size + 1 < w1.heap.size := (by omega)
    have rw11 : ∀ m : Nat, w.heap.size + 1 < w1.heap.size + m := fun m => (by omega)
    go_wp2
    go_ret
    exact ⟨rfl, by (repeat' (first | (with_reducible exact Below.refl _ _) | (with_reducible assumption) | (with_reducible exact bundrew (by assumption)) | (with_reducible refine balloc ?_ _) | (with_reducible refine bset ?_ _ ?_ _) | (with_reducible refine Below.drew ?_) | (with_reducible refine bdrewN ?_ _) | (with_reducible refine bvia (by assumption) ?_) | (with_reducible refine Below.trans ?_ (by assumption)) | omega | (simp; omega) | (simp; done)))⟩
  · obtain ⟨rfl, rfl, hn1, hn8⟩ := cv_len hv h.u.1 h.d.1 h.c.1
    have h9 : l9B us ds cs f d = (inB f 0 ((n3 : Int) - 1) && dirB d) := l9B_yes hv h.u.1
    have SV := fun w => sv_any f d (n3 : Int) w
    rw [hv] at V
    have HV := Lib.hid V
    have hfd := field_stop
    have n0 : 0 ≤ (n3 : Int) := by omega
    have n9 : (n3 : Int) ≤ 9 := by omega
    cases hfq : (inB f 0 ((n3 : Int) - 1) && dirB d)
    · rw [hfq] at SV h9
      have HSV := Lib.hid SV
      rw [ftR_no (by rw [h9]; rfl)]
      clear V SV h hv hl1 hfq h9
      go_enter Try.func15, Try.ntmps15
      go_wp2_with fail
      refine (HV.out _ (H.out.below (by (repeat' (first | (with_reducible exact Below.refl _ _) | (with_reducible assumption) | (with_reducible exact bundrew (by assumption)) | (with_reducible refine balloc ?_ _) | (with_reducible refine bset ?_ _ ?_ _) | (with_reducible refine Below.drew ?_) | (with_reducible refine bdrewN ?_ _) | (with_reducible refine bvia (by assumption) ?_) | (with_reducible refine Below.trans ?_ (by assumption)) | omega | (simp; omega) | (simp; done)))))).mono ?_
      rintro e w1 ⟨rfl, hbw1⟩
      obtain ⟨hcw1, hfw1, -, -, -, hsw1⟩ := bfacts5 hbw1
      try simp only [World.size_drew] at hcw1 hfw1
      try simp at hsw1
      have qw10 : w.heap.size < w1.heap.size := (by omega)
      have rw10 : ∀ m : Nat, w.heap.size < w1.heap.size + m := fun m => (by omega)
      have qw11 : w.heap.size + 1 < w1.heap.size := (by omega)
      have rw11 : ∀ m : Nat, w.heap.size + 1 < w1.heap.size + m := fun m => (by omega)
      go_wp2_with fail
      refine (HSV.out _).mono ?_
      rintro e w2 ⟨rfl, hbw2⟩
      obtain ⟨hcw2, hfw2, -, -, -, hsw2⟩ := bfacts5 hbw2
      try simp only [World.size_drew] at hcw2 hfw2
      try simp at hsw2
      have qw20 : w.heap.size < w2.heap.size := (by omega)
      have rw20 : ∀ m : Nat, w.heap.size < w2.heap.size + m := fun m => (by omega)
      have qw21 : w.heap.size + 1 < w2.heap.size := (by omega)
      have rw21 : ∀ m : Nat, w.heap.size + 1 < w2.heap.size + m := fun m => (by omega)
      go_wp2
      go_ret
      exact ⟨rfl, by (repeat' (first | (with_reducible exact Below.refl _ _) | (with_reducible assumption) | (with_reducible exact bundrew (by assumption)) | (with_reducible refine balloc ?_ _) | (with_reducible refine bset ?_ _ ?_ _) | (with_reducible refine Below.drew ?_) | (with_reducible refine bdrewN ?_ _) | (with_reducible refine bvia (by assumption) ?_) | (with_reducible refine Below.trans ?_ (by assumption)) | omega | (simp; omega) | (simp; done)))⟩
    · have hf : inB f 0 ((n3 : Int) - 1) = true := by cases hc : inB f 0 ((n3 : Int) - 1) <;> first | rfl | (rw [hc] at hfq; cases hfq)
      have hd : d = 1 ∨ d = -1 := dirB_open (by rw [hf] at hfq; exact hfq)
      rw [hfq] at SV h9
      have HSV : Hid (∀ w : World, Calls Try.prog 28 #[.agg #[.int .i64 f, .int .i64 d], .int .i64 n3] w fun e w' => e = .returned (.bool true) ∧ Below w.heap.size w w') := Lib.hid SV
      have NS := fun w hx => ns_impl A1 n3 c1 us A2 c2 ds A3 c3 cs f d w hx hv hf hd
      have HNS := Lib.hid NS
      cases hr : inB r 0 ((n3 : Int) - 1)
      · rw [ftR_no (by rw [h9, hl1, hr]; rfl)]
        clear V SV NS h hv hl1 hf hd hfq h9
        go_enter Try.func15, Try.ntmps15
        go_wp2_with fail
        refine (HV.out _ (H.out.below (by (repeat' (first | (with_reducible exact Below.refl _ _) | (with_reducible assumption) | (with_reducible exact bundrew (by assumption)) | (with_reducible refine balloc ?_ _) | (with_reducible refine bset ?_ _ ?_ _) | (with_reducible refine Below.drew ?_) | (with_reducible refine bdrewN ?_ _) | (with_reducible refine bvia (by assumption) ?_) | (with_reducible refine Below.trans ?_ (by assumption)) | omega | (simp; omega) | (simp; done)))))).mono ?_
        rintro e w1 ⟨rfl, hbw1⟩
        obtain ⟨hcw1, hfw1, -, -, -, hsw1⟩ := bfacts5 hbw1
        try simp only [World.size_drew] at hcw1 hfw1
        try simp at hsw1
        have qw10 : w.heap.size < w1.heap.size := (by omega)
        have rw10 : ∀ m : Nat, w.heap.size < w1.heap.size + m := fun m => (by omega)
        have qw11 : w.heap.size + 1 < w1.heap.size := (by omega)
        have rw11 : ∀ m : Nat, w.heap.size + 1 < w1.heap.size + m := fun m => (by omega)
        go_wp2_with fail
        refine (HSV.out _).mono ?_
        rintro e w2 ⟨rfl, hbw2⟩
        obtain ⟨hcw2, hfw2, -, -, -, hsw2⟩ := bfacts5 hbw2
        try simp only [World.size_drew] at hcw2 hfw2
        try simp at hsw2
        have qw20 : w.heap.size < w2.heap.size := (by omega)
        have rw20 : ∀ m : Nat, w.heap.size < w2.heap.size + m := fun m => (by omega)
        have qw21 : w.heap.size + 1 < w2.heap.size := (by omega)
        have rw21 : ∀ m : Nat, w.heap.size + 1 < w2.heap.size + m := fun m => (by omega)
        go_wp2_with (go_at_call 29; refine (isFloor_any _ _ _).mono ?_; rintro e w' ⟨rfl, rfl⟩)
        go_ret
        exact ⟨rfl, by (repeat' (first | (with_reducible exact Below.refl _ _) | (with_reducible assumption) | (with_reducible exact bundrew (by assumption)) | (with_reducible refine balloc ?_ _) | (with_reducible refine bset ?_ _ ?_ _) | (with_reducible refine Below.drew ?_) | (with_reducible refine bdrewN ?_ _) | (with_reducible refine bvia (by assumption) ?_) | (with_reducible refine Below.trans ?_ (by assumption)) | omega | (simp; omega) | (simp; done)))⟩
      · rw [ftR_yes hl1 (by rw [h9, hr]; rfl)]
        clear V SV NS h hv hl1 hf hd hfq h9
        rcases beq_or m 0 with ⟨t1, t2⟩ | ⟨t1, t2⟩
        · subst t2
          rw [if_pos rfl]
          go_enter Try.func15, Try.ntmps15
          go_wp2_with fail
          refine (HV.out _ (H.out.below (by (repeat' (first | (with_reducible exact Below.refl _ _) | (with_reducible assumption) | (with_reducible exact bundrew (by assumption)) | (with_reducible refine balloc ?_ _) | (with_reducible refine bset ?_ _ ?_ _) | (with_reducible refine Below.drew ?_) | (with_reducible refine bdrewN ?_ _) | (with_reducible refine bvia (by assumption) ?_) | (with_reducible refine Below.trans ?_ (by assumption)) | omega | (simp; omega) | (simp; done)))))).mono ?_
          rintro e w1 ⟨rfl, hbw1⟩
          obtain ⟨hcw1, hfw1, -, -, -, hsw1⟩ := bfacts5 hbw1
          try simp only [World.size_drew] at hcw1 hfw1
          try simp at hsw1
          have qw10 : w.heap.size < w1.heap.size := (by omega)
          have rw10 : ∀ m : Nat, w.heap.size < w1.heap.size + m := fun m => (by omega)
          have qw11 : w.heap.size + 1 < w1.heap.size := (by omega)
          have rw11 : ∀ m : Nat, w.heap.size + 1 < w1.heap.size + m := fun m => (by omega)
          go_wp2_with fail
          refine (HSV.out _).mono ?_
          rintro e w2 ⟨rfl, hbw2⟩
          obtain ⟨hcw2, hfw2, -, -, -, hsw2⟩ := bfacts5 hbw2
          try simp only [World.size_drew] at hcw2 hfw2
          try simp at hsw2
          have qw20 : w.heap.size < w2.heap.size := (by omega)
          have rw20 : ∀ m : Nat, w.heap.size < w2.heap.size + m := fun m => (by omega)
          have qw21 : w.heap.size + 1 < w2.heap.size := (by omega)
          have rw21 : ∀ m : Nat, w.heap.size + 1 < w2.heap.size + m := fun m => (by omega)
          go_wp2_with (go_at_call 29; refine (isFloor_any _ _ _).mono ?_; rintro e w' ⟨rfl, rfl⟩)
          refine (HNS.out _ (H.out.below (by (repeat' (first | (with_reducible exact Below.refl _ _) | (with_reducible assumption) | (with_reducible exact bundrew (by assumption)) | (with_reducible refine balloc ?_ _) | (with_reducible refine bset ?_ _ ?_ _) | (with_reducible refine Below.drew ?_) | (with_reducible refine bdrewN ?_ _) | (with_reducible refine bvia (by assumption) ?_) | (with_reducible refine Below.trans ?_ (by assumption)) | omega | (simp; omega) | (simp; done)))))).mono ?_
          rintro e w3 ⟨y, rfl, hb3⟩
          go_wp2
          go_ret
          exact ⟨rfl, by (repeat' (first | (with_reducible exact Below.refl _ _) | (with_reducible assumption) | (with_reducible exact bundrew (by assumption)) | (with_reducible refine balloc ?_ _) | (with_reducible refine bset ?_ _ ?_ _) | (with_reducible refine Below.drew ?_) | (with_reducible refine bdrewN ?_ _) | (with_reducible refine bvia (by assumption) ?_) | (with_reducible refine Below.trans ?_ (by assumption)) | omega | (simp; omega) | (simp; done)))⟩
        · rw [if_neg (by omega)]
          rcases beq_or m 1 with ⟨t3, t4⟩ | ⟨t3, t4⟩
          · subst t4
            rw [if_pos (.inl rfl)]
            go_enter Try.func15, Try.ntmps15
            go_wp2_with fail
            refine (HV.out _ (H.out.below (by (repeat' (first | (with_reducible exact Below.refl _ _) | (with_reducible assumption) | (with_reducible exact bundrew (by assumption)) | (with_reducible refine balloc ?_ _) | (with_reducible refine bset ?_ _ ?_ _) | (with_reducible refine Below.drew ?_) | (with_reducible refine bdrewN ?_ _) | (with_reducible refine bvia (by assumption) ?_) | (with_reducible refine Below.trans ?_ (by assumption)) | omega | (simp; omega) | (simp; done)))))).mono ?_
            rintro e w1 ⟨rfl, hbw1⟩
            obtain ⟨hcw1, hfw1, -, -, -, hsw1⟩ := bfacts5 hbw1
            try simp only [World.size_drew] at hcw1 hfw1
            try simp at hsw1
            have qw10 : w.heap.size < w1.heap.size := (by omega)
            have rw10 : ∀ m : Nat, w.heap.size < w1.heap.size + m := fun m => (by omega)
            have qw11 : w.heap.size + 1 < w1.heap.size := (by omega)
            have rw11 : ∀ m : Nat, w.heap.size + 1 < w1.heap.size + m := fun m => (by omega)
            go_wp2_with fail
            refine (HSV.out _).mono ?_
            rintro e w2 ⟨rfl, hbw2⟩
            obtain ⟨hcw2, hfw2, -, -, -, hsw2⟩ := bfacts5 hbw2
            try simp only [World.size_drew] at hcw2 hfw2
            try simp at hsw2
            have qw20 : w.heap.size < w2.heap.size := (by omega)
            have rw20 : ∀ m : Nat, w.heap.size < w2.heap.size + m := fun m => (by omega)
            have qw21 : w.heap.size + 1 < w2.heap.size := (by omega)
            have rw21 : ∀ m : Nat, w.heap.size + 1 < w2.heap.size + m := fun m => (by omega)
            go_wp2_with (go_at_call 29; refine (isFloor_any _ _ _).mono ?_; rintro e w' ⟨rfl, rfl⟩)
            go_ret
            exact ⟨rfl, by (repeat' (first | (with_reducible exact Below.refl _ _) | (with_reducible assumption) | (with_reducible exact bundrew (by assumption)) | (with_reducible refine balloc ?_ _) | (with_reducible refine bset ?_ _ ?_ _) | (with_reducible refine Below.drew ?_) | (with_reducible refine bdrewN ?_ _) | (with_reducible refine bvia (by assumption) ?_) | (with_reducible refine Below.trans ?_ (by assumption)) | omega | (simp; omega) | (simp; done)))⟩
          · rcases beq_or m 2 with ⟨t5, t6⟩ | ⟨t5, t6⟩
            · subst t6
              rw [if_pos (.inr rfl)]
              go_enter Try.func15, Try.ntmps15
              go_wp2_with fail
              refine (HV.out _ (H.out.below (by (repeat' (first | (with_reducible exact Below.refl _ _) | (with_reducible assumption) | (with_reducible exact bundrew (by assumption)) | (with_reducible refine balloc ?_ _) | (with_reducible refine bset ?_ _ ?_ _) | (with_reducible refine Below.drew ?_) | (with_reducible refine bdrewN ?_ _) | (with_reducible refine bvia (by assumption) ?_) | (with_reducible refine Below.trans ?_ (by assumption)) | omega | (simp; omega) | (simp; done)))))).mono ?_
              rintro e w1 ⟨rfl, hbw1⟩
              obtain ⟨hcw1, hfw1, -, -, -, hsw1⟩ := bfacts5 hbw1
              try simp only [World.size_drew] at hcw1 hfw1
              try simp at hsw1
              have qw10 : w.heap.size < w1.heap.size := (by omega)
              have rw10 : ∀ m : Nat, w.heap.size < w1.heap.size + m := fun m => (by omega)
              have qw11 : w.heap.size + 1 < w1.heap.size := (by omega)
              have rw11 : ∀ m : Nat, w.heap.size + 1 < w1.heap.size + m := fun m => (by omega)
              go_wp2_with fail
              refine (HSV.out _).mono ?_
              rintro e w2 ⟨rfl, hbw2⟩
              obtain ⟨hcw2, hfw2, -, -, -, hsw2⟩ := bfacts5 hbw2
              try simp only [World.size_drew] at hcw2 hfw2
              try simp at hsw2
              have qw20 : w.heap.size < w2.heap.size := (by omega)
              have rw20 : ∀ m : Nat, w.heap.size < w2.heap.size + m := fun m => (by omega)
              have qw21 : w.heap.size + 1 < w2.heap.size := (by omega)
              have rw21 : ∀ m : Nat, w.heap.size + 1 < w2.heap.size + m := fun m => (by omega)
              go_wp2_with (go_at_call 29; refine (isFloor_any _ _ _).mono ?_; rintro e w' ⟨rfl, rfl⟩)
              go_ret
              exact ⟨rfl, by (repeat' (first | (with_reducible exact Below.refl _ _) | (with_reducible assumption) | (with_reducible exact bundrew (by assumption)) | (with_reducible refine balloc ?_ _) | (with_reducible refine bset ?_ _ ?_ _) | (with_reducible refine Below.drew ?_) | (with_reducible refine bdrewN ?_ _) | (with_reducible refine bvia (by assumption) ?_) | (with_reducible refine Below.trans ?_ (by assumption)) | omega | (simp; omega) | (simp; done)))⟩
            · rw [if_neg (by omega)]
              go_enter Try.func15, Try.ntmps15
              go_wp2_with fail
              refine (HV.out _ (H.out.below (by (repeat' (first | (with_reducible exact Below.refl _ _) | (with_reducible assumption) | (with_reducible exact bundrew (by assumption)) | (with_reducible refine balloc ?_ _) | (with_reducible refine bset ?_ _ ?_ _) | (with_reducible refine Below.drew ?_) | (with_reducible refine bdrewN ?_ _) | (with_reducible refine bvia (by assumption) ?_) | (with_reducible refine Below.trans ?_ (by assumption)) | omega | (simp; omega) | (simp; done)))))).mono ?_
              rintro e w1 ⟨rfl, hbw1⟩
              obtain ⟨hcw1, hfw1, -, -, -, hsw1⟩ := bfacts5 hbw1
              try simp only [World.size_drew] at hcw1 hfw1
              try simp at hsw1
              have qw10 : w.heap.size < w1.heap.size := (by omega)
              have rw10 : ∀ m : Nat, w.heap.size < w1.heap.size + m := fun m => (by omega)
              have qw11 : w.heap.size + 1 < w1.heap.size := (by omega)
              have rw11 : ∀ m : Nat, w.heap.size + 1 < w1.heap.size + m := fun m => (by omega)
              go_wp2_with fail
              refine (HSV.out _).mono ?_
              rintro e w2 ⟨rfl, hbw2⟩
              obtain ⟨hcw2, hfw2, -, -, -, hsw2⟩ := bfacts5 hbw2
              try simp only [World.size_drew] at hcw2 hfw2
              try simp at hsw2
              have qw20 : w.heap.size < w2.heap.size := (by omega)
              have rw20 : ∀ m : Nat, w.heap.size < w2.heap.size + m := fun m => (by omega)
              have qw21 : w.heap.size + 1 < w2.heap.size := (by omega)
              have rw21 : ∀ m : Nat, w.heap.size + 1 < w2.heap.size + m := fun m => (by omega)
              go_wp2_with (go_at_call 29; refine (isFloor_any _ _ _).mono ?_; rintro e w' ⟨rfl, rfl⟩)
              go_ret
              exact ⟨rfl, by (repeat' (first | (with_reducible exact Below.refl _ _) | (with_reducible assumption) | (with_reducible exact bundrew (by assumption)) | (with_reducible refine balloc ?_ _) | (with_reducible refine bset ?_ _ ?_ _) | (with_reducible refine Below.drew ?_) | (with_reducible refine bdrewN ?_ _) | (with_reducible refine bvia (by assumption) ?_) | (with_reducible refine Below.trans ?_ (by assumption)) | omega | (simp; omega) | (simp; done)))⟩
end Go.Proofs.Ytmoifakcjmdghaa
