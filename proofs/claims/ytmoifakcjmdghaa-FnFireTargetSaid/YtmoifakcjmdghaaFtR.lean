/- The walk of FnFireTarget. -/
import Derived.Test.YtmoifakcjmdghaaFtQ
import Derived.Test.YtmoifakcjmdghaaFloors
import Derived.Deep.RegionHeld3
namespace Go.Proofs.Ytmoifakcjmdghaa
open Go.ChangeShapes Go.WideShapes Go.ChangeAt Go.RowKit

/-- What the law's last region keeps: the boxes of the calls and of the stop. -/
structure FlSt (w wr : World) (g : Nat) (s1 s2 s3 : Value) (f d : Int) : Prop where
  c0 : wr.cell? ⟨g, 0, none⟩ = some s1
  c1 : wr.cell? ⟨g, 1, none⟩ = some s2
  c2 : wr.cell? ⟨g, 2, none⟩ = some s3
  b0 : wr.cell? ⟨g + 1, 0, none⟩ = some (.int .i64 f)
  b1 : wr.cell? ⟨g + 1, 1, none⟩ = some (.int .i64 d)
  below : Below w.heap.size w wr
  g2 : g + 1 < wr.heap.size
theorem FlSt.step {w wr w' : World} {g : Nat} {s1 s2 s3 : Value} {f d : Int} (h : FlSt w wr g s1 s2 s3 f d) (hb : Below wr.heap.size wr w') : FlSt w w' g s1 s2 s3 f d := by
  have e2 := h.g2
  exact ⟨(hb.cell (p := ⟨g, 0, none⟩) (by simp; omega)).trans h.c0, (hb.cell (p := ⟨g, 1, none⟩) (by simp; omega)).trans h.c1, (hb.cell (p := ⟨g, 2, none⟩) (by simp; omega)).trans h.c2,
    (hb.cell (p := ⟨g + 1, 0, none⟩) (by simp; omega)).trans h.b0, (hb.cell (p := ⟨g + 1, 1, none⟩) (by simp; omega)).trans h.b1, bvia hb h.below, Nat.lt_of_lt_of_le e2 hb.size⟩
theorem FlSt.drewN {w wr : World} {g : Nat} {s1 s2 s3 : Value} {f d : Int} (h : FlSt w wr g s1 s2 s3 f d) (m : Nat) : FlSt w (wr.drewN m) g s1 s2 s3 f d := ⟨h.c0, h.c1, h.c2, h.b0, h.b1, bdrewN h.below m, h.g2⟩
theorem FlSt.cells {w wr : World} {g : Nat} {s1 s2 s3 : Value} {f d : Int} (h : FlSt w wr g s1 s2 s3 f d) : wr.cell? ⟨g, 0, none⟩ = some s1 ∧ wr.cell? ⟨g, 1, none⟩ = some s2 ∧ wr.cell? ⟨g, 2, none⟩ = some s3 ∧ wr.cell? ⟨g + 1, 0, none⟩ = some (.int .i64 f) ∧ wr.cell? ⟨g + 1, 1, none⟩ = some (.int .i64 d) := ⟨h.c0, h.c1, h.c2, h.b0, h.b1⟩

theorem ft_none {m f d rc : Int} {n : Nat} (h1 : 1 ≤ n) (h8 : n ≤ 8) (hk : (inB f 0 ((n : Int) - 1) && dirB d) = true) (hr : inB rc 0 ((n : Int) - 1) = true) (hm : m = 1 ∨ m = 2) (B1 : Option Addr) (j1 : Nat) (B2 : Option Addr) (j2 : Nat) (B3 : Option Addr) (j3 : Nat) (W : World) (hW : BC W B1 n (List.replicate n false) B2 n (List.replicate n false) B3 n (List.replicate n false)) :
    Calls Try.prog 15 #[.int .i64 m, .agg #[.slice B1 n j1, .slice B2 n j2, .slice B3 n j3], .agg #[.int .i64 f, .int .i64 d], .int .i64 rc] W fun e w' => e = .returned (.int .i64 rc) ∧ Below W.heap.size W w' := by
  have h := ft_impl m B1 n j1 _ B2 n j2 _ B3 n j3 _ f d rc W hW
  rw [ftR_none h1 h8 hk hr hm] at h
  exact h

set_option maxRecDepth 100000 in
set_option maxHeartbeats 4000000 in
theorem walk_FnFireTarget (A : Option Addr) (n c : Nat) (g : Nat → Int) (w : World) (hB : Bytes w A n c g) : Calls Try.prog 5 #[.slice A n c] w fun e w' => e = .returned (.bool true) ∧ Below w.heap.size w w' := by
  by_cases hn : 1048576 < n
  · have hn' : (1048576 : Int) < (n : Int) := by omega
    go_enter Try.func5, Try.ntmps5
    go_wp2
    go_ret
    exact ⟨rfl, by (repeat' (first | (with_reducible exact Below.refl _ _) | (with_reducible assumption) | (with_reducible exact bundrew (by assumption)) | (with_reducible refine balloc ?_ _) | (with_reducible refine bset ?_ _ ?_ _) | (with_reducible refine Below.drew ?_) | (with_reducible refine bdrewN ?_ _) | (with_reducible refine bvia (by assumption) ?_) | (with_reducible refine Below.trans ?_ (by assumption)) | omega | (simp; omega) | (simp; done)))⟩
  · have hn' : (n : Int) ≤ 1048576 := by omega
    go_enter Try.func5, Try.ntmps5
    go_wp2_with fail
    refine (drawFireTarget_any A n c g _ hB).mono ?_
    rintro e w1 ⟨m, f, d, rc, A1, n1, c1, us, A2, n2, c2, ds, A3, n3, c3, cs, rfl, hbc, hb1⟩
    have H := Lib.hid hbc
    have hl1 := hbc.u.1
    have hl2 := hbc.d.1
    have hl3 := hbc.c.1
    clear hbc hB
    obtain ⟨x, hx⟩ : ∃ x, ftR us ds cs m f d rc = x := ⟨_, rfl⟩
    have HI : Hid (∀ W, BC W A1 n1 us A2 n2 ds A3 n3 cs → Calls Try.prog 15 #[.int .i64 m, .agg #[.slice A1 n1 c1, .slice A2 n2 c2, .slice A3 n3 c3], .agg #[.int .i64 f, .int .i64 d], .int .i64 rc] W fun e w' => e = .returned (.int .i64 x) ∧ Below W.heap.size W w') := Lib.hid fun W hW => hx ▸ ft_impl m A1 n1 c1 us A2 n2 c2 ds A3 n3 c3 cs f d rc W hW
    have HF : Hid (∀ W, BC W A1 n1 us A2 n2 ds A3 n3 cs → Calls Try.prog 12 #[.int .i64 m, .agg #[.slice A1 n1 c1, .slice A2 n2 c2, .slice A3 n3 c3], .agg #[.int .i64 f, .int .i64 d], .int .i64 rc] W fun e w' => e = .returned (.int .i64 x) ∧ Below W.heap.size W w') := Lib.hid fun W hW => hx ▸ ft_spec m A1 n1 c1 us A2 n2 c2 ds A3 n3 c3 cs f d rc W hW
    obtain ⟨b, hb⟩ : ∃ b, l9B us ds cs f d = b := ⟨_, rfl⟩
    have HS : Hid (∀ W, BC W A1 n1 us A2 n2 ds A3 n3 cs → Calls Try.prog 18 #[.agg #[.slice A1 n1 c1, .slice A2 n2 c2, .slice A3 n3 c3], .agg #[.int .i64 f, .int .i64 d]] W fun e w' => e = .returned (.bool b) ∧ Below W.heap.size W w') := Lib.hid fun W hW => hb ▸ stopOk_any A1 n1 c1 us A2 n2 c2 ds A3 n3 c3 cs f d W hW
    have HX := Lib.hid hx
    have HB := Lib.hid hb
    have L1 := Lib.hid hl1
    have L2 := Lib.hid hl2
    have L3 := Lib.hid hl3
    clear hx hb hl1 hl2 hl3
    go_wp2_with fail
    refine (HI.out _ (H.out.below (by (repeat' (first | (with_reducible exact Below.refl _ _) | (with_reducible assumption) | (with_reducible exact bundrew (by assumption)) | (with_reducible refine balloc ?_ _) | (with_reducible refine bset ?_ _ ?_ _) | (with_reducible refine Below.drew ?_) | (with_reducible refine bdrewN ?_ _) | (with_reducible refine bvia (by assumption) ?_) | (with_reducible refine Below.trans ?_ (by assumption)) | omega | (simp; omega) | (simp; done)))))).mono ?_
    rintro e w2 ⟨rfl, hbw2⟩
    obtain ⟨hcw2, hfw2, -, -, -, hsw2⟩ := bfacts5 hbw2
    try simp only [World.size_drew] at hcw2 hfw2
    try simp at hsw2
    have qw20 : w1.heap.size < w2.heap.size := (by omega)
    have rw20 : ∀ m : Nat, w1.heap.size < w2.heap.size + m := fun m => (by omega)
    have qw21 : w1.heap.size + 1 < w2.heap.size := (by omega)
    have rw21 : ∀ m : Nat, w1.heap.size + 1 < w2.heap.size + m := fun m => (by omega)
    go_wp2_with fail
    refine (HF.out _ (H.out.below (by (repeat' (first | (with_reducible exact Below.refl _ _) | (with_reducible assumption) | (with_reducible exact bundrew (by assumption)) | (with_reducible refine balloc ?_ _) | (with_reducible refine bset ?_ _ ?_ _) | (with_reducible refine Below.drew ?_) | (with_reducible refine bdrewN ?_ _) | (with_reducible refine bvia (by assumption) ?_) | (with_reducible refine Below.trans ?_ (by assumption)) | omega | (simp; omega) | (simp; done)))))).mono ?_
    rintro e w3 ⟨rfl, hbw3⟩
    obtain ⟨hcw3, hfw3, -, -, -, hsw3⟩ := bfacts5 hbw3
    try simp only [World.size_drew] at hcw3 hfw3
    try simp at hsw3
    have qw30 : w1.heap.size < w3.heap.size := (by omega)
    have rw30 : ∀ m : Nat, w1.heap.size < w3.heap.size + m := fun m => (by omega)
    have qw31 : w1.heap.size + 1 < w3.heap.size := (by omega)
    have rw31 : ∀ m : Nat, w1.heap.size + 1 < w3.heap.size + m := fun m => (by omega)
    have hxx : (x == x) = true := by simp
    go_wp2_with fail
    refine (HS.out _ (H.out.below (by (repeat' (first | (with_reducible exact Below.refl _ _) | (with_reducible assumption) | (with_reducible exact bundrew (by assumption)) | (with_reducible refine balloc ?_ _) | (with_reducible refine bset ?_ _ ?_ _) | (with_reducible refine Below.drew ?_) | (with_reducible refine bdrewN ?_ _) | (with_reducible refine bvia (by assumption) ?_) | (with_reducible refine Below.trans ?_ (by assumption)) | omega | (simp; omega) | (simp; done)))))).mono ?_
    rintro e w4 ⟨rfl, hbw4⟩
    obtain ⟨hcw4, hfw4, -, -, -, hsw4⟩ := bfacts5 hbw4
    try simp only [World.size_drew] at hcw4 hfw4
    try simp at hsw4
    have qw40 : w1.heap.size < w4.heap.size := (by omega)
    have rw40 : ∀ m : Nat, w1.heap.size < w4.heap.size + m := fun m => (by omega)
    have qw41 : w1.heap.size + 1 < w4.heap.size := (by omega)
    have rw41 : ∀ m : Nat, w1.heap.size + 1 < w4.heap.size + m := fun m => (by omega)
    have S4 : FlSt w w4 w1.heap.size (.slice A1 n1 c1) (.slice A2 n2 c2) (.slice A3 n3 c3) f d := by
      have S1 : FlSt w ((w1.alloc (.cells #[.slice A1 n1 c1, .slice A2 n2 c2, .slice A3 n3 c3] 34)).alloc (.cells #[.int .i64 f, .int .i64 d] 36)) w1.heap.size (.slice A1 n1 c1) (.slice A2 n2 c2) (.slice A3 n3 c3) f d :=
        ⟨by go_simp, by go_simp, by go_simp, by go_simp, by go_simp, by (repeat' (first | (with_reducible exact Below.refl _ _) | (with_reducible assumption) | (with_reducible exact bundrew (by assumption)) | (with_reducible refine balloc ?_ _) | (with_reducible refine bset ?_ _ ?_ _) | (with_reducible refine Below.drew ?_) | (with_reducible refine bdrewN ?_ _) | (with_reducible refine bvia (by assumption) ?_) | (with_reducible refine Below.trans ?_ (by assumption)) | omega | (simp; omega) | (simp; done))), by simp⟩
      exact ((S1.step hbw2).step hbw3).step hbw4
    obtain ⟨k0, k1, k2, b0, b1⟩ := S4.cells
    have H4 : Hid (BC w4 A1 n1 us A2 n2 ds A3 n3 cs) := Lib.hid (H.out.below (by (repeat' (first | (with_reducible exact Below.refl _ _) | (with_reducible assumption) | (with_reducible exact bundrew (by assumption)) | (with_reducible refine balloc ?_ _) | (with_reducible refine bset ?_ _ ?_ _) | (with_reducible refine Below.drew ?_) | (with_reducible refine bdrewN ?_ _) | (with_reducible refine bvia (by assumption) ?_) | (with_reducible refine Below.trans ?_ (by assumption)) | omega | (simp; omega) | (simp; done)))))
    have B4 := S4.below
    have HS4 := Lib.hid S4
    clear S4 hcw2 hfw2 hsw2 qw20 rw20 qw21 rw21 hcw3 hfw3 hsw3 qw30 rw30 qw31 rw31 hcw4 hfw4 hsw4 hbw2 hbw3 hbw4 hb1
    cases b
    · obtain rfl : x = -1 := by rw [← HX.out]; exact ftR_no (by rw [HB.out]; rfl)
      go_wp2_with (go_at_call 19; refine (alive_any _).mono ?_; rintro e w5 ⟨rfl, hb5⟩)
      go_ret
      exact ⟨rfl, by (repeat' (first | (with_reducible exact Below.refl _ _) | (with_reducible assumption) | (with_reducible exact bundrew (by assumption)) | (with_reducible refine balloc ?_ _) | (with_reducible refine bset ?_ _ ?_ _) | (with_reducible refine Below.drew ?_) | (with_reducible refine bdrewN ?_ _) | (with_reducible refine bvia (by assumption) ?_) | (with_reducible refine Below.trans ?_ (by assumption)) | omega | (simp; omega) | (simp; done)))⟩
    · have hcv : cvB us ds cs = true := by cases hc : cvB us ds cs <;> first | rfl | (have := HB.out; rw [l9B_no hc] at this; cases this)
      obtain ⟨e1, e2, hn1, hn8⟩ := cv_len hcv L1.out L2.out L3.out
      have hk : (inB f 0 ((n1 : Int) - 1) && dirB d) = true := by rw [← l9B_yes hcv L1.out]; exact HB.out
      have hr0 : ftR us ds cs m f d rc = x := HX.out
      by_cases r0 : rc < 0
      · obtain rfl : x = -1 := by rw [← hr0]; exact ftR_no (by rw [L1.out, inB_no (by omega), Bool.and_false])
        clear hr0
        go_wp2_with (go_at_call 19; refine (alive_any _).mono ?_; rintro e w5 ⟨rfl, hb5⟩)
        go_ret
        exact ⟨rfl, by (repeat' (first | (with_reducible exact Below.refl _ _) | (with_reducible assumption) | (with_reducible exact bundrew (by assumption)) | (with_reducible refine balloc ?_ _) | (with_reducible refine bset ?_ _ ?_ _) | (with_reducible refine Below.drew ?_) | (with_reducible refine bdrewN ?_ _) | (with_reducible refine bvia (by assumption) ?_) | (with_reducible refine Below.trans ?_ (by assumption)) | omega | (simp; omega) | (simp; done)))⟩
      · have r0' : 0 ≤ rc := by omega
        clear r0
        by_cases r1 : (n3 : Int) ≤ rc
        · obtain rfl : x = -1 := by rw [← hr0]; exact ftR_no (by rw [L1.out, inB_no (by omega), Bool.and_false])
          clear hr0
          go_wp2_with (go_at_call 19; refine (alive_any _).mono ?_; rintro e w5 ⟨rfl, hb5⟩)
          go_ret
          exact ⟨rfl, by (repeat' (first | (with_reducible exact Below.refl _ _) | (with_reducible assumption) | (with_reducible exact bundrew (by assumption)) | (with_reducible refine balloc ?_ _) | (with_reducible refine bset ?_ _ ?_ _) | (with_reducible refine Below.drew ?_) | (with_reducible refine bdrewN ?_ _) | (with_reducible refine bvia (by assumption) ?_) | (with_reducible refine Below.trans ?_ (by assumption)) | omega | (simp; omega) | (simp; done)))⟩
        · have r1' : rc < (n3 : Int) := by omega
          clear r1
          have hr1 : inB rc 0 ((n1 : Int) - 1) = true := inB_yes (by omega)
          rw [ftR_yes L1.out (by rw [HB.out, hr1]; rfl)] at hr0
          obtain rfl : n2 = n1 := e1
          obtain rfl : n3 = n2 := e2
          have hf : inB f 0 ((n3 : Int) - 1) = true := by cases hc : inB f 0 ((n3 : Int) - 1) <;> first | rfl | (rw [hc] at hk; cases hk)
          have hd : d = 1 ∨ d = -1 := dirB_open (by rw [hf] at hk; exact hk)
          rcases bne_or m 0 with ⟨t1, t2, t3⟩ | ⟨t1, t2, t3⟩
          · rw [if_pos t3] at hr0
            have HN : Hid (∀ W, BC W A1 n3 us A2 n3 ds A3 n3 cs → Calls Try.prog 21 #[.agg #[.slice A1 n3 c1, .slice A2 n3 c2, .slice A3 n3 c3], .agg #[.int .i64 f, .int .i64 d]] W (StopAt W x)) := Lib.hid fun W hW => hr0 ▸ ns_impl A1 n3 c1 us A2 c2 ds A3 c3 cs f d W hW hcv hf hd
            have hfd := field_stop
            subst t3
            clear hr0 hcv hk hf hd
            go_wp2_with (go_at_call 21; refine (HN.out _ H4.out).mono ?_; rintro e w5 ⟨y, rfl, hb5⟩)
            go_ret
            exact ⟨rfl, by (repeat' (first | (with_reducible exact Below.refl _ _) | (with_reducible assumption) | (with_reducible exact bundrew (by assumption)) | (with_reducible refine balloc ?_ _) | (with_reducible refine bset ?_ _ ?_ _) | (with_reducible refine Below.drew ?_) | (with_reducible refine bdrewN ?_ _) | (with_reducible refine bvia (by assumption) ?_) | (with_reducible refine Below.trans ?_ (by assumption)) | omega | (simp; omega) | (simp; done)))⟩
          · rw [if_neg (by omega)] at hr0
            rcases beq_or m 1 with ⟨t4, t5⟩ | ⟨t4, t5⟩
            · rw [if_pos (.inl t5)] at hr0
              have HZ : Hid (∀ B1 j1 B2 j2 B3 j3 W, BC W B1 n3 (List.replicate n3 false) B2 n3 (List.replicate n3 false) B3 n3 (List.replicate n3 false) → Calls Try.prog 15 #[.int .i64 m, .agg #[.slice B1 n3 j1, .slice B2 n3 j2, .slice B3 n3 j3], .agg #[.int .i64 f, .int .i64 d], .int .i64 rc] W fun e w' => e = .returned (.int .i64 rc) ∧ Below W.heap.size W w') := Lib.hid fun B1 j1 B2 j2 B3 j3 W hW => ft_none hn1 hn8 hk hr1 (.inl t5) B1 j1 B2 j2 B3 j3 W hW
              obtain rfl : m = 1 := t5
              obtain rfl : rc = x := hr0
              have HN : Hid (∀ W, Calls Try.prog 20 #[.int .i64 n3] W (CallsOut W (List.replicate n3 false) (List.replicate n3 false) (List.replicate n3 false))) := Lib.hid fun W => none_impl n3 W hn1 hn8
              have HP := Lib.hid hn1
              have HS0 := Lib.hid (HS4.out.drewN 1)
              clear hcv hk hf hd hr1 hn1 hn8 t3 HS4 HI HF HS HX HB H
              go_wp2_with fail
              go_region_held3 (fun w' => w'.cell? ⟨w1.heap.size, 0, none⟩ = some (.slice A1 n3 c1) ∧ w'.cell? ⟨w1.heap.size, 1, none⟩ = some (.slice A2 n3 c2) ∧ w'.cell? ⟨w1.heap.size, 2, none⟩ = some (.slice A3 n3 c3) ∧ w'.cell? ⟨w1.heap.size + 1, 0, none⟩ = some (.int .i64 f) ∧ w'.cell? ⟨w1.heap.size + 1, 1, none⟩ = some (.int .i64 d))
                (first | exact HS2.out.cells | exact HS1.out.cells | exact HS0.out.cells)
                (first
                  | (go_at_call 15; have _t := HS1; refine (HZ.out _ _ _ _ _ _ _ HCO.out.bc).mono ?_; rintro e w6 ⟨rfl, hb6⟩; have HS2 := Lib.hid (HS1.out.step hb6))
                  | (go_at_call 20; refine (HN.out _).mono ?_; rintro e w5 ⟨v1, v2, v3, rfl, co5, hb5⟩; obtain ⟨g1, j1, rfl⟩ := co5.u.some_ (n := n3) (by simp) HP.out; obtain ⟨g2, j2, rfl⟩ := co5.d.some_ (n := n3) (by simp) HP.out; obtain ⟨g3, j3, rfl⟩ := co5.c.some_ (n := n3) (by simp) HP.out; have HCO := Lib.hid co5; have HS1 := Lib.hid (HS0.out.step hb5); clear co5))
              all_goals
                have hfin := HS2.out.below
                go_wp2
                go_ret
                exact ⟨rfl, by (repeat' (first | (with_reducible exact Below.refl _ _) | (with_reducible assumption) | (with_reducible exact bundrew (by assumption)) | (with_reducible refine balloc ?_ _) | (with_reducible refine bset ?_ _ ?_ _) | (with_reducible refine Below.drew ?_) | (with_reducible refine bdrewN ?_ _) | (with_reducible refine bvia (by assumption) ?_) | (with_reducible refine Below.trans ?_ (by assumption)) | omega | (simp; omega) | (simp; done)))⟩
            · rcases beq_or m 2 with ⟨t6, t7⟩ | ⟨t6, t7⟩
              · rw [if_pos (.inr t7)] at hr0
                have HZ : Hid (∀ B1 j1 B2 j2 B3 j3 W, BC W B1 n3 (List.replicate n3 false) B2 n3 (List.replicate n3 false) B3 n3 (List.replicate n3 false) → Calls Try.prog 15 #[.int .i64 m, .agg #[.slice B1 n3 j1, .slice B2 n3 j2, .slice B3 n3 j3], .agg #[.int .i64 f, .int .i64 d], .int .i64 rc] W fun e w' => e = .returned (.int .i64 rc) ∧ Below W.heap.size W w') := Lib.hid fun B1 j1 B2 j2 B3 j3 W hW => ft_none hn1 hn8 hk hr1 (.inr t7) B1 j1 B2 j2 B3 j3 W hW
                obtain rfl : m = 2 := t7
                obtain rfl : rc = x := hr0
                have HN : Hid (∀ W, Calls Try.prog 20 #[.int .i64 n3] W (CallsOut W (List.replicate n3 false) (List.replicate n3 false) (List.replicate n3 false))) := Lib.hid fun W => none_impl n3 W hn1 hn8
                have HP := Lib.hid hn1
                have HS0 := Lib.hid (HS4.out.drewN 1)
                clear hcv hk hf hd hr1 hn1 hn8 t3 HS4 HI HF HS HX HB H
                go_wp2_with fail
                go_region_held3 (fun w' => w'.cell? ⟨w1.heap.size, 0, none⟩ = some (.slice A1 n3 c1) ∧ w'.cell? ⟨w1.heap.size, 1, none⟩ = some (.slice A2 n3 c2) ∧ w'.cell? ⟨w1.heap.size, 2, none⟩ = some (.slice A3 n3 c3) ∧ w'.cell? ⟨w1.heap.size + 1, 0, none⟩ = some (.int .i64 f) ∧ w'.cell? ⟨w1.heap.size + 1, 1, none⟩ = some (.int .i64 d))
                  (first | exact HS2.out.cells | exact HS1.out.cells | exact HS0.out.cells)
                  (first
                    | (go_at_call 15; have _t := HS1; refine (HZ.out _ _ _ _ _ _ _ HCO.out.bc).mono ?_; rintro e w6 ⟨rfl, hb6⟩; have HS2 := Lib.hid (HS1.out.step hb6))
                    | (go_at_call 20; refine (HN.out _).mono ?_; rintro e w5 ⟨v1, v2, v3, rfl, co5, hb5⟩; obtain ⟨g1, j1, rfl⟩ := co5.u.some_ (n := n3) (by simp) HP.out; obtain ⟨g2, j2, rfl⟩ := co5.d.some_ (n := n3) (by simp) HP.out; obtain ⟨g3, j3, rfl⟩ := co5.c.some_ (n := n3) (by simp) HP.out; have HCO := Lib.hid co5; have HS1 := Lib.hid (HS0.out.step hb5); clear co5))
                all_goals
                  have hfin := HS2.out.below
                  go_wp2
                  go_ret
                  exact ⟨rfl, by (repeat' (first | (with_reducible exact Below.refl _ _) | (with_reducible assumption) | (with_reducible exact bundrew (by assumption)) | (with_reducible refine balloc ?_ _) | (with_reducible refine bset ?_ _ ?_ _) | (with_reducible refine Below.drew ?_) | (with_reducible refine bdrewN ?_ _) | (with_reducible refine bvia (by assumption) ?_) | (with_reducible refine Below.trans ?_ (by assumption)) | omega | (simp; omega) | (simp; done)))⟩
              · rw [if_neg (by omega)] at hr0
                obtain rfl : x = -1 := hr0.symm
                clear hcv hk hf hd
                go_wp2
                go_ret
                exact ⟨rfl, by (repeat' (first | (with_reducible exact Below.refl _ _) | (with_reducible assumption) | (with_reducible exact bundrew (by assumption)) | (with_reducible refine balloc ?_ _) | (with_reducible refine bset ?_ _ ?_ _) | (with_reducible refine Below.drew ?_) | (with_reducible refine bdrewN ?_ _) | (with_reducible refine bvia (by assumption) ?_) | (with_reducible refine Below.trans ?_ (by assumption)) | omega | (simp; omega) | (simp; done)))⟩
end Go.Proofs.Ytmoifakcjmdghaa
