/- The walk of FnExactFireTarget. -/
import Derived.Test.YtmoifakcjmdghaaFtH
import Derived.Deep.RegionHeld3
namespace Go.Proofs.Ytmoifakcjmdghaa
open Go.ChangeShapes Go.WideShapes Go.ChangeAt Go.RowKit

/-- What the law holds of its arguments: their boxes. -/
structure FxSt (w wr : World) (s1 s2 s3 : Value) (f d : Int) : Prop where
  c0 : wr.cell? ⟨w.heap.size, 0, none⟩ = some s1
  c1 : wr.cell? ⟨w.heap.size, 1, none⟩ = some s2
  c2 : wr.cell? ⟨w.heap.size, 2, none⟩ = some s3
  b0 : wr.cell? ⟨w.heap.size + 1, 0, none⟩ = some (.int .i64 f)
  b1 : wr.cell? ⟨w.heap.size + 1, 1, none⟩ = some (.int .i64 d)
  below : Below w.heap.size w wr
  g2 : w.heap.size + 1 < wr.heap.size
theorem FxSt.step {w wr w' : World} {s1 s2 s3 : Value} {f d : Int} (h : FxSt w wr s1 s2 s3 f d) (hb : Below wr.heap.size wr w') : FxSt w w' s1 s2 s3 f d := by
  have e2 := h.g2
  exact ⟨(hb.cell (p := ⟨w.heap.size, 0, none⟩) (by simp; omega)).trans h.c0, (hb.cell (p := ⟨w.heap.size, 1, none⟩) (by simp; omega)).trans h.c1, (hb.cell (p := ⟨w.heap.size, 2, none⟩) (by simp; omega)).trans h.c2,
    (hb.cell (p := ⟨w.heap.size + 1, 0, none⟩) (by simp; omega)).trans h.b0, (hb.cell (p := ⟨w.heap.size + 1, 1, none⟩) (by simp; omega)).trans h.b1, bvia hb h.below, Nat.lt_of_lt_of_le e2 hb.size⟩
theorem FxSt.drewN {w wr : World} {s1 s2 s3 : Value} {f d : Int} (h : FxSt w wr s1 s2 s3 f d) (m : Nat) : FxSt w (wr.drewN m) s1 s2 s3 f d := ⟨h.c0, h.c1, h.c2, h.b0, h.b1, bdrewN h.below m, h.g2⟩
theorem FxSt.cells {w wr : World} {s1 s2 s3 : Value} {f d : Int} (h : FxSt w wr s1 s2 s3 f d) : wr.cell? ⟨w.heap.size, 0, none⟩ = some s1 ∧ wr.cell? ⟨w.heap.size, 1, none⟩ = some s2 ∧ wr.cell? ⟨w.heap.size, 2, none⟩ = some s3 ∧ wr.cell? ⟨w.heap.size + 1, 0, none⟩ = some (.int .i64 f) ∧ wr.cell? ⟨w.heap.size + 1, 1, none⟩ = some (.int .i64 d) := ⟨h.c0, h.c1, h.c2, h.b0, h.b1⟩
/-- The same; and the copied calls' box. -/
structure FxSu (w wr : World) (g : Nat) (s1 s2 s3 : Value) (f d : Int) (t1 t2 t3 : Value) : Prop where
  st : FxSt w wr s1 s2 s3 f d
  u0 : wr.cell? ⟨g, 0, none⟩ = some t1
  u1 : wr.cell? ⟨g, 1, none⟩ = some t2
  u2 : wr.cell? ⟨g, 2, none⟩ = some t3
  gl : g < wr.heap.size
theorem FxSu.step {w wr w' : World} {g : Nat} {s1 s2 s3 t1 t2 t3 : Value} {f d : Int} (h : FxSu w wr g s1 s2 s3 f d t1 t2 t3) (hb : Below wr.heap.size wr w') : FxSu w w' g s1 s2 s3 f d t1 t2 t3 := by
  have e2 := h.gl
  exact ⟨h.st.step hb, (hb.cell (p := ⟨g, 0, none⟩) e2).trans h.u0, (hb.cell (p := ⟨g, 1, none⟩) e2).trans h.u1, (hb.cell (p := ⟨g, 2, none⟩) e2).trans h.u2, Nat.lt_of_lt_of_le e2 hb.size⟩
theorem FxSu.drewN {w wr : World} {g : Nat} {s1 s2 s3 t1 t2 t3 : Value} {f d : Int} (h : FxSu w wr g s1 s2 s3 f d t1 t2 t3) (m : Nat) : FxSu w (wr.drewN m) g s1 s2 s3 f d t1 t2 t3 := ⟨h.st.drewN m, h.u0, h.u1, h.u2, h.gl⟩
theorem FxSu.seven {w wr : World} {g : Nat} {s1 s2 s3 t1 t2 t3 : Value} {f d : Int} (h : FxSu w wr g s1 s2 s3 f d t1 t2 t3) : wr.cell? ⟨g, 0, none⟩ = some t1 ∧ wr.cell? ⟨g, 1, none⟩ = some t2 ∧ wr.cell? ⟨g, 2, none⟩ = some t3 ∧ wr.cell? ⟨w.heap.size + 1, 0, none⟩ = some (.int .i64 f) ∧ wr.cell? ⟨w.heap.size + 1, 1, none⟩ = some (.int .i64 d) := ⟨h.u0, h.u1, h.u2, h.st.b0, h.st.b1⟩
theorem FxSu.ten {w wr : World} {g : Nat} {s1 s2 s3 t1 t2 t3 : Value} {f d : Int} (h : FxSu w wr g s1 s2 s3 f d t1 t2 t3) : wr.cell? ⟨g, 0, none⟩ = some t1 ∧ wr.cell? ⟨g, 1, none⟩ = some t2 ∧ wr.cell? ⟨g, 2, none⟩ = some t3 ∧ wr.cell? ⟨w.heap.size, 0, none⟩ = some s1 ∧ wr.cell? ⟨w.heap.size, 1, none⟩ = some s2 ∧ wr.cell? ⟨w.heap.size, 2, none⟩ = some s3 := ⟨h.u0, h.u1, h.u2, h.st.c0, h.st.c1, h.st.c2⟩

set_option maxRecDepth 100000 in
set_option maxHeartbeats 4000000 in
theorem walk_FnExactFireTarget (m : Int) (A1 : Option Addr) (n1 c1 : Nat) (us : List Bool) (A2 : Option Addr) (n2 c2 : Nat) (ds : List Bool) (A3 : Option Addr) (n3 c3 : Nat) (cs : List Bool) (f d r : Int) (w : World) (_ : (Lit.int .i64 m).wf = true) (hu : Bools w A1 n1 us) (hd : Bools w A2 n2 ds) (hc : Bools w A3 n3 cs) (_ : (Lit.int .i64 f).wf = true) (_ : (Lit.int .i64 d).wf = true) (_ : (Lit.int .i64 r).wf = true) :
    Calls Try.prog 4 #[.int .i64 m, .agg #[.slice A1 n1 c1, .slice A2 n2 c2, .slice A3 n3 c3], .agg #[.int .i64 f, .int .i64 d], .int .i64 r] w fun e w' => e = .returned (.bool true) ∧ Below w.heap.size w w' := by
  have H : Hid (BC w A1 n1 us A2 n2 ds A3 n3 cs) := Lib.hid ⟨hu, hd, hc⟩
  have q1 := hu.2.1
  have q2 := hd.2.1
  have q3 := hc.2.1
  have HF : Hid (∀ (B1 : Option Addr) (k1 : Nat) (B2 : Option Addr) (k2 : Nat) (B3 : Option Addr) (k3 : Nat) (w : World), BC w B1 n1 us B2 n2 ds B3 n3 cs → Calls Try.prog 12 #[.int .i64 m, .agg #[.slice B1 n1 k1, .slice B2 n2 k2, .slice B3 n3 k3], .agg #[.int .i64 f, .int .i64 d], .int .i64 r] w fun e w' => e = .returned (.int .i64 (ftR us ds cs m f d r)) ∧ Below w.heap.size w w') := Lib.hid fun B1 k1 B2 k2 B3 k3 w hx => ft_spec m B1 n1 k1 us B2 n2 k2 ds B3 n3 k3 cs f d r w hx
  have HI : Hid (∀ (B1 : Option Addr) (k1 : Nat) (B2 : Option Addr) (k2 : Nat) (B3 : Option Addr) (k3 : Nat) (w : World), BC w B1 n1 us B2 n2 ds B3 n3 cs → Calls Try.prog 15 #[.int .i64 m, .agg #[.slice B1 n1 k1, .slice B2 n2 k2, .slice B3 n3 k3], .agg #[.int .i64 f, .int .i64 d], .int .i64 r] w fun e w' => e = .returned (.int .i64 (ftR us ds cs m f d r)) ∧ Below w.heap.size w w') := Lib.hid fun B1 k1 B2 k2 B3 k3 w hx => ft_impl m B1 n1 k1 us B2 n2 k2 ds B3 n3 k3 cs f d r w hx
  obtain ⟨x, hx⟩ : ∃ x, ftR us ds cs m f d r = x := ⟨_, rfl⟩
  rw [hx] at HF HI
  clear hu hd hc hx
  go_enter Try.func4, Try.ntmps4
  go_wp2_with fail
  refine (szCalls_any A1 n1 c1 A2 n2 c2 A3 n3 c3 _ q1 q2 q3).mono ?_
  rintro e w1 ⟨s, rfl, hs, hbw1⟩
  obtain ⟨hcw1, hfw1, -, -, -, hsw1⟩ := bfacts5 hbw1
  try simp only [World.size_drew] at hcw1 hfw1
  try simp at hsw1
  have qw10 : w.heap.size < w1.heap.size := (by omega)
  have rw10 : ∀ m : Nat, w.heap.size < w1.heap.size + m := fun m => (by omega)
  have qw11 : w.heap.size + 1 < w1.heap.size := (by omega)
  have rw11 : ∀ m : Nat, w.heap.size + 1 < w1.heap.size + m := fun m => (by omega)
  by_cases hs0 : s < 0
  · go_wp2
    go_ret
    exact ⟨rfl, by (repeat' (first | (with_reducible exact Below.refl _ _) | (with_reducible assumption) | (with_reducible exact bundrew (by assumption)) | (with_reducible refine balloc ?_ _) | (with_reducible refine bset ?_ _ ?_ _) | (with_reducible refine Below.drew ?_) | (with_reducible refine bdrewN ?_ _) | (with_reducible refine bvia (by assumption) ?_) | (with_reducible refine Below.trans ?_ (by assumption)) | omega | (simp; omega) | (simp; done)))⟩
  · have hs1 : 0 ≤ s := by omega
    obtain ⟨e1, e2, e3⟩ := hs hs1
    have HC : Hid (∀ (w' : World), Below w.heap.size w w' → Calls Try.prog 13 #[.agg #[.slice A1 n1 c1, .slice A2 n2 c2, .slice A3 n3 c3]] w' (CallsNew w' n1 us n2 ds n3 cs)) := Lib.hid fun w' hb => toCalls_any A1 n1 c1 us A2 n2 c2 ds A3 n3 c3 cs w' (H.out.below hb) e1 e2 e3
    have S0 : FxSt w w1 (.slice A1 n1 c1) (.slice A2 n2 c2) (.slice A3 n3 c3) f d := ⟨by go_simp, by go_simp, by go_simp, by go_simp, by go_simp, by (repeat' (first | (with_reducible exact Below.refl _ _) | (with_reducible assumption) | (with_reducible exact bundrew (by assumption)) | (with_reducible refine balloc ?_ _) | (with_reducible refine bset ?_ _ ?_ _) | (with_reducible refine Below.drew ?_) | (with_reducible refine bdrewN ?_ _) | (with_reducible refine bvia (by assumption) ?_) | (with_reducible refine Below.trans ?_ (by assumption)) | omega | (simp; omega) | (simp; done))), by omega⟩
    have HS0 := Lib.hid (S0.drewN 1)
    obtain ⟨k0, k1, k2, b0, b1⟩ := S0.cells
    clear hcw1 hfw1 hbw1 S0 hs q1 q2 q3 H hs0 e1 e2 e3
    go_wp2_with fail
    go_region_held3 (fun w' => w'.cell? ⟨w.heap.size, 0, none⟩ = some (.slice A1 n1 c1) ∧ w'.cell? ⟨w.heap.size, 1, none⟩ = some (.slice A2 n2 c2) ∧ w'.cell? ⟨w.heap.size, 2, none⟩ = some (.slice A3 n3 c3) ∧ w'.cell? ⟨w.heap.size + 1, 0, none⟩ = some (.int .i64 f) ∧ w'.cell? ⟨w.heap.size + 1, 1, none⟩ = some (.int .i64 d))
      (first | exact HSz.out.cells | exact HSt.out.cells | exact HSc.out.cells | exact HSs.out.cells | exact HS0.out.cells)
      (first
        | (go_at_call 12; have _t := HSt; refine (HF.out _ _ _ _ _ _ _ HBT.out).mono ?_; rintro e wz ⟨rfl, hbz⟩; have HSz := Lib.hid (HSt.out.step hbz))
        | (go_at_call 13; have _t := HSs; refine (HC.out _ HSs.out.below).mono ?_; rintro e wt ⟨g1, g2, g3, rfl, BT, hbt⟩; have HSt := Lib.hid (HSs.out.step hbt); have HBT := Lib.hid BT; clear BT)
        | (go_at_call 13; refine (HC.out _ HS0.out.below).mono ?_; rintro e wc ⟨g1, g2, g3, rfl, BT0, hbc⟩; have HSc := Lib.hid (HS0.out.step hbc); have HB0 := Lib.hid BT0; clear BT0)
        | (go_at_call 14; have _t := HSc; refine (toStop_any f d _).mono ?_; rintro e wt ⟨rfl, hbt⟩; have HSt := Lib.hid (HSc.out.step hbt); have HBT := Lib.hid (HB0.out.below hbt))
        | (go_at_call 14; refine (toStop_any f d _).mono ?_; rintro e ws ⟨rfl, hbs⟩; have HSs := Lib.hid (HS0.out.step hbs)))
    all_goals
      clear k0 k1 k2 b0 b1
      obtain ⟨k0, k1, k2, b0, b1⟩ := HSz.out.cells
      go_wp2_with fail
      refine (HC.out _ HSz.out.below).mono ?_
      rintro e w6 ⟨h1, h2, h3, rfl, B6, hb6⟩
      have S6 := HSz.out.step hb6
      obtain ⟨W, hW⟩ : ∃ W : World, W = w6.alloc (.cells #[.slice (some ⟨h1, 0, none⟩) n1 n1, .slice (some ⟨h2, 0, none⟩) n2 n2, .slice (some ⟨h3, 0, none⟩) n3 n3] 34) := ⟨_, rfl⟩
      have hbW : Below w6.heap.size w6 W := by rw [hW]; exact (Below.refl _ _).alloc (Nat.le_refl _) _
      have U6 : FxSu w W w6.heap.size (.slice A1 n1 c1) (.slice A2 n2 c2) (.slice A3 n3 c3) f d (.slice (some ⟨h1, 0, none⟩) n1 n1) (.slice (some ⟨h2, 0, none⟩) n2 n2) (.slice (some ⟨h3, 0, none⟩) n3 n3) := ⟨S6.step hbW, by rw [hW]; go_simp, by rw [hW]; go_simp, by rw [hW]; go_simp, by rw [hW]; simp⟩
      have HB6 := Lib.hid (B6.below hbW)
      have HU0 := Lib.hid (U6.drewN 1)
      obtain ⟨m0, m1, m2, mb0, mb1⟩ := U6.seven
      clear k0 k1 k2 b0 b1 B6 S6 U6 hbW
      go_wp2_with fail
      rw [← hW]
      clear hW
      obtain ⟨g, hg⟩ : ∃ g, w6.heap.size = g := ⟨_, rfl⟩
      rw [hg] at HU0 m0 m1 m2 ⊢
      go_region_held3 (fun w' => w'.cell? ⟨g, 0, none⟩ = some (.slice (some ⟨h1, 0, none⟩) n1 n1) ∧ w'.cell? ⟨g, 1, none⟩ = some (.slice (some ⟨h2, 0, none⟩) n2 n2) ∧ w'.cell? ⟨g, 2, none⟩ = some (.slice (some ⟨h3, 0, none⟩) n3 n3) ∧ w'.cell? ⟨w.heap.size + 1, 0, none⟩ = some (.int .i64 f) ∧ w'.cell? ⟨w.heap.size + 1, 1, none⟩ = some (.int .i64 d))
        (first | exact HU2.out.seven | exact HU1.out.seven | exact HU0.out.seven)
        (first
          | (go_at_call 15; have _t := HU1; refine (HI.out _ _ _ _ _ _ _ HB7.out).mono ?_; rintro e w8 ⟨rfl, hb8⟩; have HU2 := Lib.hid (HU1.out.step hb8); have HB8 := Lib.hid (HB7.out.below hb8))
          | (go_at_call 14; refine (toStop_any f d _).mono ?_; rintro e w7 ⟨rfl, hb7⟩; have HU1 := Lib.hid (HU0.out.step hb7); have HB7 := Lib.hid (BC.below (BC.below HB6.out ((Below.refl _ _).drew)) hb7)))
      all_goals
        clear m0 m1 m2 mb0 mb1
        obtain ⟨m0, m1, m2, k0, k1, k2⟩ := HU2.out.ten
        have HU3 := Lib.hid (HU2.out.drewN 1)
        have hxx : (x == x) = true := by simp
        go_wp2_with fail
        go_region_held3 (fun w' => w'.cell? ⟨g, 0, none⟩ = some (.slice (some ⟨h1, 0, none⟩) n1 n1) ∧ w'.cell? ⟨g, 1, none⟩ = some (.slice (some ⟨h2, 0, none⟩) n2 n2) ∧ w'.cell? ⟨g, 2, none⟩ = some (.slice (some ⟨h3, 0, none⟩) n3 n3) ∧ w'.cell? ⟨w.heap.size, 0, none⟩ = some (.slice A1 n1 c1) ∧ w'.cell? ⟨w.heap.size, 1, none⟩ = some (.slice A2 n2 c2) ∧ w'.cell? ⟨w.heap.size, 2, none⟩ = some (.slice A3 n3 c3))
          (first | exact HU5.out.ten | exact HU4.out.ten | exact HU3.out.ten)
          (first
            | (go_at_call 16; have _t := HU4; refine (eqCalls_any _ _ _ us _ _ _ ds _ _ _ cs _ _ _ _ _ _ _ HB9.out HBN.out).mono ?_; rintro e w10 ⟨rfl, hb10⟩; have HU5 := Lib.hid (HU4.out.step hb10))
            | (go_at_call 13; refine (HC.out _ HU3.out.st.below).mono ?_; rintro e w9 ⟨g7, g8, g9, rfl, BN, hb9⟩; have HU4 := Lib.hid (HU3.out.step hb9); have HBN := Lib.hid BN; clear BN; have HB9 := Lib.hid (BC.below (BC.below HB8.out ((Below.refl _ _).drew)) hb9)))
        all_goals
          have hfin := HU5.out.st.below
          go_wp2
          go_ret
          exact ⟨rfl, by (repeat' (first | (with_reducible exact Below.refl _ _) | (with_reducible assumption) | (with_reducible exact bundrew (by assumption)) | (with_reducible refine balloc ?_ _) | (with_reducible refine bset ?_ _ ?_ _) | (with_reducible refine Below.drew ?_) | (with_reducible refine bdrewN ?_ _) | (with_reducible refine bvia (by assumption) ?_) | (with_reducible refine Below.trans ?_ (by assumption)) | omega | (simp; omega) | (simp; done)))⟩
end Go.Proofs.Ytmoifakcjmdghaa
