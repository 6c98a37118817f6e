/- NextStop of the reference, for valid arguments: contract. -/
import Derived.Test.YtmoifakcjmdghaaFtE
import Derived.Deep.RegionHeld3
namespace Go.Proofs.Ytmoifakcjmdghaa
open Go.ChangeShapes Go.WideShapes Go.ChangeAt Go.RowKit

/-- What NextStop of the reference holds: the calls, the stop, the result's cells. -/
structure NsSt (w wr : World) (s1 s2 s3 : Value) (f d : Int) : Prop where
  c0 : wr.cell? ⟨w.heap.size, 0, none⟩ = some s1
  c1 : wr.cell? ⟨w.heap.size, 1, none⟩ = some s2
  c2 : wr.cell? ⟨w.heap.size, 2, none⟩ = some s3
  b0 : wr.cell? ⟨w.heap.size + 1, 0, none⟩ = some (.int .i64 f)
  b1 : wr.cell? ⟨w.heap.size + 1, 1, none⟩ = some (.int .i64 d)
  bf : ∀ o, wr.frozen? ⟨w.heap.size + 1, o, none⟩ = false
  r0 : wr.cell? ⟨w.heap.size + 1 + 1, 0, none⟩ = some (.int .i64 0)
  r1 : wr.cell? ⟨w.heap.size + 1 + 1, 1, none⟩ = some (.int .i64 0)
  rf : ∀ o, wr.frozen? ⟨w.heap.size + 1 + 1, o, none⟩ = false
  below : Below w.heap.size w wr
  g2 : w.heap.size + 1 + 1 < wr.heap.size
theorem NsSt.step {w wr w' : World} {s1 s2 s3 : Value} {f d : Int} (h : NsSt w wr s1 s2 s3 f d) (hb : Below wr.heap.size wr w') : NsSt w w' s1 s2 s3 f d := by
  have e2 := h.g2
  exact ⟨(hb.cell (p := ⟨w.heap.size, 0, none⟩) (by simp; omega)).trans h.c0, (hb.cell (p := ⟨w.heap.size, 1, none⟩) (by simp; omega)).trans h.c1, (hb.cell (p := ⟨w.heap.size, 2, none⟩) (by simp; omega)).trans h.c2,
    (hb.cell (p := ⟨w.heap.size + 1, 0, none⟩) (by simp; omega)).trans h.b0, (hb.cell (p := ⟨w.heap.size + 1, 1, none⟩) (by simp; omega)).trans h.b1, fun o => (hb.frozen (p := ⟨w.heap.size + 1, o, none⟩) (by simp; omega)).trans (h.bf o),
    (hb.cell (p := ⟨w.heap.size + 1 + 1, 0, none⟩) (by simp; omega)).trans h.r0, (hb.cell (p := ⟨w.heap.size + 1 + 1, 1, none⟩) (by simp; omega)).trans h.r1, fun o => (hb.frozen (p := ⟨w.heap.size + 1 + 1, o, none⟩) (by simp; omega)).trans (h.rf o), bvia hb h.below, Nat.lt_of_lt_of_le e2 hb.size⟩
theorem NsSt.drew {w wr : World} {s1 s2 s3 : Value} {f d : Int} (h : NsSt w wr s1 s2 s3 f d) : NsSt w wr.drew s1 s2 s3 f d := h.step ((Below.refl _ _).drew)
theorem NsSt.turn {w wr : World} {s1 s2 s3 : Value} {f d : Int} (h : NsSt w wr s1 s2 s3 f d) (e : Int) : NsSt w (wr.setCell ⟨w.heap.size + 1, 1, none⟩ (.int .i64 e)) s1 s2 s3 f e := by
  obtain ⟨k0, k1, k2, b0, b1, bf, r0, r1, rf, hbl, g2⟩ := h
  exact ⟨by go_simp, by go_simp, by go_simp, by go_simp, by go_simp, fun o => by go_simp, by go_simp, by go_simp, fun o => by go_simp, bset hbl _ (by simp) _, by simpa using g2⟩

theorem NsSt.drewN {w wr : World} {s1 s2 s3 : Value} {f d : Int} (h : NsSt w wr s1 s2 s3 f d) (m : Nat) : NsSt w (wr.drewN m) s1 s2 s3 f d := ⟨h.c0, h.c1, h.c2, h.b0, h.b1, h.bf, h.r0, h.r1, h.rf, bdrewN h.below m, h.g2⟩
theorem NsSt.cells {w wr : World} {s1 s2 s3 : Value} {f d : Int} (h : NsSt w wr s1 s2 s3 f d) : wr.cell? ⟨w.heap.size, 0, none⟩ = some s1 ∧ wr.cell? ⟨w.heap.size, 1, none⟩ = some s2 ∧ wr.cell? ⟨w.heap.size, 2, none⟩ = some s3 ∧ wr.cell? ⟨w.heap.size + 1, 0, none⟩ = some (.int .i64 f) ∧ wr.cell? ⟨w.heap.size + 1, 1, none⟩ = some (.int .i64 d) := ⟨h.c0, h.c1, h.c2, h.b0, h.b1⟩

theorem aheadF_low {us ds cs : List Bool} {d : Int} (hd : d = 1 ∨ d = -1) : ∀ (m : Nat) (p : Int), (d = 1 ∧ 0 ≤ p) ∨ (d = -1 ∧ (m : Int) ≤ p + 1) → aheadF us ds cs d m p = -1 ∨ 0 ≤ aheadF us ds cs d m p
  | 0, _, _ => .inl rfl
  | m + 1, p, h => by
    cases hh : hitB us ds cs d p.toNat
    · rw [aheadF_no hh]
      exact aheadF_low hd m (p + d) (by omega)
    · rw [aheadF_yes hh]
      right; omega
theorem lastF_low {us ds : List Bool} {d : Int} (hd : d = 1 ∨ d = -1) : ∀ (m : Nat) (p a : Int), ((d = 1 ∧ 0 ≤ p) ∨ (d = -1 ∧ (m : Int) ≤ p + 1)) → (a = -1 ∨ 0 ≤ a) → lastF us ds d m p a = -1 ∨ 0 ≤ lastF us ds d m p a
  | 0, _, a, _, h => h
  | m + 1, p, a, h, ha => by
    cases hh : goB us ds (-d) p.toNat
    · rw [lastF_no hh]
      exact lastF_low hd m (p + d) a (by omega) ha
    · rw [lastF_yes hh]
      exact lastF_low hd m (p + d) p (by omega) (by omega)
theorem toward_low {us ds cs : List Bool} {n : Nat} {f d : Int} (hf0 : 0 ≤ f) (hf1 : f ≤ (n : Int) - 1) (hd : d = 1 ∨ d = -1) (h : towardF us ds cs n f d < 0) : towardF us ds cs n f d = -1 := by
  have hr : (d = 1 ∧ 0 ≤ f) ∨ (d = -1 ∧ ((leftN n d f : Nat) : Int) ≤ f + 1) := by
    rcases hd with rfl | rfl
    · exact .inl ⟨rfl, hf0⟩
    · have e : leftN n (-1) f = (f + 1).toNat := by simp [leftN]
      exact .inr ⟨rfl, by rw [e]; omega⟩
  have h1 := aheadF_low (us := us) (ds := ds) (cs := cs) hd _ _ hr
  have h2 := lastF_low (us := us) (ds := ds) hd (leftN n d f) f (-1) hr (by omega)
  unfold towardF at h ⊢
  split at h
  · omega
  · rw [if_neg (by assumption)]; omega

set_option maxRecDepth 100000 in
set_option maxHeartbeats 4000000 in
theorem ns_spec (A1 : Option Addr) (n c1 : Nat) (us : List Bool) (A2 : Option Addr) (c2 : Nat) (ds : List Bool) (A3 : Option Addr) (c3 : Nat) (cs : List Bool) (f d : Int) (w : World) (h : BC w A1 n us A2 n ds A3 n cs) (hv : cvB us ds cs = true) (hf : inB f 0 ((n : Int) - 1) = true) (hd : d = 1 ∨ d = -1) :
    Calls Try.prog 25 #[.agg #[.slice A1 n c1, .slice A2 n c2, .slice A3 n c3], .agg #[.int .i64 f, .int .i64 d]] w (StopAt w (nextF us ds cs n f d)) := by
  obtain ⟨_, _, hn1, hn8⟩ := cv_len hv h.u.1 h.d.1 h.c.1
  obtain ⟨f0, f1⟩ := inB_open hf
  have H := Lib.hid h
  have V := fun w hx => l9_any A1 n c1 us A2 n c2 ds A3 n c3 cs f d w hx
  have hdb : dirB d = true := by rcases hd with rfl | rfl <;> decide
  rw [l9B_yes hv h.u.1, hf, hdb] at V
  have HV : Hid (∀ w : World, BC w A1 n us A2 n ds A3 n cs → Calls Try.prog 24 #[.agg #[.slice A1 n c1, .slice A2 n c2, .slice A3 n c3], .agg #[.int .i64 f, .int .i64 d]] w fun e w' => e = .returned (.bool true) ∧ Below w.heap.size w w') := Lib.hid V
  have HA : Hid (∀ (e : Int) (w : World), (e = 1 ∨ e = -1) → BC w A1 n us A2 n ds A3 n cs → Calls Try.prog 39 #[.agg #[.slice A1 n c1, .slice A2 n c2, .slice A3 n c3], .agg #[.int .i64 f, .int .i64 e]] w fun r w' => r = .returned (.int .i64 (aheadF us ds cs e (leftN n e f) f)) ∧ Below w.heap.size w w') := Lib.hid fun e w he hb => ahead_any A1 n c1 us A2 c2 ds A3 c3 cs f e w hb hn8 f0 f1 he
  have HLa : Hid (∀ (e : Int) (w : World), (e = 1 ∨ e = -1) → BC w A1 n us A2 n ds A3 n cs → Calls Try.prog 40 #[.agg #[.slice A1 n c1, .slice A2 n c2, .slice A3 n c3], .agg #[.int .i64 f, .int .i64 e]] w fun r w' => r = .returned (.int .i64 (lastF us ds e (leftN n e f) f (-1))) ∧ Below w.heap.size w w') := Lib.hid fun e w he hb => last_any A1 n c1 us A2 c2 ds A3 c3 cs f e w hb hn8 f0 f1 he
  have HT : Hid (∀ e : Int, towardF us ds cs n f e = if 0 ≤ aheadF us ds cs e (leftN n e f) f then aheadF us ds cs e (leftN n e f) f else lastF us ds e (leftN n e f) f (-1)) := Lib.hid fun e => rfl
  have HY : Hid (0 ≤ towardF us ds cs n f d → nextF us ds cs n f d = towardF us ds cs n f d) := Lib.hid fun h => nextF_yes rfl h
  have HZ : Hid (towardF us ds cs n f d < 0 → nextF us ds cs n f d = towardF us ds cs n f (-d)) := Lib.hid fun h => nextF_no rfl h
  have hlast : Hid (towardF us ds cs n f (-d) < 0 → towardF us ds cs n f (-d) = -1) := Lib.hid (toward_low f0 f1 (by omega))
  have HD := Lib.hid hd
  clear V h hv hf hdb f0 f1
  go_enter Try.func25, Try.ntmps25
  go_wp2_with fail
  refine (HV.out _ (H.out.below (by (repeat' (first | (with_reducible exact Below.refl _ _) | (with_reducible assumption) | (with_reducible exact bundrew (by assumption)) | (with_reducible refine balloc ?_ _) | (with_reducible refine bset ?_ _ ?_ _) | (with_reducible refine Below.drew ?_) | (with_reducible refine bdrewN ?_ _) | (with_reducible refine bvia (by assumption) ?_) | (with_reducible refine Below.trans ?_ (by assumption)) | omega | (simp; omega) | (simp; done)))))).mono ?_
  rintro e w1 ⟨rfl, hbw1⟩
  obtain ⟨hcw1, hfw1, -, -, -, hsw1⟩ := bfacts5 hbw1
  try simp only [World.size_drew] at hcw1 hfw1
  try simp at hsw1
  have qw10 : w.heap.size < w1.heap.size := (by omega)
  have rw10 : ∀ m : Nat, w.heap.size < w1.heap.size + m := fun m => (by omega)
  have qw11 : w.heap.size + 1 < w1.heap.size := (by omega)
  have rw11 : ∀ m : Nat, w.heap.size + 1 < w1.heap.size + m := fun m => (by omega)
  have qw12 : w.heap.size + 2 < w1.heap.size := (by omega)
  have rw12 : ∀ m : Nat, w.heap.size + 2 < w1.heap.size + m := fun m => (by omega)
  have ST : NsSt w w1 (.slice A1 n c1) (.slice A2 n c2) (.slice A3 n c3) f d := ⟨by go_simp, by go_simp, by go_simp, by go_simp, by go_simp, fun o => by go_simp, by go_simp, by go_simp, fun o => by go_simp, by (repeat' (first | (with_reducible exact Below.refl _ _) | (with_reducible assumption) | (with_reducible exact bundrew (by assumption)) | (with_reducible refine balloc ?_ _) | (with_reducible refine bset ?_ _ ?_ _) | (with_reducible refine Below.drew ?_) | (with_reducible refine bdrewN ?_ _) | (with_reducible refine bvia (by assumption) ?_) | (with_reducible refine Below.trans ?_ (by assumption)) | omega | (simp; omega) | (simp; done))), by omega⟩
  clear hcw1 hfw1 hbw1
  go_wp2_with fail
  go_loopw [5] (fun i wr => ∃ k e : Int, i = .int .i64 k ∧ 0 ≤ k ∧ k ≤ 2 ∧ (e = 1 ∨ e = -1) ∧ ((k = 0 ∧ e = d) ∨ (k = 1 ∧ e = -d ∧ towardF us ds cs n f d < 0) ∨ (k = 2 ∧ nextF us ds cs n f d = -1)) ∧ NsSt w wr (.slice A1 n c1) (.slice A2 n c2) (.slice A3 n c3) f e) (fun i _ => (2 - intOf i).toNat)
  case atStart => exact ⟨0, d, rfl, by omega, by omega, HD.out, .inl ⟨rfl, rfl⟩, ST⟩
  case round =>
    clear ST
    obtain ⟨k, e, rfl, hk0, hk2, he, hR, ST⟩ := hrel
    have HST := Lib.hid ST
    obtain ⟨k0, k1, k2, b0, b1, bf, r0, r1, rf, hbl, g2⟩ := ST
    have x5 : w.heap.size < wr.heap.size := by omega
    have x6 : w.heap.size + 1 < wr.heap.size := by omega
    by_cases hk : k = 2
    · subst hk
      have HN : Hid (nextF us ds cs n f d = -1) := Lib.hid (by rcases hR with h | h | h <;> omega)
      clear hR
      go_wp2
      refine bodyPost_ret (by simp [results, Try.results25, go_sem, *]; try rfl) rfl ?_
      exact ⟨0, by rw [HN.out], by (repeat' (first | (with_reducible exact Below.refl _ _) | (with_reducible assumption) | (with_reducible exact bundrew (by assumption)) | (with_reducible refine balloc ?_ _) | (with_reducible refine bset ?_ _ ?_ _) | (with_reducible refine Below.drew ?_) | (with_reducible refine bdrewN ?_ _) | (with_reducible refine bvia (by assumption) ?_) | (with_reducible refine Below.trans ?_ (by assumption)) | omega | (simp; omega) | (simp; done)))⟩
    · have hk' : k < 2 := by omega
      have HS : Hid ((0 ≤ towardF us ds cs n f e → nextF us ds cs n f d = towardF us ds cs n f e) ∧ (towardF us ds cs n f e < 0 → (k + 1 = 1 ∧ -e = -d ∧ towardF us ds cs n f d < 0) ∨ (k + 1 = 2 ∧ nextF us ds cs n f d = -1))) := Lib.hid (by
        rcases hR with ⟨rfl, rfl⟩ | ⟨rfl, rfl, h3⟩ | ⟨rfl, _⟩
        · exact ⟨HY.out, fun h => .inl ⟨rfl, rfl, h⟩⟩
        · exact ⟨fun _ => HZ.out h3, fun h => .inr ⟨rfl, by rw [HZ.out h3, hlast.out h]⟩⟩
        · exact absurd rfl hk)
      have HE := Lib.hid he
      have CA := fun w hh => HA.out e w he hh
      have CL := fun w hh => HLa.out e w he hh
      have TE := HT.out e
      obtain ⟨a, ha⟩ : ∃ a, aheadF us ds cs e (leftN n e f) f = a := ⟨_, rfl⟩
      obtain ⟨l, hl⟩ : ∃ l, lastF us ds e (leftN n e f) f (-1) = l := ⟨_, rfl⟩
      rw [ha] at CA TE
      rw [hl] at CL TE
      have HCA := Lib.hid CA
      have HCL := Lib.hid CL
      have e0 : -2 ≤ e ∧ e ≤ 2 := by omega
      obtain ⟨e01, e02⟩ := e0
      clear CA CL hR hk ha hl he
      by_cases ha0 : 0 ≤ a
      · rw [if_pos ha0] at TE
        have HN : Hid (nextF us ds cs n f d = a) := Lib.hid ((HS.out.1 (by omega)).trans TE)
        clear TE
        go_wp2_with fail
        refine (HCA.out _ (H.out.below hbl)).mono ?_
        rintro ex w5 ⟨rfl, hb5⟩
        have S5 := HST.out.step hb5
        have HS5 := Lib.hid S5
        have HS6 := Lib.hid (S5.drewN 1)
        have C6 := S5.cells
        clear k0 k1 k2 b0 b1 bf r0 r1 rf S5
        obtain ⟨k0, k1, k2, b0, b1⟩ := C6
        go_wp2_with fail
        go_region_held3 (fun w' => w'.cell? ⟨w.heap.size, 0, none⟩ = some (.slice A1 n c1) ∧ w'.cell? ⟨w.heap.size, 1, none⟩ = some (.slice A2 n c2) ∧ w'.cell? ⟨w.heap.size, 2, none⟩ = some (.slice A3 n c3) ∧ w'.cell? ⟨w.heap.size + 1, 0, none⟩ = some (.int .i64 f) ∧ w'.cell? ⟨w.heap.size + 1, 1, none⟩ = some (.int .i64 e))
          (first | exact HS7.out.cells | exact HS6.out.cells | (refine ⟨?_, ?_, ?_, ?_, ?_⟩ <;> (go_simp; done)))
          (first
            | (go_at_call 39; refine (HCA.out _ (H.out.below HS6.out.below)).mono ?_; rintro ex w7 ⟨rfl, hb7⟩; have HS7 := Lib.hid (HS6.out.step hb7); have z7 := HS7.out.g2; have f7 := HS7.out.rf; have q70 := HS7.out.r0; have q71 := HS7.out.r1; have m7 := HS7.out.below; obtain ⟨y70, y71, y72, y73, y74⟩ := HS7.out.cells))
        all_goals go_wp2
        all_goals refine bodyPost_ret (by simp [results, Try.results25, go_sem, *]; try rfl) rfl ?_
        all_goals exact ⟨e, by rw [HN.out], by (repeat' (first | (with_reducible exact Below.refl _ _) | (with_reducible assumption) | (with_reducible exact bundrew (by assumption)) | (with_reducible refine balloc ?_ _) | (with_reducible refine bset ?_ _ ?_ _) | (with_reducible refine Below.drew ?_) | (with_reducible refine bdrewN ?_ _) | (with_reducible refine bvia (by assumption) ?_) | (with_reducible refine Below.trans ?_ (by assumption)) | omega | (simp; omega) | (simp; done)))⟩
      · have ha1 : a < 0 := by omega
        rw [if_neg ha0] at TE
        by_cases hl0 : 0 ≤ l
        · have HN : Hid (nextF us ds cs n f d = l) := Lib.hid ((HS.out.1 (by omega)).trans TE)
          clear TE
          go_wp2_with fail
          refine (HCA.out _ (H.out.below hbl)).mono ?_
          rintro ex w4 ⟨rfl, hb4⟩
          have S4 := HST.out.step hb4
          have HS4 := Lib.hid S4
          have C4 := S4.cells
          clear k0 k1 k2 b0 b1 bf r0 r1 rf S4
          obtain ⟨k0, k1, k2, b0, b1⟩ := C4
          go_wp2_with fail
          refine (HCL.out _ (H.out.below HS4.out.below)).mono ?_
          rintro ex w5 ⟨rfl, hb5⟩
          have S5 := HS4.out.step hb5
          have HS5 := Lib.hid S5
          have HS6 := Lib.hid (S5.drewN 1)
          have C6 := S5.cells
          clear k0 k1 k2 b0 b1 S5
          obtain ⟨k0, k1, k2, b0, b1⟩ := C6
          go_wp2_with fail
          go_region_held3 (fun w' => w'.cell? ⟨w.heap.size, 0, none⟩ = some (.slice A1 n c1) ∧ w'.cell? ⟨w.heap.size, 1, none⟩ = some (.slice A2 n c2) ∧ w'.cell? ⟨w.heap.size, 2, none⟩ = some (.slice A3 n c3) ∧ w'.cell? ⟨w.heap.size + 1, 0, none⟩ = some (.int .i64 f) ∧ w'.cell? ⟨w.heap.size + 1, 1, none⟩ = some (.int .i64 e))
            (first | exact HS7.out.cells | exact HS6.out.cells | (refine ⟨?_, ?_, ?_, ?_, ?_⟩ <;> (go_simp; done)))
            (first
              | (go_at_call 40; refine (HCL.out _ (H.out.below HS6.out.below)).mono ?_; rintro ex w7 ⟨rfl, hb7⟩; have HS7 := Lib.hid (HS6.out.step hb7); have z7 := HS7.out.g2; have f7 := HS7.out.rf; have q70 := HS7.out.r0; have q71 := HS7.out.r1; have m7 := HS7.out.below; obtain ⟨y70, y71, y72, y73, y74⟩ := HS7.out.cells))
          all_goals go_wp2
          all_goals refine bodyPost_ret (by simp [results, Try.results25, go_sem, *]; try rfl) rfl ?_
          all_goals exact ⟨_, by rw [HN.out], by (repeat' (first | (with_reducible exact Below.refl _ _) | (with_reducible assumption) | (with_reducible exact bundrew (by assumption)) | (with_reducible refine balloc ?_ _) | (with_reducible refine bset ?_ _ ?_ _) | (with_reducible refine Below.drew ?_) | (with_reducible refine bdrewN ?_ _) | (with_reducible refine bvia (by assumption) ?_) | (with_reducible refine Below.trans ?_ (by assumption)) | omega | (simp; omega) | (simp; done)))⟩
        · have HN := Lib.hid (HS.out.2 (by omega))
          have hl1 : l < 0 := by omega
          clear TE
          go_wp2_with fail
          refine (HCA.out _ (H.out.below hbl)).mono ?_
          rintro ex w4 ⟨rfl, hb4⟩
          have S4 := HST.out.step hb4
          have HS4 := Lib.hid S4
          have C4 := S4.cells
          clear k0 k1 k2 b0 b1 bf r0 r1 rf S4
          obtain ⟨k0, k1, k2, b0, b1⟩ := C4
          go_wp2_with fail
          refine (HCL.out _ (H.out.below HS4.out.below)).mono ?_
          rintro ex w5 ⟨rfl, hb5⟩
          have S5 := HS4.out.step hb5
          have HS5 := Lib.hid S5
          have bf := S5.bf
          have C6 := S5.cells
          clear k0 k1 k2 b0 b1 S5
          obtain ⟨k0, k1, k2, b0, b1⟩ := C6
          go_wp2
          exact ⟨⟨k + 1, -e, rfl, by omega, by omega, by have := HE.out; omega, .inr HN.out, HS5.out.turn (-e)⟩, by simp only [intOf]; omega⟩
end Go.Proofs.Ytmoifakcjmdghaa
