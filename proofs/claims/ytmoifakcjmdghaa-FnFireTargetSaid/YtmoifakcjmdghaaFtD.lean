/- stopToward of the program: contract. -/
import Derived.Test.YtmoifakcjmdghaaFtC
namespace Go.Proofs.Ytmoifakcjmdghaa
open Go.ChangeShapes Go.WideShapes Go.ChangeAt Go.RowKit

theorem noStop_any (w : World) : Calls Try.prog 36 #[] w fun e w' => e = .returned (.agg #[.int .i64 (-1), .int .i64 0]) ∧ Below w.heap.size w w' := by
  go_enter Try.func36, Try.ntmps36
  go_wp2
  refine bodyPost_ret (by simp [results, Try.results36, go_sem, *]; try rfl) rfl ?_
  exact ⟨rfl, by (repeat' (first | (with_reducible exact Below.refl _ _) | (with_reducible assumption) | (with_reducible exact bundrew (by assumption)) | (with_reducible refine balloc ?_ _) | (with_reducible refine bset ?_ _ ?_ _) | (with_reducible refine Below.drew ?_) | (with_reducible refine bdrewN ?_ _) | (with_reducible refine bvia (by assumption) ?_) | (with_reducible refine Below.trans ?_ (by assumption)) | omega | (simp; omega) | (simp; done)))⟩

/-- What the loop of stopToward holds: the calls, the result's cells, the farthest stop to go back. -/
structure TwSt (w wr : World) (g : Nat) (s1 s2 s3 : Value) (B D : Int) : Prop where
  c0 : wr.cell? ⟨w.heap.size, 0, none⟩ = some s1
  c1 : wr.cell? ⟨w.heap.size, 1, none⟩ = some s2
  c2 : wr.cell? ⟨w.heap.size, 2, none⟩ = some s3
  r0 : wr.cell? ⟨w.heap.size + 1, 0, none⟩ = some (.int .i64 0)
  r1 : wr.cell? ⟨w.heap.size + 1, 1, none⟩ = some (.int .i64 0)
  rf : ∀ o, wr.frozen? ⟨w.heap.size + 1, o, none⟩ = false
  b0 : wr.cell? ⟨g, 0, none⟩ = some (.int .i64 B)
  b1 : wr.cell? ⟨g, 1, none⟩ = some (.int .i64 D)
  bf : ∀ o, wr.frozen? ⟨g, o, none⟩ = false
  below : Below w.heap.size w wr
  g1 : w.heap.size + 1 < g
  g2 : g < wr.heap.size
theorem TwSt.step {w wr w' : World} {g : Nat} {s1 s2 s3 : Value} {B D : Int} (h : TwSt w wr g s1 s2 s3 B D) (hb : Below wr.heap.size wr w') : TwSt w w' g s1 s2 s3 B D := by
  have e1 := h.g1
  have e2 := h.g2
  exact ⟨(hb.cell (p := ⟨w.heap.size, 0, none⟩) (by simp; omega)).trans h.c0, (hb.cell (p := ⟨w.heap.size, 1, none⟩) (by simp; omega)).trans h.c1, (hb.cell (p := ⟨w.heap.size, 2, none⟩) (by simp; omega)).trans h.c2,
    (hb.cell (p := ⟨w.heap.size + 1, 0, none⟩) (by simp; omega)).trans h.r0, (hb.cell (p := ⟨w.heap.size + 1, 1, none⟩) (by simp; omega)).trans h.r1, fun o => (hb.frozen (p := ⟨w.heap.size + 1, o, none⟩) (by simp; omega)).trans (h.rf o),
    (hb.cell (p := ⟨g, 0, none⟩) e2).trans h.b0, (hb.cell (p := ⟨g, 1, none⟩) e2).trans h.b1, fun o => (hb.frozen (p := ⟨g, o, none⟩) e2).trans (h.bf o), bvia hb h.below, e1, Nat.lt_of_lt_of_le e2 hb.size⟩

theorem TwSt.store {w wr : World} {g : Nat} {s1 s2 s3 : Value} {B D x y : Int} (h : TwSt w wr g s1 s2 s3 B D) : TwSt w ((wr.setCell ⟨g, 0, none⟩ (.int .i64 x)).setCell ⟨g, 1, none⟩ (.int .i64 y)) g s1 s2 s3 x y := by
  obtain ⟨k0, k1, k2, r0, r1, rf, b0, b1, bf, hbl, g1, g2⟩ := h
  have x1 : ¬ g = w.heap.size := by omega
  have x2 : ¬ g = w.heap.size + 1 := by omega
  have x3 : ¬ w.heap.size = g := by omega
  have x4 : ¬ w.heap.size + 1 = g := by omega
  exact ⟨by go_simp, by go_simp, by go_simp, by go_simp, by go_simp, fun o => by go_simp, by go_simp, by go_simp, fun o => by go_simp, bset (bset hbl _ (by simp; omega) _) _ (by simp; omega) _, g1, by simpa using g2⟩

/-- The floor that stopToward tells. -/
def towardF (us ds cs : List Bool) (n : Nat) (f d : Int) : Int := if 0 ≤ aheadF us ds cs d (leftN n d f) f then aheadF us ds cs d (leftN n d f) f else lastF us ds d (leftN n d f) f (-1)
theorem towardF_ahead {us ds cs : List Bool} {n : Nat} {f d : Int} {k : Nat} (h : aheadF us ds cs d (leftN n d f) f = (k : Int)) : towardF us ds cs n f d = (k : Int) := by unfold towardF; rw [h, if_pos (by omega)]
theorem towardF_last {us ds cs : List Bool} {n : Nat} {f d a : Int} (h : aheadF us ds cs d (leftN n d f) f = -1) (h2 : lastF us ds d (leftN n d f) f (-1) = a) : towardF us ds cs n f d = a := by unfold towardF; rw [h, if_neg (by omega), h2]
/-- A stop at a floor; old memory as it was. -/
def StopAt (w : World) (x : Int) (e : Ending) (w' : World) : Prop := ∃ y : Int, e = .returned (.agg #[.int .i64 x, .int .i64 y]) ∧ Below w.heap.size w w'

set_option maxRecDepth 100000 in
set_option maxHeartbeats 4000000 in
theorem toward_any (A1 : Option Addr) (n c1 : Nat) (us : List Bool) (A2 : Option Addr) (c2 : Nat) (ds : List Bool) (A3 : Option Addr) (c3 : Nat) (cs : List Bool) (f d : Int) (w : World) (h : BC w A1 n us A2 n ds A3 n cs) (hn : n ≤ 8) (hf0 : 0 ≤ f) (hf1 : f ≤ (n : Int) - 1) (hd : d = 1 ∨ d = -1) :
    Calls Try.prog 37 #[.agg #[.slice A1 n c1, .slice A2 n c2, .slice A3 n c3], .int .i64 f, .int .i64 d] w (StopAt w (towardF us ds cs n f d)) := by
  have H := Lib.hid h
  have hn8 : (n : Int) ≤ 8 := by omega
  have hR := range_start (n := n) hd hf0 hf1
  have HGO : Hid (∀ (k : Nat) (d : Int) (w' : World), Below w.heap.size w w' → k < n → (d = 1 ∨ d = -1) → Calls Try.prog 45 #[.agg #[.slice A1 n c1, .slice A2 n c2, .slice A3 n c3], .int .i64 k, .int .i64 d] w' fun e w'' => e = .returned (.bool (goB us ds d k)) ∧ Below w'.heap.size w' w'') := Lib.hid fun k d w' hb hk hd => go_any A1 n c1 us A2 c2 ds A3 c3 cs k d w' (h.below hb) hk hd
  have HA1 := Lib.hid (fun k (e : aheadF us ds cs d (leftN n d f) f = ((k : Nat) : Int)) => towardF_ahead e)
  have HA2 := Lib.hid (fun a (e : aheadF us ds cs d (leftN n d f) f = -1) (e2 : lastF us ds d (leftN n d f) f (-1) = a) => towardF_last e e2)
  clear h
  go_enter Try.func37, Try.ntmps37
  go_wp2_with fail
  refine (noStop_any _).mono ?_
  rintro e w1 ⟨rfl, hb1⟩
  obtain ⟨m1, m2, -, -, -, m6⟩ := bfacts5 hb1
  simp at m6
  obtain ⟨W, hW⟩ : ∃ W : World, W = w1.alloc (.cells #[.int .i64 (-1), .int .i64 0] 36) := ⟨_, rfl⟩
  have ST : TwSt w W w1.heap.size (.slice A1 n c1) (.slice A2 n c2) (.slice A3 n c3) (-1) 0 := by
    rw [hW]
    have q0 : w.heap.size < w1.heap.size := by omega
    have q1 : w.heap.size + 1 < w1.heap.size := by omega
    have k0 : w1.cell? ⟨w.heap.size, 0, none⟩ = some (.slice A1 n c1) := by rw [m1 _ _ (by simp; omega)]; go_simp
    have k1 : w1.cell? ⟨w.heap.size, 1, none⟩ = some (.slice A2 n c2) := by rw [m1 _ _ (by simp; omega)]; go_simp
    have k2 : w1.cell? ⟨w.heap.size, 2, none⟩ = some (.slice A3 n c3) := by rw [m1 _ _ (by simp; omega)]; go_simp
    have k3 : w1.cell? ⟨w.heap.size + 1, 0, none⟩ = some (.int .i64 0) := by rw [m1 _ _ (by simp)]; go_simp
    have k4 : w1.cell? ⟨w.heap.size + 1, 1, none⟩ = some (.int .i64 0) := by rw [m1 _ _ (by simp)]; go_simp
    have k5 : ∀ o, w1.frozen? ⟨w.heap.size + 1, o, none⟩ = false := fun o => by rw [m2 _ _ (by simp)]; go_simp
    have hx : Below w.heap.size w w1 := by (repeat' (first | (with_reducible exact Below.refl _ _) | (with_reducible assumption) | (with_reducible exact bundrew (by assumption)) | (with_reducible refine balloc ?_ _) | (with_reducible refine bset ?_ _ ?_ _) | (with_reducible refine Below.drew ?_) | (with_reducible refine bdrewN ?_ _) | (with_reducible refine bvia (by assumption) ?_) | (with_reducible refine Below.trans ?_ (by assumption)) | omega | (simp; omega) | (simp; done)))
    exact ⟨by go_simp, by go_simp, by go_simp, by go_simp, by go_simp, fun o => by go_simp, by go_simp, by go_simp, fun o => by go_simp, hx.alloc hx.size _, q1, by simp⟩
  go_wp2_with fail
  rw [← hW]
  clear hW m1 m2 hb1
  obtain ⟨g, hg⟩ : ∃ g, w1.heap.size = g := ⟨_, rfl⟩
  rw [hg] at ST ⊢
  clear hg m6
  go_loopw [8] (fun i wr => ∃ p B D, i = .int .i64 p ∧ RangeP n d p ∧ aheadF us ds cs d (leftN n d f) f = aheadF us ds cs d (leftN n d p) p ∧ lastF us ds d (leftN n d f) f (-1) = lastF us ds d (leftN n d p) p B ∧ TwSt w wr g (.slice A1 n c1) (.slice A2 n c2) (.slice A3 n c3) B D) (fun i _ => leftN n d (intOf i))
  case atStart => exact ⟨f, -1, 0, rfl, hR, rfl, rfl, ST⟩
  case round =>
    clear hR ST
    obtain ⟨p, B, D, rfl, hR, hA, hL, ST⟩ := hrel
    have HST := Lib.hid ST
    obtain ⟨k0, k1, k2, r0, r1, rf, b0, b1, bf, hbl, g1, g2⟩ := ST
    have x1 : ¬ g = w.heap.size := by omega
    have x2 : ¬ g = w.heap.size + 1 := by omega
    have x3 : ¬ w.heap.size = g := by omega
    have x4 : ¬ w.heap.size + 1 = g := by omega
    have x5 : w.heap.size < wr.heap.size := by omega
    have x6 : w.heap.size + 1 < wr.heap.size := by omega
    cases hin : inB p 0 ((n : Int) - 1)
    · have h0 := range_out hR (inB_shut (by simp [hin]))
      rw [h0] at hA hL
      have HT := Lib.hid (HA2.out B hA hL)
      clear hA hL h0 hR
      go_wp2_with (go_at_call 29; refine (isFloor_any _ _ _).mono ?_; rintro e w' ⟨rfl, rfl⟩)
      refine bodyPost_ret (by simp [results, Try.results37, go_sem, *]; try rfl) rfl ?_
      exact ⟨D, by rw [HT.out], by (repeat' (first | (with_reducible exact Below.refl _ _) | (with_reducible assumption) | (with_reducible exact bundrew (by assumption)) | (with_reducible refine balloc ?_ _) | (with_reducible refine bset ?_ _ ?_ _) | (with_reducible refine Below.drew ?_) | (with_reducible refine bdrewN ?_ _) | (with_reducible refine bvia (by assumption) ?_) | (with_reducible refine Below.trans ?_ (by assumption)) | omega | (simp; omega) | (simp; done)))⟩
    · obtain ⟨p0, p1⟩ := inB_open hin
      obtain ⟨rr1, rr2⟩ := range_in hR p0 p1
      rw [rr2] at hA hL
      obtain ⟨k, rfl⟩ := Int.eq_ofNat_of_zero_le p0
      have hk : k < n := by omega
      have hk' : (k : Int) < (n : Int) := by omega
      have hy := aheadF_yes (us := us) (ds := ds) (cs := cs) (d := d) (p := (k : Int)) (m := leftN n d ((k : Int) + d))
      have hz := aheadF_no (us := us) (ds := ds) (cs := cs) (d := d) (p := (k : Int)) (m := leftN n d ((k : Int) + d))
      have ly := lastF_yes (us := us) (ds := ds) (d := d) (p := (k : Int)) (a := B) (m := leftN n d ((k : Int) + d))
      have lz := lastF_no (us := us) (ds := ds) (d := d) (p := (k : Int)) (a := B) (m := leftN n d ((k : Int) + d))
      rw [Int.toNat_natCast] at hy hz ly lz
      have hhit : hitB us ds cs d k = (cs[k]?.getD false || goB us ds d k) := rfl
      obtain ⟨b3, o3, rfl, hb3, q3⟩ := (H.out.below hbl).c.2.2 (by omega)
      have e3 := q3 k hk
      obtain ⟨z, hz'⟩ : ∃ z, cs[k]?.getD false = z := ⟨_, rfl⟩
      rw [hz'] at e3 hhit
      have HR1 := Lib.hid rr1
      have HR2 := Lib.hid rr2
      clear hz' rr1 rr2 hR q3
      cases z
      · obtain ⟨x, hx⟩ : ∃ x, goB us ds d k = x := ⟨_, rfl⟩
        have C1 := HGO.out k d wr hbl hk hd
        rw [hx] at C1 hhit
        cases x
        · have HN := Lib.hid (hA.trans (hz hhit))
          obtain ⟨y, hyy⟩ : ∃ y, goB us ds (-d) k = y := ⟨_, rfl⟩
          rw [hyy] at ly lz
          have C2 : ∀ w', Below wr.heap.size wr w' → Calls Try.prog 45 #[.agg #[.slice A1 n c1, .slice A2 n c2, .slice (some ⟨b3, o3, none⟩) n c3], .int .i64 k, .int .i64 (-d)] w' fun e w'' => e = .returned (.bool y) ∧ Below w'.heap.size w' w'' := fun w' hb => by
            have := HGO.out k (-d) w' (bvia hb hbl) hk (by omega)
            rwa [hyy] at this
          have HC2 := Lib.hid C2
          clear hA hy hz hhit hx C2 hyy
          go_wp2_with (go_at_call 29; refine (isFloor_any _ _ _).mono ?_; rintro e w' ⟨rfl, rfl⟩)
          refine C1.mono ?_
          rintro e w5 ⟨rfl, hb5⟩
          have S5 := HST.out.step hb5
          have HS5 := Lib.hid S5
          obtain ⟨kk0, kk1, kk2, rr0, rr1, rrf, bb0, bb1, bbf, hbl5, gg1, gg2⟩ := S5
          have C6 := HC2.out w5 hb5
          clear k0 k1 k2 r0 r1 rf b0 b1 bf e3
          rcases hd with rfl | rfl
          · cases y
            · have HL := Lib.hid (hL.trans (lz rfl))
              clear hL ly lz
              go_wp2_with fail
              refine C6.mono ?_
              rintro e w6 ⟨rfl, hb6⟩
              have S6 := HS5.out.step hb6
              go_wp2
              exact ⟨⟨_, B, D, rfl, HR1.out, HN.out, HL.out, S6⟩, by have := HR2.out; simp only [intOf]; omega⟩
            · have HL := Lib.hid (hL.trans (ly rfl))
              clear hL ly lz
              go_wp2_with fail
              refine C6.mono ?_
              rintro e w6 ⟨rfl, hb6⟩
              have S6 := HS5.out.step hb6
              have HS6 := Lib.hid S6
              obtain ⟨kx0, kx1, kx2, rx0, rx1, rxf, bx0, bx1, bxf, hbl6, gx1, gx2⟩ := S6
              go_wp2
              exact ⟨⟨_, (k : Int), -1, rfl, HR1.out, HN.out, HL.out, HS6.out.store⟩, by have := HR2.out; simp only [intOf]; omega⟩
          · cases y
            · have HL := Lib.hid (hL.trans (lz rfl))
              clear hL ly lz
              go_wp2_with fail
              refine C6.mono ?_
              rintro e w6 ⟨rfl, hb6⟩
              have S6 := HS5.out.step hb6
              go_wp2
              exact ⟨⟨_, B, D, rfl, HR1.out, HN.out, HL.out, S6⟩, by have := HR2.out; simp only [intOf]; omega⟩
            · have HL := Lib.hid (hL.trans (ly rfl))
              clear hL ly lz
              go_wp2_with fail
              refine C6.mono ?_
              rintro e w6 ⟨rfl, hb6⟩
              have S6 := HS5.out.step hb6
              have HS6 := Lib.hid S6
              obtain ⟨kx0, kx1, kx2, rx0, rx1, rxf, bx0, bx1, bxf, hbl6, gx1, gx2⟩ := S6
              go_wp2
              exact ⟨⟨_, (k : Int), 1, rfl, HR1.out, HN.out, HL.out, HS6.out.store⟩, by have := HR2.out; simp only [intOf]; omega⟩
        · have HN := Lib.hid (HA1.out k (hA.trans (hy hhit)))
          clear hA hy hz hhit hx hL ly lz
          go_wp2_with (go_at_call 29; refine (isFloor_any _ _ _).mono ?_; rintro e w' ⟨rfl, rfl⟩)
          refine C1.mono ?_
          rintro e w5 ⟨rfl, hb5⟩
          obtain ⟨kk0, kk1, kk2, rr0, rr1, rrf, bb0, bb1, bbf, hbl5, gg1, gg2⟩ := HST.out.step hb5
          clear k0 k1 k2 r0 r1 rf b0 b1 bf
          go_wp2
          refine bodyPost_ret (by simp [results, Try.results37, go_sem, *]; try rfl) rfl ?_
          exact ⟨d, by rw [HN.out], by (repeat' (first | (with_reducible exact Below.refl _ _) | (with_reducible assumption) | (with_reducible exact bundrew (by assumption)) | (with_reducible refine balloc ?_ _) | (with_reducible refine bset ?_ _ ?_ _) | (with_reducible refine Below.drew ?_) | (with_reducible refine bdrewN ?_ _) | (with_reducible refine bvia (by assumption) ?_) | (with_reducible refine Below.trans ?_ (by assumption)) | omega | (simp; omega) | (simp; done)))⟩
      · have HN := Lib.hid (HA1.out k (hA.trans (hy hhit)))
        clear hA hy hz hhit hL ly lz
        go_wp2_with (go_at_call 29; refine (isFloor_any _ _ _).mono ?_; rintro e w' ⟨rfl, rfl⟩)
        refine bodyPost_ret (by simp [results, Try.results37, go_sem, *]; try rfl) rfl ?_
        exact ⟨d, by rw [HN.out], by (repeat' (first | (with_reducible exact Below.refl _ _) | (with_reducible assumption) | (with_reducible exact bundrew (by assumption)) | (with_reducible refine balloc ?_ _) | (with_reducible refine bset ?_ _ ?_ _) | (with_reducible refine Below.drew ?_) | (with_reducible refine bdrewN ?_ _) | (with_reducible refine bvia (by assumption) ?_) | (with_reducible refine Below.trans ?_ (by assumption)) | omega | (simp; omega) | (simp; done)))⟩
end Go.Proofs.Ytmoifakcjmdghaa
