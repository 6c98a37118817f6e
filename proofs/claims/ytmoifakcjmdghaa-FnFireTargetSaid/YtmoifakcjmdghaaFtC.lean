/- The next stop: plain; l9Ahead, l9Last, callToGo: contracts. -/
import Derived.Test.YtmoifakcjmdghaaFtB
namespace Go.Proofs.Ytmoifakcjmdghaa
open Go.ChangeShapes Go.WideShapes Go.ChangeAt Go.RowKit

/-- A call to go from a floor in a direction. -/
def goB (us ds : List Bool) (d : Int) (k : Nat) : Bool := if d = 1 then us[k]?.getD false else ds[k]?.getD false
def hitB (us ds cs : List Bool) (d : Int) (k : Nat) : Bool := cs[k]?.getD false || goB us ds d k
/-- The first floor ahead at which the car stops. -/
def aheadF (us ds cs : List Bool) (d : Int) : Nat → Int → Int
  | 0, _ => -1
  | m + 1, p => if hitB us ds cs d p.toNat = true then p else aheadF us ds cs d m (p + d)
/-- The last floor ahead with a call to go back. -/
def lastF (us ds : List Bool) (d : Int) : Nat → Int → Int → Int
  | 0, _, a => a
  | m + 1, p, a => lastF us ds d m (p + d) (if goB us ds (-d) p.toNat = true then p else a)
/-- How many floors are left. -/
def leftN (n : Nat) (d p : Int) : Nat := if d = 1 then ((n : Int) - p).toNat else (p + 1).toNat
def RangeP (n : Nat) (d p : Int) : Prop := (d = 1 ∧ 0 ≤ p ∧ p ≤ n) ∨ (d = -1 ∧ -1 ≤ p ∧ p ≤ (n : Int) - 1)
theorem range_in {n : Nat} {d p : Int} (h : RangeP n d p) (h0 : 0 ≤ p) (h1 : p ≤ (n : Int) - 1) : RangeP n d (p + d) ∧ leftN n d p = leftN n d (p + d) + 1 := by
  rcases h with ⟨rfl, h2, h3⟩ | ⟨rfl, h2, h3⟩
  · refine ⟨.inl ⟨rfl, by omega, by omega⟩, ?_⟩
    simp only [leftN, if_true]; omega
  · refine ⟨.inr ⟨rfl, by omega, by omega⟩, ?_⟩
    simp only [leftN, show ¬ ((-1 : Int) = 1) by decide, if_false]; omega
theorem range_out {n : Nat} {d p : Int} (h : RangeP n d p) (h0 : p < 0 ∨ (n : Int) - 1 < p) : leftN n d p = 0 := by
  rcases h with ⟨rfl, h2, h3⟩ | ⟨rfl, h2, h3⟩
  · simp only [leftN, if_true]; omega
  · simp only [leftN, show ¬ ((-1 : Int) = 1) by decide, if_false]; omega
theorem range_start {n : Nat} {d f : Int} (hd : d = 1 ∨ d = -1) (h0 : 0 ≤ f) (h1 : f ≤ (n : Int) - 1) : RangeP n d f := by
  rcases hd with rfl | rfl
  · exact .inl ⟨rfl, h0, by omega⟩
  · exact .inr ⟨rfl, by omega, h1⟩
theorem aheadF_yes {us ds cs : List Bool} {d p : Int} {m : Nat} (h : hitB us ds cs d p.toNat = true) : aheadF us ds cs d (m + 1) p = p := by simp only [aheadF]; rw [if_pos h]
theorem aheadF_no {us ds cs : List Bool} {d p : Int} {m : Nat} (h : hitB us ds cs d p.toNat = false) : aheadF us ds cs d (m + 1) p = aheadF us ds cs d m (p + d) := by simp only [aheadF]; rw [if_neg (by simp [h])]
theorem lastF_yes {us ds : List Bool} {d p a : Int} {m : Nat} (h : goB us ds (-d) p.toNat = true) : lastF us ds d (m + 1) p a = lastF us ds d m (p + d) p := by simp only [lastF]; rw [if_pos h]
theorem lastF_no {us ds : List Bool} {d p a : Int} {m : Nat} (h : goB us ds (-d) p.toNat = false) : lastF us ds d (m + 1) p a = lastF us ds d m (p + d) a := by simp only [lastF]; rw [if_neg (by simp [h])]

set_option maxHeartbeats 1000000 in
theorem go_any (A1 : Option Addr) (n c1 : Nat) (us : List Bool) (A2 : Option Addr) (c2 : Nat) (ds : List Bool) (A3 : Option Addr) (c3 : Nat) (cs : List Bool) (k : Nat) (d : Int) (w : World) (h : BC w A1 n us A2 n ds A3 n cs) (hk : k < n) (hd : d = 1 ∨ d = -1) :
    Calls Try.prog 45 #[.agg #[.slice A1 n c1, .slice A2 n c2, .slice A3 n c3], .int .i64 k, .int .i64 d] w fun e w' => e = .returned (.bool (goB us ds d k)) ∧ Below w.heap.size w w' := by
  obtain ⟨b1, o1, rfl, hb1, q1⟩ := h.u.2.2 (by omega)
  obtain ⟨b2, o2, rfl, hb2, q2⟩ := h.d.2.2 (by omega)
  have e1 := q1 k hk
  have e2 := q2 k hk
  have hk' : (k : Int) < (n : Int) := by omega
  have hb1' : ¬ b1 = w.heap.size := by omega
  have hb2' : ¬ b2 = w.heap.size := by omega
  rcases hd with rfl | rfl
  · have hg : goB us ds 1 k = us[k]?.getD false := rfl
    obtain ⟨x, hx⟩ : ∃ x, us[k]?.getD false = x := ⟨_, rfl⟩
    rw [hx] at e1 hg
    rw [hg]
    clear q1 q2 h hx hg
    go_enter Try.func45, Try.ntmps45
    go_wp2
    go_ret
    exact ⟨rfl, by (repeat' (first | (with_reducible exact Below.refl _ _) | (with_reducible assumption) | (with_reducible exact bundrew (by assumption)) | (with_reducible refine balloc ?_ _) | (with_reducible refine bset ?_ _ ?_ _) | (with_reducible refine Below.drew ?_) | (with_reducible refine bdrewN ?_ _) | (with_reducible refine bvia (by assumption) ?_) | (with_reducible refine Below.trans ?_ (by assumption)) | omega | (simp; omega) | (simp; done)))⟩
  · have hg : goB us ds (-1) k = ds[k]?.getD false := rfl
    obtain ⟨x, hx⟩ : ∃ x, ds[k]?.getD false = x := ⟨_, rfl⟩
    rw [hx] at e2 hg
    rw [hg]
    clear q1 q2 h hx hg
    go_enter Try.func45, Try.ntmps45
    go_wp2
    go_ret
    exact ⟨rfl, by (repeat' (first | (with_reducible exact Below.refl _ _) | (with_reducible assumption) | (with_reducible exact bundrew (by assumption)) | (with_reducible refine balloc ?_ _) | (with_reducible refine bset ?_ _ ?_ _) | (with_reducible refine Below.drew ?_) | (with_reducible refine bdrewN ?_ _) | (with_reducible refine bvia (by assumption) ?_) | (with_reducible refine Below.trans ?_ (by assumption)) | omega | (simp; omega) | (simp; done)))⟩

set_option maxHeartbeats 2000000 in
theorem ahead_any (A1 : Option Addr) (n c1 : Nat) (us : List Bool) (A2 : Option Addr) (c2 : Nat) (ds : List Bool) (A3 : Option Addr) (c3 : Nat) (cs : List Bool) (f d : Int) (w : World) (h : BC w A1 n us A2 n ds A3 n cs) (hn : n ≤ 8) (hf0 : 0 ≤ f) (hf1 : f ≤ (n : Int) - 1) (hd : d = 1 ∨ d = -1) :
    Calls Try.prog 39 #[.agg #[.slice A1 n c1, .slice A2 n c2, .slice A3 n c3], .agg #[.int .i64 f, .int .i64 d]] w fun e w' => e = .returned (.int .i64 (aheadF us ds cs d (leftN n d f) f)) ∧ Below w.heap.size w w' := by
  obtain ⟨b1, o1, rfl, hb1, q1⟩ := h.u.2.2 (by omega)
  obtain ⟨b2, o2, rfl, hb2, q2⟩ := h.d.2.2 (by omega)
  obtain ⟨b3, o3, rfl, hb3, q3⟩ := h.c.2.2 (by omega)
  have Q1 := Lib.hid q1
  have Q2 := Lib.hid q2
  have Q3 := Lib.hid q3
  have hb1' : ¬ b1 = w.heap.size := by omega
  have hb2' : ¬ b2 = w.heap.size := by omega
  have hb3' : ¬ b3 = w.heap.size := by omega
  have hb1'' : ¬ b1 = w.heap.size + 1 := by omega
  have hb2'' : ¬ b2 = w.heap.size + 1 := by omega
  have hb3'' : ¬ b3 = w.heap.size + 1 := by omega
  have hb14 : b1 < w.heap.size + 1 := by omega
  have hb24 : b2 < w.heap.size + 1 := by omega
  have hb34 : b3 < w.heap.size + 1 := by omega
  have hn8 : (n : Int) ≤ 8 := by omega
  have hR := range_start (n := n) hd hf0 hf1
  clear q1 q2 q3 h
  go_enter Try.func39, Try.ntmps39
  go_wp2
  go_loop [5] (fun i => ∃ p, i = .int .i64 p ∧ RangeP n d p ∧ aheadF us ds cs d (leftN n d f) f = aheadF us ds cs d (leftN n d p) p) (fun i => leftN n d (intOf i))
  case atStart => exact ⟨f, rfl, hR, rfl⟩
  case round =>
    clear hR
    obtain ⟨p, rfl, hR, hA⟩ := hrel
    cases hin : inB p 0 ((n : Int) - 1)
    · have h0 := range_out hR (inB_shut (by simp [hin]))
      rw [h0] at hA
      have HA : Hid (aheadF us ds cs d (leftN n d f) f = -1) := Lib.hid hA
      clear hA h0 hR
      go_wp2_with (go_at_call 22; refine (l1In_any _ _ _ _).mono ?_; rintro e w' ⟨rfl, rfl⟩)
      go_ret
      exact ⟨by rw [HA.out]; rfl, by (repeat' (first | (with_reducible exact Below.refl _ _) | (with_reducible assumption) | (with_reducible exact bundrew (by assumption)) | (with_reducible refine balloc ?_ _) | (with_reducible refine bset ?_ _ ?_ _) | (with_reducible refine Below.drew ?_) | (with_reducible refine bdrewN ?_ _) | (with_reducible refine bvia (by assumption) ?_) | (with_reducible refine Below.trans ?_ (by assumption)) | omega | (simp; omega) | (simp; done)))⟩
    · obtain ⟨p0, p1⟩ := inB_open hin
      obtain ⟨r1, r2⟩ := range_in hR p0 p1
      rw [r2] at hA
      obtain ⟨k, rfl⟩ := Int.eq_ofNat_of_zero_le p0
      have hk : k < n := by omega
      have hk' : (k : Int) < (n : Int) := by omega
      have hy := aheadF_yes (us := us) (ds := ds) (cs := cs) (d := d) (p := (k : Int)) (m := leftN n d ((k : Int) + d))
      have hz := aheadF_no (us := us) (ds := ds) (cs := cs) (d := d) (p := (k : Int)) (m := leftN n d ((k : Int) + d))
      rw [Int.toNat_natCast] at hy hz
      have hhit : hitB us ds cs d k = (cs[k]?.getD false || goB us ds d k) := rfl
      have e1 := Q1.out k hk
      have e2 := Q2.out k hk
      have e3 := Q3.out k hk
      obtain ⟨x, hx⟩ : ∃ x, us[k]?.getD false = x := ⟨_, rfl⟩
      obtain ⟨y, hy'⟩ : ∃ y, ds[k]?.getD false = y := ⟨_, rfl⟩
      obtain ⟨z, hz'⟩ : ∃ z, cs[k]?.getD false = z := ⟨_, rfl⟩
      have hg1 : goB us ds 1 k = x := hx
      have hg2 : goB us ds (-1) k = y := hy'
      rw [hx] at e1
      rw [hy'] at e2
      rw [hz'] at e3 hhit
      have HR1 := Lib.hid r1
      have HR2 := Lib.hid r2
      clear hx hy' hz' r1 r2 hR
      rcases hd with rfl | rfl
      · rw [hg1] at hhit
        cases z <;> cases x
        · have HN := Lib.hid (hA.trans (hz hhit))
          clear hA hy hz hhit hg1 hg2
          go_wp2_with (go_at_call 22; refine (l1In_any _ _ _ _).mono ?_; rintro e w' ⟨rfl, rfl⟩)
          exact ⟨⟨_, rfl, HR1.out, HN.out⟩, by have := HR2.out; simp only [intOf]; omega⟩
        all_goals
          have HN := Lib.hid (hA.trans (hy hhit))
          clear hA hy hz hhit hg1 hg2
          go_wp2_with (go_at_call 22; refine (l1In_any _ _ _ _).mono ?_; rintro e w' ⟨rfl, rfl⟩)
          go_ret
          exact ⟨by rw [HN.out]; rfl, by (repeat' (first | (with_reducible exact Below.refl _ _) | (with_reducible assumption) | (with_reducible exact bundrew (by assumption)) | (with_reducible refine balloc ?_ _) | (with_reducible refine bset ?_ _ ?_ _) | (with_reducible refine Below.drew ?_) | (with_reducible refine bdrewN ?_ _) | (with_reducible refine bvia (by assumption) ?_) | (with_reducible refine Below.trans ?_ (by assumption)) | omega | (simp; omega) | (simp; done)))⟩
      · rw [hg2] at hhit
        cases z <;> cases y
        · have HN := Lib.hid (hA.trans (hz hhit))
          clear hA hy hz hhit hg1 hg2
          go_wp2_with (go_at_call 22; refine (l1In_any _ _ _ _).mono ?_; rintro e w' ⟨rfl, rfl⟩)
          exact ⟨⟨_, rfl, HR1.out, HN.out⟩, by have := HR2.out; simp only [intOf]; omega⟩
        all_goals
          have HN := Lib.hid (hA.trans (hy hhit))
          clear hA hy hz hhit hg1 hg2
          go_wp2_with (go_at_call 22; refine (l1In_any _ _ _ _).mono ?_; rintro e w' ⟨rfl, rfl⟩)
          go_ret
          exact ⟨by rw [HN.out]; rfl, by (repeat' (first | (with_reducible exact Below.refl _ _) | (with_reducible assumption) | (with_reducible exact bundrew (by assumption)) | (with_reducible refine balloc ?_ _) | (with_reducible refine bset ?_ _ ?_ _) | (with_reducible refine Below.drew ?_) | (with_reducible refine bdrewN ?_ _) | (with_reducible refine bvia (by assumption) ?_) | (with_reducible refine Below.trans ?_ (by assumption)) | omega | (simp; omega) | (simp; done)))⟩

set_option maxHeartbeats 2000000 in
theorem last_any (A1 : Option Addr) (n c1 : Nat) (us : List Bool) (A2 : Option Addr) (c2 : Nat) (ds : List Bool) (A3 : Option Addr) (c3 : Nat) (cs : List Bool) (f d : Int) (w : World) (h : BC w A1 n us A2 n ds A3 n cs) (hn : n ≤ 8) (hf0 : 0 ≤ f) (hf1 : f ≤ (n : Int) - 1) (hd : d = 1 ∨ d = -1) :
    Calls Try.prog 40 #[.agg #[.slice A1 n c1, .slice A2 n c2, .slice A3 n c3], .agg #[.int .i64 f, .int .i64 d]] w fun e w' => e = .returned (.int .i64 (lastF us ds d (leftN n d f) f (-1))) ∧ Below w.heap.size w w' := by
  obtain ⟨b1, o1, rfl, hb1, q1⟩ := h.u.2.2 (by omega)
  obtain ⟨b2, o2, rfl, hb2, q2⟩ := h.d.2.2 (by omega)
  have Q1 := Lib.hid q1
  have Q2 := Lib.hid q2
  have hb1' : ¬ b1 = w.heap.size := by omega
  have hb2' : ¬ b2 = w.heap.size := by omega
  have hb1'' : ¬ b1 = w.heap.size + 1 := by omega
  have hb2'' : ¬ b2 = w.heap.size + 1 := by omega
  have hb14 : b1 < w.heap.size + 1 := by omega
  have hb24 : b2 < w.heap.size + 1 := by omega
  have hn8 : (n : Int) ≤ 8 := by omega
  have hR := range_start (n := n) hd hf0 hf1
  clear q1 q2 h
  go_enter Try.func40, Try.ntmps40
  go_wp2
  go_loop [5, 6] (fun o i => ∃ p a, i = .int .i64 p ∧ o = .int .i64 a ∧ RangeP n d p ∧ lastF us ds d (leftN n d f) f (-1) = lastF us ds d (leftN n d p) p a) (fun _ i => leftN n d (intOf i))
  case atStart => exact ⟨f, -1, rfl, rfl, hR, rfl⟩
  case round =>
    clear hR
    obtain ⟨p, a, rfl, rfl, hR, hA⟩ := hrel
    cases hin : inB p 0 ((n : Int) - 1)
    · have h0 := range_out hR (inB_shut (by simp [hin]))
      rw [h0] at hA
      have HA : Hid (lastF us ds d (leftN n d f) f (-1) = a) := Lib.hid hA
      clear hA h0 hR
      go_wp2_with (go_at_call 22; refine (l1In_any _ _ _ _).mono ?_; rintro e w' ⟨rfl, rfl⟩)
      go_ret
      exact ⟨by rw [HA.out]; rfl, by (repeat' (first | (with_reducible exact Below.refl _ _) | (with_reducible assumption) | (with_reducible exact bundrew (by assumption)) | (with_reducible refine balloc ?_ _) | (with_reducible refine bset ?_ _ ?_ _) | (with_reducible refine Below.drew ?_) | (with_reducible refine bdrewN ?_ _) | (with_reducible refine bvia (by assumption) ?_) | (with_reducible refine Below.trans ?_ (by assumption)) | omega | (simp; omega) | (simp; done)))⟩
    · obtain ⟨p0, p1⟩ := inB_open hin
      obtain ⟨r1, r2⟩ := range_in hR p0 p1
      rw [r2] at hA
      obtain ⟨k, rfl⟩ := Int.eq_ofNat_of_zero_le p0
      have hk : k < n := by omega
      have hk' : (k : Int) < (n : Int) := by omega
      have hy := lastF_yes (us := us) (ds := ds) (d := d) (p := (k : Int)) (a := a) (m := leftN n d ((k : Int) + d))
      have hz := lastF_no (us := us) (ds := ds) (d := d) (p := (k : Int)) (a := a) (m := leftN n d ((k : Int) + d))
      rw [Int.toNat_natCast] at hy hz
      have e1 := Q1.out k hk
      have e2 := Q2.out k hk
      obtain ⟨x, hx⟩ : ∃ x, us[k]?.getD false = x := ⟨_, rfl⟩
      obtain ⟨y, hy'⟩ : ∃ y, ds[k]?.getD false = y := ⟨_, rfl⟩
      have hg1 : goB us ds (- -1) k = x := hx
      have hg2 : goB us ds (-1) k = y := hy'
      rw [hx] at e1
      rw [hy'] at e2
      have HR1 := Lib.hid r1
      have HR2 := Lib.hid r2
      clear hx hy' r1 r2 hR
      rcases hd with rfl | rfl
      · rw [hg2] at hy hz
        cases y
        · have HN := Lib.hid (hA.trans (hz rfl))
          clear hA hy hz hg1 hg2
          go_wp2_with (go_at_call 22; refine (l1In_any _ _ _ _).mono ?_; rintro e w' ⟨rfl, rfl⟩)
          exact ⟨⟨_, _, rfl, rfl, HR1.out, HN.out⟩, by have := HR2.out; simp only [intOf]; omega⟩
        · have HN := Lib.hid (hA.trans (hy rfl))
          clear hA hy hz hg1 hg2
          go_wp2_with (go_at_call 22; refine (l1In_any _ _ _ _).mono ?_; rintro e w' ⟨rfl, rfl⟩)
          exact ⟨⟨_, _, rfl, rfl, HR1.out, HN.out⟩, by have := HR2.out; simp only [intOf]; omega⟩
      · rw [hg1] at hy hz
        cases x
        · have HN := Lib.hid (hA.trans (hz rfl))
          clear hA hy hz hg1 hg2
          go_wp2_with (go_at_call 22; refine (l1In_any _ _ _ _).mono ?_; rintro e w' ⟨rfl, rfl⟩)
          exact ⟨⟨_, _, rfl, rfl, HR1.out, HN.out⟩, by have := HR2.out; simp only [intOf]; omega⟩
        · have HN := Lib.hid (hA.trans (hy rfl))
          clear hA hy hz hg1 hg2
          go_wp2_with (go_at_call 22; refine (l1In_any _ _ _ _).mono ?_; rintro e w' ⟨rfl, rfl⟩)
          exact ⟨⟨_, _, rfl, rfl, HR1.out, HN.out⟩, by have := HR2.out; simp only [intOf]; omega⟩
end Go.Proofs.Ytmoifakcjmdghaa
