/- The plans of the waits: better, firstPlans: contracts. -/
import Derived.Test.YtbjnkjookokjaaaWaitE
import Derived.Test.YtbjnkjookokjaaaQTail
import Derived.Deep.RegionWith
import Derived.Deep.RegionHeld3
namespace Go.Proofs.Ytbjnkjookokjaaa
open Go.ChangeShapes Go.WideShapes Go.ChangeAt Go.RowKit

/-- Whether a plan is better than another one. -/
def betB (k1 : Bool) (c1 s1 : Int) (k2 : Bool) (c2 s2 : Int) : Bool := k1 && (!k2 || decide (c1 < c2) || (decide (c1 = c2) && decide (s1 < s2)))
set_option maxHeartbeats 1000000 in
theorem better_any (k1 : Bool) (c1 s1 : Int) (k2 : Bool) (c2 s2 : Int) (w : World) :
    Calls Try.prog 48 #[.agg #[.bool k1, .int .i64 c1, .int .i64 s1], .agg #[.bool k2, .int .i64 c2, .int .i64 s2]] w fun e w' => e = .returned (.bool (betB k1 c1 s1 k2 c2 s2)) ∧ Below w.heap.size w w' := by
  cases k1 <;> cases k2
  · go_enter Try.func48, Try.ntmps48
    go_wp2
    go_ret
    exact ⟨rfl, by (repeat' (first | (with_reducible exact Below.refl _ _) | (with_reducible assumption) | (with_reducible exact bundrew (by assumption)) | (with_reducible refine balloc ?_ _) | (with_reducible refine bset ?_ _ ?_ _) | (with_reducible refine Below.drew ?_) | (with_reducible refine bdrewN ?_ _) | (with_reducible refine bvia (by assumption) ?_) | (with_reducible refine Below.trans ?_ (by assumption)) | omega | (simp; omega) | (simp; done)))⟩
  · go_enter Try.func48, Try.ntmps48
    go_wp2
    go_ret
    exact ⟨rfl, by (repeat' (first | (with_reducible exact Below.refl _ _) | (with_reducible assumption) | (with_reducible exact bundrew (by assumption)) | (with_reducible refine balloc ?_ _) | (with_reducible refine bset ?_ _ ?_ _) | (with_reducible refine Below.drew ?_) | (with_reducible refine bdrewN ?_ _) | (with_reducible refine bvia (by assumption) ?_) | (with_reducible refine Below.trans ?_ (by assumption)) | omega | (simp; omega) | (simp; done)))⟩
  · go_enter Try.func48, Try.ntmps48
    go_wp2
    go_ret
    exact ⟨rfl, by (repeat' (first | (with_reducible exact Below.refl _ _) | (with_reducible assumption) | (with_reducible exact bundrew (by assumption)) | (with_reducible refine balloc ?_ _) | (with_reducible refine bset ?_ _ ?_ _) | (with_reducible refine Below.drew ?_) | (with_reducible refine bdrewN ?_ _) | (with_reducible refine bvia (by assumption) ?_) | (with_reducible refine Below.trans ?_ (by assumption)) | omega | (simp; omega) | (simp; done)))⟩
  · rcases (show c1 < c2 ∨ c1 = c2 ∧ s1 < s2 ∨ c1 = c2 ∧ s2 ≤ s1 ∨ c2 < c1 by omega) with h | ⟨rfl, h⟩ | ⟨rfl, h⟩ | h
    · have hb : betB true c1 s1 true c2 s2 = true := by simp [betB, h]
      rw [hb]
      go_enter Try.func48, Try.ntmps48
      go_wp2
      go_ret
      exact ⟨rfl, by (repeat' (first | (with_reducible exact Below.refl _ _) | (with_reducible assumption) | (with_reducible exact bundrew (by assumption)) | (with_reducible refine balloc ?_ _) | (with_reducible refine bset ?_ _ ?_ _) | (with_reducible refine Below.drew ?_) | (with_reducible refine bdrewN ?_ _) | (with_reducible refine bvia (by assumption) ?_) | (with_reducible refine Below.trans ?_ (by assumption)) | omega | (simp; omega) | (simp; done)))⟩
    · have hb : betB true c1 s1 true c1 s2 = true := by simp [betB, h]
      rw [hb]
      go_enter Try.func48, Try.ntmps48
      go_wp2
      go_ret
      exact ⟨rfl, by (repeat' (first | (with_reducible exact Below.refl _ _) | (with_reducible assumption) | (with_reducible exact bundrew (by assumption)) | (with_reducible refine balloc ?_ _) | (with_reducible refine bset ?_ _ ?_ _) | (with_reducible refine Below.drew ?_) | (with_reducible refine bdrewN ?_ _) | (with_reducible refine bvia (by assumption) ?_) | (with_reducible refine Below.trans ?_ (by assumption)) | omega | (simp; omega) | (simp; done)))⟩
    · have hb : betB true c1 s1 true c1 s2 = false := by simp [betB]; omega
      have hd : decide (s1 < s2) = false := by simpa using h
      have hd2 : decide (c1 < c1) = false := by simp
      rw [hb]
      go_enter Try.func48, Try.ntmps48
      go_wp2
      go_ret
      exact ⟨rfl, by (repeat' (first | (with_reducible exact Below.refl _ _) | (with_reducible assumption) | (with_reducible exact bundrew (by assumption)) | (with_reducible refine balloc ?_ _) | (with_reducible refine bset ?_ _ ?_ _) | (with_reducible refine Below.drew ?_) | (with_reducible refine bdrewN ?_ _) | (with_reducible refine bvia (by assumption) ?_) | (with_reducible refine Below.trans ?_ (by assumption)) | omega | (simp; omega) | (simp; done)))⟩
    · have hb : betB true c1 s1 true c2 s2 = false := by simp [betB]; omega
      have e1 : (c1 == c2) = false := by rw [beq_eq_false_iff_ne]; omega
      have hd : decide (c1 < c2) = false := by simp; omega
      rw [hb]
      go_enter Try.func48, Try.ntmps48
      go_wp2
      go_ret
      exact ⟨rfl, by (repeat' (first | (with_reducible exact Below.refl _ _) | (with_reducible assumption) | (with_reducible exact bundrew (by assumption)) | (with_reducible refine balloc ?_ _) | (with_reducible refine bset ?_ _ ?_ _) | (with_reducible refine Below.drew ?_) | (with_reducible refine bdrewN ?_ _) | (with_reducible refine bvia (by assumption) ?_) | (with_reducible refine Below.trans ?_ (by assumption)) | omega | (simp; omega) | (simp; done)))⟩

/-- A plan's cost and number. -/
def pc (o : Option (Int × Nat)) : Int := (o.map (·.1)).getD 0
def ps (o : Option (Int × Nat)) : Nat := (o.map (·.2)).getD 0
theorem pick_yes {o p : Option (Int × Nat)} (h : betB p.isSome (pc p) (ps p) o.isSome (pc o) (ps o) = true) : WP.pick o p = p := by
  cases p with
  | none => simp [betB] at h
  | some a =>
    cases o with
    | none => rfl
    | some b =>
      change (true && (!true || decide (a.1 < b.1) || (decide (a.1 = b.1) && decide ((a.2 : Int) < (b.2 : Int))))) = true at h
      simp only [Bool.true_and, Bool.not_true, Bool.false_or, Bool.or_eq_true, Bool.and_eq_true, decide_eq_true_eq] at h
      show (if WP.lt a b = true then some a else some b) = some a
      rw [if_pos (by simp only [WP.lt, decide_eq_true_eq]; omega)]
theorem pick_no {o p : Option (Int × Nat)} (h : betB p.isSome (pc p) (ps p) o.isSome (pc o) (ps o) = false) : WP.pick o p = o := by
  cases p with
  | none => cases o <;> rfl
  | some a =>
    cases o with
    | none => simp [betB] at h
    | some b =>
      have h' : ¬ (true && (!true || decide (a.1 < b.1) || (decide (a.1 = b.1) && decide ((a.2 : Int) < (b.2 : Int))))) = true := fun e => by have h2 := h.symm.trans e; cases h2
      simp only [Bool.true_and, Bool.not_true, Bool.false_or, Bool.or_eq_true, Bool.and_eq_true, decide_eq_true_eq] at h'
      show (if WP.lt a b = true then some a else some b) = some b
      rw [if_neg (by simp only [WP.lt, decide_eq_true_eq]; omega)]

theorem infoPlan : (Try.prog.info? 48).map (fun i => (i.zero, i.size, i.bytes)) = some (some (.agg #[.bool false, .int .i64 0, .int .i64 0]), 3, 24) := by kernel_rfl

/-- Entry i of a row of plans. -/
def Ent (cs : Array Value) (i : Nat) (o : Option (Int × Nat)) : Prop := cs[i * 3]? = some (.bool o.isSome) ∧ cs[i * 3 + 1]? = some (.int .i64 (pc o)) ∧ cs[i * 3 + 2]? = some (.int .i64 ((ps o : Nat) : Int))
theorem Ent.other {cs : Array Value} {i : Nat} {o : Option (Int × Nat)} (h : Ent cs i o) {j : Nat} (hj : j ≠ i * 3 ∧ j ≠ i * 3 + 1 ∧ j ≠ i * 3 + 2) (u : Value) : Ent (cs.setIfInBounds j u) i o := by
  obtain ⟨h1, h2, h3⟩ := h
  exact ⟨by rw [Array.getElem?_setIfInBounds_ne hj.1]; exact h1, by rw [Array.getElem?_setIfInBounds_ne hj.2.1]; exact h2, by rw [Array.getElem?_setIfInBounds_ne hj.2.2]; exact h3⟩
theorem Ent.cost {cs : Array Value} {i : Nat} {a : Int} {s : Nat} (h : Ent cs i (some (a, s))) (b : Int) : Ent (cs.setIfInBounds (i * 3 + 1) (.int .i64 b)) i (some (b, s)) := by
  obtain ⟨h1, h2, h3⟩ := h
  have hlt : i * 3 + 1 < cs.size := (Array.getElem?_eq_some_iff.1 h2).1
  exact ⟨by rw [Array.getElem?_setIfInBounds_ne (by omega)]; exact h1, by rw [Array.getElem?_setIfInBounds_self_of_lt hlt]; rfl, by rw [Array.getElem?_setIfInBounds_ne (by omega)]; exact h3⟩
theorem Ent.put {cs : Array Value} {n i : Nat} (hs : cs.size = n * 3) (hi : i < n) (o : Option (Int × Nat)) : Ent (((cs.setIfInBounds (i * 3) (.bool o.isSome)).setIfInBounds (i * 3 + 1) (.int .i64 (pc o))).setIfInBounds (i * 3 + 2) (.int .i64 ((ps o : Nat) : Int))) i o := by
  refine ⟨?_, ?_, ?_⟩
  · rw [Array.getElem?_setIfInBounds_ne (by omega), Array.getElem?_setIfInBounds_ne (by omega), Array.getElem?_setIfInBounds_self_of_lt (by omega)]
  · rw [Array.getElem?_setIfInBounds_ne (by omega), Array.getElem?_setIfInBounds_self_of_lt (by simp; omega)]
  · rw [Array.getElem?_setIfInBounds_self_of_lt (by simp; omega)]
/-- A row of n plans. -/
def PlanRow (w : World) (g n : Nat) (P : Nat → Option (Int × Nat)) : Prop := ∃ cs : Array Value, Blk w g 48 cs ∧ cs.size = n * 3 ∧ ∀ i, i < n → Ent cs i (P i)
/-- Plans in new memory. -/
def PlansOut (w : World) (n : Nat) (P : Nat → Option (Int × Nat)) (e : Ending) (w' : World) : Prop := ∃ g : Nat, e = .returned (.slice (some ⟨g, 0, none⟩) n n) ∧ w.heap.size ≤ g ∧ PlanRow w' g n P ∧ Below w.heap.size w w'

theorem term_in {xs os : List Int} {n f a b : Nat} (ho : oftB xs os = true) (hn : xs.length = n) (hf : f < n) (ha : a < n) (hb : b < n) : 0 ≤ xN os f * WP.dist (xN xs) a b ∧ xN os f * WP.dist (xN xs) a b ≤ 1200 := by
  obtain ⟨h1, h2, h3⟩ := oftB_iff.1 ho
  rw [← way_dist h1 hn ha hb]
  exact mul_in (allB_at h3 rfl (by omega)) (wayI_in h1 hn ha hb)
theorem sum_in {g : Nat → Int} : ∀ k, (∀ i, i < k → 0 ≤ g i ∧ g i ≤ 1200) → 0 ≤ WP.sumTo g k ∧ WP.sumTo g k ≤ 1200 * k
  | 0, _ => ⟨Int.le_refl _, Int.le_refl _⟩
  | k + 1, h => by
    have ih := sum_in k (fun i hi => h i (by omega))
    have := h k (by omega)
    simp only [WP.sumTo]
    omega

set_option maxRecDepth 100000 in
set_option maxHeartbeats 8000000 in
theorem first_any (A : Option Addr) (n c : Nat) (xs : List Int) (A' : Option Addr) (c' : Nat) (os : List Int) (w : World) (ho : oftB xs os = true) (h : Ints w A n xs) (h' : Ints w A' n os) :
    Calls Try.prog 38 #[.slice A n c, .slice A' n c'] w (PlansOut w n (WP.first (WP.headC (xN xs) (xN os)))) := by
  have HL := Lib.hid h.1
  have HT := Lib.hid ho
  have HV := Lib.hid (oftB_iff.1 ho).1
  have n8 : n ≤ 8 := by have := (fv_open (oftB_iff.1 ho).1).2.1; have := HL.out; omega
  obtain ⟨i0, hi, hz0, hz1, hz2⟩ := info_parts infoPlan
  have hmk : ∀ W : World, (Instr.makeSlice 45 (.int .i64 (n : Int)) (.int .i64 (n : Int))).run Try.prog W = .ok (.slice (some ⟨W.heap.size, 0, none⟩) n n) (W.alloc (.cells (madeCells #[.bool false, .int .i64 0, .int .i64 0] (n * 3)) 48)) := fun W => by
    have h := make_row (P := Try.prog) 45 48 i0 _ Try.underlying45 hi hz0 n (by rw [hz2]; omega) (by omega) W
    rw [hz1] at h
    exact h
  have I1 := Lib.hid h
  have I2 := Lib.hid h'
  clear h h' hi hz0 hz1 hz2 ho
  go_enter Try.func38, Try.ntmps38
  go_wp2
  go_loopw [13] (fun i wr => ∃ k : Nat, k ≤ n ∧ i = .int .i64 k ∧ Below w.heap.size w wr ∧ ∃ cs : Array Value, Blk wr w.heap.size 48 cs ∧ cs.size = n * 3 ∧ ∀ i, i < k → Ent cs i (WP.first (WP.headC (xN xs) (xN os)) i)) (fun i _ => n - (intOf i).toNat)
  case atStart =>
    exact ⟨0, Nat.zero_le _, rfl, by (repeat' (first | (with_reducible exact Below.refl _ _) | (with_reducible assumption) | (with_reducible exact bundrew (by assumption)) | (with_reducible refine balloc ?_ _) | (with_reducible refine bset ?_ _ ?_ _) | (with_reducible refine Below.drew ?_) | (with_reducible refine bdrewN ?_ _) | (with_reducible refine bvia (by assumption) ?_) | (with_reducible refine Below.trans ?_ (by assumption)) | omega | (simp; omega) | (simp; done))), _, Blk.new _ _ _, size_madeCells _ _, fun j hj => by omega⟩
  case round =>
    obtain ⟨k, hk, rfl, B1, cs, hb1, hs, hE⟩ := hrel
    have hlt1 := hb1.lt
    by_cases hlt : k < n
    · have hlt' : (k : Int) < (n : Int) := by omega
      obtain ⟨u1, e1⟩ : ∃ u, wr.cell? ⟨w.heap.size, k * 3, none⟩ = some u := ⟨_, by rw [hb1.cell]; exact Array.getElem?_eq_getElem (by omega)⟩
      obtain ⟨u2, e2⟩ : ∃ u, wr.cell? ⟨w.heap.size, k * 3 + 1, none⟩ = some u := ⟨_, by rw [hb1.cell]; exact Array.getElem?_eq_getElem (by omega)⟩
      obtain ⟨u3, e3⟩ : ∃ u, wr.cell? ⟨w.heap.size, k * 3 + 2, none⟩ = some u := ⟨_, by rw [hb1.cell]; exact Array.getElem?_eq_getElem (by omega)⟩
      have f1 := hb1.frozen (k * 3)
      have f2 := hb1.frozen (k * 3 + 1)
      have f3 := hb1.frozen (k * 3 + 2)
      have HB := Lib.hid hb1
      have HE := Lib.hid hE
      have HSz := Lib.hid hs
      clear hb1 hE hs
      have htp := two_pow (n := k) (by omega)
      obtain ⟨T, hT⟩ : ∃ T, 2 ^ k = T := ⟨_, rfl⟩
      rw [hT] at htp
      have hsh : wrap64 ((2 : Int) ^ k) = (T : Int) := by
        have hp : ((2 : Int) ^ k) = (T : Int) := by rw [← hT, Int.natCast_pow]; rfl
        rw [hp]; unfold wrap64; omega
      have HTT := Lib.hid hT
      clear hT
      go_wp2
      simp only [hsh]
      go_loopw [7] (fun i ws => ∃ j : Nat, j ≤ k ∧ i = .int .i64 j ∧ Below w.heap.size w ws ∧ ∃ cs : Array Value, Blk ws w.heap.size 48 cs ∧ cs.size = n * 3 ∧ (∀ i, i < k → Ent cs i (WP.first (WP.headC (xN xs) (xN os)) i)) ∧ Ent cs k (some (WP.sumTo (fun f => xN os f * WP.dist (xN xs) f k) j, T))) (fun i _ => k - (intOf i).toNat)
      case atStart =>
        refine ⟨0, Nat.zero_le _, rfl, ?_, _, ((HB.out.set_ (k * 3) _).set_ (k * 3 + 1) _).set_ (k * 3 + 2) _, by simp [HSz.out], fun i hi => ?_, ?_⟩
        · (repeat' (first | (with_reducible exact Below.refl _ _) | (with_reducible assumption) | (with_reducible exact bundrew (by assumption)) | (with_reducible refine balloc ?_ _) | (with_reducible refine bset ?_ _ ?_ _) | (with_reducible refine Below.drew ?_) | (with_reducible refine bdrewN ?_ _) | (with_reducible refine bvia (by assumption) ?_) | (with_reducible refine Below.trans ?_ (by assumption)) | omega | (simp; omega) | (simp; done)))
        · exact (((HE.out i hi).other (by omega) _).other (by omega) _).other (by omega) _
        · exact Ent.put HSz.out hlt (some (0, T))
      case round =>
        obtain ⟨j, hj, rfl, B2, cs2, hb2, hs2, hE2, hK⟩ := hrel
        have hlt2 := hb2.lt
        by_cases hjl : j < k
        · have hjl' : (j : Int) < (k : Int) := by omega
          have hjn : (j : Int) < (n : Int) := by omega
          have R1 := Lib.hid (I1.out.below B2)
          obtain ⟨q, off, rfl, hq, hqc⟩ := I2.out.2.2 (by omega)
          have c1 : wr.cell? ⟨q, off + j, none⟩ = some (.int .i64 (xN os j)) := (B2.cell (p := ⟨q, off + j, none⟩) hq).trans (hqc j (by omega))
          have c2 : wr.cell? ⟨w.heap.size, k * 3 + 1, none⟩ = some (.int .i64 (WP.sumTo (fun f => xN os f * WP.dist (xN xs) f k) j)) := by rw [hb2.cell]; exact hK.2.1
          have c3 := hb2.frozen (k * 3 + 1)
          have WY := fun W hW => way_impl A n c xs (j : Int) (k : Int) W hW
          rw [way_dist HV.out HL.out (show j < n by omega) hlt] at WY
          have HWY := Lib.hid WY
          have b1 := term_in HT.out HL.out (f := j) (a := j) (b := k) (by omega) (by omega) hlt
          have b2 := sum_in (g := fun f => xN os f * WP.dist (xN xs) f k) j (fun i hi => term_in HT.out HL.out (by omega) (by omega) hlt)
          have HS : Hid (WP.sumTo (fun f => xN os f * WP.dist (xN xs) f k) (j + 1) = WP.sumTo (fun f => xN os f * WP.dist (xN xs) f k) j + xN os j * WP.dist (xN xs) j k) := Lib.hid rfl
          obtain ⟨S, hS⟩ : ∃ S, WP.sumTo (fun f => xN os f * WP.dist (xN xs) f k) j = S := ⟨_, rfl⟩
          obtain ⟨u, hu⟩ : ∃ u, xN os j = u := ⟨_, rfl⟩
          obtain ⟨d, hd⟩ : ∃ d, WP.dist (xN xs) j k = d := ⟨_, rfl⟩
          rw [hS] at c2 b2 hK
          rw [hu] at c1 b1
          rw [hd] at b1 HWY
          rw [hS, hu, hd] at HS
          obtain ⟨p, hp⟩ : ∃ p, u * d = p := ⟨_, rfl⟩
          rw [hp] at b1 HS
          have e4 : IntKind.i64.wrap (u * d) = p := by rw [hp]; exact IntWalk.i64_in _ ⟨by omega, by omega⟩
          have e5 : IntKind.i64.wrap (S + p) = S + p := IntWalk.i64_in _ ⟨by omega, by omega⟩
          have e6 : IntKind.i64.wrap p = p := IntWalk.i64_in _ ⟨by omega, by omega⟩
          have HB2 := Lib.hid hb2
          have HE2 := Lib.hid hE2
          have HK := Lib.hid hK
          have HS2 := Lib.hid hs2
          clear hqc WY hS hu hd hb2 hE2 hK hs2
          go_wp2_with fail
          refine region_quiet_tail 17 (by kernel_rfl) (by kernel_rfl) ?_
          simp only [List.take_succ_cons, List.take_zero, List.drop_succ_cons, List.drop_zero]
          repeat (quiet_step ((go_at_call 36; exact Calls.quiet_of (Qt.of (HWY.out _ (R1.out.drewN _))))))
          refine wpQuiet_nil ?_
          intro _ hw'
          obtain ⟨nq, hw''⟩ := hw'
          subst hw''
          go_wp2
          refine ⟨⟨j + 1, by omega, by go_num, ?_, _, (HB2.out.drewN _).set_ (k * 3 + 1) _, by simp [HS2.out], fun i hi => (HE2.out i hi).other (by omega) _, ?_⟩, by simp [intOf]; omega⟩
          all_goals first | (rw [HS.out]; (try rw [e6, e5]); exact HK.out.cost _) | (repeat' (first | (with_reducible exact Below.refl _ _) | (with_reducible assumption) | (with_reducible exact bundrew (by assumption)) | (with_reducible refine balloc ?_ _) | (with_reducible refine bset ?_ _ ?_ _) | (with_reducible refine Below.drew ?_) | (with_reducible refine bdrewN ?_ _) | (with_reducible refine bvia (by assumption) ?_) | (with_reducible refine Below.trans ?_ (by assumption)) | omega | (simp; omega) | (simp; done)))
        · obtain rfl : j = k := by omega
          go_wp2
          exact ⟨⟨j + 1, by omega, by go_num, B2, cs2, hb2, hs2, fun i hi => by
            by_cases e : i = j
            · subst e; rw [show WP.first (WP.headC (xN xs) (xN os)) i = some (WP.headC (xN xs) (xN os) i, 2 ^ i) from rfl, HTT.out]; exact hK
            · exact hE2 i (by omega)⟩, by simp [intOf]; omega⟩
    · obtain rfl : k = n := by omega
      go_wp2
      go_ret
      exact ⟨w.heap.size, rfl, Nat.le_refl _, ⟨cs, hb1, hs, hE⟩, B1⟩
end Go.Proofs.Ytbjnkjookokjaaa
