/- The plans with one floor more (furtherPlans): contract. -/
import Derived.Test.YtbjnkjookokjaaaWaitG
import Derived.Test.YtbjnkjookokjaaaQTail
namespace Go.Proofs.Ytbjnkjookokjaaa
open Go.ChangeShapes Go.WideShapes Go.ChangeAt Go.RowKit

/-- Plans within the bounds of their highest floors. -/
def Bnd (n : Nat) (P : Nat → Option (Int × Nat)) : Prop := ∀ i, i < n → 0 ≤ pc (P i) ∧ pc (P i) ≤ 1200 * i ∧ ps (P i) < 2 ^ (i + 1)
theorem Bnd.fair {n : Nat} {P : Nat → Option (Int × Nat)} (h : Bnd n P) (hn : n ≤ 8) : Fair n P := fun i hi => by
  obtain ⟨h1, h2, _⟩ := h i hi
  exact ⟨h1, by omega⟩
theorem pick_or (o p : Option (Int × Nat)) : WP.pick o p = o ∨ WP.pick o p = p := by
  cases p with
  | none => cases o <;> exact .inl rfl
  | some a =>
    cases o with
    | none => exact .inr rfl
    | some b =>
      by_cases h : WP.lt a b = true
      · exact .inr (show (if WP.lt a b = true then some a else some b) = some a by rw [if_pos h])
      · exact .inl (show (if WP.lt a b = true then some a else some b) = some b by rw [if_neg h])
theorem pickAll_or (Q : Nat → Option (Int × Nat)) : ∀ k, WP.pickAll Q k = none ∨ ∃ i, i < k ∧ WP.pickAll Q k = Q i
  | 0 => .inl rfl
  | k + 1 => by
    have e : WP.pickAll Q (k + 1) = WP.pick (WP.pickAll Q k) (Q k) := rfl
    rcases pick_or (WP.pickAll Q k) (Q k) with h | h
    · rcases pickAll_or Q k with h2 | ⟨i, hi, h2⟩
      · exact .inl (by rw [e, h, h2])
      · exact .inr ⟨i, by omega, by rw [e, h, h2]⟩
    · exact .inr ⟨k, by omega, by rw [e, h]⟩
theorem mterm_in {xs os : List Int} {n f a b : Nat} (ho : oftB xs os = true) (hn : xs.length = n) (hf : f < n) (ha : a < n) (hb : b < n) : 0 ≤ xN os f * min (WP.dist (xN xs) a f) (WP.dist (xN xs) f b) ∧ xN os f * min (WP.dist (xN xs) a f) (WP.dist (xN xs) f b) ≤ 1200 := by
  have h1 := term_in ho hn (f := f) (a := a) (b := f) hf ha hf
  have h2 := term_in ho hn (f := f) (a := f) (b := b) hf hf hb
  rcases (show min (WP.dist (xN xs) a f) (WP.dist (xN xs) f b) = WP.dist (xN xs) a f ∨ min (WP.dist (xN xs) a f) (WP.dist (xN xs) f b) = WP.dist (xN xs) f b by omega) with e | e
  · rw [e]; exact h1
  · rw [e]; exact h2
theorem mid_in {xs os : List Int} {n a b : Nat} (ho : oftB xs os = true) (hn : xs.length = n) (hab : a < b) (hb : b < n) (j : Nat) (hj : a + 1 + j ≤ b) :
    0 ≤ WP.sumTo (fun j => xN os (a + 1 + j) * min (WP.dist (xN xs) a (a + 1 + j)) (WP.dist (xN xs) (a + 1 + j) b)) j ∧ WP.sumTo (fun j => xN os (a + 1 + j) * min (WP.dist (xN xs) a (a + 1 + j)) (WP.dist (xN xs) (a + 1 + j) b)) j ≤ 1200 * j := by
  refine sum_in j (fun i hi => ?_)
  have h1 := term_in ho hn (f := a + 1 + i) (a := a) (b := a + 1 + i) (by omega) (by omega) (by omega)
  have h2 := term_in ho hn (f := a + 1 + i) (a := a + 1 + i) (b := b) (by omega) (by omega) (by omega)
  rcases (show min (WP.dist (xN xs) a (a + 1 + i)) (WP.dist (xN xs) (a + 1 + i) b) = WP.dist (xN xs) a (a + 1 + i) ∨ min (WP.dist (xN xs) a (a + 1 + i)) (WP.dist (xN xs) (a + 1 + i) b) = WP.dist (xN xs) (a + 1 + i) b by omega) with e | e
  · simp only [e]; exact h1
  · simp only [e]; exact h2
theorem pow_up {a b : Nat} (h : a ≤ b) : 2 ^ a ≤ 2 ^ b := Nat.pow_le_pow_right (by omega) h
theorem further_bnd {xs os : List Int} {n : Nat} (ho : oftB xs os = true) (hn : xs.length = n) {P : Nat → Option (Int × Nat)} (hP : Bnd n P) : Bnd n (WP.further (WP.midC (xN xs) (xN os)) P) := fun i hi => by
  unfold WP.further
  rcases pickAll_or (fun low => WP.add (P low) (WP.midC (xN xs) (xN os) low i) (2 ^ i)) i with h | ⟨l, hl, h⟩
  · rw [h]
    have := Nat.pow_pos (n := i + 1) (show 0 < 2 by omega)
    exact ⟨Int.le_refl _, by show (0 : Int) ≤ _; omega, this⟩
  · rw [h]
    obtain ⟨p1, p2, p3⟩ := hP l (by omega)
    cases hPl : P l with
    | none =>
      have := Nat.pow_pos (n := i + 1) (show 0 < 2 by omega)
      exact ⟨Int.le_refl _, by show (0 : Int) ≤ _; omega, this⟩
    | some a =>
      rw [hPl] at p1 p2 p3
      have m := mid_in ho hn hl hi (i - (l + 1)) (by omega)
      have e : WP.midC (xN xs) (xN os) l i = WP.sumTo (fun j => xN os (l + 1 + j) * min (WP.dist (xN xs) l (l + 1 + j)) (WP.dist (xN xs) (l + 1 + j) i)) (i - (l + 1)) := rfl
      rw [← e] at m
      have m1 := pow_up (show l + 1 ≤ i by omega)
      have m2 : 2 ^ (i + 1) = 2 ^ i * 2 := Nat.pow_succ ..
      refine ⟨?_, ?_, ?_⟩
      · show 0 ≤ a.1 + _
        have : (0 : Int) ≤ a.1 := p1
        omega
      · show a.1 + _ ≤ _
        have : a.1 ≤ 1200 * (l : Int) := p2
        omega
      · show a.2 + 2 ^ i < _
        have : a.2 < 2 ^ (l + 1) := p3
        omega
theorem first_bnd {xs os : List Int} {n : Nat} (ho : oftB xs os = true) (hn : xs.length = n) : Bnd n (WP.first (WP.headC (xN xs) (xN os))) := fun i hi => by
  have h := sum_in (g := fun f => xN os f * WP.dist (xN xs) f i) i (fun j hj => term_in ho hn (by omega) (by omega) hi)
  have m2 : 2 ^ (i + 1) = 2 ^ i * 2 := Nat.pow_succ ..
  have := Nat.pow_pos (n := i) (show 0 < 2 by omega)
  exact ⟨h.1, h.2, by show 2 ^ i < _; omega⟩
theorem Ent.any {cs : Array Value} {n i : Nat} (hs : cs.size = n * 3) (hi : i < n) (b : Bool) (c s : Int) {o : Option (Int × Nat)} (h1 : o.isSome = b) (h2 : pc o = c) (h3 : ((ps o : Nat) : Int) = s) : Ent (((cs.setIfInBounds (i * 3) (.bool b)).setIfInBounds (i * 3 + 1) (.int .i64 c)).setIfInBounds (i * 3 + 2) (.int .i64 s)) i o := by
  subst h1 h2 h3; exact Ent.put hs hi o

set_option maxRecDepth 100000 in
set_option maxHeartbeats 16000000 in
theorem further_any (A : Option Addr) (n c : Nat) (xs : List Int) (A' : Option Addr) (c' : Nat) (os : List Int) (g0 : Nat) (P : Nat → Option (Int × Nat)) (w : World) (ho : oftB xs os = true) (h : Ints w A n xs) (h' : Ints w A' n os) (hP : PlanRow w g0 n P) (hF : Bnd n P) :
    Calls Try.prog 40 #[.slice A n c, .slice A' n c', .slice (some ⟨g0, 0, none⟩) n n] w (PlansOut w n (WP.further (WP.midC (xN xs) (xN os)) P)) := by
  have HL := Lib.hid h.1
  have HT := Lib.hid ho
  have HV := Lib.hid (oftB_iff.1 ho).1
  have n8 : n ≤ 8 := by have := (fv_open (oftB_iff.1 ho).1).2.1; have := HL.out; omega
  have n1 : 1 ≤ n := by have := (fv_open (oftB_iff.1 ho).1).1; have := HL.out; omega
  obtain ⟨i0, hi, hz0, hz1, hz2⟩ := info_parts infoPlan
  have hmk : ∀ W : World, (Instr.makeSlice 45 (.int .i64 (n : Int)) (.int .i64 (n : Int))).run Try.prog W = .ok (.slice (some ⟨W.heap.size, 0, none⟩) n n) (W.alloc (.cells (madeCells #[.bool false, .int .i64 0, .int .i64 0] (n * 3)) 48)) := fun W => by
    have h := make_row (P := Try.prog) 45 48 i0 _ Try.underlying45 hi hz0 n (by rw [hz2]; omega) (by omega) W
    rw [hz1] at h
    exact h
  have hmc : ∀ i, i < n → Ent (madeCells #[.bool false, .int .i64 0, .int .i64 0] (n * 3)) i none := fun i hi => by
    refine ⟨?_, ?_, ?_⟩
    · first | (simp [madeCells, show i * 3 < n * 3 by omega]; done) | (simp [madeCells, show i * 3 < n * 3 by omega]; rfl)
    · first | (simp [madeCells, show i * 3 + 1 < n * 3 by omega]; done) | (simp [madeCells, show i * 3 + 1 < n * 3 by omega]; rfl)
    · first | (simp [madeCells, show i * 3 + 2 < n * 3 by omega]; done) | (simp [madeCells, show i * 3 + 2 < n * 3 by omega]; rfl)
  have I1 := Lib.hid h
  have I2 := Lib.hid h'
  have hg0 : g0 < w.heap.size := (hP.at_ n1).2.2.2
  have IP := Lib.hid hP
  have IF := Lib.hid hF
  have HMC := Lib.hid hmc
  clear h h' hi hz0 hz1 hz2 ho hP hF hmc
  obtain ⟨R, hR⟩ : ∃ R : Nat → Nat → Option (Int × Nat), R = fun k l => WP.pickAll (fun low => WP.add (P low) (WP.midC (xN xs) (xN os) low k) (2 ^ k)) l := ⟨_, rfl⟩
  have HR0 : Hid (∀ k, R k 0 = none) := Lib.hid (fun k => by rw [hR]; rfl)
  have HRS : Hid (∀ k l, R k (l + 1) = WP.pick (R k l) (WP.add (P l) (WP.midC (xN xs) (xN os) l k) (2 ^ k))) := Lib.hid (fun k l => by rw [hR]; rfl)
  have HRK : Hid (∀ k, R k k = WP.further (WP.midC (xN xs) (xN os)) P k) := Lib.hid (fun k => by rw [hR]; rfl)
  clear hR
  go_enter Try.func40, Try.ntmps40
  go_wp2
  go_loopw [17] (fun i wr => ∃ k : Nat, k ≤ n ∧ i = .int .i64 k ∧ Below w.heap.size w wr ∧ ∃ cs : Array Value, Blk wr w.heap.size 48 cs ∧ cs.size = n * 3 ∧ (∀ i, i < k → Ent cs i (WP.further (WP.midC (xN xs) (xN os)) P i)) ∧ ∀ i, k ≤ i → i < n → Ent cs i none) (fun i _ => n - (intOf i).toNat)
  case atStart =>
    refine ⟨0, Nat.zero_le _, rfl, by (repeat' (first | (with_reducible exact Below.refl _ _) | (with_reducible assumption) | (with_reducible exact bundrew (by assumption)) | (with_reducible refine balloc ?_ _) | (with_reducible refine bset ?_ _ ?_ _) | (with_reducible refine Below.drew ?_) | (with_reducible refine bdrewN ?_ _) | (with_reducible refine bvia (by assumption) ?_) | (with_reducible refine Below.trans ?_ (by assumption)) | omega | (simp; omega) | (simp; done))), _, Blk.new _ _ _, size_madeCells _ _, fun j hj => by omega, fun i _ hi => ?_⟩
    exact HMC.out i hi
  case round =>
    obtain ⟨k, hk, rfl, B1, cs, hb1, hs, hE, hN⟩ := hrel
    by_cases hlt : k < n
    · have hlt' : (k : Int) < (n : Int) := by omega
      have htp := two_pow (n := k) (by omega)
      obtain ⟨T, hT⟩ : ∃ T, 2 ^ k = T := ⟨_, rfl⟩
      rw [hT] at htp
      have hsh : wrap64 ((2 : Int) ^ k) = (T : Int) := by
        have hp : ((2 : Int) ^ k) = (T : Int) := by rw [← hT, Int.natCast_pow]; rfl
        rw [hp]; unfold wrap64; omega
      have HTT := Lib.hid hT
      have HB := Lib.hid hb1
      have HE := Lib.hid hE
      have HN := Lib.hid hN
      have HSz := Lib.hid hs
      clear hT hb1 hE hN hs
      go_wp2
      go_loopw [9] (fun i ws => ∃ l : Nat, l ≤ k ∧ i = .int .i64 l ∧ Below w.heap.size w ws ∧ ∃ cs : Array Value, Blk ws w.heap.size 48 cs ∧ cs.size = n * 3 ∧ (∀ i, i < k → Ent cs i (WP.further (WP.midC (xN xs) (xN os)) P i)) ∧ (∀ i, k < i → i < n → Ent cs i none) ∧ Ent cs k (R k l)) (fun i _ => k - (intOf i).toNat)
      case atStart => exact ⟨0, Nat.zero_le _, rfl, B1, cs, HB.out, HSz.out, HE.out, fun i h1 h2 => HN.out i (by omega) h2, by rw [HR0.out]; exact HN.out k (Nat.le_refl _) hlt⟩
      case round =>
        obtain ⟨l, hl, rfl, B2, cs2, hb2, hs2, hE2, hN2, hK⟩ := hrel
        by_cases hll : l < k
        · have hll' : (l : Int) < (k : Int) := by omega
          have hln' : (l : Int) < (n : Int) := by omega
          obtain ⟨p1, p2, p3, -⟩ := (IP.out.below B2 hg0).at_ (i := l) (by omega)
          obtain ⟨y1, y2, y3⟩ := IF.out l (by omega)
          have y4 := (two_pow (n := l + 1) (by omega)).2
          have y5 : ps (P l) ≤ 256 := by omega
          have y6 : pc (P l) ≤ 10000 := by omega
          have HRL := Lib.hid (HRS.out k l)
          obtain ⟨G, hG⟩ : ∃ G, R k l = G := ⟨_, rfl⟩
          obtain ⟨Q, hQ⟩ : ∃ Q, P l = Q := ⟨_, rfl⟩
          rw [hG] at hK HRL
          rw [hQ] at p1 p2 p3 y1 y5 y6 HRL
          rw [HTT.out] at HRL
          clear hG hQ y2 y3 y4
          obtain ⟨b0, hb0⟩ : ∃ b, Q.isSome = b := ⟨_, rfl⟩
          obtain ⟨c0, hc0⟩ : ∃ b, pc Q = b := ⟨_, rfl⟩
          obtain ⟨s0, hs0⟩ : ∃ b, ps Q = b := ⟨_, rfl⟩
          have HQ1 := Lib.hid hb0
          have HQ2 := Lib.hid hc0
          have HQ3 := Lib.hid hs0
          rw [hb0] at p1
          rw [hc0] at p2 y1 y6
          rw [hs0] at p3 y5
          have y7 : (s0 : Int) ≤ 256 := by omega
          have t1 : (1 : Int) ≤ (T : Int) := by omega
          have t2 : (T : Int) ≤ 256 := by omega
          have e7 : IntKind.i64.wrap ((s0 : Int) + (T : Int)) = (s0 : Int) + (T : Int) := IntWalk.i64_in _ ⟨by omega, by omega⟩
          have k0 := hK.1
          have L2 := Lib.hid hb2
          have HE2 := Lib.hid hE2
          have HN2 := Lib.hid hN2
          have HS2 := Lib.hid hs2
          have HK := Lib.hid hK
          clear hb0 hc0 hs0 hb2 hE2 hN2 hs2 hK k0
          obtain ⟨wo, hwo⟩ : ∃ wo : World, wo = wr := ⟨_, rfl⟩
          subst hwo
          go_wp2
          go_region
          all_goals go_wp2
          simp only [hsh]
          go_loopw [11] (fun i ws => ∃ f j : Nat, f = l + 1 + j ∧ f ≤ k ∧ i = .int .i64 (f : Int) ∧ Below wo.heap.size wo ws ∧ Blk ws wo.heap.size 48 #[.bool b0, .int .i64 (c0 + WP.sumTo (fun j => xN os (l + 1 + j) * min (WP.dist (xN xs) l (l + 1 + j)) (WP.dist (xN xs) (l + 1 + j) k)) j), .int .i64 ((s0 : Int) + (T : Int))]) (fun i _ => k - (intOf i).toNat)
          case atStart =>
            refine ⟨l + 1, 0, by omega, by omega, by go_num, by (repeat' (first | (with_reducible exact Below.refl _ _) | (with_reducible assumption) | (with_reducible exact bundrew (by assumption)) | (with_reducible refine balloc ?_ _) | (with_reducible refine bset ?_ _ ?_ _) | (with_reducible refine Below.drew ?_) | (with_reducible refine bdrewN ?_ _) | (with_reducible refine bvia (by assumption) ?_) | (with_reducible refine Below.trans ?_ (by assumption)) | omega | (simp; omega) | (simp; done))), ?_⟩
            have := (Blk.new wo 48 #[.bool b0, .int .i64 c0, .int .i64 ((s0 : Int) + (T : Int))]).drew
            simpa [WP.sumTo] using this
          case round =>
            obtain ⟨f, j, hfj, hfn, rfl, B3, K3⟩ := hrel
            have hkf : l < f := by omega
            have hj8 : j ≤ 8 := by omega
            have HFJ := Lib.hid hfj
            clear hfj
            by_cases hjl : f < k
            · have hjl' : (f : Int) < (k : Int) := by omega
              have hfn' : (f : Int) < (n : Int) := by omega
              have hfn2 : f < n := by omega
              have b2 := mid_in HT.out HL.out hll hlt j (by have := HFJ.out; omega)
              have b1 := mterm_in HT.out HL.out (f := f) (a := l) (b := k) hfn2 (by omega) hlt
              have HS : Hid (WP.sumTo (fun j => xN os (l + 1 + j) * min (WP.dist (xN xs) l (l + 1 + j)) (WP.dist (xN xs) (l + 1 + j) k)) (j + 1) = WP.sumTo (fun j => xN os (l + 1 + j) * min (WP.dist (xN xs) l (l + 1 + j)) (WP.dist (xN xs) (l + 1 + j) k)) j + xN os f * min (WP.dist (xN xs) l f) (WP.dist (xN xs) f k)) := Lib.hid (by rw [HFJ.out]; rfl)
              have R1 := Lib.hid ((I1.out.below B2).below B3)
              obtain ⟨q, off, hA', hq, hqc⟩ := ((I2.out.below B2).below B3).2.2 (by omega)
              subst hA'
              have c1 := hqc f hfn2
              have c2 := K3.cell 1
              have c3 := K3.frozen 1
              have hl3 := K3.lt
              simp at c2
              have HWY : Hid (∀ a b : Nat, a < n → b < n → ∀ W, Ints W A n xs → Calls Try.prog 36 #[.slice A n c, .int .i64 (a : Int), .int .i64 (b : Int)] W (Qt W (.int .i64 (WP.dist (xN xs) a b)))) := Lib.hid (fun a b ha hb W hW => by have := way_impl A n c xs (a : Int) (b : Int) W hW; rwa [way_dist HV.out HL.out ha hb] at this)
              obtain ⟨S, hS⟩ : ∃ S, WP.sumTo (fun j => xN os (l + 1 + j) * min (WP.dist (xN xs) l (l + 1 + j)) (WP.dist (xN xs) (l + 1 + j) k)) j = S := ⟨_, rfl⟩
              obtain ⟨u, hu⟩ : ∃ u, xN os f = u := ⟨_, rfl⟩
              rw [show os[f]?.getD 0 = xN os f from rfl, hu] at c1
              rw [hS] at c2 b2 K3
              rw [hu] at b1
              rw [hS, hu] at HS
              obtain ⟨p, hp⟩ : ∃ p, u * min (WP.dist (xN xs) l f) (WP.dist (xN xs) f k) = p := ⟨_, rfl⟩
              rw [hp] at b1 HS
              obtain ⟨s, hs⟩ : ∃ s, c0 + S = s := ⟨_, rfl⟩
              have HSS : Hid (c0 + (S + p) = s + p) := Lib.hid (by omega)
              rw [hs] at c2 K3
              have HPP := Lib.hid hp
              have s1 : 0 ≤ s := by omega
              have s2 : s ≤ 20000 := by omega
              have e4 : IntKind.i64.wrap (u * min (WP.dist (xN xs) l f) (WP.dist (xN xs) f k)) = p := by rw [hp]; exact IntWalk.i64_in _ ⟨by omega, by omega⟩
              have e5 : IntKind.i64.wrap (s + p) = s + p := IntWalk.i64_in _ ⟨by omega, by omega⟩
              have e6 : IntKind.i64.wrap p = p := IntWalk.i64_in _ ⟨by omega, by omega⟩
              have L3 := Lib.hid K3
              clear hqc hS hu hs K3
              go_wp2_with fail
              refine region_quiet_tail 18 (by kernel_rfl) (by kernel_rfl) ?_
              simp only [List.take_succ_cons, List.take_zero, List.drop_succ_cons, List.drop_zero]
              repeat (quiet_step ((go_at_call 36; exact Calls.quiet_of (Qt.of (HWY.out _ _ (by omega) (by omega) _ (R1.out.drewN _))))))
              refine wpQuiet_nil ?_
              intro _ hw'
              obtain ⟨nq, hw''⟩ := hw'
              subst hw''
              go_wp2
              have hmn : (if WP.dist (xN xs) f k < WP.dist (xN xs) l f then WP.dist (xN xs) f k else WP.dist (xN xs) l f) = min (WP.dist (xN xs) l f) (WP.dist (xN xs) f k) := by split <;> omega
              have w1 : wrap64 p = p := by unfold wrap64; omega
              have w2 : wrap64 (s + p) = s + p := by unfold wrap64; omega
              rw [hmn, HPP.out, w1, w2]
              refine ⟨⟨f + 1, j + 1, by have := HFJ.out; omega, by omega, by go_num, ?_, ?_⟩, by simp [intOf]; omega⟩
              · (repeat' (first | (with_reducible exact Below.refl _ _) | (with_reducible assumption) | (with_reducible exact bundrew (by assumption)) | (with_reducible refine balloc ?_ _) | (with_reducible refine bset ?_ _ ?_ _) | (with_reducible refine Below.drew ?_) | (with_reducible refine bdrewN ?_ _) | (with_reducible refine bvia (by assumption) ?_) | (with_reducible refine Below.trans ?_ (by assumption)) | omega | (simp; omega) | (simp; done)))
              · rw [HS.out, HSS.out]
                exact (L3.out.drewN nq).set_ 1 (.int .i64 (s + p))
            · obtain rfl : f = k := by omega
              have hjt : j = f - (l + 1) := by have := HFJ.out; omega
              have htl : WP.sumTo (fun j => xN os (l + 1 + j) * min (WP.dist (xN xs) l (l + 1 + j)) (WP.dist (xN xs) (l + 1 + j) f)) j = WP.midC (xN xs) (xN os) l f := by rw [hjt]; rfl
              rw [htl] at K3
              obtain ⟨M, hM⟩ : ∃ M, WP.midC (xN xs) (xN os) l f = M := ⟨_, rfl⟩
              rw [hM] at K3 HRL
              have d0 := K3.cell 0
              have d1 := K3.cell 1
              have d2 := K3.cell 2
              simp at d0 d1 d2
              have d3 := K3.lt
              have M2 := L2.out.below_ B3
              obtain ⟨g1, g2, g3⟩ := HK.out
              have k0' : wr.cell? ⟨w.heap.size, f * 3, none⟩ = some (.bool G.isSome) := by rw [M2.cell]; exact g1
              have k1' : wr.cell? ⟨w.heap.size, f * 3 + 1, none⟩ = some (.int .i64 (pc G)) := by rw [M2.cell]; exact g2
              have k2' : wr.cell? ⟨w.heap.size, f * 3 + 2, none⟩ = some (.int .i64 ((ps G : Nat) : Int)) := by rw [M2.cell]; exact g3
              have hne : ¬ w.heap.size = wo.heap.size := by have := L2.out.lt; omega
              have BET := fun W => better_any b0 (c0 + M) ((s0 : Int) + (T : Int)) G.isSome (pc G) (ps G) W
              have N2 := Lib.hid M2
              have L3 := Lib.hid K3
              clear g1 g2 g3 M2 K3 htl
              cases hbt : betB b0 (c0 + M) ((s0 : Int) + (T : Int)) G.isSome (pc G) (ps G)
              all_goals
                have hbt2 := hbt
                rw [← HQ1.out, ← HQ2.out, ← HQ3.out, show ((ps Q : Nat) : Int) + (T : Int) = ((ps Q + T : Nat) : Int) by simp, bet_add] at hbt2
                rw [hbt] at BET
                have HBET := Lib.hid BET
                clear BET hbt
              · have HFN : Hid (R f (l + 1) = G) := Lib.hid (by rw [HRL.out, pick_no hbt2])
                clear hbt2
                go_wp2_with fail
                refine region_quiet_tail 5 (by kernel_rfl) (by kernel_rfl) ?_
                simp only [List.take_succ_cons, List.take_zero, List.drop_succ_cons, List.drop_zero]
                repeat (quiet_step (fail))
                refine wpQuiet_nil ?_
                intro _ hw'
                obtain ⟨nq, hw''⟩ := hw'
                subst hw''
                go_wp2_with (go_at_call 48; refine Calls.mono (HBET.out _) ?_; rintro e w5 ⟨rfl, hb5⟩)
                have hbb : Below wr.heap.size wr w5 := (bdrewN (Below.refl _ wr) nq).trans hb5
                exact ⟨⟨l + 1, by omega, by go_num, bvia hbb (bvia B3 B2), cs2, N2.out.below_ hbb, HS2.out, HE2.out, HN2.out, by rw [HFN.out]; exact HK.out⟩, by simp [intOf]; omega⟩
              · have HFN : Hid (R f (l + 1) = WP.add Q M T) := Lib.hid (by rw [HRL.out, pick_yes hbt2])
                have hsome : (WP.add Q M T).isSome = true := by
                  cases e : (WP.add Q M T).isSome with
                  | true => rfl
                  | false => rw [e] at hbt2; simp [betB] at hbt2
                obtain ⟨a1, a2⟩ := pc_add Q M T
                obtain ⟨a3, a4⟩ := a2 (by rw [← a1]; exact hsome)
                have HA1 : Hid ((WP.add Q M T).isSome = b0) := Lib.hid (by rw [a1, HQ1.out])
                have HA2 : Hid (pc (WP.add Q M T) = c0 + M) := Lib.hid (by rw [a3, HQ2.out])
                have HA3 : Hid (((ps (WP.add Q M T) : Nat) : Int) = (s0 : Int) + (T : Int)) := Lib.hid (by rw [a4, HQ3.out]; simp)
                clear hbt2 hsome a1 a2 a3 a4
                go_wp2_with fail
                refine region_quiet_tail 5 (by kernel_rfl) (by kernel_rfl) ?_
                simp only [List.take_succ_cons, List.take_zero, List.drop_succ_cons, List.drop_zero]
                repeat (quiet_step (fail))
                refine wpQuiet_nil ?_
                intro _ hw'
                obtain ⟨nq, hw''⟩ := hw'
                subst hw''
                go_wp2_with (go_at_call 48; refine Calls.mono (HBET.out _) ?_; rintro e w5 ⟨rfl, hb5⟩; have hbb : Below wr.heap.size wr w5 := (bdrewN (Below.refl _ wr) nq).trans hb5; have u3 := L3.out.below_ hbb; have u2 := N2.out.below_ hbb; have v0 := u3.cell 0; have v1 := u3.cell 1; have v2 := u3.cell 2; (simp at v0 v1 v2); obtain ⟨g1, g2, g3⟩ := HK.out; have x0 := (u2.cell (f * 3)).trans g1; have x1 := (u2.cell (f * 3 + 1)).trans g2; have x2 := (u2.cell (f * 3 + 2)).trans g3; have xf := u2.frozen)
                refine ⟨⟨l + 1, by omega, by go_num, ?_, _, ((u2.set_ (f * 3) _).set_ (f * 3 + 1) _).set_ (f * 3 + 2) _, by simp [HS2.out], fun i hi => ?_, fun i h1 h2 => ?_, ?_⟩, by simp [intOf]; omega⟩
                · (repeat' (first | (with_reducible exact Below.refl _ _) | (with_reducible assumption) | (with_reducible exact bundrew (by assumption)) | (with_reducible refine balloc ?_ _) | (with_reducible refine bset ?_ _ ?_ _) | (with_reducible refine Below.drew ?_) | (with_reducible refine bdrewN ?_ _) | (with_reducible refine bvia (by assumption) ?_) | (with_reducible refine Below.trans ?_ (by assumption)) | omega | (simp; omega) | (simp; done)))
                · exact (((HE2.out i hi).other (by omega) _).other (by omega) _).other (by omega) _
                · exact (((HN2.out i h1 h2).other (by omega) _).other (by omega) _).other (by omega) _
                · rw [HFN.out]
                  exact Ent.any HS2.out hlt _ _ _ HA1.out HA2.out HA3.out
        · obtain rfl : l = k := by omega
          have hK2 : Ent cs2 l (WP.further (WP.midC (xN xs) (xN os)) P l) := by rw [← HRK.out]; exact hK
          go_wp2
          exact ⟨⟨l + 1, by omega, by go_num, B2, cs2, hb2, hs2, fun i hi => by
            by_cases e : i = l
            · subst e; exact hK2
            · exact hE2 i (by omega), fun i h1 h2 => hN2 i (by omega) h2⟩, by simp [intOf]; omega⟩
    · obtain rfl : k = n := by omega
      go_wp2
      go_ret
      exact ⟨w.heap.size, rfl, Nat.le_refl _, ⟨cs, hb1, hs, hE⟩, B1⟩
end Go.Proofs.Ytbjnkjookokjaaa
