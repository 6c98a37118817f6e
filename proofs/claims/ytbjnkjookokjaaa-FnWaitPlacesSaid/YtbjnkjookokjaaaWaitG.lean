/- The best one of plans (bestOfPlans): contract. -/
import Derived.Test.YtbjnkjookokjaaaWaitF
import Derived.Test.YtbjnkjookokjaaaQTail
namespace Go.Proofs.Ytbjnkjookokjaaa
open Go.ChangeShapes Go.WideShapes Go.ChangeAt Go.RowKit

/-- Only orders have been drawn. -/
def Drawn (a b : World) : Prop := ∃ m, b = a.drewN m
theorem Drawn.refl (a : World) : Drawn a a := ⟨0, rfl⟩
theorem Drawn.drew {a b : World} (h : Drawn a b) : Drawn a b.drew := by obtain ⟨m, rfl⟩ := h; exact ⟨m + 1, rfl⟩
theorem Drawn.then {a b : World} (h : Drawn a b) (m : Nat) : Drawn a (b.drewN m) := by obtain ⟨k, rfl⟩ := h; exact ⟨k + m, World.drewN_drewN _ _ _⟩
theorem Drawn.ints {a b : World} {A : Option Addr} {n : Nat} {xs : List Int} (h : Ints a A n xs) (d : Drawn a b) : Ints b A n xs := by obtain ⟨m, rfl⟩ := d; exact h.drewN m
theorem Drawn.blk {a b : World} {g : Nat} {t : TypeId} {cs : Array Value} (h : Blk a g t cs) (d : Drawn a b) : Blk b g t cs := by obtain ⟨m, rfl⟩ := d; exact h.drewN m
theorem Drawn.below {a b w : World} {n : Nat} (h : Below n w a) (d : Drawn a b) : Below n w b := by obtain ⟨m, rfl⟩ := d; exact bdrewN h m
theorem Drawn.size {a b : World} (d : Drawn a b) : b.heap.size = a.heap.size := by obtain ⟨m, rfl⟩ := d; rfl

/-- Plans with bounds. -/
def Fair (n : Nat) (P : Nat → Option (Int × Nat)) : Prop := ∀ i, i < n → 0 ≤ pc (P i) ∧ pc (P i) ≤ 10000
theorem PlanRow.below {w w' : World} {g n B : Nat} {P : Nat → Option (Int × Nat)} (h : PlanRow w g n P) (hb : Below B w w') (hg : g < B) : PlanRow w' g n P := by
  obtain ⟨cs, h1, h2⟩ := h
  exact ⟨cs, h1.below hb hg, h2⟩
theorem PlanRow.at_ {w : World} {g n : Nat} {P : Nat → Option (Int × Nat)} (h : PlanRow w g n P) {i : Nat} (hi : i < n) :
    w.cell? ⟨g, i * 3, none⟩ = some (.bool (P i).isSome) ∧ w.cell? ⟨g, i * 3 + 1, none⟩ = some (.int .i64 (pc (P i))) ∧ w.cell? ⟨g, i * 3 + 2, none⟩ = some (.int .i64 ((ps (P i) : Nat) : Int)) ∧ g < w.heap.size := by
  obtain ⟨cs, h1, h2, h3⟩ := h
  obtain ⟨e1, e2, e3⟩ := h3 i hi
  exact ⟨by rw [h1.cell]; exact e1, by rw [h1.cell]; exact e2, by rw [h1.cell]; exact e3, h1.lt⟩
theorem pc_add (o : Option (Int × Nat)) (c : Int) (s : Nat) : (WP.add o c s).isSome = o.isSome ∧ (o.isSome = true → pc (WP.add o c s) = pc o + c ∧ ps (WP.add o c s) = ps o + s) := by
  cases o with
  | none => exact ⟨rfl, fun h => by cases h⟩
  | some a => exact ⟨rfl, fun _ => ⟨rfl, rfl⟩⟩
/-- The result of a comparison with a plan that has grown. -/
theorem bet_add {o p : Option (Int × Nat)} {c : Int} {s : Nat} : betB p.isSome (pc p + c) ((ps p + s : Nat) : Int) o.isSome (pc o) (ps o) = betB (WP.add p c s).isSome (pc (WP.add p c s)) (ps (WP.add p c s)) o.isSome (pc o) (ps o) := by
  cases p with
  | none => rfl
  | some a => rfl
theorem tail_in {xs os : List Int} {n k : Nat} (ho : oftB xs os = true) (hn : xs.length = n) (hk : k < n) (j : Nat) (hj : k + 1 + j ≤ n) :
    0 ≤ WP.sumTo (fun j => xN os (k + 1 + j) * WP.dist (xN xs) k (k + 1 + j)) j ∧ WP.sumTo (fun j => xN os (k + 1 + j) * WP.dist (xN xs) k (k + 1 + j)) j ≤ 1200 * j :=
  sum_in j (fun i hi => term_in ho hn (by omega) hk (by omega))

set_option maxRecDepth 100000 in
set_option maxHeartbeats 8000000 in
theorem bestOf_any (A : Option Addr) (n c : Nat) (xs : List Int) (A' : Option Addr) (c' : Nat) (os : List Int) (g0 : Nat) (P : Nat → Option (Int × Nat)) (w : World) (ho : oftB xs os = true) (h : Ints w A n xs) (h' : Ints w A' n os) (hP : PlanRow w g0 n P) (hF : Fair n P) :
    Calls Try.prog 39 #[.slice A n c, .slice A' n c', .slice (some ⟨g0, 0, none⟩) n n] w fun e w' => e = .returned (.agg #[.bool (WP.bestOf (WP.tailC (xN xs) (xN os) n) P n).isSome, .int .i64 (pc (WP.bestOf (WP.tailC (xN xs) (xN os) n) P n)), .int .i64 ((ps (WP.bestOf (WP.tailC (xN xs) (xN os) n) P n) : Nat) : Int)]) ∧ Below w.heap.size w w' := by
  have HL := Lib.hid h.1
  have HT := Lib.hid ho
  have HV := Lib.hid (oftB_iff.1 ho).1
  have n8 : n ≤ 8 := by have := (fv_open (oftB_iff.1 ho).1).2.1; have := HL.out; omega
  have I1 := Lib.hid h
  have I2 := Lib.hid h'
  have hg0 : g0 < w.heap.size ∨ n = 0 := by
    rcases Nat.eq_zero_or_pos n with h0 | h0
    · exact .inr h0
    · exact .inl (hP.at_ h0).2.2.2
  have IP := Lib.hid hP
  have IF := Lib.hid hF
  obtain ⟨F, hFd⟩ : ∃ F : Nat → Option (Int × Nat), F = fun k => WP.pickAll (fun last => WP.add (P last) (WP.tailC (xN xs) (xN os) n last) 0) k := ⟨_, rfl⟩
  have hF0 : F 0 = none := by rw [hFd]; rfl
  have HFS : Hid (∀ k, F (k + 1) = WP.pick (F k) (WP.add (P k) (WP.tailC (xN xs) (xN os) n k) 0)) := Lib.hid (fun k => by rw [hFd]; rfl)
  rw [show WP.bestOf (WP.tailC (xN xs) (xN os) n) P n = F n by rw [hFd]; rfl]
  have HF0 := Lib.hid hF0
  clear h h' ho hP hF hFd hF0
  go_enter Try.func39, Try.ntmps39
  go_wp2
  go_loopw [13] (fun i wr => ∃ k : Nat, k ≤ n ∧ i = .int .i64 k ∧ Below w.heap.size w wr ∧ Blk wr w.heap.size 48 #[.bool false, .int .i64 0, .int .i64 0] ∧ Blk wr (w.heap.size + 1) 48 #[.bool (F k).isSome, .int .i64 (pc (F k)), .int .i64 ((ps (F k) : Nat) : Int)]) (fun i _ => n - (intOf i).toNat)
  case atStart =>
    refine ⟨0, Nat.zero_le _, rfl, by (repeat' (first | (with_reducible exact Below.refl _ _) | (with_reducible assumption) | (with_reducible exact bundrew (by assumption)) | (with_reducible refine balloc ?_ _) | (with_reducible refine bset ?_ _ ?_ _) | (with_reducible refine Below.drew ?_) | (with_reducible refine bdrewN ?_ _) | (with_reducible refine bvia (by assumption) ?_) | (with_reducible refine Below.trans ?_ (by assumption)) | omega | (simp; omega) | (simp; done))), (Blk.new _ _ _).alloc _, ?_⟩
    rw [HF0.out]
    have := Blk.new (w.alloc (.cells #[.bool false, .int .i64 0, .int .i64 0] 48)) 48 #[.bool false, .int .i64 0, .int .i64 0]
    show Blk _ (w.heap.size + 1) _ #[.bool false, .int .i64 0, .int .i64 0]
    simpa using this
  case round =>
    obtain ⟨k, hk, rfl, B1, K1, K2⟩ := hrel
    by_cases hlt : k < n
    · have hlt' : (k : Int) < (n : Int) := by omega
      have hg0' : g0 < w.heap.size := by omega
      obtain ⟨p1, p2, p3, -⟩ := (IP.out.below B1 hg0').at_ hlt
      obtain ⟨y1, y2⟩ := IF.out k hlt
      have HFk := Lib.hid (HFS.out k)
      have hl2 := K2.lt
      obtain ⟨G, hG⟩ : ∃ G, F k = G := ⟨_, rfl⟩
      obtain ⟨Q, hQ⟩ : ∃ Q, P k = Q := ⟨_, rfl⟩
      rw [hG] at K2 HFk
      rw [hQ] at p1 p2 p3 y1 y2 HFk
      clear hG hQ
      obtain ⟨b0, hb0⟩ : ∃ b, Q.isSome = b := ⟨_, rfl⟩
      obtain ⟨c0, hc0⟩ : ∃ b, pc Q = b := ⟨_, rfl⟩
      obtain ⟨s0, hs0⟩ : ∃ b, ps Q = b := ⟨_, rfl⟩
      have HQ1 := Lib.hid hb0
      have HQ2 := Lib.hid hc0
      have HQ3 := Lib.hid hs0
      rw [hb0] at p1
      rw [hc0] at p2 y1 y2
      rw [hs0] at p3
      have k0 := K2.cell 0
      have k1 := K2.cell 1
      have k2 := K2.cell 2
      simp at k0 k1 k2
      have L1 := Lib.hid K1
      have L2 := Lib.hid K2
      clear K1 K2 hb0 hc0 hs0
      obtain ⟨wo, hwo⟩ : ∃ wo : World, wo = wr := ⟨_, rfl⟩
      subst hwo
      go_wp2
      go_loopw [10] (fun i ws => ∃ f j : Nat, f = k + 1 + j ∧ f ≤ n ∧ i = .int .i64 (f : Int) ∧ Below wo.heap.size wo ws ∧ Blk ws wo.heap.size 48 #[.bool b0, .int .i64 (c0 + WP.sumTo (fun j => xN os (k + 1 + j) * WP.dist (xN xs) k (k + 1 + j)) j), .int .i64 (s0 : Int)]) (fun i _ => n - (intOf i).toNat)
      case atStart =>
        exact ⟨k + 1, 0, by omega, by omega, by go_num, by (repeat' (first | (with_reducible exact Below.refl _ _) | (with_reducible assumption) | (with_reducible exact bundrew (by assumption)) | (with_reducible refine balloc ?_ _) | (with_reducible refine bset ?_ _ ?_ _) | (with_reducible refine Below.drew ?_) | (with_reducible refine bdrewN ?_ _) | (with_reducible refine bvia (by assumption) ?_) | (with_reducible refine Below.trans ?_ (by assumption)) | omega | (simp; omega) | (simp; done))), by simpa [WP.sumTo] using Blk.new wo 48 #[.bool b0, .int .i64 c0, .int .i64 (s0 : Int)]⟩
      case round =>
        obtain ⟨f, j, hfj, hfn, rfl, B2, K3⟩ := hrel
        have hkf : k < f := by omega
        have HFJ := Lib.hid hfj
        clear hfj
        by_cases hjl : f < n
        · have hjl' : (f : Int) < (n : Int) := by omega
          have b2 := tail_in HT.out HL.out hlt j (by have := HFJ.out; omega)
          have hj8 : j ≤ 8 := by have := HFJ.out; omega
          have b1 := term_in HT.out HL.out (f := f) (a := k) (b := f) hjl hlt hjl
          have HS : Hid (WP.sumTo (fun j => xN os (k + 1 + j) * WP.dist (xN xs) k (k + 1 + j)) (j + 1) = WP.sumTo (fun j => xN os (k + 1 + j) * WP.dist (xN xs) k (k + 1 + j)) j + xN os f * WP.dist (xN xs) k f) := Lib.hid (by rw [HFJ.out]; rfl)
          have R1 := Lib.hid ((I1.out.below B1).below B2)
          obtain ⟨q, off, hA', hq, hqc⟩ := ((I2.out.below B1).below B2).2.2 (by omega)
          subst hA'
          have c1 := hqc f hjl
          have c2 := K3.cell 1
          have c3 := K3.frozen 1
          have hl3 := K3.lt
          simp at c2
          have WY := fun W hW => way_impl A n c xs (k : Int) (f : Int) W hW
          rw [way_dist HV.out HL.out hlt hjl] at WY
          have HWY := Lib.hid WY
          obtain ⟨S, hS⟩ : ∃ S, WP.sumTo (fun j => xN os (k + 1 + j) * WP.dist (xN xs) k (k + 1 + j)) j = S := ⟨_, rfl⟩
          obtain ⟨u, hu⟩ : ∃ u, xN os f = u := ⟨_, rfl⟩
          obtain ⟨d, hd⟩ : ∃ d, WP.dist (xN xs) k f = d := ⟨_, rfl⟩
          rw [show os[f]?.getD 0 = xN os f from rfl, hu] at c1
          rw [hS] at c2 b2 K3
          rw [hu, hd] at b1
          rw [hd] at HWY
          rw [hS, hu, hd] at HS
          obtain ⟨p, hp⟩ : ∃ p, u * d = p := ⟨_, rfl⟩
          rw [hp] at b1 HS
          obtain ⟨s, hs⟩ : ∃ s, c0 + S = s := ⟨_, rfl⟩
          have HSS : Hid (c0 + (S + p) = s + p) := Lib.hid (by omega)
          rw [hs] at c2 K3
          have e4 : IntKind.i64.wrap (u * d) = p := by rw [hp]; exact IntWalk.i64_in _ ⟨by omega, by omega⟩
          have e5 : IntKind.i64.wrap (s + p) = s + p := IntWalk.i64_in _ ⟨by omega, by omega⟩
          have e6 : IntKind.i64.wrap p = p := IntWalk.i64_in _ ⟨by omega, by omega⟩
          have L3 := Lib.hid K3
          have D0 := Drawn.refl wr
          clear hqc WY hS hu hd hp hs K3
          go_wp2_with fail
          refine region_quiet_tail 13 (by kernel_rfl) (by kernel_rfl) ?_
          simp only [List.take_succ_cons, List.take_zero, List.drop_succ_cons, List.drop_zero]
          repeat (quiet_step ((go_at_call 36; exact Calls.quiet_of (Qt.of (HWY.out _ (R1.out.drewN _))))))
          refine wpQuiet_nil ?_
          intro _ hw'
          obtain ⟨nq, hw''⟩ := hw'
          subst hw''
          go_wp2
          refine ⟨⟨f + 1, j + 1, by have := HFJ.out; omega, by omega, by go_num, ?_, ?_⟩, by simp [intOf]; omega⟩
          all_goals first
            | (rw [HS.out, HSS.out]; have := (L3.out.drewN nq).set_ 1 (.int .i64 (s + p)); (try rw [e6, e5]); exact this)
            | (repeat' (first | (with_reducible exact Below.refl _ _) | (with_reducible assumption) | (with_reducible exact bundrew (by assumption)) | (with_reducible refine balloc ?_ _) | (with_reducible refine bset ?_ _ ?_ _) | (with_reducible refine Below.drew ?_) | (with_reducible refine bdrewN ?_ _) | (with_reducible refine bvia (by assumption) ?_) | (with_reducible refine Below.trans ?_ (by assumption)) | omega | (simp; omega) | (simp; done)))
        · obtain rfl : f = n := by omega
          have hjt : j = f - (k + 1) := by have := HFJ.out; omega
          have htl : WP.sumTo (fun j => xN os (k + 1 + j) * WP.dist (xN xs) k (k + 1 + j)) j = WP.tailC (xN xs) (xN os) f k := by rw [hjt]; rfl
          rw [htl] at K3
          obtain ⟨T, hT⟩ : ∃ T, WP.tailC (xN xs) (xN os) f k = T := ⟨_, rfl⟩
          rw [hT] at K3 HFk
          have d0 := K3.cell 0
          have d1 := K3.cell 1
          have d2 := K3.cell 2
          simp at d0 d1 d2
          have d3 := K3.lt
          have M2 := L2.out.below_ B2
          have M1 := L1.out.below_ B2
          have k0' := M2.cell 0
          have k1' := M2.cell 1
          have k2' := M2.cell 2
          have kf := M2.frozen
          simp at k0' k1' k2'
          have hne : ¬ w.heap.size + 1 = wo.heap.size := by omega
          have hne' : ¬ wo.heap.size = w.heap.size + 1 := by omega
          have BET := fun W => better_any b0 (c0 + T) (s0 : Int) G.isSome (pc G) (ps G) W
          cases hbt : betB b0 (c0 + T) (s0 : Int) G.isSome (pc G) (ps G)
          all_goals
            have hbt2 := hbt
            rw [← HQ1.out, ← HQ2.out, ← HQ3.out, show ((ps Q : Nat) : Int) = ((ps Q + 0 : Nat) : Int) by simp, bet_add] at hbt2
            rw [hbt] at BET
            have HBET := Lib.hid BET
            clear BET hbt
          · have HFN : Hid (F (k + 1) = G) := Lib.hid (by rw [HFk.out, pick_no hbt2])
            clear hbt2
            go_wp2_with (go_at_call 48; refine (HBET.out _).mono ?_; rintro e w5 ⟨rfl, hb5⟩)
            exact ⟨⟨k + 1, by omega, by go_num, bvia hb5 (bvia B2 B1), M1.below_ hb5, by rw [HFN.out]; exact M2.below_ hb5⟩, by simp [intOf]; omega⟩
          · have HFN : Hid (F (k + 1) = WP.add Q T 0) := Lib.hid (by rw [HFk.out, pick_yes hbt2])
            have hsome : (WP.add Q T 0).isSome = true := by
              cases e : (WP.add Q T 0).isSome with
              | true => rfl
              | false => rw [e] at hbt2; simp [betB] at hbt2
            obtain ⟨a1, a2⟩ := pc_add Q T 0
            obtain ⟨a3, a4⟩ := a2 (by rw [← a1]; exact hsome)
            have HA1 : Hid ((WP.add Q T 0).isSome = b0) := Lib.hid (by rw [a1, HQ1.out])
            have HA2 : Hid (pc (WP.add Q T 0) = c0 + T) := Lib.hid (by rw [a3, HQ2.out])
            have HA3 : Hid (((ps (WP.add Q T 0) : Nat) : Int) = (s0 : Int)) := Lib.hid (by rw [a4, HQ3.out, Nat.add_zero])
            have L3 := Lib.hid K3
            have N1 := Lib.hid M1
            have N2 := Lib.hid M2
            clear hbt2 hsome a1 a2 a3 a4 K3 M1 M2
            go_wp2_with (go_at_call 48; refine (HBET.out _).mono ?_; rintro e w5 ⟨rfl, hb5⟩; have u3 := L3.out.below_ hb5; have u2 := N2.out.below_ hb5; have v0 := u3.cell 0; have v1 := u3.cell 1; have v2 := u3.cell 2; have x0 := u2.cell 0; have x1 := u2.cell 1; have x2 := u2.cell 2; have xf := u2.frozen; (simp at v0 v1 v2 x0 x1 x2))
            refine ⟨⟨k + 1, by omega, by go_num, ?_, ?_, ?_⟩, by simp [intOf]; omega⟩
            · (repeat' (first | (with_reducible exact Below.refl _ _) | (with_reducible assumption) | (with_reducible exact bundrew (by assumption)) | (with_reducible refine balloc ?_ _) | (with_reducible refine bset ?_ _ ?_ _) | (with_reducible refine Below.drew ?_) | (with_reducible refine bdrewN ?_ _) | (with_reducible refine bvia (by assumption) ?_) | (with_reducible refine Below.trans ?_ (by assumption)) | omega | (simp; omega) | (simp; done)))
            · have hw1 : w.heap.size ≠ w.heap.size + 1 := by omega
              exact (((N1.out.below_ hb5).far (p := ⟨w.heap.size + 1, 0, none⟩) hw1 _).far (p := ⟨w.heap.size + 1, 1, none⟩) hw1 _).far (p := ⟨w.heap.size + 1, 2, none⟩) hw1 _
            · rw [HFN.out, HA1.out, HA2.out, HA3.out]
              exact ((u2.set_ 0 _).set_ 1 _).set_ 2 _
    · obtain rfl : k = n := by omega
      have k0 := K2.cell 0
      have k1 := K2.cell 1
      have k2 := K2.cell 2
      have x0 := K1.cell 0
      have x1 := K1.cell 1
      have x2 := K1.cell 2
      have xf := K1.frozen
      simp at k0 k1 k2 x0 x1 x2
      have hl1 := K1.lt
      clear K1 K2
      go_wp2
      refine bodyPost_ret (by simp [results, Try.results39, go_sem, *]; try rfl) rfl ?_
      exact ⟨rfl, by (repeat' (first | (with_reducible exact Below.refl _ _) | (with_reducible assumption) | (with_reducible exact bundrew (by assumption)) | (with_reducible refine balloc ?_ _) | (with_reducible refine bset ?_ _ ?_ _) | (with_reducible refine Below.drew ?_) | (with_reducible refine bdrewN ?_ _) | (with_reducible refine bvia (by assumption) ?_) | (with_reducible refine Below.trans ?_ (by assumption)) | omega | (simp; omega) | (simp; done)))⟩
end Go.Proofs.Ytbjnkjookokjaaa
