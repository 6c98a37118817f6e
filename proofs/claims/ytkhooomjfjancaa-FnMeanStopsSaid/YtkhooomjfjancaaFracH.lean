/- The walk of the law FnMeanStops. -/
import Derived.Test.YtkhooomjfjancaaFracG
import Derived.Test.YtkhooomjfjancaaOwn
namespace Go.Proofs.Ytkhooomjfjancaa
open Go.ChangeShapes Go.WideShapes Go.ChangeAt Go.RowKit

/-- Whether a list has a number; a Bool that the walk does not open. -/
def hasB (xs : List Int) (y : Int) : Bool := xs.contains y
theorem hasB_yes {xs : List Int} {y : Int} {n k : Nat} (hn : xs.length = n) (hk : k < n) (h : xs[k]?.getD 0 = y) : hasB xs y = true := by
  unfold hasB
  rw [List.contains_iff_mem, ← h, List.getElem?_eq_getElem (by omega)]
  exact List.getElem_mem _
theorem hasB_no {xs : List Int} {y : Int} {n : Nat} (hn : xs.length = n) (h : ∀ k, k < n → xs[k]?.getD 0 ≠ y) : hasB xs y = false := by
  cases e : hasB xs y with
  | false => rfl
  | true =>
    unfold hasB at e
    rw [List.contains_iff_mem] at e
    obtain ⟨i, hi, he⟩ := List.getElem_of_mem e
    have := h i (by omega)
    rw [List.getElem?_eq_getElem hi] at this
    exact absurd he this

set_option maxHeartbeats 1000000 in
theorem hasInt_any (A : Option Addr) (n c : Nat) (xs : List Int) (y : Int) (w : World) (h : Ints w A n xs) :
    Calls Try.prog 26 #[.slice A n c, .int .i64 y] w fun e w' => e = .returned (.bool (hasB xs y)) ∧ w = w' := by
  obtain ⟨hl, hm, hc⟩ := h
  have HL := Lib.hid hl
  have HC := Lib.hid hc
  clear hl hc
  go_enter Try.func26, Try.ntmps26
  go_wp2
  go_loop [5] (fun i => ∃ k : Nat, k ≤ n ∧ i = .int .i64 k ∧ ∀ j, j < k → xs[j]?.getD 0 ≠ y) (fun i => n - (intOf i).toNat)
  case atStart => exact ⟨0, Nat.zero_le _, rfl, fun j hj => by omega⟩
  case round =>
    obtain ⟨k, hk, rfl, hall⟩ := hrel
    have HA := Lib.hid hall
    clear hall
    by_cases hlt : k < n
    · obtain ⟨q, off, rfl, hb, hcc⟩ := HC.out (by omega)
      obtain ⟨z, hz⟩ : ∃ z, xs[k]?.getD 0 = z := ⟨_, rfl⟩
      have e0 := hcc k hlt
      rw [hz] at e0
      have HZ := Lib.hid hz
      clear hcc hz
      have hlt' : (k : Int) < (n : Int) := by omega
      rcases beq_or z y with ⟨y1, g1⟩ | ⟨y1, g1⟩
      · have G1 := Lib.hid g1
        clear g1
        go_wp2
        go_ret
        exact ⟨ret_bool (hasB_yes HL.out hlt (by rw [HZ.out, G1.out])).symm, rfl⟩
      · have G1 := Lib.hid g1
        clear g1
        go_wp2
        go_round
        case rel => exact ⟨k + 1, by omega, by go_num, fun j hj => by
          by_cases e : j = k
          · subst e; rw [HZ.out]; have := G1.out; omega
          · exact HA.out j (by omega)⟩
        case measure => simp [intOf]; omega
    · obtain rfl : k = n := by omega
      go_wp2
      go_ret
      exact ⟨ret_bool (hasB_no HL.out HA.out).symm, rfl⟩


/-- A list of numbers from 0 on, as Go has it. -/
def toZ (xs : List Nat) : List Int := xs.map fun (a : Nat) => (a : Int)
theorem toZ_length (xs : List Nat) : (toZ xs).length = xs.length := by simp [toZ]
theorem toZ_has (xs : List Nat) (y : Nat) : hasB (toZ xs) (y : Int) = xs.contains y := by
  rw [Bool.eq_iff_iff]
  unfold hasB toZ
  rw [List.contains_iff_mem, List.contains_iff_mem, List.mem_map]
  constructor
  · rintro ⟨a, ha, e⟩
    have : a = y := by omega
    rw [← this]; exact ha
  · exact fun h => ⟨y, h, rfl⟩
theorem seen_succ (f x k : Nat) : FP.seen f x (k + 1) = if (FP.seen f x k).contains (x / f ^ k % f) then FP.seen f x k else FP.seen f x k ++ [x / f ^ k % f] := rfl
theorem seenSum_succ (f r k : Nat) : FP.seenSum f r (k + 1) = FP.seenSum f r k + (FP.seen f k r).length := rfl
theorem seen_len (f x : Nat) : ∀ k, (FP.seen f x k).length ≤ k
  | 0 => Nat.zero_le _
  | k + 1 => by have := seen_len f x k; rw [seen_succ]; split <;> simp <;> omega
theorem seenSum_le (f r : Nat) : ∀ k, FP.seenSum f r k ≤ r * k
  | 0 => Nat.zero_le _
  | k + 1 => by have := seenSum_le f r k; have := seen_len f k r; rw [seenSum_succ, Nat.mul_succ]; omega

theorem stops_cast {f r : Nat} (h1 : 1 ≤ f) : (f : Int) * (powZ f r - powZ ((f : Int) - 1) r) = ((f * (f ^ r - (f - 1) ^ r) : Nat) : Int) := by
  have e : (f : Int) - 1 = ((f - 1 : Nat) : Int) := by omega
  rw [e, powZ_cast, powZ_cast]
  have := Nat.pow_le_pow_left (show f - 1 ≤ f by omega) r
  rw [Int.natCast_mul, Int.natCast_sub this]
theorem stops_ok {f r : Nat} (h1 : 1 ≤ f) (h2 : f ≤ 6) (h4 : r ≤ 6) : fracOk ((f * (f ^ r - (f - 1) ^ r) : Nat) : Int) ((f ^ r : Nat) : Int) := by
  have h6 := pow_small f h2 r h4
  have h7 := pow_pos' (r := r) h1
  have h8 : f * (f ^ r - (f - 1) ^ r) ≤ 6 * 46656 := Nat.mul_le_mul h2 (by omega)
  exact ⟨by omega, by omega, by omega, by omega⟩
theorem stopsT_low {f r : Nat} (h1 : 1 ≤ f) (h2 : f ≤ 6) (h4 : r ≤ 6) (hp : partyB f r = true) : stopsT (f : Int) (r : Int) = (((FP.stopsF f r).1 : Int), ((FP.stopsF f r).2 : Int), true) ∧
    fracT ((f * (f ^ r - (f - 1) ^ r) : Nat) : Int) ((f ^ r : Nat) : Int) = (((FP.stopsF f r).1 : Int), ((FP.stopsF f r).2 : Int), true) := by
  have h := fracT_low (stops_ok h1 h2 h4)
  simp only [Int.toNat_natCast] at h
  refine ⟨?_, h⟩
  unfold stopsT
  rw [if_pos hp, stops_cast h1, powZ_cast]
  exact h

set_option maxRecDepth 100000 in
set_option maxHeartbeats 8000000 in
theorem walk_FnMeanStops (A : Option Addr) (n c : Nat) (g : Nat → Int) (w : World) (hB : Bytes w A n c g) : Calls Try.prog 9 #[.slice A n c] w fun e w' => e = .returned (.bool true) ∧ Below w.heap.size w w' := by
  by_cases hn : 1048576 < n
  · have hn' : (1048576 : Int) < (n : Int) := by omega
    go_enter Try.func9, Try.ntmps9
    go_wp2
    go_ret
    exact ⟨rfl, by (repeat' (first | (with_reducible exact Below.refl _ _) | (with_reducible assumption) | (with_reducible exact bundrew (by assumption)) | (with_reducible refine balloc ?_ _) | (with_reducible refine bset ?_ _ ?_ _) | (with_reducible refine Below.drew ?_) | (with_reducible refine bdrewN ?_ _) | (with_reducible refine bvia (by assumption) ?_) | (with_reducible refine Below.trans ?_ (by assumption)) | omega | (simp; omega) | (simp; done)))⟩
  · have hn' : (n : Int) ≤ 1048576 := by omega
    go_enter Try.func9, Try.ntmps9
    go_wp2_with fail
    refine (drawMeanStops_any A n c g _ hB).mono ?_
    rintro x wd ⟨f, r, rfl, hf7, hr7, hbd⟩
    by_cases hp : partyB f r = true
    · obtain ⟨i1, i2, i3, i4⟩ := party_open hp
      have f1 : 1 ≤ f := by omega
      have f6 : f ≤ 6 := by omega
      have r1 : 1 ≤ r := by omega
      have r6 : r ≤ 6 := by omega
      have TI := fun w => stops_impl (f : Int) (r : Int) w
      have TS := fun w => stops_spec (f : Int) (r : Int) w
      obtain ⟨e1, e2⟩ := stopsT_low f1 f6 r6 hp
      obtain ⟨l1, l2, l3⟩ := FP.stops_law f1 f6 r1 r6
      have TZ := fun w => frac_impl ((f * (f ^ r - (f - 1) ^ r) : Nat) : Int) ((f ^ r : Nat) : Int) w
      simp only [e1] at TI TS
      simp only [e2] at TZ
      have HE := Lib.hid (show f ^ r ≤ 300 → FP.seenSum f r (f ^ r) = f * (f ^ r - (f - 1) ^ r) from fun h => FP.seen_eq f1 f6 r1 r6 h)
      obtain ⟨P, hP⟩ : ∃ P, (FP.stopsF f r).1 = P := ⟨_, rfl⟩
      obtain ⟨Q, hQ⟩ : ∃ Q, (FP.stopsF f r).2 = Q := ⟨_, rfl⟩
      rw [hP, hQ] at TI TS TZ
      rw [hP, hQ] at l1 l2 l3
      have hq := (show (FP.stopsF f r).2 ≤ f ^ r from FP.low_le.2)
      have hpw := pow_small f f6 r r6
      rw [hQ] at hq
      obtain ⟨D, hD⟩ : ∃ D, f * (f ^ r - (f - 1) ^ r) = D := ⟨_, rfl⟩
      rw [hD] at TZ HE
      obtain ⟨N, hN⟩ : ∃ N, f ^ r = N := ⟨_, rfl⟩
      rw [hN] at TZ HE hq hpw
      have HL := Lib.hid (fun w => lists_any f r w f6 r6)
      rw [hN] at HL
      have HI := Lib.hid TI
      have HS := Lib.hid TS
      have HZ := Lib.hid TZ
      obtain ⟨fq, m1, m2, m3⟩ := mul_bd (a := (f : Int)) (b := (Q : Int)) (A := 6) (B := 46656) (by omega) (by omega) (by omega) (by omega)
      obtain ⟨rq, m4, m5, m6⟩ := mul_bd (a := (r : Int)) (b := (Q : Int)) (A := 6) (B := 46656) (by omega) (by omega) (by omega) (by omega)
      have l2' : (P : Int) ≤ rq := by rw [← m4]; exact_mod_cast l2
      have l3' : (P : Int) ≤ fq := by rw [← m1]; exact_mod_cast l3
      have l1' : (Q : Int) ≤ (P : Int) := by omega
      have N5 : (N : Int) ≤ 46656 := by omega
      have fi1 : 1 ≤ (f : Int) := by omega
      have fi6 : (f : Int) ≤ 6 := by omega
      have ri6 : (r : Int) ≤ 6 := by omega
      clear TI TS TZ e1 e2 l1 l2 l3 hP hQ hN hD hp i1 i2 i3 i4
      go_wp2_with fail
      refine (HI.out _).mono ?_
      rintro e w1 ⟨rfl, hbw1⟩
      obtain ⟨hcw1, hfw1, -, -, -, hsw1⟩ := bfacts5 hbw1
      try simp only [World.size_drew] at hcw1 hfw1
      try simp at hsw1
      go_wp2_with fail
      refine (HS.out _).mono ?_
      rintro e w2 ⟨rfl, hbw2⟩
      obtain ⟨hcw2, hfw2, -, -, -, hsw2⟩ := bfacts5 hbw2
      try simp only [World.size_drew] at hcw2 hfw2
      try simp at hsw2
      have qw20 : w1.heap.size < w2.heap.size := (by omega)
      have rw20 : ∀ m : Nat, w1.heap.size < w2.heap.size + m := fun m => (by omega)
      go_wp2_with fail
      refine (HL.out _).mono ?_
      rintro x w' ⟨rfl, rfl⟩
      by_cases hN3 : N ≤ 300
      · have hN3' : (N : Int) ≤ 300 := by omega
        have he1 := HE.out hN3
        have TZ := HZ.out
        rw [← he1] at TZ
        have HZ2 := Lib.hid TZ
        have HSum := Lib.hid (seenSum_le f r)
        have B2 : Below w.heap.size w w2 := by (repeat' (first | (with_reducible exact Below.refl _ _) | (with_reducible assumption) | (with_reducible exact bundrew (by assumption)) | (with_reducible refine balloc ?_ _) | (with_reducible refine bset ?_ _ ?_ _) | (with_reducible refine Below.drew ?_) | (with_reducible refine bdrewN ?_ _) | (with_reducible refine bvia (by assumption) ?_) | (with_reducible refine Below.trans ?_ (by assumption)) | omega | (simp; omega) | (simp; done)))
        have qq : w1.heap.size < w2.heap.size := by omega
        clear TZ he1 HZ HE
        go_wp2_with fail
        go_loopw [10, 11] (fun s i wr => ∃ k : Nat, k ≤ N ∧ i = .int .i64 k ∧ s = .int .i64 ((FP.seenSum f r k : Nat) : Int) ∧ wr.cell? ⟨w1.heap.size, 0, none⟩ = some (.int .i64 P) ∧ wr.cell? ⟨w1.heap.size, 1, none⟩ = some (.int .i64 Q) ∧ Below w.heap.size w wr ∧ w2.heap.size ≤ wr.heap.size) (fun _ i _ => N - (intOf i).toNat)
        case atStart => exact ⟨0, Nat.zero_le _, rfl, rfl, by go_simp, by go_simp, by (repeat' (first | (with_reducible exact Below.refl _ _) | (with_reducible assumption) | (with_reducible exact bundrew (by assumption)) | (with_reducible refine balloc ?_ _) | (with_reducible refine bset ?_ _ ?_ _) | (with_reducible refine Below.drew ?_) | (with_reducible refine bdrewN ?_ _) | (with_reducible refine bvia (by assumption) ?_) | (with_reducible refine Below.trans ?_ (by assumption)) | omega | (simp; omega) | (simp; done))), by simp⟩
        case round =>
          obtain ⟨k, hk, rfl, rfl, p0, p1, B3, s3⟩ := hrel
          obtain ⟨wk, hwk⟩ : ∃ wk : World, wk = wr := ⟨_, rfl⟩
          subst hwk
          by_cases hlt : k < N
          · have hlt' : (k : Int) < (N : Int) := by omega
            have hsm := HSum.out k
            have hsm2 : r * k ≤ 6 * 300 := Nat.mul_le_mul r6 (by omega)
            obtain ⟨S, hS⟩ : ∃ S, FP.seenSum f r k = S := ⟨_, rfl⟩
            rw [hS] at hsm
            have HS' := Lib.hid hS
            rw [hS]
            have hs3 : (S : Int) ≤ 1800 := by omega
            have hz := OwnI.made (w := wk.alloc (.cells #[] 3)) (base := wk.heap.size) (g := wk.heap.size) (xs := []) (Nat.le_refl _) (heap_alloc_new wk _) (by unfold maxLen; decide)
            have BA : Below wk.heap.size wk (wk.alloc (.cells #[] 3)) := (Below.refl _ wk).alloc (Nat.le_refl _) _
            clear hsm hsm2 hS
            go_wp2
            go_loopw [12, 13, 14] (fun v q i ws => ∃ (v0 : Value) (j : Nat), v0 = v ∧ j ≤ r ∧ i = .int .i64 j ∧ q = .int .i64 ((k / f ^ j : Nat) : Int) ∧ OwnI ws wk.heap.size v0 (toZ (FP.seen f k j)) ∧ Below wk.heap.size wk ws) (fun _ _ i _ => r - (intOf i).toNat)
            case atStart => exact ⟨_, 0, rfl, Nat.zero_le _, rfl, by simp, hz, BA⟩
            case round =>
              obtain ⟨v0, j, rfl, hj, rfl, rfl, hv, Bk⟩ := hrel
              have hlen := seen_len f k j
              obtain ⟨q, hq0⟩ : ∃ q, k / f ^ j = q := ⟨_, rfl⟩
              have hqk : q ≤ k := by rw [← hq0]; exact Nat.div_le_self _ _
              rw [hq0]
              have HQ := Lib.hid hq0
              have hq' : (q : Int) ≤ 300 := by omega
              have sB := Bk.size
              obtain ⟨xs, hxs⟩ : ∃ xs, FP.seen f k j = xs := ⟨_, rfl⟩
              rw [hxs] at hv hlen
              have HX := Lib.hid hxs
              clear hq0 hxs
              obtain ⟨A3, c3, hv3⟩ := hv.shape
              rw [toZ_length] at hv3
              subst hv3
              have I3 := hv.ints.2
              rw [toZ_length] at I3
              have hlen' : (xs.length : Int) ≤ 6 := by omega
              by_cases hjl : j < r
              · have hjl' : (j : Int) < (r : Int) := by omega
                have hm := Nat.mod_lt q (show f > 0 by omega)
                obtain ⟨s, hs⟩ : ∃ s, q % f = s := ⟨_, rfl⟩
                obtain ⟨d, hd⟩ : ∃ d, q / f = d := ⟨_, rfl⟩
                have hdq : d ≤ q := by rw [← hd]; exact Nat.div_le_self _ _
                have n1 : (q : Int).tmod (f : Int) = (s : Int) := by rw [Int.tmod_eq_emod_of_nonneg (by omega), ← hs]; exact (Int.natCast_emod _ _).symm
                have n2 : (q : Int) % (f : Int) = (s : Int) := by rw [← hs]; exact (Int.natCast_emod _ _).symm
                have n3 : (q : Int).tdiv (f : Int) = (d : Int) := by rw [Int.tdiv_eq_ediv_of_nonneg (by omega), ← hd]; exact (Int.natCast_ediv _ _).symm
                have n4 : (q : Int) / (f : Int) = (d : Int) := by rw [← hd]; exact (Int.natCast_ediv _ _).symm
                rw [hs] at hm
                have hs6 : (s : Int) ≤ 6 := by omega
                have hd6 : (d : Int) ≤ 300 := by omega
                have HS2 := Lib.hid hs
                have HD2 := Lib.hid hd
                have hz1 : (toZ xs).length ≤ 1000000000 := by rw [toZ_length]; omega
                have TH := hasInt_any A3 xs.length c3 (toZ xs) (s : Int) wr I3
                rw [toZ_has] at TH
                clear hs hd
                obtain ⟨b, hb⟩ : ∃ b, xs.contains s = b := ⟨_, rfl⟩
                rw [hb] at TH
                have HB := Lib.hid hb
                clear hb
                go_wp2_with fail
                refine TH.mono ?_
                rintro x w' ⟨rfl, rfl⟩
                cases b
                · go_wp2_with (at_builtin; refine app_int rfl _ _ rfl (wk.heap.size) wr.heap.size _ (toZ xs) (s : Int) rfl rfl (hv.alloc _) ?_ ?_ ?_ ?_; (focus (first | (go_simp; done) | (simp; done) | omega | (simp; omega))); (focus (first | (go_simp; done) | (simp; done) | omega | (simp; omega))); (focus (first | (go_simp; done) | (simp; done) | omega | (simp; omega))); intro v6 w6 h6 g6; have zw6 := g6.size; (try simp at zw6))
                  have g7 : Below wk.heap.size wr w6 := ((Below.refl _ wr).alloc sB _).trans g6
                  refine ⟨⟨_, j + 1, rfl, by omega, by go_num, by rw [div_next, HQ.out, HD2.out], ?_, Bk.trans g7⟩, by simp [intOf]; omega⟩
                  rw [seen_succ, HX.out, HQ.out, HS2.out, HB.out]
                  simpa [toZ] using h6
                · go_wp2
                  refine ⟨⟨_, j + 1, rfl, by omega, by go_num, by rw [div_next, HQ.out, HD2.out], ?_, Bk⟩, by simp [intOf]; omega⟩
                  rw [seen_succ, HX.out, HQ.out, HS2.out, HB.out]
                  simpa using hv
              · have hjr : j = r := by omega
                subst hjr
                have q0 : wr.cell? ⟨w1.heap.size, 0, none⟩ = some (.int .i64 P) := (Bk.cell (p := ⟨w1.heap.size, 0, none⟩) (by simp; omega)).trans p0
                have q1 : wr.cell? ⟨w1.heap.size, 1, none⟩ = some (.int .i64 Q) := (Bk.cell (p := ⟨w1.heap.size, 1, none⟩) (by simp; omega)).trans p1
                have B5 : Below w.heap.size w wr := bvia Bk B3
                go_wp2
                exact ⟨⟨k + 1, by omega, by go_num, by rw [seenSum_succ, HS'.out, HX.out]; go_num, q0, q1, B5, by omega⟩, by simp [intOf]; omega⟩
          · have hkN : k = N := by omega
            subst hkN
            have q1 : w1.heap.size < wk.heap.size := by omega
            go_wp2_with fail
            refine (HZ2.out _).mono ?_
            rintro e w3 ⟨rfl, hbw3⟩
            obtain ⟨hcw3, hfw3, -, -, -, hsw3⟩ := bfacts5 hbw3
            try simp only [World.size_drew] at hcw3 hfw3
            try simp at hsw3
            have qw30 : w1.heap.size < w3.heap.size := (by omega)
            have rw30 : ∀ m : Nat, w1.heap.size < w3.heap.size + m := fun m => (by omega)
            go_wp2
            go_ret
            exact ⟨rfl, by (repeat' (first | (with_reducible exact Below.refl _ _) | (with_reducible assumption) | (with_reducible exact bundrew (by assumption)) | (with_reducible refine balloc ?_ _) | (with_reducible refine bset ?_ _ ?_ _) | (with_reducible refine Below.drew ?_) | (with_reducible refine bdrewN ?_ _) | (with_reducible refine bvia (by assumption) ?_) | (with_reducible refine Below.trans ?_ (by assumption)) | omega | (simp; omega) | (simp; done)))⟩
      · have hN3' : 300 < (N : Int) := by omega
        go_wp2
        go_ret
        exact ⟨rfl, by (repeat' (first | (with_reducible exact Below.refl _ _) | (with_reducible assumption) | (with_reducible exact bundrew (by assumption)) | (with_reducible refine balloc ?_ _) | (with_reducible refine bset ?_ _ ?_ _) | (with_reducible refine Below.drew ?_) | (with_reducible refine bdrewN ?_ _) | (with_reducible refine bvia (by assumption) ?_) | (with_reducible refine Below.trans ?_ (by assumption)) | omega | (simp; omega) | (simp; done)))⟩
    · have TI := fun w => stops_impl (f : Int) (r : Int) w
      have TS := fun w => stops_spec (f : Int) (r : Int) w
      have e1 : stopsT (f : Int) (r : Int) = (0, 0, false) := by unfold stopsT; rw [if_neg hp]
      simp only [e1] at TI TS
      have HI := Lib.hid TI
      have HS := Lib.hid TS
      clear TI TS hp e1
      go_wp2_with fail
      refine (HI.out _).mono ?_
      rintro e w1 ⟨rfl, hbw1⟩
      obtain ⟨hcw1, hfw1, -, -, -, hsw1⟩ := bfacts5 hbw1
      try simp only [World.size_drew] at hcw1 hfw1
      try simp at hsw1
      go_wp2_with fail
      refine (HS.out _).mono ?_
      rintro e w2 ⟨rfl, hbw2⟩
      obtain ⟨hcw2, hfw2, -, -, -, hsw2⟩ := bfacts5 hbw2
      try simp only [World.size_drew] at hcw2 hfw2
      try simp at hsw2
      have qw20 : w1.heap.size < w2.heap.size := (by omega)
      have rw20 : ∀ m : Nat, w1.heap.size < w2.heap.size + m := fun m => (by omega)
      go_wp2_with (go_at_call 22; refine (alive_any _).mono ?_; rintro x w5 ⟨rfl, hb5⟩)
      go_ret
      exact ⟨rfl, by (repeat' (first | (with_reducible exact Below.refl _ _) | (with_reducible assumption) | (with_reducible exact bundrew (by assumption)) | (with_reducible refine balloc ?_ _) | (with_reducible refine bset ?_ _ ?_ _) | (with_reducible refine Below.drew ?_) | (with_reducible refine bdrewN ?_ _) | (with_reducible refine bvia (by assumption) ?_) | (with_reducible refine Below.trans ?_ (by assumption)) | omega | (simp; omega) | (simp; done)))⟩
end Go.Proofs.Ytkhooomjfjancaa
