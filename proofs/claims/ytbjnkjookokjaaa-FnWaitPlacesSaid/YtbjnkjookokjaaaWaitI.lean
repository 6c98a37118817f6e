/- WaitPlaces of the program: contract. -/
import Derived.Test.YtbjnkjookokjaaaWaitH
import Derived.Laws.BitsLemmas
namespace Go.Proofs.Ytbjnkjookokjaaa
open Go.ChangeShapes Go.WideShapes Go.ChangeAt Go.RowKit

theorem fv_asc {xs : List Int} (h : FV xs) : ∀ i j, i < j → j < xs.length → xN xs i < xN xs j := fun i j hij hj => by
  have h1 := h.2.2.2.1 i (by omega)
  have h2 := fv_up h (j - (i + 1)) (i + 1) (by omega)
  rw [show i + 1 + (j - (i + 1)) = j by omega] at h2
  unfold xN
  omega
theorem and_all : ((List.range 256).all fun s => (List.range 8).all fun k => (s &&& 2 ^ k) == if s / 2 ^ k % 2 = 1 then 2 ^ k else 0) = true := by decide +kernel
theorem and_nat {s k : Nat} (hs : s < 256) (hk : k < 8) : s &&& 2 ^ k = if s / 2 ^ k % 2 = 1 then 2 ^ k else 0 := by
  have h1 := List.all_eq_true.1 and_all s (by simpa using hs)
  have h2 := List.all_eq_true.1 h1 k (by simpa using hk)
  simpa using h2
/-- One bit of a number. -/
theorem and_bit (s k : Nat) (hs : s < 256) (hk : k < 8) : bits .and .i64 (s : Int) ((2 ^ k : Nat) : Int) = if s / 2 ^ k % 2 = 1 then ((2 ^ k : Nat) : Int) else 0 := by
  have hT := two_pow (n := k) (by omega)
  have o1 : (BitVec.ofInt 64 (s : Int)).toNat = s := by rw [BitVec.ofInt_natCast, BitVec.toNat_ofNat]; exact Nat.mod_eq_of_lt (by omega)
  have o2 : (BitVec.ofInt 64 ((2 ^ k : Nat) : Int)).toNat = 2 ^ k := by rw [BitVec.ofInt_natCast, BitVec.toNat_ofNat]; exact Nat.mod_eq_of_lt (by omega)
  show IntKind.i64.wrap ((BitVec.ofInt 64 (s : Int) &&& BitVec.ofInt 64 ((2 ^ k : Nat) : Int)).toNat : Int) = _
  rw [BitVec.toNat_and, o1, o2, IntKind.wrap_i64, and_nat hs hk]
  by_cases h : s / 2 ^ k % 2 = 1
  · rw [if_pos h, if_pos h]; omega
  · rw [if_neg h, if_neg h]; omega
/-- One floor more of a number's places. -/
theorem bit_step {s j : Nat} (hs : s < 256) (hj : j < 8) : ∃ T : Nat, wrap64 ((2 : Int) ^ j) = (T : Int) ∧ ((T : Int) == 0) = false ∧
    ((bits .and .i64 (s : Int) (T : Int) = (T : Int) ∧ nums (WP.bitsOf s (j + 1)) = nums (WP.bitsOf s j) ++ [(j : Int)]) ∨ (bits .and .i64 (s : Int) (T : Int) = 0 ∧ nums (WP.bitsOf s (j + 1)) = nums (WP.bitsOf s j))) := by
  have htp := two_pow (n := j) (by omega)
  have hab := and_bit s j hs hj
  have hsu := bits_succ s j
  obtain ⟨T, hT⟩ : ∃ T, 2 ^ j = T := ⟨_, rfl⟩
  have hp : ((2 : Int) ^ j) = (T : Int) := by rw [← hT, Int.natCast_pow]; rfl
  rw [hT] at htp hab hsu
  refine ⟨T, by rw [hp]; unfold wrap64; omega, by rw [beq_eq_false_iff_ne]; omega, ?_⟩
  by_cases h : s / T % 2 = 1
  · rw [if_pos h] at hab hsu
    exact .inl ⟨hab, by rw [hsu, nums_snoc]⟩
  · rw [if_neg h] at hab hsu
    exact .inr ⟨hab, by rw [hsu]⟩
theorem table_bnd {xs os : List Int} {n : Nat} (ho : oftB xs os = true) (hn : xs.length = n) : ∀ k, Bnd n (WP.table (WP.headC (xN xs) (xN os)) (WP.midC (xN xs) (xN os)) k)
  | 0 => first_bnd ho hn
  | k + 1 => further_bnd ho hn (table_bnd ho hn k)
/-- The best plan behind k rounds. -/
def overT (xs os : List Int) (n k : Nat) : Option (Int × Nat) := WP.over (WP.headC (xN xs) (xN os)) (WP.midC (xN xs) (xN os)) (WP.tailC (xN xs) (xN os) n) n k
theorem overT_some (xs os : List Int) (n k : Nat) (h1 : 1 ≤ n) : ∃ c s, overT xs os n k = some (c, s) ∧ s < 2 ^ n := by
  obtain ⟨S, h2, h3⟩ := WP.over_least (WP.headC (xN xs) (xN os)) (WP.midC (xN xs) (xN os)) (WP.tailC (xN xs) (xN os) n) n h1 k
  exact ⟨_, _, h2, WP.num_lt h3.1⟩
theorem overT_zero (xs os : List Int) (n : Nat) : overT xs os n 0 = WP.bestOf (WP.tailC (xN xs) (xN os) n) (WP.table (WP.headC (xN xs) (xN os)) (WP.midC (xN xs) (xN os)) 0) n := rfl
def joinT (o p : Option (Int × Nat)) : Option (Int × Nat) := match o, p with
  | some a, some b => if a.1 < b.1 then some a else some b
  | _, o => o
theorem overT_succ (xs os : List Int) (n k : Nat) : overT xs os n (k + 1) = joinT (WP.bestOf (WP.tailC (xN xs) (xN os) n) (WP.table (WP.headC (xN xs) (xN os)) (WP.midC (xN xs) (xN os)) (k + 1)) n) (overT xs os n k) := rfl
theorem overT_more {xs os : List Int} {n k : Nat} {c : Int} {s : Nat} {o : Option (Int × Nat)} (h : overT xs os n k = some (c, s)) (ho : WP.bestOf (WP.tailC (xN xs) (xN os) n) (WP.table (WP.headC (xN xs) (xN os)) (WP.midC (xN xs) (xN os)) (k + 1)) n = o) :
    (o.isSome = true ∧ pc o < c → overT xs os n (k + 1) = o) ∧ (¬ (o.isSome = true ∧ pc o < c) → overT xs os n (k + 1) = some (c, s)) := by
  have e := overT_succ xs os n k
  rw [ho, h] at e
  cases o with
  | none => exact ⟨fun hh => (by cases hh.1), fun _ => e⟩
  | some a =>
    refine ⟨fun hh => ?_, fun hh => ?_⟩
    · rw [e]; exact if_pos hh.2
    · rw [e]; exact if_neg fun h2 => hh ⟨rfl, h2⟩
theorem places_over {xs os : List Int} {n C : Nat} (ho : oftB xs os = true) (hn : xs.length = n) (hC : 1 ≤ C) {c : Int} {s : Nat} (h : overT xs os n (min C n - 1) = some (c, s)) : WP.bitsOf s n = placesT xs os (C : Int) := by
  have hfv := fv_open (oftB_iff.1 ho).1
  obtain ⟨S, s1, s2, s3, s4⟩ := WP.same_places (xN xs) (xN os) (n := n) (fun i j hij hj => fv_asc hfv i j hij (by omega)) (by have := hfv.2.1; omega) (by have := hfv.1; omega) C hC
  have e : some (c, s) = some (WP.wcost (xN xs) (xN os) n S, WP.num S) := h.symm.trans s3
  injection e with e
  injection e with e1 e2
  rw [e2, s4, placesT_yes ho (by omega) hn, ← s1]
  simp

theorem PlanRow.far {w : World} {g n : Nat} {P : Nat → Option (Int × Nat)} (h : PlanRow w g n P) {p : Addr} (hp : g ≠ p.block) (u : Value) : PlanRow (w.setCell p u) g n P := by
  obtain ⟨cs, h1, h2⟩ := h
  exact ⟨cs, h1.far hp u, h2⟩
theorem PlanRow.alloc {w : World} {g n : Nat} {P : Nat → Option (Int × Nat)} (h : PlanRow w g n P) (o : Obj) : PlanRow (w.alloc o) g n P := by
  obtain ⟨cs, h1, h2⟩ := h
  exact ⟨cs, h1.alloc o, h2⟩

set_option maxRecDepth 100000 in
set_option maxHeartbeats 8000000 in
theorem places_impl (A : Option Addr) (n c : Nat) (xs : List Int) (A' : Option Addr) (n' c' : Nat) (os : List Int) (cars : Int) (w : World) (h : Ints w A n xs) (h' : Ints w A' n' os) :
    Calls Try.prog 18 #[.slice A n c, .slice A' n' c', .int .i64 cars] w (NumsOut w (placesT xs os cars)) := by
  have HL := Lib.hid h.1
  have HL' := Lib.hid h'.1
  have O := fun w hx hy => oft_impl A n c xs A' n' c' os w hx hy
  cases ho : oftB xs os
  · rw [placesT_no (by simp [ho])]
    rw [ho] at O
    have HO := Lib.hid O
    clear O
    go_enter Try.func18, Try.ntmps18
    go_wp2_with (go_at_call 13; refine (HO.out _ h h').mono ?_; rintro e w' ⟨rfl, m, rfl⟩)
    go_ret
    exact ⟨_, rfl, OwnI.nil _ _, bdrewN (Below.refl _ _) _⟩
  · rw [ho] at O
    have HO := Lib.hid O
    have HT := Lib.hid ho
    clear O
    by_cases hc : 1 ≤ cars
    · have hcc : ¬ cars < 1 := by omega
      have hfv := fv_open (oftB_iff.1 ho).1
      have n8 : n ≤ 8 := by have := hfv.2.1; have := HL.out; omega
      have n1 : 1 ≤ n := by have := hfv.1; have := HL.out; omega
      have hnn : n' = n := by have := HL.out; have := HL'.out; have := (oftB_iff.1 ho).2.1; omega
      subst hnn
      obtain ⟨C, rfl⟩ := Int.eq_ofNat_of_zero_le (show 0 ≤ cars by omega)
      obtain ⟨M, hM⟩ : ∃ M, min C n' = M := ⟨_, rfl⟩
      have M1 : 1 ≤ M := by omega
      have M2 : M ≤ n' := by omega
      have MC : M ≤ C := by omega
      have hcases : ((n' : Int) < (C : Int) ∧ M = n') ∨ ((C : Int) ≤ (n' : Int) ∧ M = C) := by omega
      have HPL : Hid (∀ c s, overT xs os n' (M - 1) = some (c, s) → WP.bitsOf s n' = placesT xs os (C : Int)) := Lib.hid (fun c s hh => places_over HT.out HL.out (by omega) (by rw [hM]; exact hh))
      obtain ⟨res, hres⟩ : ∃ r, placesT xs os (C : Int) = r := ⟨_, rfl⟩
      rw [hres] at HPL ⊢
      have IH1 := Lib.hid h
      have IH2 := Lib.hid h'
      clear ho hfv h h' hM hres hc
      rcases hcases with ⟨hcn, hMe⟩ | ⟨hcn, hMe⟩
      all_goals
        have HME := Lib.hid hMe
        clear hMe
        go_enter Try.func18, Try.ntmps18
        go_wp2_with (go_at_call 13; refine (HO.out _ IH1.out IH2.out).mono ?_; rintro e w' ⟨rfl, m0, rfl⟩)
        have J1 := Lib.hid (IH1.out.drewN m0)
        have J2 := Lib.hid (IH2.out.drewN m0)
        obtain ⟨W, hW⟩ : ∃ W : World, W = w.drewN m0 := ⟨_, rfl⟩
        have BW : Below w.heap.size w W := by rw [hW]; exact bdrewN (Below.refl _ _) m0
        rw [← hW] at J1 J2 ⊢
        clear hW
        refine (first_any A n' c xs A' c' os W HT.out J1.out J2.out).mono ?_
        rintro e w1 ⟨g1, rfl, hg1, P1, b1⟩
        have hgl1 : g1 < w1.heap.size := (P1.at_ n1).2.2.2
        go_wp2_with fail
        refine (bestOf_any A n' c xs A' c' os g1 _ w1 HT.out (J1.out.below b1) (J2.out.below b1) P1 ((first_bnd HT.out HL.out).fair n8)).mono ?_
        rintro e w2 ⟨rfl, b2⟩
        have B2 : Below w.heap.size w w2 := bvia b2 (bvia b1 BW)
        have P2 := P1.below b2 hgl1
        have hgl2 : g1 < w2.heap.size := Nat.lt_of_lt_of_le hgl1 b2.size
        obtain ⟨cz, sz, hz, hzs⟩ := overT_some xs os n' 0 n1
        have hz2 := hz
        rw [overT_zero, show WP.table (WP.headC (xN xs) (xN os)) (WP.midC (xN xs) (xN os)) 0 = WP.first (WP.headC (xN xs) (xN os)) from rfl] at hz2
        rw [hz2]
        rw [show (some (cz, sz) : Option (Int × Nat)).isSome = true from rfl, show pc (some (cz, sz)) = cz from rfl, show ps (some (cz, sz)) = sz from rfl]
        have HZ := Lib.hid hz
        clear hz hz2 P1 hgl1 hzs
        have I1 := Lib.hid (J1.out.below (b1.trans (below_le b1.size b2)))
        have I2 := Lib.hid (J2.out.below (b1.trans (below_le b1.size b2)))
        go_wp2_with fail
        go_loopw [7, 9] (fun v i wr => ∃ (k g : Nat) (c : Int) (s : Nat), k + 1 ≤ M ∧ i = .int .i64 ((k : Int) + 2) ∧ v = .slice (some ⟨g, 0, none⟩) n' n' ∧ g < wr.heap.size ∧ PlanRow wr g n' (WP.table (WP.headC (xN xs) (xN os)) (WP.midC (xN xs) (xN os)) k) ∧ overT xs os n' k = some (c, s) ∧ Blk wr w2.heap.size 48 #[.bool true, .int .i64 c, .int .i64 (s : Int)] ∧ Below w2.heap.size w2 wr) (fun _ i _ => n' + 2 - (intOf i).toNat)
        case atStart =>
          exact ⟨0, g1, cz, sz, M1, rfl, rfl, by simp; omega, P2.below ((Below.refl _ _).alloc (Nat.le_refl _) _) hgl2, HZ.out, Blk.new _ _ _, (Below.refl _ _).alloc (Nat.le_refl _) _⟩
        case round =>
          obtain ⟨k, gk, ck, sk, hk, rfl, rfl, hgk, PK, hov, KB, B3⟩ := hrel
          have hsz := B3.size
          have hl2 := KB.lt
          by_cases hlt : k + 1 < M
          · have hlt' : (k : Int) + 2 ≤ (n' : Int) := by omega
            have hlt2 : (k : Int) + 2 ≤ (C : Int) := by omega
            obtain ⟨o, hO⟩ : ∃ o, WP.bestOf (WP.tailC (xN xs) (xN os) n') (WP.table (WP.headC (xN xs) (xN os)) (WP.midC (xN xs) (xN os)) (k + 1)) n' = o := ⟨_, rfl⟩
            obtain ⟨v1, v2⟩ := overT_more hov hO
            obtain ⟨cn, sn, hnx, -⟩ := overT_some xs os n' (k + 1) n1
            have R1 := Lib.hid (I1.out.below B3)
            have R2 := Lib.hid (I2.out.below B3)
            have FB := Lib.hid ((table_bnd HT.out HL.out (k + 1)).fair n8)
            have FT := Lib.hid (table_bnd (xs := xs) (os := os) HT.out HL.out k)
            have PP := Lib.hid PK
            have LB := Lib.hid KB
            have HO2 := Lib.hid hO
            have HOV := Lib.hid hov
            have HV1 := Lib.hid v1
            have HV2 := Lib.hid v2
            have HNX := Lib.hid hnx
            clear hO v1 v2 hnx hov PK KB
            go_wp2_with fail
            refine (further_any A n' c xs A' c' os gk _ wr HT.out R1.out R2.out PP.out FT.out).mono ?_
            rintro e w3 ⟨g3, rfl, hg3, P3, b3⟩
            have hgl3 : g3 < w3.heap.size := (P3.at_ n1).2.2.2
            go_wp2_with fail
            refine (bestOf_any A n' c xs A' c' os g3 _ w3 HT.out (R1.out.below b3) (R2.out.below b3) P3 FB.out).mono ?_
            rintro e w4 ⟨rfl, b4⟩
            rw [show WP.bestOf (WP.tailC (xN xs) (xN os) n') (WP.further (WP.midC (xN xs) (xN os)) (WP.table (WP.headC (xN xs) (xN os)) (WP.midC (xN xs) (xN os)) k)) n' = o from HO2.out]
            have b34 : Below wr.heap.size wr w4 := b3.trans (below_le b3.size b4)
            have P4 := P3.below b4 hgl3
            have hgl4 : g3 < w4.heap.size := Nat.lt_of_lt_of_le hgl3 b4.size
            have K4 := LB.out.below_ b34
            have k0 := K4.cell 0
            have k1 := K4.cell 1
            have k2 := K4.cell 2
            have kf := K4.frozen
            simp at k0 k1 k2
            have hl4 := K4.lt
            have hne : ¬ w2.heap.size = w4.heap.size := by omega
            have hne2 : ¬ g3 = w2.heap.size := by omega
            have L4 := Lib.hid K4
            clear K4 P3
            obtain ⟨b0, hb0⟩ : ∃ b, o.isSome = b := ⟨_, rfl⟩
            obtain ⟨c0, hc0⟩ : ∃ b, pc o = b := ⟨_, rfl⟩
            obtain ⟨s0, hs0⟩ : ∃ b, ps o = b := ⟨_, rfl⟩
            rw [hb0, hc0, hs0]
            by_cases hbb : b0 = true ∧ c0 < ck
            · obtain ⟨rfl, hclt⟩ := hbb
              have hnew : overT xs os n' (k + 1) = some (c0, s0) := by
                rw [HV1.out ⟨hb0, by rw [hc0]; exact hclt⟩]
                cases o with
                | none => cases hb0
                | some a => rw [← hc0, ← hs0]; rfl
              have HNEW := Lib.hid hnew
              clear hb0 hc0 hs0 hnew
              go_wp2
              refine ⟨⟨k + 1, g3, c0, s0, by omega, by go_num, rfl, ?_, ?_, HNEW.out, ?_, ?_⟩, by simp [intOf]; omega⟩
              · simp [World.setCell]; omega
              · exact (((P4.far (p := ⟨w2.heap.size, 0, none⟩) hne2 _).far (p := ⟨w2.heap.size, 1, none⟩) hne2 _).far (p := ⟨w2.heap.size, 2, none⟩) hne2 _).alloc _
              · exact (((L4.out.set_ 0 _).set_ 1 _).set_ 2 _).alloc _
              · (repeat' (first | (with_reducible exact Below.refl _ _) | (with_reducible assumption) | (with_reducible exact bundrew (by assumption)) | (with_reducible refine balloc ?_ _) | (with_reducible refine bset ?_ _ ?_ _) | (with_reducible refine Below.drew ?_) | (with_reducible refine bdrewN ?_ _) | (with_reducible refine bvia (by assumption) ?_) | (with_reducible refine Below.trans ?_ (by assumption)) | omega | (simp; omega) | (simp; done)))
            · have hnew : overT xs os n' (k + 1) = some (ck, sk) := HV2.out (by rw [hb0, hc0]; exact hbb)
              have HNEW := Lib.hid hnew
              clear hb0 hc0 hs0 hnew
              cases b0
              · go_wp2
                exact ⟨⟨k + 1, g3, ck, sk, by omega, by go_num, rfl, by simp; omega, P4.alloc _, HNEW.out, L4.out.alloc _, by (repeat' (first | (with_reducible exact Below.refl _ _) | (with_reducible assumption) | (with_reducible exact bundrew (by assumption)) | (with_reducible refine balloc ?_ _) | (with_reducible refine bset ?_ _ ?_ _) | (with_reducible refine Below.drew ?_) | (with_reducible refine bdrewN ?_ _) | (with_reducible refine bvia (by assumption) ?_) | (with_reducible refine Below.trans ?_ (by assumption)) | omega | (simp; omega) | (simp; done)))⟩, by simp [intOf]; omega⟩
              · have hge : ck ≤ c0 := by
                  rcases Int.lt_or_le c0 ck with h | h
                  · exact absurd ⟨rfl, h⟩ hbb
                  · exact h
                clear hbb
                go_wp2
                exact ⟨⟨k + 1, g3, ck, sk, by omega, by go_num, rfl, by simp; omega, P4.alloc _, HNEW.out, L4.out.alloc _, by (repeat' (first | (with_reducible exact Below.refl _ _) | (with_reducible assumption) | (with_reducible exact bundrew (by assumption)) | (with_reducible refine balloc ?_ _) | (with_reducible refine bset ?_ _ ?_ _) | (with_reducible refine Below.drew ?_) | (with_reducible refine bdrewN ?_ _) | (with_reducible refine bvia (by assumption) ?_) | (with_reducible refine Below.trans ?_ (by assumption)) | omega | (simp; omega) | (simp; done)))⟩, by simp [intOf]; omega⟩
          · have hMk : M = k + 1 := by omega
            have hme := HME.out
            first | (have hgt : (n' : Int) < (k : Int) + 2 := by omega) | (have hgt : (C : Int) < (k : Int) + 2 := by omega)
            obtain ⟨cq, sq, hq1, hq2⟩ := overT_some xs os n' k n1
            rw [hov] at hq1
            injection hq1 with hq1
            injection hq1 with hq3 hq4
            subst hq4
            have s256 : sk < 256 := Nat.lt_of_lt_of_le hq2 (two_pow n8).2
            have hbits := HPL.out ck sk (by rw [show M - 1 = k by omega]; exact hov)
            have HBI := Lib.hid hbits
            have LB := Lib.hid KB
            have BR : Below w.heap.size w wr := bvia B3 B2
            clear hbits KB PK hov hq2 hq3 hMk hlt hk hme
            obtain ⟨wo, hwo⟩ : ∃ wo : World, wo = wr := ⟨_, rfl⟩
            subst hwo
            go_wp2
            go_loopw [11, 56] (fun v i ws => ∃ (v0 : Value) (j : Nat), v0 = v ∧ j ≤ n' ∧ i = .int .i64 j ∧ OwnI ws wo.heap.size v0 (nums (WP.bitsOf sk j)) ∧ Below wo.heap.size wo ws) (fun _ i _ => n' - (intOf i).toNat)
            case atStart => exact ⟨_, 0, rfl, Nat.zero_le _, rfl, OwnI.nil _ _, Below.refl _ _⟩
            case round =>
              obtain ⟨v0, j, rfl, hj, rfl, hv, hb⟩ := hrel
              have hbs := hb.size
              by_cases hjl : j < n'
              · have hjl' : (j : Int) < (n' : Int) := by omega
                have K5 := LB.out.below_ hb
                have k2 := K5.cell 2
                simp at k2
                have hl9 : (nums (WP.bitsOf sk j)).length ≤ 9 := by have := bits_len sk j; rw [nums_length]; omega
                obtain ⟨T, hsh, e1, hor⟩ := bit_step s256 (show j < 8 by omega)
                clear K5
                rcases hor with ⟨hab, hsu⟩ | ⟨hab, hsu⟩
                · have HSU := Lib.hid hsu
                  clear hsu
                  go_wp2_with fail
                  go_quiet (fail)
                  obtain ⟨Wq, hWq⟩ : ∃ Wq : World, Wq = wr.drewN nq := ⟨_, rfl⟩
                  have hvq : OwnI Wq wo.heap.size v0 (nums (WP.bitsOf sk j)) := by rw [hWq]; exact hv.drewN nq
                  have hbq : Below wo.heap.size wo Wq := by rw [hWq]; exact bdrewN hb nq
                  have hsq := hbq.size
                  rw [← hWq]
                  clear hWq
                  go_wp2_with (at_builtin; refine app_int rfl _ _ rfl (wo.heap.size) Wq.heap.size _ (nums (WP.bitsOf sk j)) (j : Int) rfl rfl (hvq.alloc _) ?_ ?_ ?_ ?_; (focus (first | (go_simp; done) | (simp; done) | omega | (simp; omega))); (focus (first | (go_simp; done) | (simp; done) | omega | (simp; omega))); (focus (first | (go_simp; done) | (simp; done) | omega | (simp; omega))); intro v1 w1 h1 g1; have zw1 := g1.size; (try simp at zw1))
                  have g2 : Below wo.heap.size wo w1 := (hbq.alloc hsq _).trans g1
                  exact ⟨⟨_, j + 1, rfl, by omega, by go_num, by rw [HSU.out]; exact h1, g2⟩, by simp [intOf]; omega⟩
                · have HSU := Lib.hid hsu
                  clear hsu
                  go_wp2_with fail
                  go_quiet (fail)
                  go_wp2
                  exact ⟨⟨_, j + 1, rfl, by omega, by go_num, by rw [HSU.out]; exact hv.drewN nq, bdrewN hb nq⟩, by simp [intOf]; omega⟩
              · obtain rfl : j = n' := by omega
                rw [HBI.out] at hv
                go_wp2
                go_ret
                exact ⟨_, rfl, hv.lower BR.size, BR.trans (below_le BR.size hb)⟩
    · rw [placesT_no (by simp [hc])]
      have hcc : cars < 1 := by omega
      clear hc
      go_enter Try.func18, Try.ntmps18
      go_wp2_with (go_at_call 13; refine (HO.out _ h h').mono ?_; rintro e w' ⟨rfl, m, rfl⟩)
      go_ret
      exact ⟨_, rfl, OwnI.nil _ _, bdrewN (Below.refl _ _) _⟩
end Go.Proofs.Ytbjnkjookokjaaa
