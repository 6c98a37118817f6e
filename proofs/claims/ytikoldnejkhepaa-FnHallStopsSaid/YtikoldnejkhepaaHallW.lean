/- HallBest of the reference: contract. -/
import Derived.Test.YtikoldnejkhepaaHallV
namespace Go.Proofs.Ytikoldnejkhepaa
open Go.ChangeShapes Go.WideShapes Go.ChangeAt Go.RowKit

/-- The best list behind the first j numbers. -/
def bestK (gs : List Int) (left : List Nat) : Nat → List Nat × Bool
  | 0 => ([], false)
  | j + 1 => HP.lookF gs (HP.room left) (bestK gs left j) (HP.digits left.length gs.length j)
theorem bestK_succ (gs : List Int) (left : List Nat) (j : Nat) : bestK gs left (j + 1) = HP.lookF gs (HP.room left) (bestK gs left j) (HP.digits left.length gs.length j) := rfl
theorem bestK_fold (gs : List Int) (left : List Nat) : ∀ j, bestK gs left j = ((List.range j).map (HP.digits left.length gs.length)).foldl (HP.lookF gs (HP.room left)) ([], false)
  | 0 => rfl
  | j + 1 => by rw [bestK_succ, bestK_fold gs left j, List.range_succ, List.map_append, List.foldl_append]; rfl
theorem bestK_all (gs : List Int) (left : List Nat) (hl : 0 < left.length) : bestK gs left (left.length ^ gs.length) = HP.best gs left := by
  rw [bestK_fold, ← HP.words_digits _ _ hl]; rfl
theorem bestK_ok (gs : List Int) (left : List Nat) (hl : 0 < left.length) : ∀ j, (bestK gs left j).2 = true → (bestK gs left j).1.length = gs.length ∧ (∀ c ∈ (bestK gs left j).1, c < left.length) ∧ HP.room left (bestK gs left j).1 = true
  | 0, h => by cases h
  | j + 1, h => by
    rw [bestK_succ] at h ⊢
    unfold HP.lookF at h ⊢
    split
    · rename_i hc
      simp only [Bool.and_eq_true] at hc
      exact ⟨digits_length _ _ _, digits_lt hl _ _, hc.1⟩
    · rename_i hc
      rw [if_neg hc] at h
      exact bestK_ok gs left hl j h
theorem nums_all {l : List Nat} {m : Nat} (h : ∀ c ∈ l, c < m) : allB (nums l) 0 ((m : Int) - 1) = true := by
  rw [allB_iff]
  intro k hk
  rw [nums_length] at hk
  rw [nums_get, List.getElem?_eq_getElem hk]
  have := h _ (List.getElem_mem hk)
  simp
  omega
theorem fits_nums {gs rs : List Int} {x : List Nat} (hh : hallB gs rs = true) (h1 : x.length = gs.length) (h2 : ∀ c ∈ x, c < rs.length) : fitsB gs rs (nums x) = HP.room (toN rs) x := by
  rw [fits_room hh (by rw [nums_length, h1]) (nums_all h2), toN_nums]
theorem stops_nums {gs rs : List Int} {x : List Nat} (h : fitsB gs rs (nums x) = true) : stopsI gs rs (nums x) = ((HP.stops gs x : Nat) : Int) := by
  obtain ⟨_, _, h3, _⟩ := fits_parts h
  rw [stopsI_yes h rfl, stops_eq h3, toN_nums]

/-- The best list of a hall. -/
def bestT (gs rs : List Int) : List Nat × Bool := if hallB gs rs = true then HP.best gs (toN rs) else ([], false)
theorem bestT_no {gs rs : List Int} (h : hallB gs rs = false) : bestT gs rs = ([], false) := by unfold bestT; rw [if_neg (by simp [h])]
theorem bestT_yes {gs rs : List Int} (h : hallB gs rs = true) : bestT gs rs = HP.best gs (toN rs) := by unfold bestT; rw [if_pos h]
/-- A list of the call's own, and a truth. -/
def BestOut (w : World) (s : List Nat × Bool) (e : Ending) (w' : World) : Prop := ∃ v : Value, e = .returned (.tuple #[v, .bool s.2]) ∧ OwnI w' w.heap.size v (nums s.1) ∧ Below w.heap.size w w'

theorem pow_in {m k : Nat} (hm : m ≤ 3) (hk : k ≤ 6) : m ^ k ≤ 729 := by
  have h1 : m ^ k ≤ 3 ^ k := Nat.pow_le_pow_left hm k
  have h2 : 3 ^ k ≤ 3 ^ 6 := Nat.pow_le_pow_right (by omega) hk
  have h3 : (3 : Nat) ^ 6 = 729 := by decide
  omega

set_option maxRecDepth 100000 in
set_option maxHeartbeats 4000000 in
theorem best_spec (A : Option Addr) (n c : Nat) (gs : List Int) (A' : Option Addr) (n' c' : Nat) (rs : List Int) (w : World) (h : Ints w A n gs) (h' : Ints w A' n' rs) :
    Calls Try.prog 23 #[.slice A n c, .slice A' n' c'] w (BestOut w (bestT gs rs)) := by
  have HL := Lib.hid h.1
  have HL' := Lib.hid h'.1
  have Hz0 := OwnI.made (w := w.alloc (.cells #[] 3)) (base := w.heap.size) (g := w.heap.size) (xs := []) (Nat.le_refl _) (heap_alloc_new w _) (by unfold maxLen; decide)
  have BA : Below w.heap.size w (w.alloc (.cells #[] 3)) := (Below.refl _ w).alloc (Nat.le_refl _) _
  have H1 := h.below BA
  have H2 := h'.below BA
  cases hh : hallB gs rs
  · rw [bestT_no hh]
    go_enter Try.func23, Try.ntmps23
    go_wp2_with (go_at_call 13; refine (hallOk_spec _ _ _ gs _ _ _ rs _ H1 H2).mono ?_; rintro e w' ⟨rfl, rfl⟩)
    go_ret2
    exact ⟨_, rfl, Hz0, BA⟩
  · rw [bestT_yes hh]
    obtain ⟨b1, b2, b3, b4, b5⟩ := hallB_iff.1 hh
    have m1 : n ≤ 6 := by have := HL.out; omega
    have m2 : 1 ≤ n' := by have := HL'.out; omega
    have m3 : n' ≤ 3 := by have := HL'.out; omega
    have m1' : (n : Int) ≤ 6 := by omega
    have m2' : 1 ≤ (n' : Int) := by omega
    have m3' : (n' : Int) ≤ 3 := by omega
    have HH := Lib.hid hh
    clear b1 b2 b3 b4 b5
    go_enter Try.func23, Try.ntmps23
    go_wp2_with (go_at_call 13; refine (hallOk_spec _ _ _ gs _ _ _ rs _ H1 H2).mono ?_; rintro e w' ⟨rfl, rfl⟩)
    clear h h' hh
    go_loop [8, 9] (fun x i => ∃ k : Nat, k ≤ n ∧ i = .int .i64 k ∧ x = .int .i64 ((n' ^ k : Nat) : Int)) (fun _ i => n - (intOf i).toNat)
    case atStart => exact ⟨0, Nat.zero_le _, rfl, by simp⟩
    case round =>
      obtain ⟨k, hk, rfl, rfl⟩ := hrel
      by_cases hlt : k < n
      · have hlt' : (k : Int) < (n : Int) := by omega
        have p1 := pow_in (k := k + 1) m3 (by omega)
        have p2 := pow_in (k := k) m3 (by omega)
        rw [Nat.pow_succ] at p1
        obtain ⟨p, hp⟩ : ∃ p, n' ^ k = p := ⟨_, rfl⟩
        have HPk : Hid (n' ^ (k + 1) = p * n') := Lib.hid (by rw [Nat.pow_succ, hp])
        rw [hp] at p1 p2 ⊢
        have e1 : IntKind.i64.wrap ((p : Int) * (n' : Int)) = ((p * n' : Nat) : Int) := by rw [← Int.natCast_mul]; exact IntWalk.i64_in _ ⟨by omega, by omega⟩
        clear hp
        go_wp2
        go_round
        case rel => exact ⟨k + 1, by omega, by go_num, by rw [HPk.out]; first | rfl | simp⟩
        case measure => simp [intOf]; omega
      · obtain rfl : k = n := by omega
        have p2 := pow_in (k := k) m3 m1
        have HPk : Hid (bestK gs (toN rs) (n' ^ k) = HP.best gs (toN rs)) := Lib.hid (by
          have e1 : (toN rs).length = n' := by rw [toN_length, HL'.out]
          have := bestK_all gs (toN rs) (by omega)
          rwa [e1, HL.out] at this)
        obtain ⟨p, hp⟩ : ∃ p, n' ^ k = p := ⟨_, rfl⟩
        rw [hp] at p2 HPk ⊢
        clear hp
        have J1 := Lib.hid H1
        have J2 := Lib.hid H2
        clear H1 H2
        go_wp2_with fail
        go_loopw [6, 7, 10] (fun v f i wr => ∃ (v0 : Value) (j : Nat), v0 = v ∧ j ≤ p ∧ i = .int .i64 j ∧ f = .bool (bestK gs (toN rs) j).2 ∧ OwnI wr w.heap.size v0 (nums (bestK gs (toN rs) j).1) ∧ Below (w.heap.size + 1) (w.alloc (.cells #[] 3)) wr) (fun _ _ i _ => p - (intOf i).toNat)
        case atStart => exact ⟨_, 0, rfl, Nat.zero_le _, rfl, rfl, Hz0, Below.refl _ _⟩
        case round =>
          obtain ⟨v0, j, rfl, hj, rfl, rfl, hv, hb⟩ := hrel
          have BW : Below w.heap.size w wr := BA.trans (below_le (by omega) hb)
          have I1 : Ints wr A k gs := J1.out.below (by simpa using hb)
          have I2 : Ints wr A' n' rs := J2.out.below (by simpa using hb)
          by_cases hlt : j < p
          · have hlt' : (j : Int) < (p : Int) := by omega
            obtain ⟨s, hs⟩ : ∃ s, bestK gs (toN rs) j = s := ⟨_, rfl⟩
            obtain ⟨x, hx⟩ : ∃ x, HP.digits n' k j = x := ⟨_, rfl⟩
            have HS : Hid (bestK gs (toN rs) (j + 1) = HP.lookF gs (HP.room (toN rs)) s x) := Lib.hid (by rw [bestK_succ, hs, toN_length, HL'.out, HL.out, hx])
            have hxl : x.length = gs.length := by rw [← hx, digits_length, HL.out]
            have hxa : ∀ c ∈ x, c < rs.length := by rw [← hx, HL'.out]; exact digits_lt (by omega) _ _
            have hxf := fits_nums HH.out hxl hxa
            have hso : s.2 = true → fitsB gs rs (nums s.1) = true := fun h2 => by
              rw [← hs] at h2 ⊢
              obtain ⟨o1, o2, o3⟩ := bestK_ok gs (toN rs) (by rw [toN_length, HL'.out]; omega) j h2
              rw [fits_nums HH.out o1 (by simpa [toN_length] using o2)]
              exact o3
            have D := digits_any j n' k m2 m3 m1 (by omega)
            rw [hx] at D
            have HD := Lib.hid D
            rw [hs] at hv ⊢
            obtain ⟨s1, s2⟩ := s
            clear hs hx D
            simp only at hv hso ⊢
            go_wp2_with fail
            refine (HD.out wr).mono ?_
            rintro e w1 ⟨v1, rfl, o1, b1⟩
            obtain ⟨A1, c1, rfl⟩ := o1.shape
            have K1 : Ints w1 A k gs := I1.below b1
            have K2 : Ints w1 A' n' rs := I2.below b1
            have hv1 := hv.below b1
            have K3 := o1.ints.2
            have hb1 : Below (w.heap.size + 1) (w.alloc (.cells #[] 3)) w1 := hb.trans (below_le (by have := hb.size; simpa using this) b1)
            have hxo := o1.lower (b' := w.heap.size) (Nat.le_trans (by have := hb.size; simp at this; omega) (Nat.le_refl _))
            cases hf : fitsB gs rs (nums x)
            · have HN : Hid (HP.lookF gs (HP.room (toN rs)) (s1, s2) x = (s1, s2)) := Lib.hid (by unfold HP.lookF; rw [← hxf, hf]; simp)
              rw [hf] at hxf
              clear hxf hso
              go_wp2_with (go_at_call 17; refine (fits_spec _ _ _ gs _ _ _ rs _ _ _ (nums x) _ K1 K2 K3).mono ?_; rintro e w' ⟨rfl, rfl⟩; rw [hf])
              exact ⟨⟨_, j + 1, rfl, by omega, by go_num, by rw [HS.out, HN.out], by rw [HS.out, HN.out]; exact hv1, hb1⟩, by simp [intOf]; omega⟩
            · have SX := stops_nums hf
              cases s2
              · have HN : Hid (HP.lookF gs (HP.room (toN rs)) (s1, false) x = (x, true)) := Lib.hid (by unfold HP.lookF; rw [← hxf, hf]; simp)
                rw [hf] at hxf
                clear hxf hso
                go_wp2_with (go_at_call 17; refine (fits_spec _ _ _ gs _ _ _ rs _ _ _ (nums x) _ K1 K2 K3).mono ?_; rintro e w' ⟨rfl, rfl⟩; rw [hf])
                exact ⟨⟨_, j + 1, rfl, by omega, by go_num, by rw [HS.out, HN.out], by rw [HS.out, HN.out]; exact hxo, hb1⟩, by simp [intOf]; omega⟩
              · have hsf := hso rfl
                have SS := stops_nums hsf
                obtain ⟨A2, c2, rfl⟩ := hv1.shape
                have K4 := hv1.ints.2
                by_cases hlt2 : HP.stops gs x < HP.stops gs s1
                · have HN : Hid (HP.lookF gs (HP.room (toN rs)) (s1, true) x = (x, true)) := Lib.hid (by unfold HP.lookF; rw [← hxf, hf]; simp [hlt2])
                  rw [hf] at hxf
                  obtain ⟨a, ha⟩ : ∃ a, HP.stops gs x = a := ⟨_, rfl⟩
                  obtain ⟨b, hb⟩ : ∃ b, HP.stops gs s1 = b := ⟨_, rfl⟩
                  rw [ha] at SX hlt2
                  rw [hb] at SS hlt2
                  have hlt3 : (a : Int) < (b : Int) := by omega
                  clear hxf hso ha
                  go_wp2_with (first
                    | (have _t := tk1; go_at_call 21; refine (stops_spec _ _ _ gs _ _ _ rs _ _ _ (nums s1) _ (K1.drewN _) (K2.drewN _) (K4.drewN _)).mono ?_; rintro e w' ⟨rfl, m2, rfl⟩; rw [SS])
                    | (go_at_call 21; refine (stops_spec _ _ _ gs _ _ _ rs _ _ _ (nums x) _ K1 K2 K3).mono ?_; rintro e w' ⟨rfl, m1, rfl⟩; rw [SX]; have tk1 : True := trivial)
                    | (go_at_call 17; refine (fits_spec _ _ _ gs _ _ _ rs _ _ _ (nums x) _ K1 K2 K3).mono ?_; rintro e w' ⟨rfl, rfl⟩; rw [hf]))
                  exact ⟨⟨_, j + 1, rfl, by omega, by go_num, by rw [HS.out, HN.out], by rw [HS.out, HN.out]; exact hxo, bdrewN hb1 _⟩, by simp [intOf]; omega⟩
                · have HN : Hid (HP.lookF gs (HP.room (toN rs)) (s1, true) x = (s1, true)) := Lib.hid (by unfold HP.lookF; rw [← hxf, hf]; simp [hlt2])
                  rw [hf] at hxf
                  obtain ⟨a, ha⟩ : ∃ a, HP.stops gs x = a := ⟨_, rfl⟩
                  obtain ⟨b, hb⟩ : ∃ b, HP.stops gs s1 = b := ⟨_, rfl⟩
                  rw [ha] at SX hlt2
                  rw [hb] at SS hlt2
                  have hlt3 : (b : Int) ≤ (a : Int) := by omega
                  clear hxf hso ha
                  go_wp2_with (first
                    | (have _t := tk1; go_at_call 21; refine (stops_spec _ _ _ gs _ _ _ rs _ _ _ (nums s1) _ (K1.drewN _) (K2.drewN _) (K4.drewN _)).mono ?_; rintro e w' ⟨rfl, m2, rfl⟩; rw [SS])
                    | (go_at_call 21; refine (stops_spec _ _ _ gs _ _ _ rs _ _ _ (nums x) _ K1 K2 K3).mono ?_; rintro e w' ⟨rfl, m1, rfl⟩; rw [SX]; have tk1 : True := trivial)
                    | (go_at_call 17; refine (fits_spec _ _ _ gs _ _ _ rs _ _ _ (nums x) _ K1 K2 K3).mono ?_; rintro e w' ⟨rfl, rfl⟩; rw [hf]))
                  exact ⟨⟨_, j + 1, rfl, by omega, by go_num, by rw [HS.out, HN.out], by rw [HS.out, HN.out]; exact hv1, bdrewN hb1 _⟩, by simp [intOf]; omega⟩
          · obtain rfl : j = p := by omega
            rw [HPk.out] at hv ⊢
            go_wp2
            go_ret2
            exact ⟨_, rfl, hv, BW⟩
end Go.Proofs.Ytikoldnejkhepaa
