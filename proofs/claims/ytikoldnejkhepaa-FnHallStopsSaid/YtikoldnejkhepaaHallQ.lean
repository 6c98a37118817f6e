/- The hall's walks and its plain laws: numbers of both kinds. -/
import Derived.Test.YtikoldnejkhepaaHallD
import Derived.Test.YtikoldnejkhepaaHallP
namespace Go.Proofs.Ytikoldnejkhepaa
open Go.ChangeShapes Go.WideShapes Go.ChangeAt Go.RowKit

/-- The numbers of a list, from 0 on. -/
def toN (xs : List Int) : List Nat := xs.map Int.toNat
theorem toN_length (xs : List Int) : (toN xs).length = xs.length := by simp [toN]
theorem toN_get (xs : List Int) (k : Nat) : (toN xs)[k]?.getD 0 = (xs[k]?.getD 0).toNat := by
  unfold toN
  rw [List.getElem?_map]
  cases xs[k]? <;> rfl
theorem toN_take (xs : List Int) (k : Nat) : toN (xs.take k) = (toN xs).take k := by simp [toN]
theorem toN_mem {xs : List Int} {c : Nat} {a b : Int} (h : allB xs a b = true) (h0 : 0 ≤ a) (hc : c ∈ toN xs) : (c : Int) ≤ b := by
  obtain ⟨i, hi, rfl⟩ := List.getElem_of_mem hc
  have := allB_at h rfl (show i < xs.length by rwa [toN_length] at hi)
  have e := toN_get xs i
  rw [List.getElem?_eq_getElem hi] at e
  simp only [Option.getD_some] at e
  omega
theorem getD_take (xs : List Int) {k n : Nat} (h : k < n) : (xs.take n)[k]?.getD 0 = xs[k]?.getD 0 := by rw [List.getElem?_take, if_pos h]
theorem allB_take {xs : List Int} {a b : Int} (h : allB xs a b = true) (k : Nat) : allB (xs.take k) a b = true := by
  rw [allB_iff] at *
  intro i hi
  rw [List.length_take] at hi
  rw [getD_take xs (by omega)]
  exact h i (by omega)
theorem cnt_eq {ps : List Int} {b : Int} (h : allB ps 0 b = true) (c : Nat) : ∀ k, k ≤ ps.length → cntK ps c k = ((((toN ps).take k).count c : Nat) : Int)
  | 0, _ => by simp [cntK]
  | k + 1, hk => by
    have hl : k < (toN ps).length := by rw [toN_length]; omega
    rw [cntK_succ, cnt_eq h c k (by omega), List.take_succ_eq_append_getElem hl, List.count_append, List.count_singleton]
    have e := toN_get ps k
    rw [List.getElem?_eq_getElem hl] at e
    simp only [Option.getD_some] at e
    have := allB_at h rfl (show k < ps.length by omega)
    rw [e]
    by_cases hc : ps[k]?.getD 0 = (c : Int)
    · rw [if_pos hc, hc]; simp
    · rw [if_neg hc]
      have : ¬ (ps[k]?.getD 0).toNat = c := by omega
      simp [this]
theorem cnt_all {ps : List Int} {b : Int} (h : allB ps 0 b = true) (c : Nat) : cntK ps c ps.length = (((toN ps).count c : Nat) : Int) := by
  rw [cnt_eq h c _ (Nat.le_refl _), ← toN_length, List.take_length]
theorem fits_room {gs rs ps : List Int} (hh : hallB gs rs = true) (hl : ps.length = gs.length) (ha : allB ps 0 ((rs.length : Int) - 1) = true) : fitsB gs rs ps = HP.room (toN rs) (toN ps) := by
  obtain ⟨_, _, _, _, b5⟩ := hallB_iff.1 hh
  rw [Bool.eq_iff_iff, fitsB_iff]
  simp only [HP.room, List.all_eq_true, List.mem_range, decide_eq_true_eq, toN_length]
  have key : ∀ c, c < rs.length → (cntK ps c ps.length ≤ rs[c]?.getD 0 ↔ (toN ps).count c ≤ (toN rs)[c]?.getD 0) := fun c hc => by
    have := allB_at b5 rfl hc
    rw [cnt_all ha, toN_get]
    omega
  constructor
  · exact fun h c hc => (key c hc).1 (h.2.2.2 c hc)
  · exact fun h => ⟨hh, hl, ha, fun c hc => (key c hc).2 (h c hc)⟩
theorem fits_parts {gs rs ps : List Int} (h : fitsB gs rs ps = true) : hallB gs rs = true ∧ ps.length = gs.length ∧ allB ps 0 ((rs.length : Int) - 1) = true ∧ HP.room (toN rs) (toN ps) = true := by
  obtain ⟨h1, h2, h3, _⟩ := fitsB_iff.1 h
  exact ⟨h1, h2, h3, by rw [← fits_room h1 h2 h3]; exact h⟩
theorem hallB_take {gs rs : List Int} (h : hallB gs rs = true) (k : Nat) : hallB (gs.take k) rs = true := by
  obtain ⟨b1, b2, b3, b4, b5⟩ := hallB_iff.1 h
  exact hallB_iff.2 ⟨by rw [List.length_take]; omega, b2, b3, allB_take b4 k, b5⟩
theorem fits_take {gs rs ps : List Int} (h : fitsB gs rs ps = true) (k : Nat) : fitsB (gs.take k) rs (ps.take k) = true := by
  obtain ⟨h1, h2, h3, h4⟩ := fits_parts h
  rw [fits_room (hallB_take h1 k) (by simp [h2]) (allB_take h3 k), toN_take]
  exact HP.room_take h4 k

/-- The sum of a list. -/
def sumK (rs : List Int) : Nat → Int
  | 0 => 0
  | k + 1 => sumK rs k + rs[k]?.getD 0
theorem sumK_succ (rs : List Int) (k : Nat) : sumK rs (k + 1) = sumK rs k + rs[k]?.getD 0 := rfl
theorem sumK_in {rs : List Int} (h : allB rs 0 8 = true) : ∀ k, k ≤ rs.length → 0 ≤ sumK rs k ∧ sumK rs k ≤ 8 * k
  | 0, _ => ⟨Int.le_refl _, Int.le_refl _⟩
  | k + 1, hk => by have := sumK_in h k (by omega); have := allB_at h rfl (show k < rs.length by omega); rw [sumK_succ]; omega
theorem sumK_eq {rs : List Int} (h : allB rs 0 8 = true) : ∀ k, k ≤ rs.length → sumK rs k = ((((toN rs).take k).sum : Nat) : Int)
  | 0, _ => by simp [sumK]
  | k + 1, hk => by
    have hl : k < (toN rs).length := by rw [toN_length]; omega
    rw [sumK_succ, sumK_eq h k (by omega), List.take_succ_eq_append_getElem hl, List.sum_append]
    have e := toN_get rs k
    rw [List.getElem?_eq_getElem hl] at e
    simp only [Option.getD_some] at e
    have := allB_at h rfl (show k < rs.length by omega)
    rw [e]
    simp
    omega
theorem sum_all {rs : List Int} (h : allB rs 0 8 = true) : sumK rs rs.length = (((toN rs).sum : Nat) : Int) := by
  rw [sumK_eq h _ (Nat.le_refl _), ← toN_length, List.take_length]
theorem fits_sum {gs rs ps : List Int} (h : fitsB gs rs ps = true) : (ps.length : Int) ≤ sumK rs rs.length := by
  obtain ⟨h1, h2, h3, h4⟩ := fits_parts h
  have := HP.room_sum (toN ps) (toN rs) (fun c hc => by have := toN_mem h3 (Int.le_refl _) hc; rw [toN_length]; omega) h4
  rw [sum_all (hallB_iff.1 h1).2.2.2.2]
  rw [toN_length] at this
  omega

set_option maxHeartbeats 1000000 in
theorem sumOf_any (A : Option Addr) (n c : Nat) (rs : List Int) (w : World) (h : Ints w A n rs) (ha : allB rs 0 8 = true) (hn : n ≤ 100) :
    Calls Try.prog 30 #[.slice A n c] w fun e w' => e = .returned (.int .i64 (sumK rs n)) ∧ w = w' := by
  obtain ⟨hl, hm, hc⟩ := h
  have HL := Lib.hid hl
  have HC := Lib.hid hc
  have HS := Lib.hid (sumK_in ha)
  clear hl hc ha
  go_enter Try.func30, Try.ntmps30
  go_wp2
  go_loop [3, 4] (fun x i => ∃ k : Nat, k ≤ n ∧ i = .int .i64 k ∧ x = .int .i64 (sumK rs k)) (fun _ i => n - (intOf i).toNat)
  case atStart => exact ⟨0, Nat.zero_le _, rfl, rfl⟩
  case round =>
    obtain ⟨k, hk, rfl, rfl⟩ := hrel
    by_cases hlt : k < n
    · obtain ⟨q, off, rfl, hb, hcc⟩ := HC.out (by omega)
      obtain ⟨z, hz⟩ : ∃ z, rs[k]?.getD 0 = z := ⟨_, rfl⟩
      have e0 := hcc k hlt
      rw [hz] at e0
      have HZ := Lib.hid hz
      have hlt' : (k : Int) < (n : Int) := by omega
      obtain ⟨s1, s2⟩ := HS.out k (by rw [HL.out]; omega)
      obtain ⟨s3, s4⟩ := HS.out (k + 1) (by rw [HL.out]; omega)
      rw [sumK_succ, hz] at s3 s4
      clear hcc hz
      go_wp2
      go_round
      case rel => exact ⟨k + 1, by omega, by go_num, by rw [sumK_succ, HZ.out]⟩
      case measure => simp [intOf]; omega
    · obtain rfl : k = n := by omega
      go_wp2
      go_ret
      exact ⟨rfl, rfl⟩

theorem stK_eq {gs ps : List Int} {b : Int} (ha : allB ps 0 b = true) : ∀ k, k ≤ ps.length → stK gs ps k = ((HP.stopsK gs (toN ps) k : Nat) : Int)
  | 0, _ => rfl
  | k + 1, hk => by
    rw [stK_succ, stK_eq ha k (by omega), HP.stopsK]
    have e : alrK gs ps (ps[k]?.getD 0) (gs[k]?.getD 0) k = HP.already gs ((toN ps).take k) ((toN ps)[k]?.getD 0) (gs[k]?.getD 0) := by
      rw [Bool.eq_iff_iff]
      have hk0 := allB_at ha rfl (show k < ps.length by omega)
      simp only [HP.already, List.any_eq_true, List.mem_range, Bool.and_eq_true, beq_iff_eq]
      have hlen : ((toN ps).take k).length = k := by rw [List.length_take, toN_length]; omega
      rw [hlen]
      constructor
      · intro h
        cases hn : (List.range k).any fun i => decide (ps[i]?.getD 0 = ps[k]?.getD 0) && decide (gs[i]?.getD 0 = gs[k]?.getD 0) with
        | true =>
          simp only [List.any_eq_true, List.mem_range, Bool.and_eq_true, decide_eq_true_eq] at hn
          obtain ⟨i, hi, h1, h2⟩ := hn
          exact ⟨i, hi, by rw [List.getElem?_take, if_pos hi, toN_get, toN_get, h1], h2⟩
        | false =>
          rw [alrK_no gs ps (fun i hi h1 h2 => by
            have := List.any_eq_false.1 hn i (by simpa using hi)
            simp [h1, h2] at this)] at h
          cases h
      · rintro ⟨i, hi, h1, h2⟩
        rw [List.getElem?_take, if_pos hi, toN_get, toN_get] at h1
        have := allB_at ha rfl (show i < ps.length by omega)
        exact alrK_yes gs ps hi (by omega) h2
    rw [e]
    split <;> simp
theorem stops_eq {gs ps : List Int} {b : Int} (ha : allB ps 0 b = true) : stK gs ps ps.length = ((HP.stops gs (toN ps) : Nat) : Int) := by
  rw [stK_eq ha _ (Nat.le_refl _)]
  unfold HP.stops
  rw [toN_length]
theorem gmK_eq (gs : List Int) : ∀ k, gmK gs k = ((HP.goalK gs k : Nat) : Int)
  | 0 => rfl
  | k + 1 => by
    rw [gmK_succ, gmK_eq gs k, HP.goalK]
    unfold hasB
    split <;> simp
theorem many_eq (gs : List Int) : gmK gs gs.length = ((HP.goalMany gs : Nat) : Int) := gmK_eq gs _
end Go.Proofs.Ytikoldnejkhepaa
