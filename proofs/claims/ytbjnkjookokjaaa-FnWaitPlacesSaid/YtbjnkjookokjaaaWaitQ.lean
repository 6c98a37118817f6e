/- Plain laws of the waits. -/
import Derived.Test.YtbjnkjookokjaaaWaitJ
namespace Go.Proofs.Ytbjnkjookokjaaa
open Go.ChangeShapes Go.WideShapes Go.ChangeAt Go.RowKit

/-- What the best places are, and what they cost. -/
theorem least_yes {xs os : List Int} {cars : Int} {n : Nat} (ho : oftB xs os = true) (hc : 1 ≤ cars) (hn : xs.length = n) :
    ∃ S, placesT xs os cars = S.reverse ∧ WP.Good (xN xs) (xN os) n (min cars.toNat n - 1) S ∧ leastI xs os cars = WP.wcost (xN xs) (xN os) n S := by
  have hfv := fv_open (oftB_iff.1 ho).1
  obtain ⟨S, s1, s2⟩ := WP.search_least (xN xs) (xN os) (n := n) (fun i j hij hj => fv_asc hfv i j hij (by omega)) (by have := hfv.2.1; omega) (by have := hfv.1; omega) cars.toNat (by omega)
  have h8 : S.length ≤ 8 := Nat.le_trans (WP.desc_length s2.1) (by have := hfv.2.1; omega)
  have e : placesT xs os cars = S.reverse := by rw [placesT_yes ho hc hn, s1]
  refine ⟨S, e, s2, ?_⟩
  unfold leastI
  rw [e, (wc_nums ho hn (P := S.reverse) (fun p hp => WP.desc_lt s2.1 p (by simpa using hp)) (by simpa using s2.2.1) (by simpa using h8)).2]
  exact WP.wcost_rev _ _ (WP.desc_ne s2.2.1)
theorem often_nonneg {xs os : List Int} {n : Nat} (ho : oftB xs os = true) (hn : xs.length = n) : ∀ f, f < n → 0 ≤ xN os f := fun f hf => by
  obtain ⟨h1, h2, h3⟩ := oftB_iff.1 ho
  exact (allB_at h3 rfl (by omega)).1
theorem leastI_or (xs os : List Int) (cars : Int) : leastI xs os cars = -1 ∨ oftB xs os = true ∧ 1 ≤ cars ∧ 0 ≤ leastI xs os cars := by
  by_cases h : oftB xs os = true ∧ 1 ≤ cars
  · obtain ⟨S, -, s2, s3⟩ := least_yes h.1 h.2 rfl
    right
    refine ⟨h.1, h.2, ?_⟩
    rw [s3]
    exact WP.wcost_nonneg _ _ (often_nonneg h.1 rfl) (WP.desc_ne s2.2.1)
  · exact .inl (leastI_no h)
/-- Any other places cost as much or more. -/
theorem least_le {xs os : List Int} {cars : Int} {n : Nat} {P : List Nat} (ho : oftB xs os = true) (hc : 1 ≤ cars) (hn : xs.length = n) (hP : P ≠ []) (hp : ∀ p ∈ P, p < n) (hl : P.length ≤ min cars.toNat n) :
    leastI xs os cars ≤ WP.wcost (xN xs) (xN os) n P := by
  have hfv := fv_open (oftB_iff.1 ho).1
  obtain ⟨S, -, s2, s3⟩ := least_yes ho hc hn
  rw [s3]
  exact WP.good_least (xN xs) (xN os) (fun i j hij hj => fv_asc hfv i j hij (by omega)) s2 hP hp (by have := hfv.1; omega)
/-- The best places for some cars are places for more. -/
theorem least_more {xs os : List Int} {cars : Int} (ho : oftB xs os = true) (hc : 1 ≤ cars) : leastI xs os (cars + 1) ≤ leastI xs os cars := by
  obtain ⟨S, -, s2, s3⟩ := least_yes ho hc rfl
  rw [s3]
  exact least_le ho (by omega) rfl (WP.desc_ne s2.2.1) (WP.desc_lt s2.1) (by have h1 := s2.2.2.1; have h2 := (fv_open (oftB_iff.1 ho).1).1; omega)
theorem least_all {xs os : List Int} {n : Nat} (ho : oftB xs os = true) (hn : xs.length = n) : leastI xs os (n : Int) = 0 := by
  have hfv := fv_open (oftB_iff.1 ho).1
  have h1 : (1 : Int) ≤ n := by have := hfv.1; omega
  have h2 := least_le (P := List.range n) ho h1 hn (by simp only [ne_eq, List.range_eq_nil]; omega) (fun p hp => by simpa using hp) (by simp)
  rw [WP.wcost_all _ _ (fun f hf => by simpa using hf)] at h2
  rcases leastI_or xs os (n : Int) with h | h
  · obtain ⟨S, -, s2, s3⟩ := least_yes ho h1 hn
    rw [h] at s3
    have := WP.wcost_nonneg (xN xs) (xN os) (often_nonneg ho hn) (WP.desc_ne s2.2.1)
    omega
  · omega
/-- Places within the floors, as numbers. -/
theorem places_nums {n : Nat} {ps : List Int} (h : allB ps 0 ((n : Int) - 1) = true) : ∃ P : List Nat, ps = nums P ∧ ∀ p ∈ P, p < n := by
  refine ⟨toN ps, (nums_toN fun k hk => (allB_at h rfl hk).1).symm, fun p hp => ?_⟩
  obtain ⟨k, hk, he⟩ := List.getElem_of_mem hp
  have hk' : k < ps.length := by simpa [toN] using hk
  have h2 := allB_at h rfl hk'
  have e : (nums (toN ps))[k]?.getD 0 = (p : Int) := by rw [nums_get, List.getElem?_eq_getElem hk, he]; rfl
  rw [nums_toN fun k hk => (allB_at h rfl hk).1] at e
  omega
/-- What the law says of the cost of places. -/
theorem wcI_facts {xs os ps : List Int} {n : Nat} (hn : xs.length = n) (h : wcB xs os ps = true) (hl : ps.length ≤ 4) :
    0 ≤ wcI xs os ps ∧ (∀ k, k < n → wcI xs os (ps ++ [(k : Int)]) ≤ wcI xs os ps) ∧ wcI xs os (nums (List.range n)) = 0 ∧ 0 ≤ leastI xs os (ps.length : Int) ∧ leastI xs os (ps.length : Int) ≤ wcI xs os ps := by
  obtain ⟨ho, h1, h8, ha⟩ := wcB_iff.1 h
  rw [hn] at ha
  obtain ⟨P, rfl, hP⟩ := places_nums ha
  rw [nums_length] at h1 h8 hl
  have hP' : P ≠ [] := by rintro rfl; simp at h1
  have hfv := fv_open (oftB_iff.1 ho).1
  have w1 := (wc_nums ho hn hP h1 h8).2
  have hnn := often_nonneg ho hn
  refine ⟨by rw [w1]; exact WP.wcost_nonneg _ _ hnn hP', fun k hk => ?_, ?_, ?_, ?_⟩
  · rw [← nums_snoc, w1, (wc_nums ho hn (P := P ++ [k]) (fun p hp => by simp at hp; rcases hp with hp | hp; exact hP p hp; omega) (by simp) (by simp; omega)).2]
    exact WP.wcost_more _ _ hnn hP' fun p hp => by simp [hp]
  · rw [(wc_nums ho hn (P := List.range n) (fun p hp => by simpa using hp) (by simp; have := hfv.1; omega) (by simp; have := hfv.2.1; omega)).2]
    exact WP.wcost_all _ _ fun f hf => by simpa using hf
  · rcases leastI_or xs os ((nums P).length : Int) with h | h
    · obtain ⟨S, -, s2, s3⟩ := least_yes (cars := ((nums P).length : Int)) ho (by rw [nums_length]; omega) hn
      rw [s3]
      exact WP.wcost_nonneg _ _ hnn (WP.desc_ne s2.2.1)
    · exact h.2.2
  · rw [w1, nums_length]
    obtain ⟨T, t1, t2, t3⟩ := WP.as_desc P hP
    have hT : T ≠ [] := by
      rintro rfl
      cases P with
      | nil => exact hP' rfl
      | cons p P => have := (t3 p).2 (by simp); simp at this
    rw [WP.wcost_congr _ _ hP' hT fun p => (t3 p).symm]
    have := WP.desc_length t1
    exact least_le ho (by omega) hn hT (WP.desc_lt t1) (by omega)
theorem desc_at : ∀ {S : List Nat} {n : Nat}, WP.desc n S → ∀ i, i + 1 < S.length → S[i + 1]?.getD 0 < S[i]?.getD 0
  | [], _, _, i, hi => by simp at hi
  | [a], _, _, i, hi => by simp at hi
  | a :: b :: S, n, h, 0, _ => by simpa using h.2.1
  | a :: b :: S, n, h, i + 1, hi => by
    have := desc_at h.2 i (by simpa using hi)
    simpa using this
/-- What the law says of the best places. -/
theorem places_facts {xs os : List Int} {cars : Int} {n : Nat} {nl : List Int} (hn : xs.length = n) (ho : oftB xs os = true) (hc : 1 ≤ cars) (h : nums (placesT xs os cars) = nl) :
    1 ≤ nl.length ∧ (nl.length : Int) ≤ cars ∧ (∀ i, i + 1 < nl.length → nl[i]?.getD 0 < nl[i + 1]?.getD 0) ∧ 0 ≤ wcI xs os nl ∧
    ∀ k f, k < nl.length → f < n → wcI xs os nl ≤ wcI xs os (nl.set k (f : Int)) := by
  have hfv := fv_open (oftB_iff.1 ho).1
  obtain ⟨S, s1, s2, s3⟩ := least_yes ho hc hn
  have hnn := often_nonneg ho hn
  have hl : wcI xs os nl = leastI xs os cars := by unfold leastI; rw [h]
  rw [hl]
  have n8 : S.length ≤ 8 := Nat.le_trans (WP.desc_length s2.1) (by have := hfv.2.1; omega)
  have hlt := WP.desc_lt s2.1
  rw [s1] at h
  subst h
  have hlen : (nums S.reverse).length = S.length := by rw [nums_length]; simp
  have hS1 := s2.2.1
  have hS2 := s2.2.2.1
  have hn1 := hfv.1
  rw [hlen]
  refine ⟨hS1, by omega, fun i hi => ?_, by rw [s3]; exact WP.wcost_nonneg _ _ hnn (WP.desc_ne hS1), fun k f hk hf => ?_⟩
  · rw [nums_get, nums_get, List.getElem?_reverse (by omega), List.getElem?_reverse (by omega)]
    have := desc_at s2.1 (S.length - 1 - (i + 1)) (by omega)
    rw [show S.length - 1 - (i + 1) + 1 = S.length - 1 - i by omega] at this
    omega
  · have e : (nums S.reverse).set k (f : Int) = nums (S.reverse.set k f) := by simp [nums, List.map_set]
    have hin : ∀ p ∈ S.reverse.set k f, p < n := fun p hp => by
      rcases List.mem_or_eq_of_mem_set hp with hp | hp
      · exact hlt p (by simpa using hp)
      · omega
    rw [e, (wc_nums ho hn hin (by simpa using hS1) (by simpa using n8)).2]
    exact least_le ho hc hn (by intro h0; have := congrArg List.length h0; simp at this; subst this; simp at hS1) hin (by simp; omega)
end Go.Proofs.Ytbjnkjookokjaaa
