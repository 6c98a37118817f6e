/- Plain laws: sorted and compacted calls of a car are the floors that it visits; how long all ways are. -/
import Derived.Test.YtmekbfjeljfbpaaTourD
import Derived.Test.YtmekbfjeljfbpaaGroupB
namespace Go.Proofs.Ytmekbfjeljfbpaa
open Go.ChangeShapes Go.WideShapes Go.ChangeAt Go.RowKit

theorem asc_unique : ∀ {l m : List Int}, l.Pairwise (· < ·) → m.Pairwise (· < ·) → (∀ x, x ∈ l ↔ x ∈ m) → l = m
  | [], [], _, _, _ => rfl
  | [], b :: m, _, _, h => by have := (h b).2 (by simp); simp at this
  | a :: l, [], _, _, h => by have := (h a).1 (by simp); simp at this
  | a :: l, b :: m, h1, h2, h => by
    rw [List.pairwise_cons] at h1 h2
    have e : a = b := by
      rcases List.mem_cons.1 ((h a).1 (by simp)) with e | e
      · exact e
      · rcases List.mem_cons.1 ((h b).2 (by simp)) with e' | e'
        · exact e'.symm
        · have := h1.1 b e'; have := h2.1 a e; omega
    subst e
    have : l = m := asc_unique h1.2 h2.2 fun x => by
      constructor
      · intro hx
        have := h1.1 x hx
        rcases List.mem_cons.1 ((h x).1 (by simp [hx])) with e | e
        · omega
        · exact e
      · intro hx
        have := h2.1 x hx
        rcases List.mem_cons.1 ((h x).2 (by simp [hx])) with e | e
        · omega
        · exact e
    rw [this]

theorem compact_mem {zs : List Int} {x : Int} : x ∈ Lib.compact zs ↔ x ∈ zs := by
  unfold Lib.compact Lib.compactUpTo
  simp only [List.mem_map, List.mem_filter, List.mem_range]
  constructor
  · rintro ⟨j, ⟨hj, _⟩, rfl⟩
    rw [getElem!_pos _ _ (by simpa using hj)]
    simp
  · intro hx
    obtain ⟨i, hi, rfl⟩ := List.getElem_of_mem hx
    have key : ∀ j, j < zs.length → ∃ a, (a < zs.length ∧ Lib.keeps zs.toArray a = true) ∧ zs.toArray[a]! = zs.toArray[j]! := by
      intro j
      induction j with
      | zero => intro hj; exact ⟨0, ⟨hj, by simp [Lib.keeps]⟩, rfl⟩
      | succ j ih =>
        intro hj
        cases hk : Lib.keeps zs.toArray (j + 1) with
        | true => exact ⟨j + 1, ⟨hj, hk⟩, rfl⟩
        | false =>
          obtain ⟨a, ha, e⟩ := ih (by omega)
          refine ⟨a, ha, e.trans ?_⟩
          simp only [Lib.keeps, decide_eq_false_iff_not, not_or, Decidable.not_not, Nat.add_sub_cancel] at hk
          exact hk.2.symm
    obtain ⟨a, ha, e⟩ := key i hi
    refine ⟨a, ha, e.trans ?_⟩
    rw [getElem!_pos _ _ (by simpa using hi)]
    simp
theorem compact_asc {zs : List Int} (h : zs.Pairwise (· ≤ ·)) : (Lib.compact zs).Pairwise (· < ·) := by
  unfold Lib.compact Lib.compactUpTo
  rw [List.pairwise_map]
  refine List.Pairwise.imp_of_mem ?_ (List.Pairwise.filter _ List.pairwise_lt_range)
  intro i j hi hj hij
  simp only [List.mem_filter, List.mem_range] at hi hj
  have hle : ∀ a b, a < b → b < zs.length → zs.toArray[a]! ≤ zs.toArray[b]! := fun a b hab hb => by
    rw [getElem!_pos _ _ (by simp; omega), getElem!_pos _ _ (by simpa using hb)]
    have := List.pairwise_iff_getElem.1 h a b (by omega) hb hab
    simpa using this
  have h1 := hj.2
  simp only [Lib.keeps, decide_eq_true_eq] at h1
  have h2 := hle (j - 1) j (by omega) hj.1
  have h3 : zs.toArray[i]! ≤ zs.toArray[j - 1]! := by
    by_cases e : i = j - 1
    · subst e; exact Int.le_refl _
    · exact hle i (j - 1) (by omega) (by omega)
  rcases h1 with h1 | h1
  · omega
  · omega
theorem sortI_asc (zs : List Int) : (sortI zs).Pairwise (· ≤ ·) := by
  have := List.pairwise_mergeSort (le := fun x y : Int => decide (x ≤ y)) (fun a b c h1 h2 => by simp at h1 h2 ⊢; omega) (fun a b => by simp; omega) zs
  unfold sortI
  exact this.imp fun h => by simpa using h
theorem sortI_mem {zs : List Int} {x : Int} : x ∈ sortI zs ↔ x ∈ zs := (List.mergeSort_perm zs _).mem_iff

/-- The calls of a car, among the first k. -/
def ofCar (ks gs : List Int) (c : Int) : Nat → List Int
  | 0 => []
  | k + 1 => if gs[k]?.getD 0 = c then ofCar ks gs c k ++ [ks[k]?.getD 0] else ofCar ks gs c k
theorem ofCar_yes {ks gs : List Int} {c : Int} {k : Nat} (h : gs[k]?.getD 0 = c) : ofCar ks gs c (k + 1) = ofCar ks gs c k ++ [ks[k]?.getD 0] := by show (if _ then _ else _) = _; rw [if_pos h]
theorem ofCar_no {ks gs : List Int} {c : Int} {k : Nat} (h : ¬ gs[k]?.getD 0 = c) : ofCar ks gs c (k + 1) = ofCar ks gs c k := by show (if _ then _ else _) = _; rw [if_neg h]
theorem ofCar_length (ks gs : List Int) (c : Int) : ∀ k, (ofCar ks gs c k).length ≤ k
  | 0 => Nat.le_refl _
  | k + 1 => by
    have := ofCar_length ks gs c k
    by_cases h : gs[k]?.getD 0 = c
    · rw [ofCar_yes h]; simp; omega
    · rw [ofCar_no h]; omega
theorem ofCar_mem {ks gs : List Int} {c x : Int} : ∀ {k : Nat}, x ∈ ofCar ks gs c k ↔ ∃ j, j < k ∧ gs[j]?.getD 0 = c ∧ ks[j]?.getD 0 = x
  | 0 => by simp [ofCar]
  | k + 1 => by
    by_cases h : gs[k]?.getD 0 = c
    · rw [ofCar_yes h, List.mem_append, ofCar_mem (k := k)]
      constructor
      · rintro (⟨j, h1, h2⟩ | h1)
        · exact ⟨j, by omega, h2⟩
        · simp at h1; exact ⟨k, by omega, h, h1.symm⟩
      · rintro ⟨j, h1, h2, h3⟩
        by_cases e : j = k
        · subst e; right; simp [h3]
        · left; exact ⟨j, by omega, h2, h3⟩
    · rw [ofCar_no h, ofCar_mem (k := k)]
      constructor
      · rintro ⟨j, h1, h2⟩; exact ⟨j, by omega, h2⟩
      · rintro ⟨j, h1, h2, h3⟩
        by_cases e : j = k
        · subst e; exact absurd h2 h
        · exact ⟨j, by omega, h2, h3⟩

/-- Whether a car has a call from a floor, among the first k calls. -/
def hereB (ks gs : List Int) (c f : Nat) : Nat → Bool
  | 0 => false
  | k + 1 => hereB ks gs c f k || (decide (gs[k]?.getD 0 = (c : Int)) && decide (ks[k]?.getD 0 = (f : Int)))
theorem hereB_iff {ks gs : List Int} {c f : Nat} : ∀ {k : Nat}, hereB ks gs c f k = true ↔ ∃ j, j < k ∧ gs[j]?.getD 0 = (c : Int) ∧ ks[j]?.getD 0 = (f : Int)
  | 0 => by simp [hereB]
  | k + 1 => by
    simp only [hereB, Bool.or_eq_true, Bool.and_eq_true, decide_eq_true_eq, hereB_iff (k := k)]
    constructor
    · rintro (⟨j, h1, h2⟩ | h1)
      · exact ⟨j, by omega, h2⟩
      · exact ⟨k, by omega, h1⟩
    · rintro ⟨j, h1, h2⟩
      by_cases e : j = k
      · subst e; exact .inr h2
      · exact .inl ⟨j, by omega, h2⟩
/-- The floors that a car visits, among the first ones. -/
def visK (ks gs : List Int) (n3 c f : Nat) : List Nat := (List.range f).filter fun i => hereB ks gs c i n3
theorem visK_yes {ks gs : List Int} {n3 c f : Nat} (h : hereB ks gs c f n3 = true) : nums (visK ks gs n3 c (f + 1)) = nums (visK ks gs n3 c f) ++ [(f : Int)] := by
  unfold visK
  rw [List.range_succ, List.filter_append, nums_append]
  simp [h, nums]
theorem visK_no {ks gs : List Int} {n3 c f : Nat} (h : hereB ks gs c f n3 = false) : visK ks gs n3 c (f + 1) = visK ks gs n3 c f := by
  unfold visK
  rw [List.range_succ, List.filter_append]
  simp [h]
theorem visK_length (ks gs : List Int) (n3 c f : Nat) : (visK ks gs n3 c f).length ≤ f := by
  unfold visK
  exact Nat.le_trans (List.length_filter_le _ _) (by simp)
theorem visK_asc (ks gs : List Int) (n3 c f : Nat) : TP.Asc (visK ks gs n3 c f) := fun i j hij hj => by
  have h : (visK ks gs n3 c f).Pairwise (· < ·) := List.Pairwise.filter _ List.pairwise_lt_range
  have := List.pairwise_iff_getElem.1 h i j (by omega) hj hij
  rw [List.getElem?_eq_getElem (by omega), List.getElem?_eq_getElem hj]
  simpa using this
theorem visK_lt {ks gs : List Int} {n3 c f : Nat} : ∀ k, k < (visK ks gs n3 c f).length → (visK ks gs n3 c f)[k]?.getD 0 < f := fun k hk => by
  have hm := List.getElem_mem hk
  unfold visK at hm
  rw [List.mem_filter, List.mem_range] at hm
  rw [List.getElem?_eq_getElem hk]
  exact hm.1
/-- Sorted and compacted the calls of a car are the floors that it visits. -/
theorem compact_visK {ks gs : List Int} {n n3 c : Nat} (hk : ∀ j, j < n3 → 0 ≤ ks[j]?.getD 0 ∧ ks[j]?.getD 0 ≤ (n : Int) - 1) : Lib.compact (sortI (ofCar ks gs (c : Int) n3)) = nums (visK ks gs n3 c n) := by
  refine asc_unique (compact_asc (sortI_asc _)) ?_ fun x => ?_
  · unfold nums
    rw [List.pairwise_map]
    refine List.Pairwise.imp (R := (· < ·)) (fun {a b} h => by omega) ?_
    exact List.Pairwise.filter _ List.pairwise_lt_range
  · rw [compact_mem, sortI_mem, ofCar_mem]
    unfold nums visK
    simp only [List.mem_map, List.mem_filter, List.mem_range, hereB_iff]
    constructor
    · rintro ⟨j, h1, h2, h3⟩
      have := hk j h1
      rw [h3] at this
      exact ⟨x.toNat, ⟨by omega, j, h1, h2, by omega⟩, by omega⟩
    · rintro ⟨f, ⟨h1, j, h2, h3, h4⟩, rfl⟩
      exact ⟨j, h2, h3, h4⟩

/-- The sum of the ways of the first cars. -/
def sumK (xs cs ks gs : List Int) (n n3 : Nat) : Nat → Int
  | 0 => 0
  | c + 1 => sumK xs cs ks gs n n3 c + TP.short (xa xs) (cs[c]?.getD 0).toNat (visK ks gs n3 c n)
theorem short_le {xs : List Int} {a n : Nat} {vs : List Nat} (hv : fvB xs = true) (hn : xs.length = n) (ha : a < n) (ho : ∀ k, k < vs.length → vs[k]?.getD 0 < n) : 0 ≤ TP.short (xa xs) a vs ∧ TP.short (xa xs) a vs ≤ 60 * (vs.length : Int) := by
  have := path_le hv hn (TP.tour (xa xs) a vs) a ha (tour_lt ho)
  rw [tour_length] at this
  exact this
theorem sumK_le {xs cs ks gs : List Int} {n n2 n3 : Nat} (hv : fvB xs = true) (hn : xs.length = n) (hc : ∀ c, c < n2 → 0 ≤ cs[c]?.getD 0 ∧ cs[c]?.getD 0 ≤ (n : Int) - 1) : ∀ k, k ≤ n2 → 0 ≤ sumK xs cs ks gs n n3 k ∧ sumK xs cs ks gs n n3 k ≤ 60 * (n : Int) * k
  | 0, _ => by simp [sumK]
  | k + 1, h => by
    have h1 := sumK_le (ks := ks) (gs := gs) (n3 := n3) hv hn hc k (by omega)
    have h2 := hc k (by omega)
    have h3 := short_le (vs := visK ks gs n3 k n) hv hn (a := (cs[k]?.getD 0).toNat) (by omega) visK_lt
    have h4 := visK_length ks gs n3 k n
    simp only [sumK]
    have e : 60 * (n : Int) * ((k + 1 : Nat) : Int) = 60 * (n : Int) * k + 60 * (n : Int) := by
      rw [Int.natCast_succ, Int.mul_add, Int.mul_one]
    rw [e]
    omega
/-- What GroupSum returns. -/
def gsI (xs cs ks gs : List Int) : Int := if (grB xs cs ks && gvB gs cs.length ks.length) = true then sumK xs cs ks gs xs.length ks.length cs.length else -1
theorem gsI_no {xs cs ks gs : List Int} (h : ¬ (grB xs cs ks && gvB gs cs.length ks.length) = true) : gsI xs cs ks gs = -1 := by unfold gsI; rw [if_neg h]
theorem gsI_yes {xs cs ks gs : List Int} {n1 n2 n3 : Nat} (h : grB xs cs ks = true) (h1 : xs.length = n1) (h2 : cs.length = n2) (h3 : ks.length = n3) (hv : gvB gs n2 n3 = true) : gsI xs cs ks gs = sumK xs cs ks gs n1 n3 n2 := by
  unfold gsI; rw [h1, h2, h3, if_pos (by rw [h, hv]; rfl)]
end Go.Proofs.Ytmekbfjeljfbpaa
