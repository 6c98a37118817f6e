/- Plain laws of fractions and of means; no program in sight. -/
namespace Go.Proofs.Ytkhooomjfjancaa.FP

/-- Lowest terms. -/
def low (n d : Nat) : Nat × Nat := (n / Nat.gcd n d, d / Nat.gcd n d)
theorem low_parts {n d : Nat} (hd : 0 < d) : ∃ a b g, n = g * a ∧ d = g * b ∧ 0 < g ∧ 0 < b ∧ Nat.Coprime a b ∧ low n d = (a, b) := by
  have hg : 0 < Nat.gcd n d := Nat.gcd_pos_of_pos_right _ hd
  obtain ⟨a, ha⟩ := Nat.gcd_dvd_left n d
  obtain ⟨b, hb⟩ := Nat.gcd_dvd_right n d
  refine ⟨a, b, Nat.gcd n d, ha, hb, hg, ?_, ?_, ?_⟩
  · rcases Nat.eq_zero_or_pos b with h | h
    · rw [h, Nat.mul_zero] at hb; omega
    · exact h
  · have h := Nat.coprime_div_gcd_div_gcd hg
    have e1 : n / Nat.gcd n d = a := Nat.div_eq_of_eq_mul_right hg ha
    have e2 : d / Nat.gcd n d = b := Nat.div_eq_of_eq_mul_right hg hb
    rw [e1, e2] at h
    exact h
  · unfold low
    rw [Nat.div_eq_of_eq_mul_right hg ha, Nat.div_eq_of_eq_mul_right hg hb]
theorem low_cross {n d : Nat} (hd : 0 < d) : (low n d).1 * d = n * (low n d).2 := by
  obtain ⟨a, b, g, rfl, rfl, _, _, _, h⟩ := low_parts (n := n) hd
  rw [h]
  simp only
  ac_rfl
theorem low_pos {n d : Nat} (hd : 0 < d) : 0 < (low n d).2 := by
  obtain ⟨a, b, g, _, _, _, hb, _, h⟩ := low_parts (n := n) hd
  rw [h]; exact hb
theorem low_le {n d : Nat} : (low n d).1 ≤ n ∧ (low n d).2 ≤ d := ⟨Nat.div_le_self _ _, Nat.div_le_self _ _⟩
theorem low_again {n d : Nat} (hd : 0 < d) : low (low n d).1 (low n d).2 = low n d := by
  obtain ⟨a, b, g, _, _, _, _, hc, h⟩ := low_parts (n := n) hd
  rw [h]
  simp only [low]
  rw [hc.gcd_eq_one, Nat.div_one, Nat.div_one]
theorem low_no {n d k : Nat} (hd : 0 < d) (hk : 2 ≤ k) : ¬ ((low n d).1 % k = 0 ∧ (low n d).2 % k = 0) := by
  obtain ⟨a, b, g, _, _, _, _, hc, h⟩ := low_parts (n := n) hd
  rw [h]
  rintro ⟨h1, h2⟩
  have := Nat.dvd_gcd (Nat.dvd_of_mod_eq_zero h1) (Nat.dvd_of_mod_eq_zero h2)
  rw [hc.gcd_eq_one] at this
  have := Nat.le_of_dvd (by omega) this
  omega
/-- Equal crosswise are equal in lowest terms, and the other way round. -/
theorem low_iff {n d m e : Nat} (hd : 0 < d) (he : 0 < e) : low n d = low m e ↔ n * e = m * d := by
  obtain ⟨a, b, g, rfl, rfl, hg, hb, hc, h⟩ := low_parts (n := n) hd
  obtain ⟨a', b', g', rfl, rfl, hg', hb', hc', h'⟩ := low_parts (n := m) he
  rw [h, h']
  have key : g * a * (g' * b') = g' * a' * (g * b) ↔ a * b' = a' * b := by
    have e1 : g * a * (g' * b') = (g * g') * (a * b') := by ac_rfl
    have e2 : g' * a' * (g * b) = (g * g') * (a' * b) := by ac_rfl
    rw [e1, e2]
    exact ⟨fun h => Nat.eq_of_mul_eq_mul_left (Nat.mul_pos hg hg') h, fun h => by rw [h]⟩
  rw [key]
  constructor
  · rintro h; injection h with h1 h2; rw [h1, h2]
  · intro h
    have d1 : a ∣ a' := hc.dvd_of_dvd_mul_right (by rw [← h]; exact Nat.dvd_mul_right _ _)
    have d2 : a' ∣ a := hc'.dvd_of_dvd_mul_right (by rw [h]; exact Nat.dvd_mul_right _ _)
    have e1 := Nat.dvd_antisymm d1 d2
    have d3 : b ∣ b' := hc.symm.dvd_of_dvd_mul_left (by rw [h]; exact Nat.dvd_mul_left _ _)
    have d4 : b' ∣ b := hc'.symm.dvd_of_dvd_mul_left (by rw [← h]; exact Nat.dvd_mul_left _ _)
    have e2 := Nat.dvd_antisymm d3 d4
    rw [e1, e2]

/-- The different ones of the first k digits of a number, in the order in which they come. -/
def seen (f : Nat) : Nat → Nat → List Nat
  | _, 0 => []
  | x, k + 1 => let s := seen f x k; let y := x / f ^ k % f; if s.contains y then s else s ++ [y]
def seenSum (f r : Nat) : Nat → Nat
  | 0 => 0
  | x + 1 => seenSum f r x + (seen f x r).length
/-- The greatest one of the first k digits, from 1 on. -/
def top (f : Nat) : Nat → Nat → Nat
  | _, 0 => 0
  | x, k + 1 => max (top f x k) (1 + x / f ^ k % f)
def topSum (f r : Nat) : Nat → Nat
  | 0 => 0
  | x + 1 => topSum f r x + top f x r
def below (f r : Nat) : Nat → Nat
  | 0 => 0
  | k + 1 => below f r k + (f ^ r - k ^ r)
def all : List (Nat × Nat) := (List.range 6).flatMap fun f => (List.range 6).map fun r => (f + 1, r + 1)
theorem seen_all : (all.all fun p => decide (300 < p.1 ^ p.2) || decide (seenSum p.1 p.2 (p.1 ^ p.2) = p.1 * (p.1 ^ p.2 - (p.1 - 1) ^ p.2))) = true := by decide +kernel
theorem top_all : (all.all fun p => decide (300 < p.1 ^ p.2) || decide (topSum p.1 p.2 (p.1 ^ p.2) = below p.1 p.2 p.1)) = true := by decide +kernel
theorem mem_all {f r : Nat} (h1 : 1 ≤ f) (h2 : f ≤ 6) (h3 : 1 ≤ r) (h4 : r ≤ 6) : (f, r) ∈ all := by
  simp only [all, List.mem_flatMap, List.mem_map, List.mem_range]
  exact ⟨f - 1, by omega, r - 1, by omega, by simp; omega⟩
theorem seen_eq {f r : Nat} (h1 : 1 ≤ f) (h2 : f ≤ 6) (h3 : 1 ≤ r) (h4 : r ≤ 6) (h : f ^ r ≤ 300) : seenSum f r (f ^ r) = f * (f ^ r - (f - 1) ^ r) := by
  have := List.all_eq_true.1 seen_all _ (mem_all h1 h2 h3 h4)
  simp only [Bool.or_eq_true, decide_eq_true_eq] at this
  omega
theorem top_eq {f r : Nat} (h1 : 1 ≤ f) (h2 : f ≤ 6) (h3 : 1 ≤ r) (h4 : r ≤ 6) (h : f ^ r ≤ 300) : topSum f r (f ^ r) = below f r f := by
  have := List.all_eq_true.1 top_all _ (mem_all h1 h2 h3 h4)
  simp only [Bool.or_eq_true, decide_eq_true_eq] at this
  omega
/-- What the laws say of the means. -/
def stopsF (f r : Nat) : Nat × Nat := low (f * (f ^ r - (f - 1) ^ r)) (f ^ r)
def topF (f r : Nat) : Nat × Nat := low (below f r f) (f ^ r)
theorem stops_all : (all.all fun p => decide ((stopsF p.1 p.2).2 ≤ (stopsF p.1 p.2).1 ∧ (stopsF p.1 p.2).1 ≤ p.2 * (stopsF p.1 p.2).2 ∧ (stopsF p.1 p.2).1 ≤ p.1 * (stopsF p.1 p.2).2)) = true := by decide +kernel
theorem topF_all : (all.all fun p => decide ((topF p.1 p.2).2 ≤ (topF p.1 p.2).1 ∧ (topF p.1 p.2).1 ≤ p.1 * (topF p.1 p.2).2 ∧ (p.2 = 6 ∨ ¬ (topF p.1 (p.2 + 1)).1 * (topF p.1 p.2).2 < (topF p.1 p.2).1 * (topF p.1 (p.2 + 1)).2))) = true := by decide +kernel
theorem stops_law {f r : Nat} (h1 : 1 ≤ f) (h2 : f ≤ 6) (h3 : 1 ≤ r) (h4 : r ≤ 6) : (stopsF f r).2 ≤ (stopsF f r).1 ∧ (stopsF f r).1 ≤ r * (stopsF f r).2 ∧ (stopsF f r).1 ≤ f * (stopsF f r).2 := by
  have := List.all_eq_true.1 stops_all _ (mem_all h1 h2 h3 h4)
  simpa only [decide_eq_true_eq] using this
theorem top_law {f r : Nat} (h1 : 1 ≤ f) (h2 : f ≤ 6) (h3 : 1 ≤ r) (h4 : r ≤ 6) : (topF f r).2 ≤ (topF f r).1 ∧ (topF f r).1 ≤ f * (topF f r).2 ∧ (r = 6 ∨ ¬ (topF f (r + 1)).1 * (topF f r).2 < (topF f r).1 * (topF f (r + 1)).2) := by
  have := List.all_eq_true.1 topF_all _ (mem_all h1 h2 h3 h4)
  simpa only [decide_eq_true_eq] using this
end Go.Proofs.Ytkhooomjfjancaa.FP
