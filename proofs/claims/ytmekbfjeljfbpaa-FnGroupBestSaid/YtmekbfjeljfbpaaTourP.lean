/- Plain laws of ways: the order of visits, and how long it is; no program in sight. -/
namespace Go.Proofs.Ytmekbfjeljfbpaa.TP

/-- How far two floors are from each other. -/
def dist (x : Nat → Int) (a b : Nat) : Int := if x a < x b then x b - x a else x a - x b
section
variable (x : Nat → Int)
theorem dist_nonneg (a b : Nat) : 0 ≤ dist x a b := by unfold dist; split <;> omega
theorem dist_tri (a b c : Nat) : dist x a c ≤ dist x a b + dist x b c := by unfold dist; repeat' split <;> omega
/-- How long the way over floors is. -/
def path : Nat → List Nat → Int
  | _, [] => 0
  | a, v :: l => dist x a v + path v l
theorem path_nonneg : ∀ (l : List Nat) (a : Nat), 0 ≤ path x a l
  | [], _ => Int.le_refl _
  | v :: l, a => by have := path_nonneg l v; have := dist_nonneg x a v; simp only [path]; omega
theorem path_far : ∀ (l : List Nat) (a v : Nat), v ∈ l → dist x a v ≤ path x a l
  | [], _, _, h => by simp at h
  | u :: l, a, v, h => by
    simp only [path]
    rcases List.mem_cons.1 h with rfl | h
    · have := path_nonneg x l v; omega
    · have := path_far l u v h
      have := dist_tri x a u v
      omega
/-- Whether the lower floors are visited first. -/
def lowFirst (a : Nat) (vs : List Nat) : Bool := decide (vs[0]?.getD 0 < a ∧ (vs[vs.length - 1]?.getD 0 ≤ a ∨ dist x a (vs[0]?.getD 0) ≤ dist x a (vs[vs.length - 1]?.getD 0)))
def isDown (a : Nat) (b : Bool) (v : Nat) : Bool := decide (v < a) || (decide (v = a) && b)
/-- The order of visits. -/
def tour (a : Nat) (vs : List Nat) : List Nat :=
  if lowFirst x a vs = true then (vs.filter (isDown a true)).reverse ++ vs.filter (fun v => !isDown a true v) else vs.filter (fun v => !isDown a false v) ++ (vs.filter (isDown a false)).reverse
theorem mem_tour {a v : Nat} {vs : List Nat} (h : v ∈ vs) : v ∈ tour x a vs := by
  unfold tour
  split
  · rw [List.mem_append, List.mem_reverse, List.mem_filter, List.mem_filter]
    cases hd : isDown a true v
    · right; simp [h]
    · left; simp [h]
  · rw [List.mem_append, List.mem_reverse, List.mem_filter, List.mem_filter]
    cases hd : isDown a false v
    · left; simp [h]
    · right; simp [h]
theorem tour_mem {a v : Nat} {vs : List Nat} (h : v ∈ tour x a vs) : v ∈ vs := by
  unfold tour at h
  split at h
  all_goals
    rw [List.mem_append, List.mem_reverse, List.mem_filter, List.mem_filter] at h
    rcases h with h | h <;> exact h.1
theorem tour_nil (a : Nat) : tour x a [] = [] := by unfold tour; split <;> rfl

/-- Floors ascend. -/
def Asc (vs : List Nat) : Prop := ∀ i j, i < j → j < vs.length → vs[i]?.getD 0 < vs[j]?.getD 0
theorem take_filter {vs : List Nat} {k : Nat} (p : Nat → Bool) (hk : k ≤ vs.length) (h1 : ∀ j, j < k → p (vs[j]?.getD 0) = true) (h2 : ∀ j, k ≤ j → j < vs.length → p (vs[j]?.getD 0) = false) :
    vs.filter p = vs.take k ∧ vs.filter (fun v => !p v) = vs.drop k := by
  have e : vs = vs.take k ++ vs.drop k := (List.take_append_drop k vs).symm
  have a1 : ∀ v ∈ vs.take k, p v = true := fun v hv => by
    obtain ⟨i, hi, rfl⟩ := List.getElem_of_mem hv
    rw [List.length_take] at hi
    have := h1 i (by omega)
    rw [List.getElem?_eq_getElem (by omega)] at this
    rw [List.getElem_take]; exact this
  have a2 : ∀ v ∈ vs.drop k, p v = false := fun v hv => by
    obtain ⟨i, hi, rfl⟩ := List.getElem_of_mem hv
    rw [List.length_drop] at hi
    have := h2 (k + i) (by omega) (by omega)
    rw [List.getElem?_eq_getElem (by omega)] at this
    rw [List.getElem_drop]; exact this
  constructor
  · have h := congrArg (List.filter p) e
    rw [List.filter_append] at h
    rw [h, List.filter_eq_self.2 a1, List.filter_eq_nil_iff.2 (fun v hv => by simp [a2 v hv]), List.append_nil]
  · have h := congrArg (List.filter fun v => !p v) e
    rw [List.filter_append] at h
    rw [h, List.filter_eq_nil_iff.2 (fun v hv => by simp [a1 v hv]), List.filter_eq_self.2 (fun v hv => by simp [a2 v hv]), List.nil_append]
theorem asc_le {vs : List Nat} (h : Asc vs) {i j : Nat} (hij : i ≤ j) (hj : j < vs.length) : vs[i]?.getD 0 ≤ vs[j]?.getD 0 := by
  rcases Nat.lt_or_ge i j with hl | hl
  · have := h i j hl hj; omega
  · obtain rfl : i = j := by omega
    omega
/-- The program's four cases. -/
theorem tour_up {a : Nat} {vs : List Nat} (h : Asc vs) (h0 : a ≤ vs[0]?.getD 0) : tour x a vs = vs := by
  have hl : lowFirst x a vs = false := by simp only [lowFirst, decide_eq_false_iff_not]; omega
  unfold tour
  rw [if_neg (by simp [hl])]
  obtain ⟨e1, e2⟩ := take_filter (vs := vs) (k := 0) (isDown a false) (Nat.zero_le _) (fun j hj => by omega) (fun j _ hj => by have := asc_le h (Nat.zero_le j) hj; simp [isDown]; omega)
  rw [e1, e2]
  simp
theorem tour_down {a : Nat} {vs : List Nat} (h : Asc vs) (h0 : vs[0]?.getD 0 < a) (h1 : vs[vs.length - 1]?.getD 0 ≤ a) : tour x a vs = vs.reverse := by
  have hl : lowFirst x a vs = true := by simp only [lowFirst, decide_eq_true_eq]; exact ⟨h0, .inl h1⟩
  unfold tour
  rw [if_pos hl]
  obtain ⟨e1, e2⟩ := take_filter (vs := vs) (k := vs.length) (isDown a true) (Nat.le_refl _) (fun j hj => by
    have := asc_le h (show j ≤ vs.length - 1 by omega) (by omega)
    simp [isDown]; omega) (fun j hj hj' => by omega)
  rw [e1, e2]
  simp
theorem tour_low {a : Nat} {vs : List Nat} (h : Asc vs) (h0 : vs[0]?.getD 0 < a) (h1 : dist x a (vs[0]?.getD 0) ≤ dist x a (vs[vs.length - 1]?.getD 0)) {k : Nat} (hk : k ≤ vs.length)
    (k1 : ∀ j, j < k → vs[j]?.getD 0 ≤ a) (k2 : k < vs.length → a < vs[k]?.getD 0) : tour x a vs = (vs.take k).reverse ++ vs.drop k := by
  have hl : lowFirst x a vs = true := by simp only [lowFirst, decide_eq_true_eq]; exact ⟨h0, .inr h1⟩
  unfold tour
  rw [if_pos hl]
  obtain ⟨e1, e2⟩ := take_filter (vs := vs) (k := k) (isDown a true) hk (fun j hj => by have := k1 j hj; simp [isDown]; omega) (fun j hj hj' => by
    have := asc_le h hj hj'
    have := k2 (by omega)
    simp [isDown]; omega)
  rw [e1, e2]
theorem tour_high {a : Nat} {vs : List Nat} (h : Asc vs) (h1 : ¬ dist x a (vs[0]?.getD 0) ≤ dist x a (vs[vs.length - 1]?.getD 0)) (h2 : a < vs[vs.length - 1]?.getD 0) {k : Nat} (hk : k ≤ vs.length)
    (k1 : ∀ j, j < k → vs[j]?.getD 0 < a) (k2 : k < vs.length → a ≤ vs[k]?.getD 0) : tour x a vs = vs.drop k ++ (vs.take k).reverse := by
  have hl : lowFirst x a vs = false := by simp only [lowFirst, decide_eq_false_iff_not]; omega
  unfold tour
  rw [if_neg (by simp [hl])]
  obtain ⟨e1, e2⟩ := take_filter (vs := vs) (k := k) (isDown a false) hk (fun j hj => by have := k1 j hj; simp [isDown]; omega) (fun j hj hj' => by
    have := asc_le h hj hj'
    have := k2 (by omega)
    simp [isDown]; omega)
  rw [e1, e2]

/-- How long the shortest way over floors is. -/
def short (a : Nat) (vs : List Nat) : Int := path x a (tour x a vs)
theorem short_nonneg (a : Nat) (vs : List Nat) : 0 ≤ short x a vs := path_nonneg _ _ _
theorem short_nil (a : Nat) : short x a [] = 0 := by unfold short; rw [tour_nil]; rfl
theorem short_far {a v : Nat} {vs : List Nat} (h : v ∈ vs) : dist x a v ≤ short x a vs := path_far x _ _ _ (mem_tour x h)
end

/-- The floors of the calls that are given to a car, in ascending order. -/
def visits (n : Nat) (calls give : List Nat) (c : Nat) : List Nat := (List.range n).filter fun f => (List.range calls.length).any fun k => give[k]?.getD 0 == c && calls[k]?.getD 0 == f
def sumTo (g : Nat → Int) : Nat → Int
  | 0 => 0
  | k + 1 => sumTo g k + g k
theorem sumTo_nonneg {g : Nat → Int} : ∀ {k : Nat}, (∀ i, i < k → 0 ≤ g i) → 0 ≤ sumTo g k
  | 0, _ => Int.le_refl _
  | k + 1, e => by simp only [sumTo]; have := sumTo_nonneg (fun i hi => e i (by omega) : ∀ i, i < k → 0 ≤ g i); have := e k (by omega); omega
theorem sumTo_one {g : Nat → Int} : ∀ {k : Nat}, (∀ i, i < k → 0 ≤ g i) → ∀ j, j < k → g j ≤ sumTo g k
  | 0, _, j, h => by omega
  | k + 1, e, j, h => by
    simp only [sumTo]
    have h0 := sumTo_nonneg (fun i hi => e i (by omega) : ∀ i, i < k → 0 ≤ g i)
    have hk := e k (by omega)
    by_cases hj : j = k
    · subst hj; omega
    · have := sumTo_one (fun i hi => e i (by omega) : ∀ i, i < k → 0 ≤ g i) j (by omega); omega
theorem sumTo_congr {g h : Nat → Int} : ∀ {k : Nat}, (∀ i, i < k → g i = h i) → sumTo g k = sumTo h k
  | 0, _ => rfl
  | k + 1, e => by simp only [sumTo]; rw [sumTo_congr (fun i hi => e i (by omega)), e k (by omega)]
/-- The sum of the ways of all cars. -/
def gsum (x : Nat → Int) (n : Nat) (cars calls give : List Nat) : Int := sumTo (fun c => short x (cars[c]?.getD 0) (visits n calls give c)) cars.length
theorem gsum_nonneg (x : Nat → Int) (n : Nat) (cars calls give : List Nat) : 0 ≤ gsum x n cars calls give := sumTo_nonneg fun _ _ => short_nonneg _ _ _
theorem gsum_far (x : Nat → Int) {n : Nat} {cars calls give : List Nat} {k : Nat} (hk : k < calls.length) (hn : calls[k]?.getD 0 < n) (hc : give[k]?.getD 0 < cars.length) : dist x (cars[give[k]?.getD 0]?.getD 0) (calls[k]?.getD 0) ≤ gsum x n cars calls give := by
  refine Int.le_trans ?_ (sumTo_one (fun _ _ => short_nonneg _ _ _) _ hc)
  refine short_far x ?_
  simp only [visits, List.mem_filter, List.mem_range, List.any_eq_true, Bool.and_eq_true, beq_iff_eq]
  exact ⟨hn, k, hk, rfl, rfl⟩
theorem visits_none {n : Nat} {calls give : List Nat} {c : Nat} (h : ∀ k, k < calls.length → give[k]?.getD 0 < c) : visits n calls give c = [] := by
  simp only [visits, List.filter_eq_nil_iff, List.any_eq_true, List.mem_range, Bool.and_eq_true, beq_iff_eq, not_exists, not_and]
  intro f _ k hk e
  have := h k hk
  omega
/-- A further car that is given nothing changes nothing. -/
theorem gsum_more (x : Nat → Int) {n : Nat} {cars calls give : List Nat} (h : ∀ k, k < calls.length → give[k]?.getD 0 < cars.length) (a : Nat) : gsum x n (cars ++ [a]) calls give = gsum x n cars calls give := by
  unfold gsum
  rw [List.length_append]
  show sumTo _ (cars.length + 1) = _
  simp only [sumTo]
  rw [visits_none h, short_nil, Int.add_zero]
  exact sumTo_congr fun i hi => by rw [List.getElem?_append_left hi]
end Go.Proofs.Ytmekbfjeljfbpaa.TP
