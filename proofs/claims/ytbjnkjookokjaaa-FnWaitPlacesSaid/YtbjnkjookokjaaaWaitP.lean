/- Plain laws of waiting cars: the best places, by a table over the highest place; no program in sight. -/
namespace Go.Proofs.Ytbjnkjookokjaaa.WP

/-- Places in descending order, all below n. -/
def desc : Nat → List Nat → Prop
  | _, [] => True
  | n, a :: l => a < n ∧ desc a l
theorem desc_mono : ∀ {S : List Nat} {n m : Nat}, desc n S → n ≤ m → desc m S
  | [], _, _, _, _ => trivial
  | _ :: _, _, _, h, hm => ⟨Nat.lt_of_lt_of_le h.1 hm, h.2⟩
theorem desc_lt : ∀ {S : List Nat} {n : Nat}, desc n S → ∀ a ∈ S, a < n
  | [], _, _, _, h => by simp at h
  | b :: l, n, h, a, ha => by
    rcases List.mem_cons.1 ha with rfl | ha
    · exact h.1
    · exact Nat.lt_trans (desc_lt h.2 a ha) h.1
theorem desc_length : ∀ {S : List Nat} {n : Nat}, desc n S → S.length ≤ n
  | [], _, _ => Nat.zero_le _
  | a :: l, n, h => by have := desc_length h.2; have := h.1; simp; omega

/-- The number of a set of places. -/
def num (S : List Nat) : Nat := (S.map (2 ^ ·)).sum
theorem num_cons (a : Nat) (S : List Nat) : num (a :: S) = 2 ^ a + num S := by simp [num]
theorem num_lt : ∀ {S : List Nat} {n : Nat}, desc n S → num S < 2 ^ n
  | [], n, _ => by simp only [num, List.map_nil, List.sum_nil]; exact Nat.pow_pos (by omega)
  | a :: l, n, h => by
    rw [num_cons]
    have h1 := num_lt h.2
    have h2 : 2 ^ (a + 1) ≤ 2 ^ n := Nat.pow_le_pow_right (by omega) h.1
    rw [Nat.pow_succ] at h2
    omega
theorem num_inj : ∀ {S T : List Nat} {n : Nat}, desc n S → desc n T → num S = num T → S = T
  | [], [], _, _, _, _ => rfl
  | [], b :: T, n, _, _, e => by rw [num_cons] at e; have h1 : num [] = 0 := rfl; have : 0 < 2 ^ b := Nat.pow_pos (by omega); omega
  | a :: S, [], n, _, _, e => by rw [num_cons] at e; have h1 : num [] = 0 := rfl; have : 0 < 2 ^ a := Nat.pow_pos (by omega); omega
  | a :: S, b :: T, n, hs, ht, e => by
    rw [num_cons, num_cons] at e
    have h1 := num_lt hs.2
    have h2 := num_lt ht.2
    have hab : a = b := by
      rcases Nat.lt_trichotomy a b with h | h | h
      · have h3 : 2 ^ (a + 1) ≤ 2 ^ b := Nat.pow_le_pow_right (by omega) h
        rw [Nat.pow_succ] at h3; omega
      · exact h
      · have h3 : 2 ^ (b + 1) ≤ 2 ^ a := Nat.pow_le_pow_right (by omega) h
        rw [Nat.pow_succ] at h3; omega
    subst hab
    rw [num_inj hs.2 ht.2 (by omega)]

/-- The places of a number, in ascending order. -/
def bitsOf (m n : Nat) : List Nat := (List.range n).filter fun k => decide (m / 2 ^ k % 2 = 1)
def descB : Nat → List Nat → Bool
  | _, [] => true
  | n, a :: l => decide (a < n) && descB a l
theorem descB_iff : ∀ {S : List Nat} {n : Nat}, descB n S = true → desc n S
  | [], _, _ => trivial
  | a :: l, n, h => by simp [descB] at h; exact ⟨h.1, descB_iff h.2⟩
theorem bits_all : ((List.range 9).all fun n => (List.range (2 ^ n)).all fun m => descB n (bitsOf m n).reverse && num (bitsOf m n).reverse == m && bitsOf m 8 == bitsOf m n) = true := by decide +kernel
theorem bits_of {m n : Nat} (hn : n ≤ 8) (hm : m < 2 ^ n) : desc n (bitsOf m n).reverse ∧ num (bitsOf m n).reverse = m ∧ bitsOf m 8 = bitsOf m n := by
  have h := bits_all
  rw [List.all_eq_true] at h
  have h1 := h n (by rw [List.mem_range]; omega)
  rw [List.all_eq_true] at h1
  have h2 := h1 m (List.mem_range.2 hm)
  simp only [Bool.and_eq_true, beq_iff_eq] at h2
  exact ⟨descB_iff h2.1.1, h2.1.2, h2.2⟩
theorem bits_num {S : List Nat} {n : Nat} (hn : n ≤ 8) (h : desc n S) : bitsOf (num S) n = S.reverse := by
  obtain ⟨h1, h2, _⟩ := bits_of hn (num_lt h)
  have := num_inj h1 h h2
  exact (List.reverse_reverse _).symm.trans (congrArg List.reverse this)

/-- Costs are compared first, then numbers. -/
def lt (a b : Int × Nat) : Bool := decide (a.1 < b.1 ∨ a.1 = b.1 ∧ a.2 < b.2)
/-- The better one of two plans; the elder one of two that are alike. -/
def pick (o p : Option (Int × Nat)) : Option (Int × Nat) :=
  match p, o with
  | none, o => o
  | some a, none => some a
  | some a, some b => if lt a b then some a else some b
/-- A plan is the least one of a family of sets of places. -/
def Min (C : List Nat → Prop) (v : List Nat → Int × Nat) (o : Option (Int × Nat)) : Prop :=
  match o with
  | none => ∀ S, ¬ C S
  | some x => (∃ S, C S ∧ v S = x) ∧ ∀ S, C S → lt (v S) x = false
theorem lt_trans' {a b c : Int × Nat} (h1 : lt b a = false) (h2 : lt c b = false) : lt c a = false := by
  simp only [lt, decide_eq_false_iff_not] at *; omega
theorem pick_min {C D : List Nat → Prop} {v : List Nat → Int × Nat} {o p : Option (Int × Nat)} (h : Min C v o) (k : Min D v p) : Min (fun S => C S ∨ D S) v (pick o p) := by
  cases p with
  | none =>
    simp only [pick]
    cases o with
    | none => intro S hS; rcases hS with hS | hS; exact h S hS; exact k S hS
    | some b =>
      obtain ⟨⟨S, h1, h2⟩, h3⟩ := h
      refine ⟨⟨S, .inl h1, h2⟩, fun T hT => ?_⟩
      rcases hT with hT | hT
      · exact h3 T hT
      · exact absurd hT (k T)
  | some a =>
    obtain ⟨⟨T, k1, k2⟩, k3⟩ := k
    cases o with
    | none =>
      refine ⟨⟨T, .inr k1, k2⟩, fun U hU => ?_⟩
      rcases hU with hU | hU
      · exact absurd hU (h U)
      · exact k3 U hU
    | some b =>
      obtain ⟨⟨S, h1, h2⟩, h3⟩ := h
      simp only [pick]
      by_cases hl : lt a b = true
      · rw [if_pos hl]
        refine ⟨⟨T, .inr k1, k2⟩, fun U hU => ?_⟩
        rcases hU with hU | hU
        · have := h3 U hU; simp only [lt, decide_eq_false_iff_not, decide_eq_true_eq] at *; omega
        · exact k3 U hU
      · rw [if_neg hl]
        refine ⟨⟨S, .inl h1, h2⟩, fun U hU => ?_⟩
        rcases hU with hU | hU
        · exact h3 U hU
        · have := k3 U hU; simp only [lt, decide_eq_false_iff_not, decide_eq_true_eq] at *; omega
theorem Min.congr {C D : List Nat → Prop} {v u : List Nat → Int × Nat} {o : Option (Int × Nat)} (h : Min C v o) (hCD : ∀ S, C S ↔ D S) (hv : ∀ S, C S → v S = u S) : Min D u o := by
  cases o with
  | none => exact fun S hS => h S ((hCD S).2 hS)
  | some x =>
    obtain ⟨⟨S, h1, h2⟩, h3⟩ := h
    exact ⟨⟨S, (hCD S).1 h1, by rw [← hv S h1]; exact h2⟩, fun T hT => by rw [← hv T ((hCD T).2 hT)]; exact h3 T ((hCD T).2 hT)⟩
/-- The better ones, one after the other. -/
def pickAll (P : Nat → Option (Int × Nat)) : Nat → Option (Int × Nat)
  | 0 => none
  | k + 1 => pick (pickAll P k) (P k)
theorem pickAll_min {P : Nat → Option (Int × Nat)} {C : Nat → List Nat → Prop} {v : List Nat → Int × Nat} : ∀ {k : Nat}, (∀ i, i < k → Min (C i) v (P i)) → Min (fun S => ∃ i, i < k ∧ C i S) v (pickAll P k)
  | 0, _ => fun S ⟨i, hi, _⟩ => by omega
  | k + 1, h => by
    refine (pick_min (pickAll_min (fun i hi => h i (by omega))) (h k (by omega))).congr (fun S => ?_) (fun _ _ => rfl)
    constructor
    · rintro (⟨i, hi, hS⟩ | hS)
      · exact ⟨i, by omega, hS⟩
      · exact ⟨k, by omega, hS⟩
    · rintro ⟨i, hi, hS⟩
      by_cases e : i = k
      · subst e; exact .inr hS
      · exact .inl ⟨i, by omega, hS⟩
/-- A plan with more cost and a greater number. -/
def add (o : Option (Int × Nat)) (c : Int) (s : Nat) : Option (Int × Nat) := o.map fun x => (x.1 + c, x.2 + s)
theorem add_min {C D : List Nat → Prop} {v u : List Nat → Int × Nat} {o : Option (Int × Nat)} {c : Int} {s : Nat} (f : List Nat → List Nat) (h : Min C v o) (hD : ∀ T, D T ↔ ∃ S, C S ∧ T = f S) (hv : ∀ S, C S → u (f S) = ((v S).1 + c, (v S).2 + s)) : Min D u (add o c s) := by
  cases o with
  | none => intro T hT; obtain ⟨S, hS, _⟩ := (hD T).1 hT; exact h S hS
  | some x =>
    obtain ⟨⟨S, h1, h2⟩, h3⟩ := h
    refine ⟨⟨f S, (hD _).2 ⟨S, h1, rfl⟩, by rw [hv S h1, h2]⟩, fun T hT => ?_⟩
    obtain ⟨U, hU, rfl⟩ := (hD T).1 hT
    have := h3 U hU
    rw [hv U hU]
    simp only [lt, decide_eq_false_iff_not] at *; omega

section
variable (head : Nat → Int) (mid : Nat → Nat → Int) (tail : Nat → Int)
/-- What the places cost up to the highest one. -/
def cc : List Nat → Int
  | [] => 0
  | [p] => head p
  | a :: b :: l => cc (b :: l) + mid b a
/-- What places cost. -/
def full (S : List Nat) : Int := cc head mid S + match S with | [] => 0 | a :: _ => tail a
def first (last : Nat) : Option (Int × Nat) := some (head last, 2 ^ last)
def further (P : Nat → Option (Int × Nat)) (last : Nat) : Option (Int × Nat) := pickAll (fun low => add (P low) (mid low last) (2 ^ last)) last
def bestOf (P : Nat → Option (Int × Nat)) (n : Nat) : Option (Int × Nat) := pickAll (fun last => add (P last) (tail last) 0) n
/-- The table with k + 1 places. -/
def table : Nat → Nat → Option (Int × Nat)
  | 0 => first head
  | k + 1 => further mid (table k)
/-- The chains of k + 1 places with the highest one. -/
def Chain (k last : Nat) (S : List Nat) : Prop := ∃ l, S = last :: l ∧ desc last l ∧ l.length = k
theorem table_min : ∀ (k last : Nat), Min (Chain k last) (fun S => (cc head mid S, num S)) (table head mid k last)
  | 0, last => by
    refine ⟨⟨[last], ⟨[], rfl, trivial, rfl⟩, by simp [cc, num]⟩, fun S hS => ?_⟩
    obtain ⟨l, rfl, _, hl⟩ := hS
    obtain rfl := List.eq_nil_of_length_eq_zero hl
    simp [lt, cc, num]
  | k + 1, last => by
    simp only [table, further]
    refine (pickAll_min (C := fun low S => ∃ T, Chain k low T ∧ S = last :: T) (v := fun S => (cc head mid S, num S)) (fun low hlow => ?_)).congr (fun S => ?_) (fun _ _ => rfl)
    · refine add_min (fun T => last :: T) (table_min k low) (fun T => Iff.rfl) (fun S hS => ?_)
      obtain ⟨l, rfl, _, _⟩ := hS
      simp only [cc, num_cons, Nat.add_comm]
    · constructor
      · rintro ⟨low, hlow, T, ⟨l, rfl, h1, h2⟩, rfl⟩
        exact ⟨low :: l, rfl, ⟨hlow, h1⟩, by simp [h2]⟩
      · rintro ⟨l, rfl, h1, h2⟩
        cases l with
        | nil => simp at h2
        | cons low l => exact ⟨low, h1.1, low :: l, ⟨l, rfl, h1.2, by simpa using h2⟩, rfl⟩
/-- The least plan with k + 1 places. -/
theorem bestOf_min (k n : Nat) : Min (fun S => desc n S ∧ S.length = k + 1) (fun S => (full head mid tail S, num S)) (bestOf tail (table head mid k) n) := by
  refine (pickAll_min (C := fun last S => Chain k last S) (v := fun S => (full head mid tail S, num S)) (fun last hlast => ?_)).congr (fun S => ?_) (fun _ _ => rfl)
  · refine add_min (fun T => T) (table_min head mid k last) (fun T => ⟨fun h => ⟨T, h, rfl⟩, by rintro ⟨S, h, rfl⟩; exact h⟩) (fun S hS => ?_)
    obtain ⟨l, rfl, _, _⟩ := hS
    simp [full]
  · constructor
    · rintro ⟨last, hlast, l, rfl, h1, h2⟩
      exact ⟨⟨hlast, h1⟩, by simp [h2]⟩
    · rintro ⟨h1, h2⟩
      cases S with
      | nil => simp at h2
      | cons a l => exact ⟨a, h1.1, l, rfl, h1.2, by simpa using h2⟩
/-- The best plan with at most k + 1 places: fewer ones first. -/
def over (n : Nat) : Nat → Option (Int × Nat)
  | 0 => bestOf tail (table head mid 0) n
  | k + 1 => match bestOf tail (table head mid (k + 1)) n, over n k with
    | some a, some b => if a.1 < b.1 then some a else some b
    | _, o => o
/-- The least set of at most k + 1 places: the cost first, then how many, then the number. -/
def Least (n k : Nat) (S : List Nat) : Prop := desc n S ∧ 1 ≤ S.length ∧ S.length ≤ k + 1 ∧ ∀ T, desc n T → 1 ≤ T.length → T.length ≤ k + 1 →
  full head mid tail S < full head mid tail T ∨ full head mid tail S = full head mid tail T ∧ (S.length < T.length ∨ S.length = T.length ∧ num S ≤ num T)
theorem over_least (n : Nat) (hn : 1 ≤ n) : ∀ k, ∃ S, over head mid tail n k = some (full head mid tail S, num S) ∧ Least head mid tail n k S
  | 0 => by
    have h := bestOf_min head mid tail 0 n
    simp only [over]
    cases hb : bestOf tail (table head mid 0) n with
    | none => rw [hb] at h; exact absurd ⟨⟨hn, trivial⟩, rfl⟩ (h [0])
    | some x =>
      rw [hb] at h
      obtain ⟨⟨S, ⟨h1, h2⟩, h3⟩, h4⟩ := h
      refine ⟨S, by rw [← h3], h1, by omega, by omega, fun T t1 t2 t3 => ?_⟩
      have := h4 T ⟨t1, by omega⟩
      rw [← h3] at this
      simp only [lt, decide_eq_false_iff_not] at this
      omega
  | k + 1 => by
    obtain ⟨S, hS, s1, s2, s3, s4⟩ := over_least n hn k
    have h := bestOf_min head mid tail (k + 1) n
    simp only [over]
    rw [hS]
    cases hb : bestOf tail (table head mid (k + 1)) n with
    | none =>
      rw [hb] at h
      refine ⟨S, rfl, s1, s2, by omega, fun T t1 t2 t3 => ?_⟩
      by_cases e : T.length = k + 2
      · exact absurd ⟨t1, e⟩ (h T)
      · exact s4 T t1 t2 (by omega)
    | some x =>
      rw [hb] at h
      obtain ⟨⟨U, ⟨u1, u2⟩, u3⟩, u4⟩ := h
      subst u3
      by_cases hc : full head mid tail U < full head mid tail S
      · refine ⟨U, by simp [hc], u1, by omega, by omega, fun T t1 t2 t3 => ?_⟩
        by_cases e : T.length = k + 2
        · have := u4 T ⟨t1, e⟩
          simp only [lt, decide_eq_false_iff_not] at this
          omega
        · have := s4 T t1 t2 (by omega)
          omega
      · refine ⟨S, by simp [hc], s1, s2, by omega, fun T t1 t2 t3 => ?_⟩
        by_cases e : T.length = k + 2
        · have := u4 T ⟨t1, e⟩
          simp only [lt, decide_eq_false_iff_not] at this
          omega
        · exact s4 T t1 t2 (by omega)
theorem least_unique {n k : Nat} {S T : List Nat} (h : Least head mid tail n k S) (g : Least head mid tail n k T) : S = T := by
  obtain ⟨a1, a2, a3, a4⟩ := h
  obtain ⟨b1, b2, b3, b4⟩ := g
  have h1 := a4 T b1 b2 b3
  have h2 := b4 S a1 a2 a3
  exact num_inj a1 b1 (by omega)
end

def sumTo (g : Nat → Int) : Nat → Int
  | 0 => 0
  | k + 1 => sumTo g k + g k
theorem sumTo_congr {g h : Nat → Int} : ∀ {k : Nat}, (∀ i, i < k → g i = h i) → sumTo g k = sumTo h k
  | 0, _ => rfl
  | k + 1, e => by simp only [sumTo]; rw [sumTo_congr (fun i hi => e i (by omega)), e k (by omega)]
theorem sumTo_add (g : Nat → Int) (a : Nat) : ∀ b, sumTo g (a + b) = sumTo g a + sumTo (fun j => g (a + j)) b
  | 0 => by simp [sumTo]
  | b + 1 => by rw [← Nat.add_assoc]; simp only [sumTo]; rw [sumTo_add g a b]; omega
theorem sumTo_le {g h : Nat → Int} : ∀ {k : Nat}, (∀ i, i < k → g i ≤ h i) → sumTo g k ≤ sumTo h k
  | 0, _ => Int.le_refl _
  | k + 1, e => by simp only [sumTo]; have := sumTo_le (fun i hi => e i (by omega) : ∀ i, i < k → g i ≤ h i); have := e k (by omega); omega
theorem sumTo_zero {g : Nat → Int} {k : Nat} (h : ∀ i, i < k → g i = 0) : sumTo g k = 0 := by
  have e := sumTo_congr (h := fun _ => 0) h
  rw [e]
  induction k with
  | zero => rfl
  | succ k ih => simp only [sumTo]; rw [ih (fun i hi => h i (by omega)) (sumTo_congr fun i hi => h i (by omega))]; rfl

section
variable (x o : Nat → Int)
/-- How far two floors are from each other. -/
def dist (a b : Nat) : Int := if x a < x b then x b - x a else x a - x b
theorem dist_sym (a b : Nat) : dist x a b = dist x b a := by unfold dist; split <;> split <;> omega
theorem dist_self (a : Nat) : dist x a a = 0 := by unfold dist; split <;> omega
theorem dist_nonneg (a b : Nat) : 0 ≤ dist x a b := by unfold dist; split <;> omega
/-- The way from the nearest one of some places. -/
def near (P : List Nat) (f : Nat) : Int := P.foldl (fun m p => min m (dist x p f)) (dist x (P[0]?.getD 0) f)
/-- What places cost. -/
def wcost (n : Nat) (P : List Nat) : Int := sumTo (fun f => o f * near x P f) n
def IsNear (P : List Nat) (f : Nat) (m : Int) : Prop := (∃ p ∈ P, m = dist x p f) ∧ ∀ p ∈ P, m ≤ dist x p f
theorem foldl_min (f : Nat) : ∀ (P : List Nat) (m : Int), P.foldl (fun m p => min m (dist x p f)) m ≤ m ∧ (∀ p ∈ P, P.foldl (fun m p => min m (dist x p f)) m ≤ dist x p f) ∧ (P.foldl (fun m p => min m (dist x p f)) m = m ∨ ∃ p ∈ P, P.foldl (fun m p => min m (dist x p f)) m = dist x p f)
  | [], m => ⟨Int.le_refl _, by simp, .inl rfl⟩
  | p :: P, m => by
    obtain ⟨h1, h2, h3⟩ := foldl_min f P (min m (dist x p f))
    simp only [List.foldl_cons]
    refine ⟨by omega, fun q hq => ?_, ?_⟩
    · rcases List.mem_cons.1 hq with rfl | hq
      · omega
      · exact h2 q hq
    · rcases h3 with h3 | ⟨q, hq, h3⟩
      · rw [h3]
        rcases Int.le_total m (dist x p f) with h | h
        · left; omega
        · right; exact ⟨p, by simp, by omega⟩
      · right; exact ⟨q, by simp [hq], h3⟩
theorem near_is {P : List Nat} (hP : P ≠ []) (f : Nat) : IsNear x P f (near x P f) := by
  cases P with
  | nil => exact absurd rfl hP
  | cons p P =>
    obtain ⟨h1, h2, h3⟩ := foldl_min x f (p :: P) (dist x p f)
    refine ⟨?_, h2⟩
    rcases h3 with h3 | h3
    · exact ⟨p, by simp, h3⟩
    · exact h3
theorem isNear_unique {P Q : List Nat} {f : Nat} {a b : Int} (h : ∀ p, p ∈ P ↔ p ∈ Q) (ha : IsNear x P f a) (hb : IsNear x Q f b) : a = b := by
  obtain ⟨⟨p, hp, rfl⟩, h1⟩ := ha
  obtain ⟨⟨q, hq, rfl⟩, h2⟩ := hb
  have := h1 q ((h q).2 hq)
  have := h2 p ((h p).1 hp)
  omega
theorem near_congr {P Q : List Nat} (hP : P ≠ []) (hQ : Q ≠ []) (h : ∀ p, p ∈ P ↔ p ∈ Q) (f : Nat) : near x P f = near x Q f := isNear_unique x h (near_is x hP f) (near_is x hQ f)
theorem wcost_congr {n : Nat} {P Q : List Nat} (hP : P ≠ []) (hQ : Q ≠ []) (h : ∀ p, p ∈ P ↔ p ∈ Q) : wcost x o n P = wcost x o n Q := sumTo_congr fun f _ => by rw [near_congr x hP hQ h]
theorem near_nonneg {P : List Nat} (hP : P ≠ []) (f : Nat) : 0 ≤ near x P f := by
  obtain ⟨p, _, h⟩ := (near_is x hP f).1
  rw [h]; exact dist_nonneg _ _ _
theorem near_more {P Q : List Nat} (hP : P ≠ []) (h : ∀ p, p ∈ P → p ∈ Q) (f : Nat) : near x Q f ≤ near x P f := by
  obtain ⟨p, hp, e⟩ := (near_is x hP f).1
  have hQ : Q ≠ [] := by rintro rfl; have := h p hp; simp at this
  rw [e]
  exact (near_is x hQ f).2 p (h p hp)
theorem wcost_more {n : Nat} {P Q : List Nat} (ho : ∀ f, f < n → 0 ≤ o f) (hP : P ≠ []) (h : ∀ p, p ∈ P → p ∈ Q) : wcost x o n Q ≤ wcost x o n P :=
  sumTo_le fun f hf => Int.mul_le_mul_of_nonneg_left (near_more x hP h f) (ho f hf)
theorem sumTo_nonneg {g : Nat → Int} : ∀ {k : Nat}, (∀ i, i < k → 0 ≤ g i) → 0 ≤ sumTo g k
  | 0, _ => Int.le_refl _
  | k + 1, e => by simp only [sumTo]; have := sumTo_nonneg (fun i hi => e i (by omega) : ∀ i, i < k → 0 ≤ g i); have := e k (by omega); omega
theorem wcost_nonneg {n : Nat} {P : List Nat} (ho : ∀ f, f < n → 0 ≤ o f) (hP : P ≠ []) : 0 ≤ wcost x o n P :=
  sumTo_nonneg fun f hf => Int.mul_nonneg (ho f hf) (near_nonneg x hP f)
theorem wcost_all {n : Nat} {P : List Nat} (h : ∀ f, f < n → f ∈ P) : wcost x o n P = 0 :=
  sumTo_zero fun f hf => by
    have hP : P ≠ [] := by rintro rfl; have := h f hf; simp at this
    have h1 := (near_is x hP f).2 f (h f hf)
    have h2 := near_nonneg x hP f
    rw [dist_self] at h1
    have : near x P f = 0 := by omega
    rw [this, Int.mul_zero]

def headC (p : Nat) : Int := sumTo (fun f => o f * dist x f p) p
def midC (a b : Nat) : Int := sumTo (fun j => o (a + 1 + j) * min (dist x a (a + 1 + j)) (dist x (a + 1 + j) b)) (b - (a + 1))
def tailC (n p : Nat) : Int := sumTo (fun j => o (p + 1 + j) * dist x p (p + 1 + j)) (n - (p + 1))

variable {n : Nat}
theorem dist_up (hx : ∀ i j, i < j → j < n → x i < x j) {a b : Nat} (h : a ≤ b) (hb : b < n) : dist x a b = x b - x a := by
  rcases Nat.lt_or_ge a b with hl | hl
  · have := hx a b hl hb; unfold dist; rw [if_pos this]
  · obtain rfl : a = b := by omega
    rw [dist_self]; omega
theorem x_le (hx : ∀ i j, i < j → j < n → x i < x j) {a b : Nat} (h : a ≤ b) (hb : b < n) : x a ≤ x b := by
  rcases Nat.lt_or_ge a b with hl | hl
  · have := hx a b hl hb; omega
  · obtain rfl : a = b := by omega
    omega
theorem near_eq {P : List Nat} {f : Nat} {m : Int} (h : IsNear x P f m) : near x P f = m := by
  have hP : P ≠ [] := by rintro rfl; obtain ⟨⟨p, hp, _⟩, _⟩ := h; simp at hp
  exact isNear_unique x (fun _ => Iff.rfl) (near_is x hP f) h
/-- The costs up to the highest place. -/
theorem cc_near (hx : ∀ i j, i < j → j < n → x i < x j) : ∀ {S : List Nat} {a : Nat}, desc n (a :: S) → sumTo (fun f => o f * near x (a :: S) f) a = cc (headC x o) (midC x o) (a :: S)
  | [], a, h => by
    simp only [cc, headC]
    refine sumTo_congr fun f hf => ?_
    rw [near_eq x (m := dist x f a) ⟨⟨a, by simp, dist_sym _ _ _⟩, fun p hp => by simp at hp; subst hp; rw [dist_sym]; exact Int.le_refl _⟩]
  | b :: S, a, h => by
    obtain ⟨ha, hb, hS⟩ := h
    have ih := cc_near hx (S := S) (a := b) ⟨Nat.lt_trans hb ha, hS⟩
    simp only [cc]
    rw [← ih]
    have hlow := desc_lt hS
    obtain ⟨k, rfl⟩ : ∃ k, a = b + 1 + k := ⟨a - (b + 1), by omega⟩
    rw [sumTo_add]
    simp only [sumTo]
    have e1 : sumTo (fun f => o f * near x ((b + 1 + k) :: b :: S) f) b = sumTo (fun f => o f * near x (b :: S) f) b := by
      refine sumTo_congr fun f hf => ?_
      congr 1
      have hn := near_is x (P := b :: S) (by simp) f
      refine near_eq x ⟨?_, fun p hp => ?_⟩
      · obtain ⟨p, hp, e⟩ := hn.1; exact ⟨p, by simp only [List.mem_cons] at *; exact .inr hp, e⟩
      · rcases List.mem_cons.1 hp with rfl | hp
        · have h1 := hn.2 b (by simp)
          have d1 := dist_up x hx (a := f) (b := b) (by omega) (by omega)
          have d2 := dist_up x hx (a := f) (b := b + 1 + k) (by omega) (by omega)
          have := x_le x hx (a := b) (b := b + 1 + k) (by omega) (by omega)
          rw [dist_sym] at h1
          rw [dist_sym x (b + 1 + k)]
          omega
        · exact hn.2 p hp
    have e2 : near x ((b + 1 + k) :: b :: S) b = 0 := by
      refine near_eq x ⟨⟨b, by simp, (dist_self _ _).symm⟩, fun p _ => dist_nonneg _ _ _⟩
    have e3 : sumTo (fun j => o (b + 1 + j) * near x ((b + 1 + k) :: b :: S) (b + 1 + j)) k = midC x o b (b + 1 + k) := by
      unfold midC
      rw [show b + 1 + k - (b + 1) = k by omega]
      refine sumTo_congr fun j hj => ?_
      congr 1
      refine near_eq x ⟨?_, fun p hp => ?_⟩
      · rcases Int.le_total (dist x b (b + 1 + j)) (dist x (b + 1 + j) (b + 1 + k)) with h | h
        · exact ⟨b, by simp, by omega⟩
        · exact ⟨b + 1 + k, by simp, by rw [dist_sym x (b + 1 + k)]; omega⟩
      · rcases List.mem_cons.1 hp with rfl | hp
        · rw [dist_sym x (b + 1 + k)]; omega
        · have hpb : p ≤ b := by
            rcases List.mem_cons.1 hp with rfl | hp
            · omega
            · have := hlow p hp; omega
          have d1 := dist_up x hx (a := p) (b := b + 1 + j) (by omega) (by omega)
          have d2 := dist_up x hx (a := b) (b := b + 1 + j) (by omega) (by omega)
          have := x_le x hx (a := p) (b := b) hpb (by omega)
          omega
    rw [e1, e2, e3]
    omega
theorem wcost_full (hx : ∀ i j, i < j → j < n → x i < x j) {S : List Nat} (h : desc n S) (hS : S ≠ []) : wcost x o n S = full (headC x o) (midC x o) (tailC x o n) S := by
  cases S with
  | nil => exact absurd rfl hS
  | cons a S =>
    unfold wcost full
    rw [← cc_near x o hx h]
    have hlow := desc_lt h.2
    have ha := h.1
    obtain ⟨k, hk⟩ : ∃ k, n = a + 1 + k := ⟨n - (a + 1), by omega⟩
    have e0 : sumTo (fun f => o f * near x (a :: S) f) n = sumTo (fun f => o f * near x (a :: S) f) (a + 1 + k) := by rw [hk]
    rw [e0, sumTo_add]
    simp only [sumTo]
    have e2 : near x (a :: S) a = 0 := near_eq x ⟨⟨a, by simp, (dist_self _ _).symm⟩, fun p _ => dist_nonneg _ _ _⟩
    have e3 : sumTo (fun j => o (a + 1 + j) * near x (a :: S) (a + 1 + j)) k = tailC x o n a := by
      unfold tailC
      rw [show n - (a + 1) = k by omega]
      refine sumTo_congr fun j hj => ?_
      congr 1
      refine near_eq x ⟨⟨a, by simp, rfl⟩, fun p hp => ?_⟩
      have hpb : p ≤ a := by
        rcases List.mem_cons.1 hp with rfl | hp
        · omega
        · have := hlow p hp; omega
      have d1 := dist_up x hx (a := p) (b := a + 1 + j) (by omega) (by omega)
      have d2 := dist_up x hx (a := a) (b := a + 1 + j) (by omega) (by omega)
      have := x_le x hx (a := p) (b := a) hpb (by omega)
      omega
    rw [e2, e3]
    omega

/-- A place more in a descending list. -/
def ins (p : Nat) : List Nat → List Nat
  | [] => [p]
  | a :: l => if a < p then p :: a :: l else if p = a then a :: l else a :: ins p l
theorem ins_desc {p : Nat} : ∀ {S : List Nat} {n : Nat}, desc n S → p < n → desc n (ins p S) ∧ (ins p S).length ≤ S.length + 1 ∧ ∀ q, q ∈ ins p S ↔ q = p ∨ q ∈ S
  | [], n, _, hp => ⟨⟨hp, trivial⟩, by simp [ins], by simp [ins]⟩
  | a :: l, n, h, hp => by
    unfold ins
    by_cases h1 : a < p
    · rw [if_pos h1]; exact ⟨⟨hp, h1, h.2⟩, by simp, by simp⟩
    · rw [if_neg h1]
      by_cases h2 : p = a
      · rw [if_pos h2]; subst h2; exact ⟨h, by simp, by simp⟩
      · rw [if_neg h2]
        obtain ⟨i1, i2, i3⟩ := ins_desc (p := p) h.2 (by omega)
        refine ⟨⟨h.1, i1⟩, by simp; omega, fun q => ?_⟩
        rw [List.mem_cons, i3, List.mem_cons]
        constructor
        · rintro (h | h | h)
          · exact .inr (.inl h)
          · exact .inl h
          · exact .inr (.inr h)
        · rintro (h | h | h)
          · exact .inr (.inl h)
          · exact .inl h
          · exact .inr (.inr h)
theorem as_desc {n : Nat} : ∀ (P : List Nat), (∀ p ∈ P, p < n) → ∃ S, desc n S ∧ S.length ≤ P.length ∧ ∀ q, q ∈ S ↔ q ∈ P
  | [], _ => ⟨[], trivial, by simp, by simp⟩
  | p :: P, h => by
    obtain ⟨S, h1, h2, h3⟩ := as_desc P (fun q hq => h q (by simp [hq]))
    obtain ⟨i1, i2, i3⟩ := ins_desc (p := p) h1 (h p (by simp))
    refine ⟨ins p S, i1, by simp; omega, fun q => ?_⟩
    rw [i3, h3, List.mem_cons]
end

section
variable (x o : Nat → Int) (n : Nat)
/-- The cost, in the two words. -/
def Good (k : Nat) (S : List Nat) : Prop := Least (headC x o) (midC x o) (tailC x o n) n k S
/-- One number more is looked at by the reference. -/
def step (cars : Nat) (b : List Nat) (m : Nat) : List Nat :=
  if cars < (bitsOf m 8).length then b else if b.length = 0 ∨ wcost x o n (bitsOf m 8) < wcost x o n b ∨ wcost x o n (bitsOf m 8) = wcost x o n b ∧ (bitsOf m 8).length < b.length then bitsOf m 8 else b
def search (cars : Nat) : Nat → List Nat
  | 0 => []
  | k + 1 => step x o n cars (search cars k) (k + 1)
variable {n}
theorem wcost_rev {S : List Nat} (h : S ≠ []) : wcost x o n S.reverse = wcost x o n S := wcost_congr x o (by simpa using h) h (by simp)
theorem search_inv (hn : n ≤ 8) (cars : Nat) : ∀ k, k < 2 ^ n → (search x o n cars k = [] ∧ ∀ T, desc n T → 1 ≤ T.length → T.length ≤ cars → num T ≤ k → False) ∨
    ∃ S, search x o n cars k = S.reverse ∧ desc n S ∧ 1 ≤ S.length ∧ S.length ≤ cars ∧ num S ≤ k ∧ ∀ T, desc n T → 1 ≤ T.length → T.length ≤ cars → num T ≤ k →
      wcost x o n S < wcost x o n T ∨ wcost x o n S = wcost x o n T ∧ (S.length < T.length ∨ S.length = T.length ∧ num S ≤ num T)
  | 0, _ => .inl ⟨rfl, fun T h1 h2 _ h4 => by
      cases T with
      | nil => simp at h2
      | cons a T => rw [num_cons] at h4; have : 0 < 2 ^ a := Nat.pow_pos (by omega); omega⟩
  | k + 1, hk => by
    have ih := search_inv hn cars k (by omega)
    obtain ⟨b1, b2, b3⟩ := bits_of hn hk
    obtain ⟨U, hU⟩ : ∃ U, (bitsOf (k + 1) n).reverse = U := ⟨_, rfl⟩
    have hUr : bitsOf (k + 1) n = U.reverse := by rw [← hU, List.reverse_reverse]
    rw [hU] at b1 b2
    have hU0 : U ≠ [] := by rintro rfl; simp [num] at b2
    have hUl : 1 ≤ U.length := by cases U with
      | nil => exact absurd rfl hU0
      | cons a U => simp
    have split : ∀ T, desc n T → num T ≤ k + 1 → num T ≤ k ∨ T = U := fun T hT h => by
      by_cases e : num T = k + 1
      · right; exact num_inj hT b1 (by omega)
      · left; omega
    simp only [search, step]
    rw [b3, hUr, List.length_reverse]
    by_cases hc : cars < U.length
    · rw [if_pos hc]
      rcases ih with ⟨i1, i2⟩ | ⟨S, i1, i2, i3, i4, i5, i6⟩
      · refine .inl ⟨i1, fun T h1 h2 h3 h4 => ?_⟩
        rcases split T h1 h4 with h | rfl
        · exact i2 T h1 h2 h3 h
        · omega
      · refine .inr ⟨S, i1, i2, i3, i4, by omega, fun T h1 h2 h3 h4 => ?_⟩
        rcases split T h1 h4 with h | rfl
        · exact i6 T h1 h2 h3 h
        · omega
    · rw [if_neg hc]
      rcases ih with ⟨i1, i2⟩ | ⟨S, i1, i2, i3, i4, i5, i6⟩
      · rw [i1, if_pos (by simp)]
        refine .inr ⟨U, rfl, b1, hUl, by omega, by omega, fun T h1 h2 h3 h4 => ?_⟩
        rcases split T h1 h4 with h | rfl
        · exact absurd h (i2 T h1 h2 h3)
        · omega
      · have hS0 : S ≠ [] := by rintro rfl; simp at i3
        rw [i1, wcost_rev x o hU0, wcost_rev x o hS0, List.length_reverse]
        by_cases hb : S.length = 0 ∨ wcost x o n U < wcost x o n S ∨ wcost x o n U = wcost x o n S ∧ U.length < S.length
        · rw [if_pos hb]
          refine .inr ⟨U, rfl, b1, hUl, by omega, by omega, fun T h1 h2 h3 h4 => ?_⟩
          rcases split T h1 h4 with h | rfl
          · have := i6 T h1 h2 h3 h; omega
          · omega
        · rw [if_neg hb]
          refine .inr ⟨S, rfl, i2, i3, i4, by omega, fun T h1 h2 h3 h4 => ?_⟩
          rcases split T h1 h4 with h | rfl
          · exact i6 T h1 h2 h3 h
          · omega
theorem desc_ne {S : List Nat} (h : 1 ≤ S.length) : S ≠ [] := by rintro rfl; simp at h
/-- The reference finds the least set of places. -/
theorem search_least (hx : ∀ i j, i < j → j < n → x i < x j) (hn : n ≤ 8) (h1 : 1 ≤ n) (cars : Nat) (hc : 1 ≤ cars) : ∃ S, search x o n cars (2 ^ n - 1) = S.reverse ∧ Good x o n (min cars n - 1) S := by
  have hp : 0 < 2 ^ n := Nat.pow_pos (by omega)
  rcases search_inv x o hn cars (2 ^ n - 1) (by omega) with ⟨_, i2⟩ | ⟨S, i1, i2, i3, i4, i5, i6⟩
  · exfalso
    have h0 : desc n [0] := ⟨h1, trivial⟩
    have := num_lt h0
    exact i2 [0] h0 (by simp) (by simp; omega) (by omega)
  · have hl := desc_length i2
    refine ⟨S, i1, i2, i3, by omega, fun T t1 t2 t3 => ?_⟩
    have := num_lt t1
    have h6 := i6 T t1 t2 (by omega) (by omega)
    rw [wcost_full x o hx i2 (desc_ne i3), wcost_full x o hx t1 (desc_ne t2)] at h6
    exact h6
/-- Both find the same places. -/
theorem same_places (hx : ∀ i j, i < j → j < n → x i < x j) (hn : n ≤ 8) (h1 : 1 ≤ n) (cars : Nat) (hc : 1 ≤ cars) : ∃ S, search x o n cars (2 ^ n - 1) = S.reverse ∧ Good x o n (min cars n - 1) S ∧
    over (headC x o) (midC x o) (tailC x o n) n (min cars n - 1) = some (wcost x o n S, num S) ∧ bitsOf (num S) n = S.reverse := by
  obtain ⟨S, s1, s2⟩ := search_least x o hx hn h1 cars hc
  obtain ⟨T, t1, t2⟩ := over_least (headC x o) (midC x o) (tailC x o n) n h1 (min cars n - 1)
  obtain rfl := least_unique _ _ _ s2 t2
  exact ⟨S, s1, s2, by rw [wcost_full x o hx s2.1 (desc_ne s2.2.1)]; exact t1, bits_num hn s2.1⟩
/-- No other list of as many places costs less. -/
theorem good_least (hx : ∀ i j, i < j → j < n → x i < x j) {k : Nat} {S : List Nat} (h : Good x o n k S) {P : List Nat} (hP : P ≠ []) (hp : ∀ p ∈ P, p < n) (hl : P.length ≤ k + 1) : wcost x o n S ≤ wcost x o n P := by
  obtain ⟨T, t1, t2, t3⟩ := as_desc P hp
  have hT : T ≠ [] := by
    rintro rfl
    cases P with
    | nil => exact hP rfl
    | cons p P => have := (t3 p).2 (by simp); simp at this
  have hT1 : 1 ≤ T.length := by cases T with
    | nil => exact absurd rfl hT
    | cons a T => simp
  have := h.2.2.2 T t1 hT1 (by omega)
  rw [← wcost_full x o hx h.1 (desc_ne h.2.1), ← wcost_full x o hx t1 hT] at this
  rw [wcost_congr x o hP hT (fun q => (t3 q).symm)]
  omega
end
end Go.Proofs.Ytbjnkjookokjaaa.WP
