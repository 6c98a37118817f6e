/- Plain laws of groups: giving calls to cars; no program in sight. -/
import Derived.Test.YtmekbfjeljfbpaaHallP
namespace Go.Proofs.Ytmekbfjeljfbpaa.GP
open Go.Proofs.Ytmekbfjeljfbpaa.HP

/-- The next list of numbers below m in their order, if there is one. -/
def nxt (m : Nat) : List Nat → Option (List Nat)
  | [] => none
  | a :: l => match nxt m l with
    | some l' => some (a :: l')
    | none => if a + 1 < m then some ((a + 1) :: l.map fun _ => 0) else none
theorem digits_length (m : Nat) : ∀ n a, (digits m n a).length = n
  | 0, _ => rfl
  | n + 1, a => by simp [digits, digits_length m n a]
theorem digits_zero (m : Nat) : ∀ n, digits m n 0 = List.replicate n 0
  | 0 => rfl
  | n + 1 => by simp [digits, digits_zero m n, List.replicate_succ]
theorem nxt_digits (m : Nat) (hm : 0 < m) : ∀ n t, t < m ^ n → nxt m (digits m n t) = if t + 1 < m ^ n then some (digits m n (t + 1)) else none
  | 0, t, h => by
    have : t = 0 := by simpa using h
    subst this; rfl
  | n + 1, t, h => by
    have hp : 0 < m ^ n := Nat.pow_pos hm
    obtain ⟨c, r, rfl, hr⟩ : ∃ c r, t = c * m ^ n + r ∧ r < m ^ n := ⟨t / m ^ n, t % m ^ n, by rw [Nat.mul_comm]; exact (Nat.div_add_mod _ _).symm, Nat.mod_lt _ hp⟩
    have hc : c < m := by
      refine Nat.lt_of_mul_lt_mul_right (a := m ^ n) ?_
      rw [Nat.pow_succ, Nat.mul_comm (m ^ n)] at h
      omega
    have dg : ∀ d s, d < m → s < m ^ n → digits m (n + 1) (d * m ^ n + s) = d :: digits m n s := by
      intro d s hd hs
      simp only [digits]
      rw [digits_add, Nat.mul_comm d, Nat.mul_add_div hp, Nat.div_eq_of_lt hs, Nat.add_zero, Nat.mod_eq_of_lt hd]
    rw [dg c r hc hr, nxt, nxt_digits m hm n r hr]
    by_cases h1 : r + 1 < m ^ n
    · rw [if_pos h1]
      have h2 : c * m ^ n + r + 1 < m ^ (n + 1) := by
        have : (c + 1) * m ^ n ≤ m * m ^ n := Nat.mul_le_mul_right _ hc
        rw [Nat.pow_succ, Nat.mul_comm (m ^ n)]
        rw [Nat.succ_mul] at this
        omega
      rw [if_pos h2, Nat.add_assoc, dg c (r + 1) hc h1]
    · rw [if_neg h1]
      have hr1 : r + 1 = m ^ n := by omega
      by_cases h2 : c + 1 < m
      · have h3 : c * m ^ n + r + 1 < m ^ (n + 1) := by
          have : (c + 2) * m ^ n ≤ m * m ^ n := Nat.mul_le_mul_right _ h2
          rw [Nat.pow_succ, Nat.mul_comm (m ^ n)]
          rw [Nat.succ_mul, Nat.succ_mul] at this
          omega
        have e : c * m ^ n + r + 1 = (c + 1) * m ^ n + 0 := by rw [Nat.succ_mul]; omega
        simp only [if_pos h2, if_pos h3]
        rw [e, dg (c + 1) 0 h2 hp, digits_zero]
        have : (digits m n r).map (fun _ => 0) = List.replicate n 0 := by rw [List.map_const', digits_length]
        rw [this]
      · have h3 : ¬ c * m ^ n + r + 1 < m ^ (n + 1) := by
          have : (c + 1) * m ^ n = m * m ^ n := by rw [show c + 1 = m by omega]
          rw [Nat.pow_succ, Nat.mul_comm (m ^ n)]
          rw [Nat.succ_mul] at this
          omega
        simp only [if_neg h2, if_neg h3]

section
variable (f : List Nat → Int)
/-- The first one of the least. -/
def fm (o : Option (List Nat)) (x : List Nat) : Option (List Nat) := match o with
  | none => some x
  | some b => if f x < f b then some x else some b
def join (o : Option (List Nat)) : Option (List Nat) → Option (List Nat)
  | none => o
  | some y => fm f o y
theorem fm_join (o p : Option (List Nat)) (x : List Nat) : fm f (join f o p) x = join f o (fm f p x) := by
  cases p with
  | none => rfl
  | some y =>
    cases o with
    | none => simp only [join, fm]; split <;> rfl
    | some b =>
      simp only [join, fm]
      by_cases h1 : f y < f b <;> by_cases h2 : f x < f y <;> by_cases h3 : f x < f b <;> simp [h1, h2, h3, join, fm] <;> omega
theorem fold_join (o p : Option (List Nat)) : ∀ xs : List (List Nat), xs.foldl (fm f) (join f o p) = join f o (xs.foldl (fm f) p)
  | [] => rfl
  | x :: xs => by rw [List.foldl_cons, fm_join, fold_join, List.foldl_cons]
theorem fold_none (o : Option (List Nat)) (xs : List (List Nat)) : xs.foldl (fm f) o = join f o (xs.foldl (fm f) none) := by
  have := fold_join f o none xs
  simpa only [join] using this

/-- The best list that begins with some cars, as the reference finds it. -/
def bestW (m : Nat) : Nat → List Nat → List Nat
  | 0, give => give
  | n + 1, give => (List.range m).foldl (fun b c => let x := bestW m n (give ++ [c]); if b.length = 0 ∨ f x < f b then x else b) []
def toO (b : List Nat) : Option (List Nat) := if b.length = 0 then none else some b
theorem toO_step {b x : List Nat} (hx : x.length ≠ 0) : toO (if b.length = 0 ∨ f x < f b then x else b) = fm f (toO b) x := by
  unfold toO fm
  by_cases hb : b.length = 0
  · simp [hb, hx]
  · by_cases h : f x < f b
    · simp [hb, h, hx]
    · simp [hb, h]
theorem bestW_eq (m : Nat) (hm : 0 < m) : ∀ n give, some (bestW f m n give) = ((words m n).map (give ++ ·)).foldl (fm f) none ∧ (bestW f m n give).length = give.length + n
  | 0, give => by simp [bestW, words, fm]
  | n + 1, give => by
    have key : ∀ (cs : List Nat) (b : List Nat), (b.length = 0 ∨ b.length = give.length + (n + 1)) →
        toO (cs.foldl (fun b c => let x := bestW f m n (give ++ [c]); if b.length = 0 ∨ f x < f b then x else b) b) = ((cs.flatMap fun c => (words m n).map (c :: ·)).map (give ++ ·)).foldl (fm f) (toO b) ∧
        ((cs.foldl (fun b c => let x := bestW f m n (give ++ [c]); if b.length = 0 ∨ f x < f b then x else b) b).length = give.length + (n + 1) ∨ cs = [] ∧ (cs.foldl (fun b c => let x := bestW f m n (give ++ [c]); if b.length = 0 ∨ f x < f b then x else b) b) = b) := by
      intro cs
      induction cs with
      | nil => intro b hb; exact ⟨rfl, .inr ⟨rfl, rfl⟩⟩
      | cons c cs ih =>
        intro b hb
        obtain ⟨i1, i2⟩ := bestW_eq m hm n (give ++ [c])
        have hl : (bestW f m n (give ++ [c])).length = give.length + (n + 1) := by rw [i2]; simp; omega
        rw [List.foldl_cons]
        have hb' : (if b.length = 0 ∨ f (bestW f m n (give ++ [c])) < f b then bestW f m n (give ++ [c]) else b).length = give.length + (n + 1) := by
          split
          · exact hl
          · rename_i h; rcases hb with hb | hb
            · exact absurd (.inl hb) h
            · exact hb
        obtain ⟨k1, k2⟩ := ih _ (.inr hb')
        refine ⟨?_, .inl ?_⟩
        · refine k1.trans ?_
          rw [List.flatMap_cons, List.map_append, List.foldl_append]
          congr 1
          rw [fold_none, toO_step f (by omega)]
          have e1 : ((words m n).map (c :: ·)).map (give ++ ·) = (words m n).map (give ++ [c] ++ ·) := by rw [List.map_map]; apply List.map_congr_left; intro x _; simp
          rw [e1, ← i1]
          rfl
        · rcases k2 with k2 | ⟨_, k2⟩
          · exact k2
          · exact (congrArg List.length k2).trans hb'
    obtain ⟨k1, k2⟩ := key (List.range m) [] (.inl rfl)
    have hlen : (bestW f m (n + 1) give).length = give.length + (n + 1) := by
      rcases k2 with k2 | ⟨k2, _⟩
      · exact k2
      · rw [List.range_eq_nil] at k2; omega
    refine ⟨?_, hlen⟩
    have h0 : toO (bestW f m (n + 1) give) = some (bestW f m (n + 1) give) := by unfold toO; rw [if_neg (by omega)]
    rw [← h0]
    exact k1

/-- The best list among the first k + 1 numbers, as the program finds it. -/
def scan (m n : Nat) : Nat → List Nat
  | 0 => digits m n 0
  | k + 1 => if f (digits m n (k + 1)) < f (scan m n k) then digits m n (k + 1) else scan m n k
theorem scan_fold (m n : Nat) : ∀ k, some (scan f m n k) = ((List.range (k + 1)).map (digits m n)).foldl (fm f) none
  | 0 => rfl
  | k + 1 => by
    rw [List.range_succ, List.map_append, List.foldl_append, ← scan_fold m n k]
    simp only [List.map_cons, List.map_nil, List.foldl_cons, List.foldl_nil, fm, scan]
    split <;> rfl
/-- Both find the same list. -/
theorem scan_best (m n : Nat) (hm : 0 < m) : scan f m n (m ^ n - 1) = bestW f m n [] := by
  have hp : 0 < m ^ n := Nat.pow_pos hm
  have h1 := scan_fold f m n (m ^ n - 1)
  rw [show m ^ n - 1 + 1 = m ^ n by omega, ← words_digits m n hm] at h1
  have h2 := (bestW_eq f m hm n []).1
  have e : (words m n).map (([] : List Nat) ++ ·) = words m n := by simp
  rw [e] at h2
  exact Option.some.inj (h1.trans h2.symm)
theorem fm_least : ∀ (xs : List (List Nat)) (o : Option (List Nat)) (r : List Nat), xs.foldl (fm f) o = some r → (r ∈ xs ∨ o = some r) ∧ (∀ x ∈ xs, f r ≤ f x) ∧ ∀ b, o = some b → f r ≤ f b
  | [], o, r, h => ⟨.inr h, by simp, fun b hb => by
      simp only [List.foldl_nil] at h
      rw [h] at hb; cases hb; exact Int.le_refl _⟩
  | x :: xs, o, r, h => by
    rw [List.foldl_cons] at h
    obtain ⟨h1, h2, h3⟩ := fm_least xs _ r h
    cases o with
    | none =>
      have := h3 x rfl
      refine ⟨.inl ?_, fun y hy => ?_, fun b hb => by cases hb⟩
      · rcases h1 with h1 | h1
        · simp [h1]
        · cases h1; simp
      · rcases List.mem_cons.1 hy with rfl | hy
        · exact this
        · exact h2 y hy
    | some b =>
      simp only [fm] at h1 h3
      by_cases hc : f x < f b
      · rw [if_pos hc] at h1 h3
        have := h3 x rfl
        refine ⟨.inl ?_, fun y hy => ?_, fun b' hb => ?_⟩
        · rcases h1 with h1 | h1
          · simp [h1]
          · cases h1; simp
        · rcases List.mem_cons.1 hy with rfl | hy
          · exact this
          · exact h2 y hy
        · cases hb; omega
      · rw [if_neg hc] at h1 h3
        have := h3 b rfl
        refine ⟨?_, fun y hy => ?_, fun b' hb => ?_⟩
        · rcases h1 with h1 | h1
          · exact .inl (by simp [h1])
          · exact .inr h1
        · rcases List.mem_cons.1 hy with rfl | hy
          · omega
          · exact h2 y hy
        · cases hb; exact this
theorem best_mem (m n : Nat) (hm : 0 < m) : bestW f m n [] ∈ words m n ∧ ∀ x ∈ words m n, f (bestW f m n []) ≤ f x := by
  have h2 := (bestW_eq f m hm n []).1
  have e : (words m n).map (([] : List Nat) ++ ·) = words m n := by simp
  rw [e] at h2
  obtain ⟨a, b, _⟩ := fm_least f _ _ _ h2.symm
  rcases a with a | a
  · exact ⟨a, b⟩
  · cases a
end
end Go.Proofs.Ytmekbfjeljfbpaa.GP
