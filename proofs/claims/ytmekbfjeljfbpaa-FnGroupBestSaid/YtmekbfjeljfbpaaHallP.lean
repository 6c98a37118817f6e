/- Plain laws of the hall: putting riders into cars, no program in sight. -/
namespace Go.Proofs.Ytmekbfjeljfbpaa.HP

/-- All words of length n over 0..m-1, in the order of the first difference. -/
def words (m : Nat) : Nat → List (List Nat)
  | 0 => [[]]
  | n + 1 => (List.range m).flatMap fun c => (words m n).map (c :: ·)

theorem words_len {m n : Nat} {x : List Nat} (h : x ∈ words m n) : x.length = n ∧ ∀ c ∈ x, c < m := by
  induction n generalizing x with
  | zero => simp [words] at h; subst h; simp
  | succ n ih =>
    simp only [words, List.mem_flatMap, List.mem_range, List.mem_map] at h
    obtain ⟨c, hc, y, hy, rfl⟩ := h
    obtain ⟨h1, h2⟩ := ih hy
    refine ⟨by simp [h1], fun d hd => ?_⟩
    rcases List.mem_cons.1 hd with rfl | hd
    · exact hc
    · exact h2 d hd
theorem mem_words {m n : Nat} {x : List Nat} (h1 : x.length = n) (h2 : ∀ c ∈ x, c < m) : x ∈ words m n := by
  induction n generalizing x with
  | zero => simp [words, List.eq_nil_of_length_eq_zero h1]
  | succ n ih =>
    cases x with
    | nil => simp at h1
    | cons c y =>
      simp only [words, List.mem_flatMap, List.mem_range, List.mem_map]
      exact ⟨c, h2 c (by simp), y, ih (by simpa using h1) (fun d hd => h2 d (by simp [hd])), rfl⟩

/-- The digits of a number, the first one counts most. -/
def digits (m : Nat) : Nat → Nat → List Nat
  | 0, _ => []
  | n + 1, a => (a / m ^ n) % m :: digits m n a

theorem digits_add (m : Nat) : ∀ (n a c : Nat), digits m n (c * m ^ n + a) = digits m n a
  | 0, _, _ => rfl
  | n + 1, a, c => by
    by_cases hm : m = 0
    · subst hm; simp
    have hp : 0 < m ^ n := Nat.pow_pos (by omega)
    have e : c * m ^ (n + 1) + a = (c * m) * m ^ n + a := by rw [Nat.pow_succ]; ac_rfl
    have e1 : ((c * m) * m ^ n + a) / m ^ n = c * m + a / m ^ n := by rw [Nat.add_comm, Nat.add_mul_div_right _ _ hp, Nat.add_comm]
    simp only [digits]
    rw [e, digits_add m n a (c * m), e1, Nat.mul_add_mod_self_right]

theorem range_mul (a b : Nat) : List.range (a * b) = (List.range a).flatMap fun c => (List.range b).map fun r => c * b + r := by
  induction a with
  | zero => simp
  | succ a ih =>
    rw [List.range_succ, List.flatMap_append, ← ih, Nat.succ_mul, List.range_add]
    simp

theorem words_digits (m n : Nat) (hm : 0 < m) : words m n = (List.range (m ^ n)).map (digits m n) := by
  induction n with
  | zero => rfl
  | succ n ih =>
    have hp : 0 < m ^ n := Nat.pow_pos hm
    rw [words, Nat.pow_succ, Nat.mul_comm, range_mul, List.map_flatMap]
    simp only [List.flatMap_def]
    congr 1
    apply List.map_congr_left
    intro c hc
    rw [List.mem_range] at hc
    rw [ih, List.map_map, List.map_map]
    apply List.map_congr_left
    intro r hr
    rw [List.mem_range] at hr
    simp only [Function.comp, digits]
    rw [digits_add, Nat.mul_comm c, Nat.mul_add_div hp, Nat.div_eq_of_lt hr, Nat.add_zero, Nat.mod_eq_of_lt hc]

/-- Whether one of the first riders goes to goal g by car c. -/
def already (goals : List Int) (put : List Nat) (c : Nat) (g : Int) : Bool := (List.range put.length).any fun i => put[i]?.getD 0 == c && goals[i]?.getD 0 == g

/-- How often all cars stop together for the first k riders. -/
def stopsK (goals : List Int) (put : List Nat) : Nat → Nat
  | 0 => 0
  | k + 1 => stopsK goals put k + if already goals (put.take k) (put[k]?.getD 0) (goals[k]?.getD 0) then 0 else 1
def stops (goals : List Int) (put : List Nat) : Nat := stopsK goals put put.length

theorem stopsK_le (goals : List Int) (put : List Nat) : ∀ k, stopsK goals put k ≤ k
  | 0 => Nat.le_refl _
  | k + 1 => by have := stopsK_le goals put k; simp only [stopsK]; split <;> omega
theorem stopsK_app (goals : List Int) (put x : List Nat) : ∀ k, k ≤ put.length → stopsK goals (put ++ x) k = stopsK goals put k
  | 0, _ => rfl
  | k + 1, h => by
    simp only [stopsK]
    rw [stopsK_app goals put x k (by omega), List.take_append_of_le_length (by omega), List.getElem?_append_left (by omega)]
theorem stopsK_mono (goals : List Int) (put : List Nat) : ∀ j k, stopsK goals put k ≤ stopsK goals put (k + j)
  | 0, _ => Nat.le_refl _
  | j + 1, k => by have := stopsK_mono goals put j k; rw [← Nat.add_assoc]; simp only [stopsK]; omega
theorem stops_le (goals : List Int) (put : List Nat) : stops goals put ≤ put.length := stopsK_le _ _ _
theorem stops_app (goals : List Int) (put x : List Nat) : stops goals put ≤ stops goals (put ++ x) := by
  unfold stops
  rw [List.length_append, ← stopsK_app goals put x _ (Nat.le_refl _)]
  exact stopsK_mono _ _ _ _
theorem stops_snoc (goals : List Int) (put : List Nat) (c : Nat) : stops goals (put ++ [c]) = stops goals put + if already goals put c (goals[put.length]?.getD 0) then 0 else 1 := by
  unfold stops
  rw [List.length_append]
  show stopsK goals (put ++ [c]) (put.length + 1) = _
  simp only [stopsK]
  rw [stopsK_app goals put [c] _ (Nat.le_refl _), List.take_append_of_le_length (Nat.le_refl _), List.take_length, List.getElem?_append_right (Nat.le_refl _)]
  simp

/-- One list more is looked at: the best one so far and its stops. -/
def look (goals : List Int) (ok : List Nat → Bool) (s : List Nat × Nat) (x : List Nat) : List Nat × Nat := if ok x && decide (stops goals x < s.2) then (x, stops goals x) else s

/-- The search of the program: the room left in each car, the riders put so far, how many are left. -/
def place (goals : List Int) : Nat → List Nat → List Nat → List Nat × Nat → List Nat × Nat
  | 0, _, put, s => if s.2 ≤ stops goals put then s else (put, stops goals put)
  | n + 1, left, put, s => if s.2 ≤ stops goals put then s else
    (List.range left.length).foldl (fun s c => if left[c]?.getD 0 = 0 then s else place goals n (left.set c (left[c]?.getD 0 - 1)) (put ++ [c]) s) s

/-- There is room for the riders of a list. -/
def room (left : List Nat) (x : List Nat) : Bool := (List.range left.length).all fun c => decide (x.count c ≤ left[c]?.getD 0)

theorem look_skip {goals : List Int} {ok : List Nat → Bool} {s : List Nat × Nat} : ∀ {xs : List (List Nat)}, (∀ x ∈ xs, ok x = true → s.2 ≤ stops goals x) → xs.foldl (look goals ok) s = s
  | [], _ => rfl
  | x :: xs, h => by
    have h1 : look goals ok s x = s := by
      unfold look
      by_cases hx : ok x = true
      · have := h x (by simp) hx
        rw [if_neg (by simp; omega)]
      · rw [if_neg (by simp [hx])]
    rw [List.foldl_cons, h1]
    exact look_skip fun y hy => h y (by simp [hy])

theorem room_cons {left : List Nat} {c : Nat} {x : List Nat} (hc : c < left.length) : room left (c :: x) = (decide (left[c]?.getD 0 ≠ 0) && room (left.set c (left[c]?.getD 0 - 1)) x) := by
  rw [Bool.eq_iff_iff]
  simp only [room, List.all_eq_true, List.mem_range, decide_eq_true_eq, Bool.and_eq_true, List.length_set]
  constructor
  · intro h
    have h0 := h c hc
    rw [List.count_cons_self] at h0
    refine ⟨by omega, fun d hd => ?_⟩
    have hd' := h d hd
    by_cases e : c = d
    · subst e
      rw [List.getElem?_set_self hc]
      simp
      omega
    · rw [List.getElem?_set_ne e]
      rw [List.count_cons_of_ne (by simpa using e)] at hd'
      exact hd'
  · rintro ⟨h0, h⟩ d hd
    have hd' := h d hd
    by_cases e : c = d
    · subst e
      rw [List.getElem?_set_self hc] at hd'
      rw [List.count_cons_self]
      simp at hd'
      omega
    · rw [List.getElem?_set_ne e] at hd'
      rw [List.count_cons_of_ne (by simpa using e)]
      exact hd'

/-- The search finds what looking at all lists finds. -/
theorem place_eq (goals : List Int) : ∀ (n : Nat) (left put : List Nat) (s : List Nat × Nat),
    place goals n left put s = ((words left.length n).map (put ++ ·)).foldl (look goals fun x => room left (x.drop put.length)) s
  | 0, left, put, s => by
    simp only [place, words, List.map_cons, List.map_nil, List.foldl_cons, List.foldl_nil, List.append_nil, look]
    have h0 : room left (put.drop put.length) = true := by simp [room]
    by_cases h : s.2 ≤ stops goals put
    · rw [if_pos h, if_neg (by simp; omega)]
    · rw [if_neg h, if_pos (by simp only [h0]; simp; omega)]
  | n + 1, left, put, s => by
    rw [place]
    by_cases h : s.2 ≤ stops goals put
    · rw [if_pos h, look_skip]
      intro x hx _
      obtain ⟨y, _, rfl⟩ := List.mem_map.1 hx
      exact Nat.le_trans h (stops_app _ _ _)
    · rw [if_neg h, words]
      clear h
      suffices hs : ∀ (cs : List Nat), (∀ c ∈ cs, c < left.length) → ∀ s, cs.foldl (fun s c => if left[c]?.getD 0 = 0 then s else place goals n (left.set c (left[c]?.getD 0 - 1)) (put ++ [c]) s) s =
          ((cs.flatMap fun c => (words left.length n).map (c :: ·)).map (put ++ ·)).foldl (look goals fun x => room left (x.drop put.length)) s from
        hs _ (fun c hc => by simpa using hc) s
      intro cs
      induction cs with
      | nil => intro _ s; rfl
      | cons c cs ih =>
        intro hcs s
        have hc : c < left.length := hcs c (by simp)
        rw [List.foldl_cons, ih (fun d hd => hcs d (by simp [hd])), List.flatMap_cons, List.map_append, List.foldl_append]
        congr 1
        by_cases hl : left[c]?.getD 0 = 0
        · rw [if_pos hl, look_skip]
          intro x hx hr
          exfalso
          simp only [List.map_map, List.mem_map, Function.comp] at hx
          obtain ⟨y, hy, rfl⟩ := hx
          rw [List.drop_left, room_cons hc, hl] at hr
          simp at hr
        · rw [if_neg hl, place_eq goals n, List.length_set, List.map_map]
          have e1 : ((fun x => put ++ x) ∘ fun x => c :: x) = (fun x => (put ++ [c]) ++ x) := by funext x; simp
          rw [e1]
          generalize hw : words left.length n = ws
          clear hw
          induction ws generalizing s with
          | nil => rfl
          | cons y ys ihy =>
            rw [List.map_cons, List.foldl_cons, List.foldl_cons]
            have e2 : look goals (fun x => room (left.set c (left[c]?.getD 0 - 1)) (x.drop (put ++ [c]).length)) s (put ++ [c] ++ y) = look goals (fun x => room left (x.drop put.length)) s (put ++ [c] ++ y) := by
              unfold look
              have e3 : (put ++ [c] ++ y).drop put.length = c :: y := by simp
              have e4 : (put ++ [c] ++ y).drop (put ++ [c]).length = y := List.drop_left
              have e5 : room left (c :: y) = room (left.set c (left[c]?.getD 0 - 1)) y := by rw [room_cons hc]; simp [hl]
              simp only [e3, e4, e5]
            rw [e2, ihy]

/-- Looking with a flag instead of a bound. -/
def lookF (goals : List Int) (ok : List Nat → Bool) (s : List Nat × Bool) (x : List Nat) : List Nat × Bool := if ok x && (!s.2 || decide (stops goals x < stops goals s.1)) then (x, true) else s
def Agree (goals : List Int) (n : Nat) (s : List Nat × Nat) (f : List Nat × Bool) : Prop := (f.2 = false → s = ([], n + 1) ∧ f.1 = []) ∧ (f.2 = true → s = (f.1, stops goals f.1) ∧ f.1.length = n)
theorem agree_step {goals : List Int} {n : Nat} {ok : List Nat → Bool} {s : List Nat × Nat} {f : List Nat × Bool} {x : List Nat} (hx : x.length = n) (h : Agree goals n s f) : Agree goals n (look goals ok s x) (lookF goals ok f x) := by
  obtain ⟨h1, h2⟩ := h
  have hl := stops_le goals x
  unfold look lookF
  cases hf : f.2 with
  | false =>
    obtain ⟨rfl, e⟩ := h1 hf
    cases hk : ok x with
    | false => simp only [Bool.false_and, Bool.false_eq_true, if_false]; exact ⟨fun _ => ⟨rfl, e⟩, fun g => (by rw [hf] at g; cases g)⟩
    | true =>
      rw [if_pos (by simp; omega), if_pos (by simp)]
      exact ⟨fun g => (by cases g), fun _ => ⟨rfl, hx⟩⟩
  | true =>
    obtain ⟨rfl, e⟩ := h2 hf
    cases hk : ok x with
    | false => simp only [Bool.false_and, Bool.false_eq_true, if_false]; exact ⟨fun g => (by rw [hf] at g; cases g), fun _ => ⟨rfl, e⟩⟩
    | true =>
      by_cases hlt : stops goals x < stops goals f.1
      · rw [if_pos (by simp [hlt]), if_pos (by simp [hlt])]
        exact ⟨fun g => (by cases g), fun _ => ⟨rfl, hx⟩⟩
      · rw [if_neg (by simp [hlt]), if_neg (by simp [hlt])]
        exact ⟨fun g => (by rw [hf] at g; cases g), fun _ => ⟨rfl, e⟩⟩
theorem agree_fold {goals : List Int} {n : Nat} {ok : List Nat → Bool} : ∀ {xs : List (List Nat)} {s : List Nat × Nat} {f : List Nat × Bool}, (∀ x ∈ xs, x.length = n) → Agree goals n s f → Agree goals n (xs.foldl (look goals ok) s) (xs.foldl (lookF goals ok) f)
  | [], _, _, _, h => h
  | x :: xs, s, f, hx, h => by
    rw [List.foldl_cons, List.foldl_cons]
    exact agree_fold (fun y hy => hx y (by simp [hy])) (agree_step (hx x (by simp)) h)

/-- The best list of the hall, if there is one: the first one with the fewest stops. -/
def best (goals : List Int) (left : List Nat) : List Nat × Bool := (words left.length goals.length).foldl (lookF goals (room left)) ([], false)

theorem place_best (goals : List Int) (left : List Nat) : Agree goals goals.length (place goals goals.length left [] ([], goals.length + 1)) (best goals left) := by
  rw [place_eq]
  have e : (words left.length goals.length).map (([] : List Nat) ++ ·) = words left.length goals.length := by simp
  rw [e]
  exact agree_fold (fun x hx => (words_len hx).1) ⟨fun _ => ⟨rfl, rfl⟩, fun g => (by cases g)⟩

theorem lookF_best {goals : List Int} {ok : List Nat → Bool} : ∀ {xs : List (List Nat)} {f : List Nat × Bool}, ∀ r, r = xs.foldl (lookF goals ok) f →
    (r.2 = false → f.2 = false ∧ ∀ x ∈ xs, ok x = false) ∧ (r.2 = true → ((f.2 = true ∧ r.1 = f.1) ∨ (r.1 ∈ xs ∧ ok r.1 = true)) ∧ (f.2 = true → stops goals r.1 ≤ stops goals f.1) ∧ ∀ x ∈ xs, ok x = true → stops goals r.1 ≤ stops goals x)
  | [], f, r, hr => by
    simp at hr
    subst hr
    exact ⟨fun h => ⟨h, by simp⟩, fun h => ⟨.inl ⟨h, rfl⟩, fun _ => Nat.le_refl _, by simp⟩⟩
  | x :: xs, f, r, hr => by
    rw [List.foldl_cons] at hr
    obtain ⟨h1, h2⟩ := lookF_best r hr
    have hs : lookF goals ok f x = f ∧ (ok x = true → f.2 = true ∧ stops goals f.1 ≤ stops goals x) ∨ lookF goals ok f x = (x, true) ∧ ok x = true ∧ (f.2 = true → stops goals x ≤ stops goals f.1) := by
      unfold lookF
      by_cases hc : (ok x && (!f.2 || decide (stops goals x < stops goals f.1))) = true
      · right
        rw [if_pos hc]
        simp at hc
        refine ⟨rfl, hc.1, fun hf => ?_⟩
        rcases hc.2 with h | h
        · rw [h] at hf; cases hf
        · omega
      · left
        rw [if_neg hc]
        refine ⟨rfl, fun hk => ?_⟩
        simp [hk] at hc
        exact hc
    rcases hs with ⟨e, hk⟩ | ⟨e, hk, hle⟩
    · rw [e] at h1 h2
      refine ⟨fun h => ?_, fun h => ?_⟩
      · obtain ⟨a, b⟩ := h1 h
        refine ⟨a, fun y hy => ?_⟩
        rcases List.mem_cons.1 hy with rfl | hy
        · cases ho : ok y with
          | false => rfl
          | true => have := (hk ho).1; rw [a] at this; cases this
        · exact b y hy
      · obtain ⟨a, b, c⟩ := h2 h
        refine ⟨?_, b, fun y hy ho => ?_⟩
        · rcases a with a | ⟨a1, a2⟩
          · exact .inl a
          · exact .inr ⟨by simp [a1], a2⟩
        · rcases List.mem_cons.1 hy with rfl | hy
          · obtain ⟨p, q⟩ := hk ho; have := b p; omega
          · exact c y hy ho
    · rw [e] at h1 h2
      refine ⟨fun h => ?_, fun h => ?_⟩
      · have := (h1 h).1; cases this
      · obtain ⟨a, b, c⟩ := h2 h
        have b' := b rfl
        refine ⟨.inr ?_, fun hf => Nat.le_trans b' (hle hf), fun y hy ho => ?_⟩
        · rcases a with ⟨_, a⟩ | ⟨a1, a2⟩
          · exact ⟨by rw [a]; simp, by rw [a]; exact hk⟩
          · exact ⟨by simp [a1], a2⟩
        · rcases List.mem_cons.1 hy with rfl | hy
          · exact b'
          · exact c y hy ho

theorem best_no {goals : List Int} {left : List Nat} (h : (best goals left).2 = false) {x : List Nat} (h1 : x.length = goals.length) (h2 : ∀ c ∈ x, c < left.length) : room left x = false :=
  ((lookF_best _ rfl).1 h).2 x (mem_words h1 h2)
theorem best_fits {goals : List Int} {left : List Nat} (h : (best goals left).2 = true) : (best goals left).1.length = goals.length ∧ (∀ c ∈ (best goals left).1, c < left.length) ∧ room left (best goals left).1 = true := by
  obtain ⟨a, _, _⟩ := (lookF_best (best goals left) rfl).2 h
  rcases a with ⟨a, _⟩ | ⟨a1, a2⟩
  · cases a
  · exact ⟨(words_len a1).1, (words_len a1).2, a2⟩
theorem best_least {goals : List Int} {left : List Nat} (h : (best goals left).2 = true) {x : List Nat} (h1 : x.length = goals.length) (h2 : ∀ c ∈ x, c < left.length) (h3 : room left x = true) : stops goals (best goals left).1 ≤ stops goals x :=
  ((lookF_best (best goals left) rfl).2 h).2.2 x (mem_words h1 h2) h3

/-- How many different floors riders go to. -/
def goalK (goals : List Int) : Nat → Nat
  | 0 => 0
  | k + 1 => goalK goals k + if (goals.take k).contains (goals[k]?.getD 0) then 0 else 1
def goalMany (goals : List Int) : Nat := goalK goals goals.length
theorem goalK_le (goals : List Int) : ∀ k, goalK goals k ≤ k
  | 0 => Nat.le_refl _
  | k + 1 => by have := goalK_le goals k; simp only [goalK]; split <;> omega
theorem already_goal {goals : List Int} {put : List Nat} {c : Nat} {g : Int} {k : Nat} (hk : k ≤ goals.length) (h : already goals (put.take k) c g = true) : (goals.take k).contains g = true := by
  simp only [already, List.any_eq_true, List.mem_range, Bool.and_eq_true, beq_iff_eq] at h
  obtain ⟨i, hi, _, h2⟩ := h
  rw [List.length_take] at hi
  have hik : i < k := by omega
  rw [List.contains_iff_mem]
  have e : goals[i]?.getD 0 = (goals.take k)[i]'(by rw [List.length_take]; omega) := by
    rw [List.getElem_take, List.getElem?_eq_getElem (by omega)]
    rfl
  rw [← h2, e]
  exact List.getElem_mem _
theorem goal_stops {goals : List Int} {put : List Nat} : ∀ k, k ≤ goals.length → goalK goals k ≤ stopsK goals put k
  | 0, _ => Nat.le_refl _
  | k + 1, h => by
    have ih := goal_stops (goals := goals) (put := put) k (by omega)
    simp only [goalK, stopsK]
    by_cases ha : already goals (put.take k) (put[k]?.getD 0) (goals[k]?.getD 0) = true
    · rw [if_pos ha, if_pos (already_goal (by omega) ha)]; omega
    · rw [if_neg ha]; split <;> omega
theorem many_stops {goals : List Int} {put : List Nat} (h : put.length = goals.length) : goalMany goals ≤ stops goals put := by
  unfold goalMany stops
  rw [h]
  exact goal_stops _ (Nat.le_refl _)
theorem one_car {goals : List Int} {c : Nat} : ∀ k, k ≤ goals.length → stopsK goals (List.replicate goals.length c) k = goalK goals k
  | 0, _ => rfl
  | k + 1, h => by
    simp only [goalK, stopsK]
    rw [one_car k (by omega)]
    congr 1
    have e : already goals ((List.replicate goals.length c).take k) ((List.replicate goals.length c)[k]?.getD 0) (goals[k]?.getD 0) = (goals.take k).contains (goals[k]?.getD 0) := by
      rw [Bool.eq_iff_iff]
      refine ⟨already_goal (by omega), fun hc => ?_⟩
      rw [List.contains_iff_mem] at hc
      obtain ⟨i, hi, he⟩ := List.getElem_of_mem hc
      rw [List.length_take] at hi
      simp only [already, List.any_eq_true, List.mem_range, Bool.and_eq_true, beq_iff_eq]
      refine ⟨i, by simp; omega, ?_, ?_⟩
      · rw [List.getElem?_take, if_pos (by omega), List.getElem?_replicate, if_pos (by omega), List.getElem?_replicate, if_pos (by omega)]
      · rw [← he, List.getElem_take, List.getElem?_eq_getElem (by omega)]; rfl
    rw [e]
theorem one_car_stops (goals : List Int) (c : Nat) : stops goals (List.replicate goals.length c) = goalMany goals := by
  unfold stops goalMany
  rw [List.length_replicate]
  exact one_car _ (Nat.le_refl _)

theorem sum_set (left : List Nat) : ∀ (c : Nat) (v : Nat), c < left.length → (left.set c v).sum + left[c]?.getD 0 = left.sum + v := by
  induction left with
  | nil => intro c v h; simp at h
  | cons a l ih =>
    intro c v h
    cases c with
    | zero => simp; omega
    | succ c =>
      have := ih c v (by simpa using h)
      simp only [List.set_cons_succ, List.sum_cons, List.getElem?_cons_succ]
      omega
theorem sum_pos {left : List Nat} (h : 0 < left.sum) : ∃ c, c < left.length ∧ left[c]?.getD 0 ≠ 0 := by
  induction left with
  | nil => simp at h
  | cons a l ih =>
    by_cases ha : a = 0
    · subst ha
      obtain ⟨c, hc, h2⟩ := ih (by simpa using h)
      exact ⟨c + 1, by simpa using hc, by simpa using h2⟩
    · exact ⟨0, by simp, by simpa using ha⟩
theorem room_exists : ∀ (n : Nat) (left : List Nat), n ≤ left.sum → ∃ x : List Nat, x.length = n ∧ (∀ c ∈ x, c < left.length) ∧ room left x = true
  | 0, left, _ => ⟨[], rfl, by simp, by simp [room]⟩
  | n + 1, left, h => by
    obtain ⟨c, hc, h2⟩ := sum_pos (left := left) (by omega)
    have hs := sum_set left c (left[c]?.getD 0 - 1) hc
    obtain ⟨x, h3, h4, h5⟩ := room_exists n (left.set c (left[c]?.getD 0 - 1)) (by omega)
    refine ⟨c :: x, by simp [h3], fun d hd => ?_, by rw [room_cons hc, h5]; simp [h2]⟩
    rcases List.mem_cons.1 hd with rfl | hd
    · exact hc
    · simpa using h4 d hd
theorem room_sum : ∀ (x : List Nat) (left : List Nat), (∀ c ∈ x, c < left.length) → room left x = true → x.length ≤ left.sum
  | [], _, _, _ => Nat.zero_le _
  | c :: x, left, h, hr => by
    have hc := h c (by simp)
    rw [room_cons hc] at hr
    simp only [Bool.and_eq_true, decide_eq_true_eq] at hr
    have hs := sum_set left c (left[c]?.getD 0 - 1) hc
    have := room_sum x _ (fun d hd => by rw [List.length_set]; exact h d (by simp [hd])) hr.2
    rw [List.length_cons]
    omega
theorem best_iff (goals : List Int) (left : List Nat) : (best goals left).2 = decide (goals.length ≤ left.sum) := by
  rw [Bool.eq_iff_iff, decide_eq_true_eq]
  constructor
  · intro h
    obtain ⟨h1, h2, h3⟩ := best_fits h
    rw [← h1]
    exact room_sum _ _ h2 h3
  · intro h
    obtain ⟨x, h1, h2, h3⟩ := room_exists _ _ h
    cases hb : (best goals left).2 with
    | true => rfl
    | false => have := best_no hb h1 h2; rw [h3] at this; cases this
theorem best_one {goals : List Int} {left : List Nat} {c : Nat} (hc : c < left.length) (hr : goals.length ≤ left[c]?.getD 0) (h : (best goals left).2 = true) : stops goals (best goals left).1 = goalMany goals := by
  have h1 := many_stops (goals := goals) (best_fits h).1
  have h2 := best_least h (x := List.replicate goals.length c) (by simp) (fun d hd => by rw [(List.mem_replicate.1 hd).2]; exact hc) (by
    simp only [room, List.all_eq_true, List.mem_range, decide_eq_true_eq]
    intro d hd
    rw [List.count_replicate]
    by_cases e : c = d
    · subst e; simp; omega
    · simp [e])
  rw [one_car_stops] at h2
  omega
theorem room_take {left : List Nat} {x : List Nat} (h : room left x = true) (k : Nat) : room left (x.take k) = true := by
  simp only [room, List.all_eq_true, List.mem_range, decide_eq_true_eq] at *
  intro c hc
  exact Nat.le_trans ((List.take_sublist k x).count_le c) (h c hc)
end Go.Proofs.Ytmekbfjeljfbpaa.HP
