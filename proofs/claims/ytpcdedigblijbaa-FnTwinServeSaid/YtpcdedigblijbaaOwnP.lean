/- Lists of moves that a call appends to: rows of pairs of the call's own; marks laid into them. -/
import Derived.Test.YtpcdedigblijbaaTwinF
import Derived.Test.YtpcdedigblijbaaDraw
import Derived.Laws.OwnMore
import Derived.OwnWalk
namespace Go.Proofs.Ytpcdedigblijbaa
open Go.ChangeShapes Go.WideShapes Go.ChangeAt Go.RowKit

/-- The cells of pairs. -/
def flat : List (Int × Int) → List Value
  | [] => []
  | p :: l => .int .i64 p.1 :: .int .i64 p.2 :: flat l
theorem flat_length : ∀ xs, (flat xs).length = xs.length * 2
  | [] => rfl
  | p :: l => by simp [flat, flat_length l]; omega
theorem flat_app : ∀ xs ys, flat (xs ++ ys) = flat xs ++ flat ys
  | [], _ => rfl
  | p :: l, ys => by simp [flat, flat_app l ys]
theorem flat_get : ∀ (xs : List (Int × Int)) (j : Nat), j < xs.length → (flat xs)[j * 2]? = some (.int .i64 (px xs j)) ∧ (flat xs)[j * 2 + 1]? = some (.int .i64 (py xs j))
  | [], j, h => by simp at h
  | p :: l, 0, _ => ⟨rfl, rfl⟩
  | p :: l, j + 1, h => by
    have h' := flat_get l j (by simpa using h)
    have e : (j + 1) * 2 = j * 2 + 1 + 1 := by omega
    rw [e]
    simp only [flat, List.getElem?_cons_succ]
    exact ⟨by rw [h'.1]; simp [px], by rw [h'.2]; simp [py]⟩

/-- The slice value v owns the pairs xs, in a block from base on. -/
def OwnP (w : World) (base : Nat) (v : Value) (xs : List (Int × Int)) : Prop := w.ownsRow base 34 2 v xs.length (flat xs)
theorem OwnP.nil (w : World) (base : Nat) : OwnP w base (.slice none 0 0) [] := ⟨rfl, .inl ⟨rfl, rfl⟩⟩
theorem OwnP.form {w : World} {base : Nat} {v : Value} {xs : List (Int × Int)} (h : OwnP w base v xs) : (v = .slice none 0 0 ∧ xs = []) ∨
    ∃ g cap cur, v = .slice (some ⟨g, 0, none⟩) xs.length cap ∧ base ≤ g ∧ w.heap[g]? = some (.cells cur 34 (0, 0)) ∧ xs.length ≤ cap ∧ cap ≤ maxLen ∧ cur.size = cap * 2 ∧ cur.toList.take (xs.length * 2) = flat xs := by
  rcases h.2 with ⟨h1, h2⟩ | ⟨g, cap, cur, h1, h2, h3, h4, h5, h6, h7⟩
  · exact .inl ⟨h1, List.eq_nil_of_length_eq_zero h2⟩
  · exact .inr ⟨g, cap, cur, h1, h2, h3, h4, h5, h6, h7⟩
theorem OwnP.empty {w : World} {base g : Nat} (hb : base ≤ g) (h : w.heap[g]? = some (.cells #[] 34 (0, 0))) : OwnP w base (.slice (some ⟨g, 0, none⟩) 0 0) [] :=
  ⟨rfl, .inr ⟨g, 0, _, rfl, hb, h, Nat.le_refl _, by unfold maxLen; omega, rfl, rfl⟩⟩
theorem OwnP.keep {w w' : World} {base : Nat} {v : Value} {xs : List (Int × Int)} (h : OwnP w base v xs) (hk : ∀ g, v.ownBlock = some g → g < w.heap.size → w'.heap[g]? = w.heap[g]?) : OwnP w' base v xs := by
  refine ⟨h.1, ?_⟩
  rcases h.2 with h1 | ⟨g, cap, cur, h1, h2, h3, h4⟩
  · exact .inl h1
  · refine .inr ⟨g, cap, cur, h1, h2, ?_, h4⟩
    subst h1
    rw [hk g rfl (Array.getElem?_eq_some_iff.1 h3).1]
    exact h3
theorem OwnP.below {w w' : World} {base : Nat} {v : Value} {xs : List (Int × Int)} (h : OwnP w base v xs) (hb : Below w.heap.size w w') : OwnP w' base v xs := h.keep fun g _ hg => hb.block g hg
theorem OwnP.alloc {w : World} {base : Nat} {v : Value} {xs : List (Int × Int)} (h : OwnP w base v xs) (o : Obj) : OwnP (w.alloc o) base v xs := h.keep fun g _ hg => Below.heap_alloc w o g hg
theorem OwnP.drewN {w : World} {base : Nat} {v : Value} {xs : List (Int × Int)} (h : OwnP w base v xs) (k : Nat) : OwnP (w.drewN k) base v xs := h
theorem OwnP.only {w w' : World} {base r : Nat} {v : Value} {xs : List (Int × Int)} (h : OwnP w base v xs) (o : Only r w w') (hr : r < base) : OwnP w' base v xs := h.keep fun g hv hg => o.block g hg (by
  rcases h.form with ⟨h1, _⟩ | ⟨g', cap, cur, h1, h2, _⟩
  · subst h1; simp [Value.ownBlock] at hv
  · subst h1
    have : g' = g := by simpa [Value.ownBlock] using hv
    subst this
    intro e; injection e; omega)
theorem OwnP.block {w : World} {base : Nat} {v : Value} {xs : List (Int × Int)} (h : OwnP w base v xs) : ∀ k, v.ownBlock = some k → base ≤ k := fun k hk => by
  rcases h.form with ⟨h1, _⟩ | ⟨g, cap, cur, h1, h2, _⟩
  · subst h1; simp [Value.ownBlock] at hk
  · subst h1
    have : g = k := by simpa [Value.ownBlock] using hk
    omega
theorem OwnP.shape {w : World} {base : Nat} {v : Value} {xs : List (Int × Int)} (h : OwnP w base v xs) : ∃ A c, v = .slice A xs.length c := by
  rcases h.form with ⟨h1, h2⟩ | ⟨g, cap, cur, h1, _⟩
  · subst h2; exact ⟨none, 0, h1⟩
  · exact ⟨_, _, h1⟩
theorem OwnP.pairs {w : World} {base : Nat} {A : Option Addr} {n c : Nat} {xs : List (Int × Int)} (h : OwnP w base (.slice A n c) xs) : n = xs.length ∧ Pairs w A xs.length xs := by
  rcases h.form with ⟨h1, h2⟩ | ⟨g, cap, cur, h1, h2, h3, h4, h5, h6, h7⟩
  · injection h1 with a1 a2 a3
    subst a1 a2 h2
    exact ⟨rfl, rfl, by simp, fun h => absurd h (by simp)⟩
  · injection h1 with a1 a2 a3
    subst a1 a2 a3
    unfold maxLen at h5
    refine ⟨rfl, rfl, by omega, fun hn => ⟨g, 0, rfl, (Array.getElem?_eq_some_iff.1 h3).1, fun j hj => ?_⟩⟩
    obtain ⟨f1, f2⟩ := flat_get xs j hj
    have e1 : ∀ i, i < xs.length * 2 → cur[i]? = (flat xs)[i]? := fun i hi => by rw [← h7, List.getElem?_take, if_pos hi, Array.getElem?_toList]
    rw [Nat.zero_add, cell_of_row w g _ cur _ (0, 0) h3, cell_of_row w g _ cur _ (0, 0) h3, e1 _ (by omega), e1 _ (by omega)]
    exact ⟨f1, f2⟩

/-- 'append(v, y)' where v is the call's own. -/
theorem app_pair {ops : Array Oper} {rest : List Oper} {o : Oper} {a : Act} {Q : Exit → Act → World → Prop} {w : World} (hgd : o.guard = none) (s x : Operand)
    (ho : o.op = .call { callee := .builtin .append, args := #[s, x], argTypes := #[38, 38] }) (base g : Nat) (v : Value) (xs : List (Int × Int)) (y z : Int) (hs : a.eval s = v) (hx : a.eval x = .slice (some ⟨g, 0, none⟩) 1 1)
    (hown : OwnP w base v xs) (hc : w.cell? ⟨g, 0, none⟩ = some (.int .i64 y)) (hc' : w.cell? ⟨g, 1, none⟩ = some (.int .i64 z)) (hn : xs.length ≤ 1000000000) (hbase : base ≤ w.heap.size)
    (h : ∀ v' w', OwnP w' base v' (xs ++ [(y, z)]) → Below base w w' → wpList Try.prog ops Q rest (a.put o.dst v') w') : wpList Try.prog ops Q (o :: rest) a w := by
  obtain ⟨i0, hi, hz0, hz1, hz2⟩ := info_parts infoMove
  refine wpList_append_own w hgd s x 38 ho base 34 i0 _ 2 16 Try.underlying38 hi hz0 hz1 hz2 rfl (by decide) v xs.length (flat xs) hs hown ⟨g, 0, none⟩ 1 1 [.int .i64 y, .int .i64 z] hx rfl (fun j u hu => ?_) (fun u hu => ?_) ?_ ?_ hbase fun v' w' h1 h2 _ => ?_
  · match j, hu with
    | 0, hu => simp at hu; subst hu; simpa [Addr.add] using hc
    | 1, hu => simp at hu; subst hu; simpa [Addr.add] using hc'
    | j + 2, hu => simp at hu
  · simp at hu
    rcases hu with rfl | rfl <;> rfl
  · unfold maxLen; omega
  · omega
  · refine h v' w' ?_ ((Below.refl _ _).grown h2 hbase hown.block)
    unfold OwnP
    rw [flat_app]
    simpa [flat] using h1
end Go.Proofs.Ytpcdedigblijbaa
