/- Lists that a call appends to: rows of numbers of the call's own. -/
import Derived.Test.YtmekbfjeljfbpaaInts
import Derived.Test.YtmekbfjeljfbpaaDraw
import Derived.Laws.OwnMore
import Derived.OwnWalk
namespace Go.Proofs.Ytmekbfjeljfbpaa
open Go.ChangeShapes Go.WideShapes Go.ChangeAt Go.RowKit

/-- The slice value v owns the numbers xs, in a block from base on. -/
def OwnI (w : World) (base : Nat) (v : Value) (xs : List Int) : Prop := w.ownsRow base 3 1 v xs.length (xs.map (Value.int .i64))
theorem OwnI.nil (w : World) (base : Nat) : OwnI w base (.slice none 0 0) [] := ⟨rfl, .inl ⟨rfl, rfl⟩⟩
theorem OwnI.form {w : World} {base : Nat} {v : Value} {xs : List Int} (h : OwnI w base v xs) : (v = .slice none 0 0 ∧ xs = []) ∨
    ∃ g cap cur, v = .slice (some ⟨g, 0, none⟩) xs.length cap ∧ base ≤ g ∧ w.heap[g]? = some (.cells cur 3 (0, 0)) ∧ xs.length ≤ cap ∧ cap ≤ maxLen ∧ cur.size = cap ∧ cur.toList.take xs.length = xs.map (Value.int .i64) := by
  rcases h.2 with ⟨h1, h2⟩ | ⟨g, cap, cur, h1, h2, h3, h4, h5, h6, h7⟩
  · exact .inl ⟨h1, List.eq_nil_of_length_eq_zero h2⟩
  · exact .inr ⟨g, cap, cur, h1, h2, h3, h4, h5, by simpa using h6, by simpa using h7⟩
/-- A made slice: a literal row. -/
theorem OwnI.made {w : World} {base g : Nat} {xs : List Int} (hb : base ≤ g) (h : w.heap[g]? = some (.cells (xs.map (Value.int .i64)).toArray 3 (0, 0))) (hn : xs.length ≤ maxLen) : OwnI w base (.slice (some ⟨g, 0, none⟩) xs.length xs.length) xs :=
  ⟨by simp, .inr ⟨g, xs.length, _, rfl, hb, h, Nat.le_refl _, hn, by simp, by rw [Nat.mul_one, List.take_of_length_le (by simp)]⟩⟩
theorem OwnI.keep {w w' : World} {base : Nat} {v : Value} {xs : List Int} (h : OwnI w base v xs) (hk : ∀ g, v.ownBlock = some g → g < w.heap.size → w'.heap[g]? = w.heap[g]?) : OwnI w' base v xs := by
  refine ⟨h.1, ?_⟩
  rcases h.2 with h1 | ⟨g, cap, cur, h1, h2, h3, h4⟩
  · exact .inl h1
  · refine .inr ⟨g, cap, cur, h1, h2, ?_, h4⟩
    subst h1
    rw [hk g rfl (Array.getElem?_eq_some_iff.1 h3).1]
    exact h3
theorem OwnI.below {w w' : World} {base : Nat} {v : Value} {xs : List Int} (h : OwnI w base v xs) (hb : Below w.heap.size w w') : OwnI w' base v xs := h.keep fun g _ hg => hb.block g hg
theorem OwnI.alloc {w : World} {base : Nat} {v : Value} {xs : List Int} (h : OwnI w base v xs) (o : Obj) : OwnI (w.alloc o) base v xs := h.keep fun g _ hg => Below.heap_alloc w o g hg
theorem OwnI.drew {w : World} {base : Nat} {v : Value} {xs : List Int} (h : OwnI w base v xs) : OwnI w.drew base v xs := h
theorem OwnI.drewN {w : World} {base : Nat} {v : Value} {xs : List Int} (h : OwnI w base v xs) (k : Nat) : OwnI (w.drewN k) base v xs := h
theorem OwnI.only {w w' : World} {base r : Nat} {v : Value} {xs : List Int} (h : OwnI w base v xs) (o : Only r w w') (hr : r < base) : OwnI w' base v xs := h.keep fun g hv hg => o.block g hg (by
  rcases h.form with ⟨h1, _⟩ | ⟨g', cap, cur, h1, h2, _⟩
  · subst h1; simp [Value.ownBlock] at hv
  · subst h1
    have : g' = g := by simpa [Value.ownBlock] using hv
    subst this
    intro e; injection e; omega)
theorem OwnI.ints {w : World} {base : Nat} {A : Option Addr} {n c : Nat} {xs : List Int} (h : OwnI w base (.slice A n c) xs) : n = xs.length ∧ Ints w A xs.length xs := by
  rcases h.form with ⟨h1, h2⟩ | ⟨g, cap, cur, h1, h2, h3, h4, h5, h6, h7⟩
  · injection h1 with a1 a2 a3
    subst a1 a2 h2
    exact ⟨rfl, Ints.nil w⟩
  · injection h1 with a1 a2 a3
    subst a1 a2 a3
    unfold maxLen at h5
    refine ⟨rfl, rfl, by omega, fun hn => ⟨g, 0, rfl, (Array.getElem?_eq_some_iff.1 h3).1, fun j hj => ?_⟩⟩
    rw [Nat.zero_add, cell_of_row w g j cur _ (0, 0) h3]
    have e1 : cur[j]? = (cur.toList.take xs.length)[j]? := by rw [List.getElem?_take, if_pos hj, Array.getElem?_toList]
    rw [e1, h7, List.getElem?_map, List.getElem?_eq_getElem hj]
    simp
theorem OwnI.shape {w : World} {base : Nat} {v : Value} {xs : List Int} (h : OwnI w base v xs) : ∃ A c, v = .slice A xs.length c := by
  rcases h.form with ⟨h1, h2⟩ | ⟨g, cap, cur, h1, _⟩
  · subst h2; exact ⟨none, 0, h1⟩
  · exact ⟨_, _, h1⟩

theorem OwnI.block {w : World} {base : Nat} {v : Value} {xs : List Int} (h : OwnI w base v xs) : ∀ k, v.ownBlock = some k → base ≤ k := fun k hk => by
  rcases h.form with ⟨h1, _⟩ | ⟨g, cap, cur, h1, h2, _⟩
  · subst h1; simp [Value.ownBlock] at hk
  · subst h1
    have : g = k := by simpa [Value.ownBlock] using hk
    omega

/-- 'append(v, y)' where v is the call's own. -/
theorem app_int {ops : Array Oper} {rest : List Oper} {o : Oper} {a : Act} {Q : Exit → Act → World → Prop} {w : World} (hgd : o.guard = none) (s x : Operand)
    (ho : o.op = .call { callee := .builtin .append, args := #[s, x], argTypes := #[22, 22] }) (base g : Nat) (v : Value) (xs : List Int) (y : Int) (hs : a.eval s = v) (hx : a.eval x = .slice (some ⟨g, 0, none⟩) 1 1)
    (hown : OwnI w base v xs) (hc : w.cell? ⟨g, 0, none⟩ = some (.int .i64 y)) (hn : xs.length ≤ 1000000000) (hbase : base ≤ w.heap.size)
    (h : ∀ v' w', OwnI w' base v' (xs ++ [y]) → Below base w w' → wpList Try.prog ops Q rest (a.put o.dst v') w') : wpList Try.prog ops Q (o :: rest) a w := by
  obtain ⟨i0, hi, hz0, hz1, hz2⟩ := info_parts infoInt
  refine wpList_append_own w hgd s x 22 ho base 3 i0 (.int .i64 0) 1 8 Try.underlying22 hi hz0 hz1 hz2 rfl (by decide) v xs.length (xs.map (Value.int .i64)) hs hown ⟨g, 0, none⟩ 1 1 [.int .i64 y] hx rfl (fun j u hu => ?_) (fun u hu => ?_) ?_ ?_ hbase fun v' w' h1 h2 _ => ?_
  · match j, hu with
    | 0, hu => simp at hu; subst hu; simpa [Addr.add] using hc
    | j + 1, hu => simp at hu
  · simp at hu; subst hu; rfl
  · unfold maxLen; omega
  · omega
  · refine h v' w' ?_ ((Below.refl _ _).grown h2 hbase hown.block)
    unfold OwnI
    simpa using h1
end Go.Proofs.Ytmekbfjeljfbpaa
