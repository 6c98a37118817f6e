/- Lists of truths of the call's own. -/
import Derived.Test.YtmoifakcjmdghaaFtH
import Derived.Test.YtmoifakcjmdghaaDraw
import Derived.Laws.OwnMore
import Derived.Laws.AppendOwnNone
import Derived.OwnWalk
namespace Go.Proofs.Ytmoifakcjmdghaa
open Go.ChangeShapes Go.WideShapes Go.ChangeAt Go.RowKit

theorem Bools.nil (w : World) : Bools w none 0 [] := ⟨rfl, by omega, fun h => by omega⟩
/-- The slice value v owns the numbers xs, in a block from base on. -/
def OwnB (w : World) (base : Nat) (v : Value) (xs : List Bool) : Prop := w.ownsRow base 4 1 v xs.length (xs.map (Value.bool))
theorem OwnB.nil (w : World) (base : Nat) : OwnB w base (.slice none 0 0) [] := ⟨rfl, .inl ⟨rfl, rfl⟩⟩
theorem OwnB.form {w : World} {base : Nat} {v : Value} {xs : List Bool} (h : OwnB w base v xs) : (v = .slice none 0 0 ∧ xs = []) ∨
    ∃ g cap cur, v = .slice (some ⟨g, 0, none⟩) xs.length cap ∧ base ≤ g ∧ w.heap[g]? = some (.cells cur 4 (0, 0)) ∧ xs.length ≤ cap ∧ cap ≤ maxLen ∧ cur.size = cap ∧ cur.toList.take xs.length = xs.map (Value.bool) := by
  rcases h.2 with ⟨h1, h2⟩ | ⟨g, cap, cur, h1, h2, h3, h4, h5, h6, h7⟩
  · exact .inl ⟨h1, List.eq_nil_of_length_eq_zero h2⟩
  · exact .inr ⟨g, cap, cur, h1, h2, h3, h4, h5, by simpa using h6, by simpa using h7⟩
/-- A made slice: a literal row. -/
theorem OwnB.made {w : World} {base g : Nat} {xs : List Bool} (hb : base ≤ g) (h : w.heap[g]? = some (.cells (xs.map (Value.bool)).toArray 4 (0, 0))) (hn : xs.length ≤ maxLen) : OwnB w base (.slice (some ⟨g, 0, none⟩) xs.length xs.length) xs :=
  ⟨by simp, .inr ⟨g, xs.length, _, rfl, hb, h, Nat.le_refl _, hn, by simp, by rw [Nat.mul_one, List.take_of_length_le (by simp)]⟩⟩
theorem OwnB.keep {w w' : World} {base : Nat} {v : Value} {xs : List Bool} (h : OwnB w base v xs) (hk : ∀ g, v.ownBlock = some g → g < w.heap.size → w'.heap[g]? = w.heap[g]?) : OwnB w' base v xs := by
  refine ⟨h.1, ?_⟩
  rcases h.2 with h1 | ⟨g, cap, cur, h1, h2, h3, h4⟩
  · exact .inl h1
  · refine .inr ⟨g, cap, cur, h1, h2, ?_, h4⟩
    subst h1
    rw [hk g rfl (Array.getElem?_eq_some_iff.1 h3).1]
    exact h3
theorem OwnB.below {w w' : World} {base : Nat} {v : Value} {xs : List Bool} (h : OwnB w base v xs) (hb : Below w.heap.size w w') : OwnB w' base v xs := h.keep fun g _ hg => hb.block g hg
theorem OwnB.alloc {w : World} {base : Nat} {v : Value} {xs : List Bool} (h : OwnB w base v xs) (o : Obj) : OwnB (w.alloc o) base v xs := h.keep fun g _ hg => Below.heap_alloc w o g hg
theorem OwnB.drew {w : World} {base : Nat} {v : Value} {xs : List Bool} (h : OwnB w base v xs) : OwnB w.drew base v xs := h
theorem OwnB.drewN {w : World} {base : Nat} {v : Value} {xs : List Bool} (h : OwnB w base v xs) (k : Nat) : OwnB (w.drewN k) base v xs := h
theorem OwnB.only {w w' : World} {base r : Nat} {v : Value} {xs : List Bool} (h : OwnB w base v xs) (o : Only r w w') (hr : r < base) : OwnB w' base v xs := h.keep fun g hv hg => o.block g hg (by
  rcases h.form with ⟨h1, _⟩ | ⟨g', cap, cur, h1, h2, _⟩
  · subst h1; simp [Value.ownBlock] at hv
  · subst h1
    have : g' = g := by simpa [Value.ownBlock] using hv
    subst this
    intro e; injection e; omega)
theorem OwnB.bools {w : World} {base : Nat} {A : Option Addr} {n c : Nat} {xs : List Bool} (h : OwnB w base (.slice A n c) xs) : n = xs.length ∧ Bools w A xs.length xs := by
  rcases h.form with ⟨h1, h2⟩ | ⟨g, cap, cur, h1, h2, h3, h4, h5, h6, h7⟩
  · injection h1 with a1 a2 a3
    subst a1 a2 h2
    exact ⟨rfl, Bools.nil w⟩
  · injection h1 with a1 a2 a3
    subst a1 a2 a3
    unfold maxLen at h5
    refine ⟨rfl, rfl, by omega, fun hn => ⟨g, 0, rfl, (Array.getElem?_eq_some_iff.1 h3).1, fun j hj => ?_⟩⟩
    rw [Nat.zero_add, cell_of_row w g j cur _ (0, 0) h3]
    have e1 : cur[j]? = (cur.toList.take xs.length)[j]? := by rw [List.getElem?_take, if_pos hj, Array.getElem?_toList]
    rw [e1, h7, List.getElem?_map, List.getElem?_eq_getElem hj]
    simp
theorem OwnB.shape {w : World} {base : Nat} {v : Value} {xs : List Bool} (h : OwnB w base v xs) : ∃ A c, v = .slice A xs.length c := by
  rcases h.form with ⟨h1, h2⟩ | ⟨g, cap, cur, h1, _⟩
  · subst h2; exact ⟨none, 0, h1⟩
  · exact ⟨_, _, h1⟩

theorem OwnB.block {w : World} {base : Nat} {v : Value} {xs : List Bool} (h : OwnB w base v xs) : ∀ k, v.ownBlock = some k → base ≤ k := fun k hk => by
  rcases h.form with ⟨h1, _⟩ | ⟨g, cap, cur, h1, h2, _⟩
  · subst h1; simp [Value.ownBlock] at hk
  · subst h1
    have : g = k := by simpa [Value.ownBlock] using hk
    omega

/-- 'append(v, y)' where v is the call's own. -/
theorem app_bool {ops : Array Oper} {rest : List Oper} {o : Oper} {a : Act} {Q : Exit → Act → World → Prop} {w : World} (hgd : o.guard = none) (s x : Operand)
    (ho : o.op = .call { callee := .builtin .append, args := #[s, x], argTypes := #[27, 27] }) (base g : Nat) (v : Value) (xs : List Bool) (y : Bool) (hs : a.eval s = v) (hx : a.eval x = .slice (some ⟨g, 0, none⟩) 1 1)
    (hown : OwnB w base v xs) (hc : w.cell? ⟨g, 0, none⟩ = some (.bool y)) (hn : xs.length ≤ 1000000000) (hbase : base ≤ w.heap.size)
    (h : ∀ v' w', OwnB w' base v' (xs ++ [y]) → Below base w w' → wpList Try.prog ops Q rest (a.put o.dst v') w') : wpList Try.prog ops Q (o :: rest) a w := by
  obtain ⟨i0, hi, hz0, hz1, hz2⟩ := info_parts infoBool
  refine wpList_append_own w hgd s x 27 ho base 4 i0 (.bool false) 1 1 Try.underlying27 hi hz0 hz1 hz2 rfl (by decide) v xs.length (xs.map (Value.bool)) hs hown ⟨g, 0, none⟩ 1 1 [.bool y] hx rfl (fun j u hu => ?_) (fun u hu => ?_) ?_ ?_ hbase fun v' w' h1 h2 _ => ?_
  · match j, hu with
    | 0, hu => simp at hu; subst hu; simpa [Addr.add] using hc
    | j + 1, hu => simp at hu
  · simp at hu; subst hu; rfl
  · unfold maxLen; omega
  · omega
  · refine h v' w' ?_ ((Below.refl _ _).grown h2 hbase hown.block)
    unfold OwnB
    simpa using h1
theorem OwnB.cap {w : World} {base : Nat} {A : Option Addr} {n c : Nat} {xs : List Bool} (h : OwnB w base (.slice A n c) xs) : xs.length ≤ c ∧ c ≤ maxLen := by
  rcases h.form with ⟨h1, h2⟩ | ⟨g, cap, cur, h1, h2, h3, h4, h5, _⟩
  · injection h1 with a1 a2 a3
    subst a3 h2
    exact ⟨Nat.le_refl _, Nat.zero_le _⟩
  · injection h1 with a1 a2 a3
    subst a3
    exact ⟨h4, h5⟩
theorem OwnB.at_ {w : World} {base g n c : Nat} {xs : List Bool} (h : OwnB w base (.slice (some ⟨g, 0, none⟩) n c) xs) {i : Nat} (hi : i < xs.length) :
    w.cell? ⟨g, i, none⟩ = some (.bool (xs[i]?.getD false)) ∧ w.frozen? ⟨g, i, none⟩ = false ∧ g < w.heap.size ∧ base ≤ g := by
  rcases h.form with ⟨h1, h2⟩ | ⟨g', cap, cur, h1, h2, h3, h4, h5, h6, h7⟩
  · subst h2; simp at hi
  · injection h1 with a1 a2 a3
    have hg : g = g' := by injection a1 with a1; injection a1
    subst hg
    have hb : Blk w g 4 cur := h3
    refine ⟨?_, hb.frozen i, hb.lt, h2⟩
    rw [hb.cell]
    have e1 : cur[i]? = (cur.toList.take xs.length)[i]? := by rw [List.getElem?_take, if_pos hi, Array.getElem?_toList]
    rw [e1, h7, List.getElem?_map, List.getElem?_eq_getElem hi]
    simp
theorem OwnB.put {w : World} {base g n c : Nat} {xs : List Bool} (h : OwnB w base (.slice (some ⟨g, 0, none⟩) n c) xs) {i : Nat} (y : Bool) (hi : i < xs.length) :
    OwnB (w.setCell ⟨g, i, none⟩ (.bool y)) base (.slice (some ⟨g, 0, none⟩) n c) (xs.set i y) := by
  rcases h.form with ⟨h1, h2⟩ | ⟨g', cap, cur, h1, h2, h3, h4, h5, h6, h7⟩
  · subst h2; simp at hi
  · injection h1 with a1 a2 a3
    have hg : g = g' := by injection a1 with a1; injection a1
    subst hg a2 a3
    have hb : Blk w g 4 cur := h3
    refine ⟨by simp, .inr ⟨g, c, cur.setIfInBounds i (.bool y), by rw [List.length_set], h2, hb.set_ i _, by rw [List.length_set]; exact h4, h5, by simpa using h6, ?_⟩⟩
    rw [Nat.mul_one, List.length_set, List.map_set, ← h7]
    simp [List.take_set]
/-- 'append(v, ys...)' where v is the call's own; only v's own block has changed. -/
theorem app_bools {ops : Array Oper} {rest : List Oper} {o : Oper} {a : Act} {Q : Exit → Act → World → Prop} {w : World} (hgd : o.guard = none) (s x : Operand)
    (ho : o.op = .call { callee := .builtin .append, args := #[s, x], argTypes := #[27, 27] }) (base : Nat) (v : Value) (xs : List Bool) (A : Option Addr) (m c : Nat) (ys : List Bool) (hs : a.eval s = v) (hx : a.eval x = .slice A m c)
    (hown : OwnB w base v xs) (hI : Bools w A m ys) (hA : A = none → c = 0) (hn : xs.length + m ≤ 1000000000) (hbase : base ≤ w.heap.size)
    (h : ∀ v' w', OwnB w' base v' (xs ++ ys) → w.grownBy w' v.ownBlock → wpList Try.prog ops Q rest (a.put o.dst v') w') : wpList Try.prog ops Q (o :: rest) a w := by
  obtain ⟨i0, hi, hz0, hz1, hz2⟩ := info_parts infoBool
  obtain ⟨h1, h2, h3⟩ := hI
  rcases A with _ | ad
  · have hm : m = 0 := by
      rcases Nat.eq_zero_or_pos m with h0 | h0
      · exact h0
      · obtain ⟨b, off, e, _⟩ := h3 h0; cases e
    have hc := hA rfl
    subst hm hc
    have hy : ys = [] := List.eq_nil_of_length_eq_zero h1
    subst hy
    exact wpList_append_own_none hgd s x 27 ho base 4 i0 1 Try.underlying27 hi v xs.length (xs.map (Value.bool)) hs hown hx (h v w (by simpa using hown) (World.grownBy.refl w _))
  · refine wpList_append_own w hgd s x 27 ho base 4 i0 (.bool false) 1 1 Try.underlying27 hi hz0 hz1 hz2 rfl (by decide) v xs.length (xs.map (Value.bool)) hs hown ad m c (ys.map (Value.bool)) hx (by simp [h1]) (fun j u hu => ?_) (fun u hu => ?_) ?_ ?_ hbase fun v' w' k1 k2 _ => ?_
    · rw [List.getElem?_map] at hu
      have hj : j < m := by
        rcases Nat.lt_or_ge j ys.length with hl | hl
        · omega
        · rw [List.getElem?_eq_none hl] at hu; cases hu
      obtain ⟨b, off, e, hb, hc⟩ := h3 (by omega)
      cases e
      have e1 : (⟨b, off, none⟩ : Addr).add j = ⟨b, off + j, none⟩ := by
        unfold Addr.add
        by_cases h : j = 0
        · subst h; rfl
        · simp [h]
      rw [e1, hc j hj]
      rw [List.getElem?_eq_getElem (by omega)] at hu ⊢
      simpa using hu
    · obtain ⟨y, _, rfl⟩ := List.mem_map.1 hu
      rfl
    · unfold maxLen; omega
    · omega
    · refine h v' w' ?_ k2
      unfold OwnB
      simpa [h1] using k1
end Go.Proofs.Ytmoifakcjmdghaa
