/- An append to a list of the call's own, with the place of what comes: the same block, or a new one. -/
import Derived.Test.YtmekbfjeljfbpaaClone
import Derived.ArgAppend
import Derived.OwnWalk
namespace Go.Proofs.Ytmekbfjeljfbpaa
open Go.ChangeShapes Go.WideShapes Go.ChangeAt Go.RowKit

theorem app_intX {ops : Array Oper} {rest : List Oper} {o : Oper} {a : Act} {Q : Exit → Act → World → Prop} {w : World} (hgd : o.guard = none) (s x : Operand)
    (ho : o.op = .call { callee := .builtin .append, args := #[s, x], argTypes := #[22, 22] }) (base g : Nat) (v : Value) (xs : List Int) (y : Int) (hs : a.eval s = v) (hx : a.eval x = .slice (some ⟨g, 0, none⟩) 1 1)
    (hown : OwnI w base v xs) (hc : w.cell? ⟨g, 0, none⟩ = some (.int .i64 y)) (hn : xs.length ≤ 1000000000) (hbase : base ≤ w.heap.size)
    (h : ∀ v' w', OwnI w' base v' (xs ++ [y]) → w.grownBy w' v.ownBlock → (∀ q, v'.ownBlock = some q → v.ownBlock = some q ∨ w.heap.size ≤ q) → wpList Try.prog ops Q rest (a.put o.dst v') w') : wpList Try.prog ops Q (o :: rest) a w := by
  obtain ⟨i0, hi, hz0, hz1, hz2⟩ := info_parts infoInt
  have hnews : ∀ j u, [Value.int .i64 y][j]? = some u → w.cell? ((⟨g, 0, none⟩ : Addr).add j) = some u := fun j u hu => by
    match j, hu with
    | 0, hu => simp at hu; subst hu; simpa [Addr.add] using hc
    | j + 1, hu => simp at hu
  have h1c : ∀ u ∈ [Value.int .i64 y], u.oneCell' = true := fun u hu => by simp at hu; subst hu; rfl
  rcases hown.form with ⟨h1, h2⟩ | ⟨g', cap, cur, h1, h2, h3, h4, h5, h6, h7⟩
  · subst h1 h2
    refine wpList_append_own w hgd s x 22 ho w.heap.size 3 i0 (.int .i64 0) 1 8 Try.underlying22 hi hz0 hz1 hz2 rfl (by decide) (.slice none 0 0) 0 [] hs (World.ownsRow_nil w _ _ 1) ⟨g, 0, none⟩ 1 1 [.int .i64 y] hx rfl hnews h1c ?_ ?_ (Nat.le_refl _) fun v' w' k1 k2 _ => ?_
    · unfold maxLen; omega
    · omega
    · have k3 : OwnI w' w.heap.size v' ([] ++ [y]) := by unfold OwnI; simpa using k1
      exact h v' w' (k3.lower hbase) k2 (fun q hq => .inr (k3.block q hq))
  · subst h1
    by_cases hroom : xs.length + 1 ≤ cap
    · refine wpList_append_fits w hgd s x 22 ho base 3 i0 1 Try.underlying22 hi hz1 g' xs.length cap (xs.map (Value.int .i64)) hs hown ⟨g, 0, none⟩ 1 1 [.int .i64 y] hx rfl hnews h1c hroom fun w' k1 k2 => ?_
      refine h _ w' ?_ ?_ (fun q hq => .inl hq)
      · unfold OwnI; simpa using k1
      · exact k2
    · refine wpList_append_grows w hgd s x 22 ho 3 i0 (.int .i64 0) 1 8 Try.underlying22 hi hz0 hz1 hz2 rfl (by decide) (some ⟨g', 0, none⟩) xs.length cap (xs.map (Value.int .i64)) hs (fun e => by cases e) (by simp) (fun b hb j u hu => by cases hb; exact hown.cells (g := g') rfl j u hu) ⟨g, 0, none⟩ 1 1 [.int .i64 y] hx rfl hnews h1c ?_ ?_ ?_ fun v' w' k1 k2 => ?_
      · omega
      · unfold maxLen; omega
      · omega
      · have k3 : OwnI w' w.heap.size v' (xs ++ [y]) := by unfold OwnI; simpa using k1
        exact h v' w' (k3.lower hbase) ⟨k2.os, k2.tape, k2.output, k2.size, fun i hi _ => k2.block i hi (by simp)⟩ (fun q hq => .inr (k3.block q hq))

/-- A list without its last number. -/
theorem OwnI.cut {w : World} {base : Nat} {A : Option Addr} {n c : Nat} {xs ys : List Int} (h : OwnI w base (.slice A n c) (xs ++ ys)) : OwnI w base (.slice A xs.length c) xs ∨ (A = none ∧ xs = []) := by
  rcases h.form with ⟨h1, h2⟩ | ⟨g', cap, cur, h1, h2, h3, h4, h5, h6, h7⟩
  · right
    injection h1 with a1 a2 a3
    exact ⟨a1, by simpa using (List.append_eq_nil_iff.1 h2).1⟩
  · left
    injection h1 with a1 a2 a3
    subst a1 a3
    rw [List.length_append] at h4 h7
    refine ⟨by simp, .inr ⟨g', c, cur, rfl, h2, h3, by omega, h5, by simpa using h6, ?_⟩⟩
    have := congrArg (List.take xs.length) h7
    rw [List.take_take, Nat.min_eq_left (by omega)] at this
    rw [Nat.mul_one, this, List.map_append, List.take_append_of_le_length (by simp), List.take_of_length_le (by simp)]
theorem OwnI.fixed {w : World} {base : Nat} {v : Value} {xs : List Int} (h : OwnI w base v xs) (p : Addr) (hp : v.ownBlock ≠ some p.block) (u : Value) : OwnI (w.setCell p u) base v xs :=
  h.keep fun g hg _ => Below.heap_setCell w p u g (fun e => hp (by rw [hg, e]))
end Go.Proofs.Ytmekbfjeljfbpaa
