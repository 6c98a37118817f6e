/- Several lists of the call's own, side by side. -/
import Derived.Test.YtmekbfjeljfbpaaOwn
import Derived.Laws.AppendOwnNone
namespace Go.Proofs.Ytmekbfjeljfbpaa
open Go.ChangeShapes Go.WideShapes Go.ChangeAt Go.RowKit

theorem below_le {n m : Nat} {a b : World} (h : n ≤ m) (hb : Below m a b) : Below n a b := ⟨hb.os, hb.tape, hb.output, hb.size, fun i hi => hb.block i (Nat.lt_of_lt_of_le hi h)⟩
theorem OwnI.cap {w : World} {base : Nat} {A : Option Addr} {n c : Nat} {xs : List Int} (h : OwnI w base (.slice A n c) xs) : xs.length ≤ c ∧ c ≤ maxLen := by
  rcases h.form with ⟨h1, h2⟩ | ⟨g, cap, cur, h1, h2, h3, h4, h5, _⟩
  · injection h1 with a1 a2 a3
    subst a3 h2
    exact ⟨Nat.le_refl _, Nat.zero_le _⟩
  · injection h1 with a1 a2 a3
    subst a3
    exact ⟨h4, h5⟩
/-- A slice value that reads as xs. -/
def SlI (w : World) (v : Value) (xs : List Int) : Prop := ∃ A c, v = .slice A xs.length c ∧ (xs.length ≤ c ∧ (A = none → c = 0)) ∧ c ≤ maxLen ∧ Ints w A xs.length xs
theorem OwnI.sl {w : World} {base : Nat} {v : Value} {xs : List Int} (h : OwnI w base v xs) : SlI w v xs := by
  obtain ⟨A, c, rfl⟩ := h.shape
  refine ⟨A, c, rfl, ⟨h.cap.1, fun hA => ?_⟩, h.cap.2, h.ints.2⟩
  subst hA
  rcases h.form with ⟨h1, _⟩ | ⟨g, cap, cur, h1, _⟩
  · injection h1
  · injection h1 with h1; cases h1
/-- The slice lies in a block from B on. -/
def LoB (B : Nat) (v : Value) : Prop := ∀ a n c, v = .slice (some a) n c → B ≤ a.block
theorem OwnI.slo {w : World} {base B : Nat} {v : Value} {xs : List Int} (h : OwnI w base v xs) (hb : B ≤ base) : SlI w v xs ∧ LoB B v := ⟨h.sl, fun a n c e => by
  subst e
  have := h.block a.block rfl
  omega⟩
theorem SlI.only {w w' : World} {r B : Nat} {v : Value} {xs : List Int} (h : SlI w v xs) (o : Only r w w') (hl : LoB B v) (hr : r < B) : SlI w' v xs := by
  obtain ⟨A, c, rfl, h2, h3, h4⟩ := h
  refine ⟨A, c, rfl, h2, h3, h4.1, h4.2.1, fun hn => ?_⟩
  obtain ⟨b, off, rfl, hb, hc⟩ := h4.2.2 hn
  have hbr : ¬ b = r := by have := hl _ _ _ rfl; simp at this; omega
  exact ⟨b, off, rfl, Nat.lt_of_lt_of_le hb o.size, fun j hj => (o.cell b (off + j) hb hbr).trans (hc j hj)⟩
theorem SlI.below {w w' : World} {v : Value} {xs : List Int} (h : SlI w v xs) (hb : Below w.heap.size w w') : SlI w' v xs := by
  obtain ⟨A, c, h1, h2, h3, h4⟩ := h
  exact ⟨A, c, h1, h2, h3, h4.below hb⟩
theorem SlI.drewN {w : World} {v : Value} {xs : List Int} (h : SlI w v xs) (m : Nat) : SlI (w.drewN m) v xs := h

/-- A list of the call's own between two block numbers. -/
def OwnU (w : World) (lo hi : Nat) (v : Value) (xs : List Int) : Prop := OwnI w lo v xs ∧ ∀ g, v.ownBlock = some g → g < hi
theorem OwnI.up {w : World} {lo : Nat} {v : Value} {xs : List Int} (h : OwnI w lo v xs) : OwnU w lo w.heap.size v xs := ⟨h, fun g hg => by
  rcases h.form with ⟨e, _⟩ | ⟨g', cap, cur, e, _, hh, _⟩
  · subst e; simp [Value.ownBlock] at hg
  · subst e
    have : g' = g := by simpa [Value.ownBlock] using hg
    subst this
    exact (Array.getElem?_eq_some_iff.1 hh).1⟩
theorem OwnU.le {w : World} {lo hi hi' : Nat} {v : Value} {xs : List Int} (h : OwnU w lo hi v xs) (hh : hi ≤ hi') : OwnU w lo hi' v xs := ⟨h.1, fun g hg => Nat.lt_of_lt_of_le (h.2 g hg) hh⟩
theorem OwnU.below {w w' : World} {lo hi : Nat} {v : Value} {xs : List Int} (h : OwnU w lo hi v xs) (hb : Below hi w w') : OwnU w' lo hi v xs := ⟨h.1.keep fun g hg _ => hb.block g (h.2 g hg), h.2⟩
theorem OwnU.only {w w' : World} {lo hi r : Nat} {v : Value} {xs : List Int} (h : OwnU w lo hi v xs) (o : Only r w w') (hr : r < lo) : OwnU w' lo hi v xs := ⟨h.1.only o hr, h.2⟩

theorem only_below {r : Nat} {w W w' : World} (o : Only r w W) (hb : Below w.heap.size W w') : Only r w w' :=
  ⟨hb.os.trans o.os, hb.tape.trans o.tape, hb.output.trans o.output, Nat.le_trans o.size hb.size, fun i hi hn => (hb.block i hi).trans (o.block i hi hn)⟩

/-- 'append(v, y)' where v is the call's own; only v's own block has changed. -/
theorem app_intG {ops : Array Oper} {rest : List Oper} {o : Oper} {a : Act} {Q : Exit → Act → World → Prop} {w : World} (hgd : o.guard = none) (s x : Operand)
    (ho : o.op = .call { callee := .builtin .append, args := #[s, x], argTypes := #[22, 22] }) (base g : Nat) (v : Value) (xs : List Int) (y : Int) (hs : a.eval s = v) (hx : a.eval x = .slice (some ⟨g, 0, none⟩) 1 1)
    (hown : OwnI w base v xs) (hc : w.cell? ⟨g, 0, none⟩ = some (.int .i64 y)) (hn : xs.length ≤ 1000000000) (hbase : base ≤ w.heap.size)
    (h : ∀ v' w', OwnI w' base v' (xs ++ [y]) → w.grownBy w' v.ownBlock → wpList Try.prog ops Q rest (a.put o.dst v') w') : wpList Try.prog ops Q (o :: rest) a w := by
  obtain ⟨i0, hi, hz0, hz1, hz2⟩ := info_parts infoInt
  refine wpList_append_own w hgd s x 22 ho base 3 i0 (.int .i64 0) 1 8 Try.underlying22 hi hz0 hz1 hz2 rfl (by decide) v xs.length (xs.map (Value.int .i64)) hs hown ⟨g, 0, none⟩ 1 1 [.int .i64 y] hx rfl (fun j u hu => ?_) (fun u hu => ?_) ?_ ?_ hbase fun v' w' h1 h2 _ => ?_
  · match j, hu with
    | 0, hu => simp at hu; subst hu; simpa [Addr.add] using hc
    | j + 1, hu => simp at hu
  · simp at hu; subst hu; rfl
  · unfold maxLen; omega
  · omega
  · refine h v' w' ?_ h2
    unfold OwnI
    simpa using h1
theorem grown_below {w w' : World} {base : Nat} {v : Value} {xs : List Int} (h : OwnI w base v xs) (hb : base ≤ w.heap.size) (hg : w.grownBy w' v.ownBlock) : Below base w w' := (Below.refl _ _).grown hg hb h.block
/-- A list of another block stays. -/
theorem OwnU.grown {w w' : World} {lo hi : Nat} {v u : Value} {xs : List Int} (h : OwnI w lo u xs) (hg : w.grownBy w' v.ownBlock) (hv : ∀ g, v.ownBlock = some g → g < hi) (hl : hi ≤ lo) : OwnI w' lo u xs :=
  h.keep fun g hu hlt => hg.block g hlt fun e => by have := h.block g hu; have := hv g e.symm; omega
theorem OwnI.at_ {w : World} {base g n c : Nat} {xs : List Int} (h : OwnI w base (.slice (some ⟨g, 0, none⟩) n c) xs) {i : Nat} (hi : i < xs.length) :
    w.cell? ⟨g, i, none⟩ = some (.int .i64 (xs[i]?.getD 0)) ∧ w.frozen? ⟨g, i, none⟩ = false ∧ g < w.heap.size ∧ base ≤ g := by
  rcases h.form with ⟨h1, h2⟩ | ⟨g', cap, cur, h1, h2, h3, h4, h5, h6, h7⟩
  · subst h2; simp at hi
  · injection h1 with a1 a2 a3
    have hg : g = g' := by injection a1 with a1; injection a1
    subst hg
    have hb : Blk w g 3 cur := h3
    refine ⟨?_, hb.frozen i, hb.lt, h2⟩
    rw [hb.cell]
    have e1 : cur[i]? = (cur.toList.take xs.length)[i]? := by rw [List.getElem?_take, if_pos hi, Array.getElem?_toList]
    rw [e1, h7, List.getElem?_map, List.getElem?_eq_getElem hi]
    simp
theorem OwnI.put {w : World} {base g n c : Nat} {xs : List Int} (h : OwnI w base (.slice (some ⟨g, 0, none⟩) n c) xs) {i : Nat} (y : Int) (hi : i < xs.length) :
    OwnI (w.setCell ⟨g, i, none⟩ (.int .i64 y)) base (.slice (some ⟨g, 0, none⟩) n c) (xs.set i y) := by
  rcases h.form with ⟨h1, h2⟩ | ⟨g', cap, cur, h1, h2, h3, h4, h5, h6, h7⟩
  · subst h2; simp at hi
  · injection h1 with a1 a2 a3
    have hg : g = g' := by injection a1 with a1; injection a1
    subst hg a2 a3
    have hb : Blk w g 3 cur := h3
    refine ⟨by simp, .inr ⟨g, c, cur.setIfInBounds i (.int .i64 y), by rw [List.length_set], h2, hb.set_ i _, by rw [List.length_set]; exact h4, h5, by simpa using h6, ?_⟩⟩
    rw [Nat.mul_one, List.length_set, List.map_set, ← h7]
    simp [List.take_set]
/-- 'append(v, ys...)' where v is the call's own; only v's own block has changed. -/
theorem app_ints {ops : Array Oper} {rest : List Oper} {o : Oper} {a : Act} {Q : Exit → Act → World → Prop} {w : World} (hgd : o.guard = none) (s x : Operand)
    (ho : o.op = .call { callee := .builtin .append, args := #[s, x], argTypes := #[22, 22] }) (base : Nat) (v : Value) (xs : List Int) (A : Option Addr) (m c : Nat) (ys : List Int) (hs : a.eval s = v) (hx : a.eval x = .slice A m c)
    (hown : OwnI w base v xs) (hI : Ints w A m ys) (hA : A = none → c = 0) (hn : xs.length + m ≤ 1000000000) (hbase : base ≤ w.heap.size)
    (h : ∀ v' w', OwnI w' base v' (xs ++ ys) → w.grownBy w' v.ownBlock → wpList Try.prog ops Q rest (a.put o.dst v') w') : wpList Try.prog ops Q (o :: rest) a w := by
  obtain ⟨i0, hi, hz0, hz1, hz2⟩ := info_parts infoInt
  obtain ⟨h1, h2, h3⟩ := hI
  rcases A with _ | ad
  · have hm : m = 0 := by
      rcases Nat.eq_zero_or_pos m with h0 | h0
      · exact h0
      · obtain ⟨b, off, e, _⟩ := h3 h0; cases e
    have hc := hA rfl
    subst hm hc
    have hy : ys = [] := List.eq_nil_of_length_eq_zero h1
    subst hy
    exact wpList_append_own_none hgd s x 22 ho base 3 i0 1 Try.underlying22 hi v xs.length (xs.map (Value.int .i64)) hs hown hx (h v w (by simpa using hown) (World.grownBy.refl w _))
  · refine wpList_append_own w hgd s x 22 ho base 3 i0 (.int .i64 0) 1 8 Try.underlying22 hi hz0 hz1 hz2 rfl (by decide) v xs.length (xs.map (Value.int .i64)) hs hown ad m c (ys.map (Value.int .i64)) hx (by simp [h1]) (fun j u hu => ?_) (fun u hu => ?_) ?_ ?_ hbase fun v' w' k1 k2 _ => ?_
    · rw [List.getElem?_map] at hu
      have hj : j < m := by
        rcases Nat.lt_or_ge j ys.length with hl | hl
        · omega
        · rw [List.getElem?_eq_none hl] at hu; cases hu
      obtain ⟨b, off, e, hb, hc⟩ := h3 (by omega)
      cases e
      have e1 : (⟨b, off, none⟩ : Addr).add j = ⟨b, off + j, none⟩ := by
        unfold Addr.add
        by_cases h : j = 0
        · subst h; rfl
        · simp [h]
      rw [e1, hc j hj]
      rw [List.getElem?_eq_getElem (by omega)] at hu ⊢
      simpa using hu
    · obtain ⟨y, _, rfl⟩ := List.mem_map.1 hu
      rfl
    · unfold maxLen; omega
    · omega
    · refine h v' w' ?_ k2
      unfold OwnI
      simpa [h1] using k1
/-- A slice between two block numbers that reads as xs. -/
def SlU (w : World) (lo hi : Nat) (v : Value) (xs : List Int) : Prop := ∃ A c, v = .slice A xs.length c ∧ (xs.length ≤ c ∧ (A = none → c = 0)) ∧ c ≤ maxLen ∧ (0 < xs.length → ∃ b off : Nat, A = some ⟨b, off, none⟩ ∧ lo ≤ b ∧ b < hi ∧ ∀ j, j < xs.length → w.cell? ⟨b, off + j, none⟩ = some (.int .i64 (xs[j]?.getD 0)))
theorem SlI.u {w : World} {lo : Nat} {v : Value} {xs : List Int} (h : SlI w v xs) (hl : LoB lo v) : SlU w lo w.heap.size v xs := by
  obtain ⟨A, c, rfl, h2, h3, h4⟩ := h
  refine ⟨A, c, rfl, h2, h3, fun hn => ?_⟩
  obtain ⟨b, off, rfl, hb, hc⟩ := h4.2.2 hn
  exact ⟨b, off, rfl, hl _ _ _ rfl, hb, hc⟩
theorem SlU.sl {w : World} {lo hi : Nat} {v : Value} {xs : List Int} (h : SlU w lo hi v xs) (hh : hi ≤ w.heap.size) : SlI w v xs := by
  obtain ⟨A, c, rfl, h2, h3, h4⟩ := h
  have := h2.1
  unfold maxLen at h3
  refine ⟨A, c, rfl, h2, h3, rfl, by omega, fun hn => ?_⟩
  obtain ⟨b, off, rfl, _, hb, hc⟩ := h4 hn
  exact ⟨b, off, rfl, by omega, hc⟩
theorem SlU.below {w w' : World} {lo hi : Nat} {v : Value} {xs : List Int} (h : SlU w lo hi v xs) (hb : Below hi w w') : SlU w' lo hi v xs := by
  obtain ⟨A, c, rfl, h2, h3, h4⟩ := h
  refine ⟨A, c, rfl, h2, h3, fun hn => ?_⟩
  obtain ⟨b, off, rfl, h5, h6, hc⟩ := h4 hn
  exact ⟨b, off, rfl, h5, h6, fun j hj => (hb.cell (p := ⟨b, off + j, none⟩) h6).trans (hc j hj)⟩
theorem SlU.only {w w' : World} {r lo hi : Nat} {v : Value} {xs : List Int} (h : SlU w lo hi v xs) (o : Only r w w') (hr : r < lo) (hh : hi ≤ w.heap.size) : SlU w' lo hi v xs := by
  obtain ⟨A, c, rfl, h2, h3, h4⟩ := h
  refine ⟨A, c, rfl, h2, h3, fun hn => ?_⟩
  obtain ⟨b, off, rfl, h5, h6, hc⟩ := h4 hn
  exact ⟨b, off, rfl, h5, h6, fun j hj => (o.cell b (off + j) (by omega) (by omega)).trans (hc j hj)⟩
end Go.Proofs.Ytmekbfjeljfbpaa
