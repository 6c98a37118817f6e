/- Three lists of truths of the call's own; CallsNone of both, l8Copy: contracts. -/
import Derived.Test.YtmoifakcjmdghaaFtJ
import Derived.Deep.AppendLies
import Derived.Deep.RegionLaw
namespace Go.Proofs.Ytmoifakcjmdghaa
open Go.ChangeShapes Go.WideShapes Go.ChangeAt Go.RowKit

theorem OwnB.zeros {w : World} {g n : Nat} (h : w.heap[g]? = some (.cells (madeCells #[.bool false] n) 4 (0, 0))) (hn : n ≤ 1000000) {base : Nat} (hb : base ≤ g) : OwnB w base (.slice (some ⟨g, 0, none⟩) n n) (List.replicate n false) := by
  refine ⟨by simp, .inr ⟨g, n, _, by simp, hb, h, by simp, by unfold maxLen; omega, by simp [size_madeCells], ?_⟩⟩
  rw [toList_madeCells_one]
  simp
theorem OwnB.fixed {w : World} {base : Nat} {v : Value} {xs : List Bool} (h : OwnB w base v xs) (p : Addr) (hp : v.ownBlock ≠ some p.block) (u : Value) : OwnB (w.setCell p u) base v xs :=
  h.keep fun g hg _ => Below.heap_setCell w p u g (fun e => hp (by rw [hg, e]))
theorem OwnB.grownE {w w' : World} {base g g0 n c : Nat} {xs : List Bool} (h : OwnB w base (.slice (some ⟨g, 0, none⟩) n c) xs) (r : w.grownBy w' (some g0)) (hne : ¬ g = g0) : OwnB w' base (.slice (some ⟨g, 0, none⟩) n c) xs :=
  h.keep fun q hq hl => r.block q hl (by
    have : g = q := by simpa [Value.ownBlock] using hq
    subst this
    intro e; injection e; omega)
theorem OwnB.lower {w : World} {base b : Nat} {v : Value} {xs : List Bool} (h : OwnB w base v xs) (hb : b ≤ base) : OwnB w b v xs := by
  refine ⟨h.1, ?_⟩
  rcases h.2 with h1 | ⟨g, cap, cur, h1, h2, h3⟩
  · exact .inl h1
  · exact .inr ⟨g, cap, cur, h1, Nat.le_trans hb h2, h3⟩
theorem heapN {W : World} {g : Nat} {o : Obj} (h : W.heap.size = g) : (W.alloc o).heap[g]? = some o := by subst h; exact heap_alloc_new W o
theorem heapA {W : World} {g : Nat} {x : Obj} (h : W.heap[g]? = some x) (o : Obj) : (W.alloc o).heap[g]? = some x := (Below.heap_alloc W o g (Array.getElem?_eq_some_iff.1 h).1).trans h
theorem heapD {W : World} {g : Nat} {x : Obj} (h : W.heap[g]? = some x) : W.drew.heap[g]? = some x := h
theorem heapDN {W : World} {g : Nat} {x : Obj} (h : W.heap[g]? = some x) (m : Nat) : (W.drewN m).heap[g]? = some x := h
theorem heapS {W : World} {g : Nat} {x : Obj} (h : W.heap[g]? = some x) (p : Addr) (u : Value) (hp : g ≠ p.block) : (W.setCell p u).heap[g]? = some x := (Below.heap_setCell W p u g hp).trans h
theorem heapG {W w' : World} {g g0 : Nat} {x : Obj} (h : W.heap[g]? = some x) (r : W.grownBy w' (some g0)) (hp : ¬ g = g0) : w'.heap[g]? = some x :=
  (r.block g (Array.getElem?_eq_some_iff.1 h).1 (by intro e; injection e; omega)).trans h

/-- Three lists of the call's own, in three blocks. -/
structure CO (w : World) (base : Nat) (v1 v2 v3 : Value) (us ds cs : List Bool) : Prop where
  u : OwnB w base v1 us
  d : OwnB w base v2 ds
  c : OwnB w base v3 cs
  ud : ∀ g, v1.ownBlock = some g → v2.ownBlock ≠ some g
  uc : ∀ g, v1.ownBlock = some g → v3.ownBlock ≠ some g
  dc : ∀ g, v2.ownBlock = some g → v3.ownBlock ≠ some g
theorem CO.nil (w : World) (base : Nat) : CO w base (.slice none 0 0) (.slice none 0 0) (.slice none 0 0) [] [] [] := ⟨OwnB.nil _ _, OwnB.nil _ _, OwnB.nil _ _, fun g h => by simp [Value.ownBlock] at h, fun g h => by simp [Value.ownBlock] at h, fun g h => by simp [Value.ownBlock] at h⟩
theorem CO.below {w w' : World} {base : Nat} {v1 v2 v3 : Value} {us ds cs : List Bool} (h : CO w base v1 v2 v3 us ds cs) (hb : Below w.heap.size w w') : CO w' base v1 v2 v3 us ds cs := ⟨h.u.below hb, h.d.below hb, h.c.below hb, h.ud, h.uc, h.dc⟩
theorem CO.drewN {w : World} {base : Nat} {v1 v2 v3 : Value} {us ds cs : List Bool} (h : CO w base v1 v2 v3 us ds cs) (m : Nat) : CO (w.drewN m) base v1 v2 v3 us ds cs := ⟨h.u, h.d, h.c, h.ud, h.uc, h.dc⟩
theorem CO.only {w w' : World} {base r : Nat} {v1 v2 v3 : Value} {us ds cs : List Bool} (h : CO w base v1 v2 v3 us ds cs) (o : Only r w w') (hr : r < base) : CO w' base v1 v2 v3 us ds cs := ⟨h.u.only o hr, h.d.only o hr, h.c.only o hr, h.ud, h.uc, h.dc⟩
theorem CO.lower {w : World} {base b : Nat} {v1 v2 v3 : Value} {us ds cs : List Bool} (h : CO w base v1 v2 v3 us ds cs) (hb : b ≤ base) : CO w b v1 v2 v3 us ds cs := ⟨h.u.lower hb, h.d.lower hb, h.c.lower hb, h.ud, h.uc, h.dc⟩
theorem CO.fixed {w : World} {base : Nat} {v1 v2 v3 : Value} {us ds cs : List Bool} (h : CO w base v1 v2 v3 us ds cs) (p : Addr) (h1 : v1.ownBlock ≠ some p.block) (h2 : v2.ownBlock ≠ some p.block) (h3 : v3.ownBlock ≠ some p.block) (x : Value) : CO (w.setCell p x) base v1 v2 v3 us ds cs :=
  ⟨h.u.fixed p h1 x, h.d.fixed p h2 x, h.c.fixed p h3 x, h.ud, h.uc, h.dc⟩
theorem CO.shape {w : World} {base : Nat} {v1 v2 v3 : Value} {us ds cs : List Bool} (h : CO w base v1 v2 v3 us ds cs) : ∃ A1 c1 A2 c2 A3 c3, v1 = .slice A1 us.length c1 ∧ v2 = .slice A2 ds.length c2 ∧ v3 = .slice A3 cs.length c3 ∧ BC w A1 us.length us A2 ds.length ds A3 cs.length cs := by
  obtain ⟨A1, c1, rfl⟩ := h.u.shape
  obtain ⟨A2, c2, rfl⟩ := h.d.shape
  obtain ⟨A3, c3, rfl⟩ := h.c.shape
  exact ⟨A1, c1, A2, c2, A3, c3, rfl, rfl, rfl, h.u.bools.2, h.d.bools.2, h.c.bools.2⟩
theorem CO.putU {w : World} {base g n c : Nat} {v2 v3 : Value} {us ds cs : List Bool} (h : CO w base (.slice (some ⟨g, 0, none⟩) n c) v2 v3 us ds cs) {i : Nat} (hi : i < us.length) (y : Bool) : CO (w.setCell ⟨g, i, none⟩ (.bool y)) base (.slice (some ⟨g, 0, none⟩) n c) v2 v3 (us.set i y) ds cs :=
  ⟨h.u.put y hi, h.d.fixed _ (h.ud g rfl) _, h.c.fixed _ (h.uc g rfl) _, h.ud, h.uc, h.dc⟩
theorem CO.putD {w : World} {base g n c : Nat} {v1 v3 : Value} {us ds cs : List Bool} (h : CO w base v1 (.slice (some ⟨g, 0, none⟩) n c) v3 us ds cs) {i : Nat} (hi : i < ds.length) (y : Bool) : CO (w.setCell ⟨g, i, none⟩ (.bool y)) base v1 (.slice (some ⟨g, 0, none⟩) n c) v3 us (ds.set i y) cs :=
  ⟨h.u.fixed _ (fun e => h.ud g e rfl) _, h.d.put y hi, h.c.fixed _ (h.dc g rfl) _, h.ud, h.uc, h.dc⟩
theorem CO.putC {w : World} {base g n c : Nat} {v1 v2 : Value} {us ds cs : List Bool} (h : CO w base v1 v2 (.slice (some ⟨g, 0, none⟩) n c) us ds cs) {i : Nat} (hi : i < cs.length) (y : Bool) : CO (w.setCell ⟨g, i, none⟩ (.bool y)) base v1 v2 (.slice (some ⟨g, 0, none⟩) n c) us ds (cs.set i y) :=
  ⟨h.u.fixed _ (fun e => h.uc g e rfl) _, h.d.fixed _ (fun e => h.dc g e rfl) _, h.c.put y hi, h.ud, h.uc, h.dc⟩
theorem CO.of {w : World} {base g1 n1 c1 g2 n2 c2 g3 n3 c3 : Nat} {us ds cs : List Bool} (h1 : OwnB w base (.slice (some ⟨g1, 0, none⟩) n1 c1) us) (h2 : OwnB w base (.slice (some ⟨g2, 0, none⟩) n2 c2) ds) (h3 : OwnB w base (.slice (some ⟨g3, 0, none⟩) n3 c3) cs) (e1 : ¬ g1 = g2) (e2 : ¬ g1 = g3) (e3 : ¬ g2 = g3) : CO w base (.slice (some ⟨g1, 0, none⟩) n1 c1) (.slice (some ⟨g2, 0, none⟩) n2 c2) (.slice (some ⟨g3, 0, none⟩) n3 c3) us ds cs :=
  ⟨h1, h2, h3, fun g h k => e1 (by simp [Value.ownBlock] at h k; omega), fun g h k => e2 (by simp [Value.ownBlock] at h k; omega), fun g h k => e3 (by simp [Value.ownBlock] at h k; omega)⟩

/-- Calls in lists of the call's own. -/
def CallsOut (w : World) (us ds cs : List Bool) (e : Ending) (w' : World) : Prop := ∃ v1 v2 v3, e = .returned (.agg #[v1, v2, v3]) ∧ CO w' w.heap.size v1 v2 v3 us ds cs ∧ Below w.heap.size w w'

set_option maxHeartbeats 2000000 in
theorem none_impl (n : Nat) (w : World) (h1 : 1 ≤ n) (h8 : n ≤ 8) : Calls Try.prog 20 #[.int .i64 n] w (CallsOut w (List.replicate n false) (List.replicate n false) (List.replicate n false)) := by
  have a1 : 1 ≤ (n : Int) := by omega
  have a8 : (n : Int) ≤ 8 := by omega
  obtain ⟨i0, hi, hz0, hz1, hz2⟩ := info_parts infoBool
  have hmk : ∀ W : World, (Instr.makeSlice 27 (.int .i64 (n : Int)) (.int .i64 (n : Int))).run Try.prog W = .ok (.slice (some ⟨W.heap.size, 0, none⟩) n n) (W.alloc (.cells (madeCells #[.bool false] n) 4)) := fun W => by
    have h := make_row (P := Try.prog) 27 4 i0 _ Try.underlying27 hi hz0 n (by rw [hz2]; omega) (by omega) W
    rw [hz1, Nat.mul_one] at h
    exact h
  clear hi hz0 hz1 hz2
  go_enter Try.func20, Try.ntmps20
  go_wp2_with fail
  try go_region
  all_goals try go_wp2
  all_goals refine bodyPost_ret (by simp [results, Try.results20, go_sem, *]; try rfl) rfl ?_
  all_goals refine ⟨_, _, _, rfl, CO.of (OwnB.zeros ?_ (by omega) ?_) (OwnB.zeros ?_ (by omega) ?_) (OwnB.zeros ?_ (by omega) ?_) ?_ ?_ ?_, by (repeat' (first | (with_reducible exact Below.refl _ _) | (with_reducible assumption) | (with_reducible exact bundrew (by assumption)) | (with_reducible refine balloc ?_ _) | (with_reducible refine bset ?_ _ ?_ _) | (with_reducible refine Below.drew ?_) | (with_reducible refine bdrewN ?_ _) | (with_reducible refine bvia (by assumption) ?_) | (with_reducible refine Below.trans ?_ (by assumption)) | omega | (simp; omega) | (simp; done)))⟩
  all_goals (repeat' (first | (exact heapN (by first | rfl | (simp; done) | omega | (simp; omega))) | (with_reducible refine heapS ?_ _ _ (by first | omega | (simp; done) | (simp; omega))) | (with_reducible refine heapD ?_) | (with_reducible refine heapDN ?_ _) | (with_reducible refine heapA ?_ _) | (with_reducible refine heapG ?_ (by assumption) (by first | omega | (simp; omega))) | omega | (simp; done) | (simp; omega)))
set_option maxHeartbeats 2000000 in
theorem none_spec (n : Nat) (w : World) (h1 : 1 ≤ n) (h8 : n ≤ 8) : Calls Try.prog 46 #[.int .i64 n] w (CallsOut w (List.replicate n false) (List.replicate n false) (List.replicate n false)) := by
  have a1 : inB (n : Int) 1 8 = true := inB_yes (by omega)
  have L1 : ∀ w : World, Calls Try.prog 22 #[.int .i64 n, .int .i64 1, .int .i64 8] w fun e w' => e = .returned (.bool true) ∧ w = w' := fun w => by have := l1In_any (n : Int) 1 8 w; rwa [a1] at this
  have HL := Lib.hid L1
  obtain ⟨i0, hi, hz0, hz1, hz2⟩ := info_parts infoBool
  have hmk : ∀ W : World, (Instr.makeSlice 27 (.int .i64 (n : Int)) (.int .i64 (n : Int))).run Try.prog W = .ok (.slice (some ⟨W.heap.size, 0, none⟩) n n) (W.alloc (.cells (madeCells #[.bool false] n) 4)) := fun W => by
    have h := make_row (P := Try.prog) 27 4 i0 _ Try.underlying27 hi hz0 n (by rw [hz2]; omega) (by omega) W
    rw [hz1, Nat.mul_one] at h
    exact h
  clear hi hz0 hz1 hz2 a1 L1
  go_enter Try.func46, Try.ntmps46
  go_wp2_with (go_at_call 22; refine (HL.out _).mono ?_; rintro e w' ⟨rfl, rfl⟩)
  try go_region
  all_goals try go_wp2
  all_goals refine bodyPost_ret (by simp [results, Try.results46, go_sem, *]; try rfl) rfl ?_
  all_goals refine ⟨_, _, _, rfl, CO.of (OwnB.zeros ?_ (by omega) ?_) (OwnB.zeros ?_ (by omega) ?_) (OwnB.zeros ?_ (by omega) ?_) ?_ ?_ ?_, by (repeat' (first | (with_reducible exact Below.refl _ _) | (with_reducible assumption) | (with_reducible exact bundrew (by assumption)) | (with_reducible refine balloc ?_ _) | (with_reducible refine bset ?_ _ ?_ _) | (with_reducible refine Below.drew ?_) | (with_reducible refine bdrewN ?_ _) | (with_reducible refine bvia (by assumption) ?_) | (with_reducible refine Below.trans ?_ (by assumption)) | omega | (simp; omega) | (simp; done)))⟩
  all_goals (repeat' (first | (exact heapN (by first | rfl | (simp; done) | omega | (simp; omega))) | (with_reducible refine heapS ?_ _ _ (by first | omega | (simp; done) | (simp; omega))) | (with_reducible refine heapD ?_) | (with_reducible refine heapDN ?_ _) | (with_reducible refine heapA ?_ _) | (with_reducible refine heapG ?_ (by assumption) (by first | omega | (simp; omega))) | omega | (simp; done) | (simp; omega)))

/-- 'append([]bool{}, ys...)' as a step of a region that draws its order. -/
theorem step_copy_bools {ops : Array Oper} {o : Oper} {a : Act} {K : Act → World → Prop} {Q : Exit → Act → World → Prop} {E : Prop} {w : World} (hgd : o.guard = none) (s x : Operand)
    (ho : o.op = .call { callee := .builtin .append, args := #[s, x], argTypes := #[27, 27] }) (w0 : World) (g0 : Nat) (A : Option Addr) (m c : Nat) (ys : List Bool) (hs : a.eval s = .slice (some ⟨g0, 0, none⟩) 0 0) (hx : a.eval x = .slice A m c)
    (hI : Bools w0 A m ys) (hm : 0 < m) (hn : m ≤ 1000000) (he : w.heap[g0]? = some (.cells #[] 4 (0, 0))) (hg0 : w0.heap.size ≤ g0) (hB : Below w0.heap.size w0 w)
    (h : ∀ g cap w', OwnB w' w0.heap.size (.slice (some ⟨g, 0, none⟩) m cap) ys → w.grownBy w' (some g0) → (g = g0 ∨ g = w.heap.size) → g < w'.heap.size → Below w0.heap.size w0 w' → K (a.put o.dst (.slice (some ⟨g, 0, none⟩) m cap)) w') : if Region.wanted o (yielded ops a.tmps) = true then Oper.wp Try.prog o a w K Q else E := by
  obtain ⟨i0, hi, hz0, hz1, hz2⟩ := info_parts infoBool
  obtain ⟨h1, h2, h3⟩ := hI.below hB
  obtain ⟨b, off, rfl, hb, hc⟩ := h3 hm
  have hown : OwnB w w0.heap.size (.slice (some ⟨g0, 0, none⟩) 0 0) [] := OwnB.made (xs := []) hg0 he (by unfold maxLen; decide)
  refine step_append_lies _ hgd s x 27 ho w0.heap.size 4 i0 (.bool false) 1 1 Try.underlying27 hi hz0 hz1 hz2 rfl (by decide) (.slice (some ⟨g0, 0, none⟩) 0 0) 0 [] hs hown ⟨b, off, none⟩ m c (ys.map Value.bool) hx (by simp [h1]) (fun j u hu => ?_) (fun u hu => ?_) hm ?_ ?_ hB.size _ rfl fun g cap w' k1 k2 k3 k4 => ?_
  · rw [List.getElem?_map] at hu
    have hj : j < m := by
      rcases Nat.lt_or_ge j ys.length with hl | hl
      · omega
      · rw [List.getElem?_eq_none hl] at hu; cases hu
    have e1 : (⟨b, off, none⟩ : Addr).add j = ⟨b, off + j, none⟩ := by
      unfold Addr.add
      by_cases h : j = 0
      · subst h; rfl
      · simp [h]
    rw [e1, hc j hj]
    rw [List.getElem?_eq_getElem (by omega)] at hu ⊢
    simpa using hu
  · obtain ⟨y, _, rfl⟩ := List.mem_map.1 hu
    rfl
  · unfold maxLen; omega
  · omega
  · have k0 : OwnB w' w0.heap.size (.slice (some ⟨g, 0, none⟩) m cap) ys := by
      unfold OwnB
      rw [h1]
      simpa using k1
    rw [Nat.zero_add]
    have k5 : g = g0 ∨ g = w.heap.size := by
      rcases k3 with k3 | k3
      · left
        have : g0 = g := by simpa [Value.ownBlock] using k3
        exact this.symm
      · exact .inr k3
    exact h g cap w' k0 k2 k5 k4 (hB.trans ((Below.refl _ _).grown k2 hB.size fun k hk => by have : g0 = k := by simpa [Value.ownBlock] using hk
                                                                                             omega))

/-- What l8Copy holds: the calls' box, the result's box. -/
structure CpSt (w W : World) (s1 s2 s3 : Value) : Prop where
  c0 : W.cell? ⟨w.heap.size, 0, none⟩ = some s1
  c1 : W.cell? ⟨w.heap.size, 1, none⟩ = some s2
  c2 : W.cell? ⟨w.heap.size, 2, none⟩ = some s3
  d0 : W.cell? ⟨w.heap.size + 1, 0, none⟩ = some (.slice none 0 0)
  d1 : W.cell? ⟨w.heap.size + 1, 1, none⟩ = some (.slice none 0 0)
  d2 : W.cell? ⟨w.heap.size + 1, 2, none⟩ = some (.slice none 0 0)
  df : ∀ o, W.frozen? ⟨w.heap.size + 1, o, none⟩ = false
  gl : w.heap.size + 1 < W.heap.size
theorem CpSt.drew {w W : World} {s1 s2 s3 : Value} (h : CpSt w W s1 s2 s3) : CpSt w W.drew s1 s2 s3 := ⟨h.c0, h.c1, h.c2, h.d0, h.d1, h.d2, h.df, h.gl⟩
theorem CpSt.drewN {w W : World} {s1 s2 s3 : Value} (h : CpSt w W s1 s2 s3) (m : Nat) : CpSt w (W.drewN m) s1 s2 s3 := ⟨h.c0, h.c1, h.c2, h.d0, h.d1, h.d2, h.df, h.gl⟩
theorem CpSt.grow {w W w' : World} {g0 : Nat} {s1 s2 s3 : Value} (h : CpSt w W s1 s2 s3) (r : W.grownBy w' (some g0)) (hg : w.heap.size + 1 < g0) : CpSt w w' s1 s2 s3 := by
  have e := h.gl
  have A : ∀ o, w'.cell? ⟨w.heap.size, o, none⟩ = W.cell? ⟨w.heap.size, o, none⟩ := fun o => r.cell_far ⟨w.heap.size, o, none⟩ (by simp; omega) (by simp; omega)
  have B : ∀ o, w'.cell? ⟨w.heap.size + 1, o, none⟩ = W.cell? ⟨w.heap.size + 1, o, none⟩ := fun o => r.cell_far ⟨w.heap.size + 1, o, none⟩ (by simp; omega) (by simp; omega)
  have C : ∀ o, w'.frozen? ⟨w.heap.size + 1, o, none⟩ = W.frozen? ⟨w.heap.size + 1, o, none⟩ := fun o => r.frozen_far ⟨w.heap.size + 1, o, none⟩ (by simp; omega) (by simp; omega)
  exact ⟨(A 0).trans h.c0, (A 1).trans h.c1, (A 2).trans h.c2, (B 0).trans h.d0, (B 1).trans h.d1, (B 2).trans h.d2, fun o => (C o).trans (h.df o), Nat.lt_of_lt_of_le e r.size⟩
theorem CpSt.alloc {w W : World} {s1 s2 s3 : Value} (h : CpSt w W s1 s2 s3) (o : Obj) : CpSt w (W.alloc o) s1 s2 s3 :=
  h.grow (g0 := w.heap.size + 2) (Below.refl W.heap.size W |>.alloc (Nat.le_refl _) o |> fun k => ⟨k.os, k.tape, k.output, k.size, fun i hi _ => k.block i hi⟩) (by omega)

end Go.Proofs.Ytmoifakcjmdghaa
