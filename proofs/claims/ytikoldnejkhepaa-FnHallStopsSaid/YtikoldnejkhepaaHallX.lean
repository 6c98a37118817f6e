/- The search of HallBest (the method place): its state. -/
import Derived.Test.YtikoldnejkhepaaOwnX
import Derived.Test.YtikoldnejkhepaaHallW
namespace Go.Proofs.Ytikoldnejkhepaa
open Go.ChangeShapes Go.WideShapes Go.ChangeAt Go.RowKit

/-- A slice of numbers in a block below B. -/
def IntsLt (w : World) (B : Nat) (A : Option Addr) (n : Nat) (xs : List Int) : Prop :=
  xs.length = n ∧ n ≤ 9223372036854775807 ∧ B ≤ w.heap.size ∧ (0 < n → ∃ b off : Nat, A = some ⟨b, off, none⟩ ∧ b < B ∧ ∀ j, j < n → w.cell? ⟨b, off + j, none⟩ = some (.int .i64 (xs[j]?.getD 0)))
theorem Ints.lt {w : World} {A : Option Addr} {n : Nat} {xs : List Int} (h : Ints w A n xs) : IntsLt w w.heap.size A n xs := ⟨h.1, h.2.1, Nat.le_refl _, h.2.2⟩
theorem IntsLt.ints {w : World} {B : Nat} {A : Option Addr} {n : Nat} {xs : List Int} (h : IntsLt w B A n xs) : Ints w A n xs := ⟨h.1, h.2.1, fun hn => by
  obtain ⟨b, off, hA, hb, hc⟩ := h.2.2.2 hn
  exact ⟨b, off, hA, Nat.lt_of_lt_of_le hb h.2.2.1, hc⟩⟩
theorem IntsLt.below {w w' : World} {B : Nat} {A : Option Addr} {n : Nat} {xs : List Int} (h : IntsLt w B A n xs) (hb : Below B w w') : IntsLt w' B A n xs := ⟨h.1, h.2.1, Nat.le_trans h.2.2.1 hb.size, fun hn => by
  obtain ⟨b, off, hA, hl, hc⟩ := h.2.2.2 hn
  exact ⟨b, off, hA, hl, fun j hj => (hb.cell (p := ⟨b, off + j, none⟩) hl).trans (hc j hj)⟩⟩

/-- The state of the search: the block g with its five parts, the rooms left, the riders put, the best list. -/
structure HSt (w : World) (B g gl base : Nat) (A : Option Addr) (ng cg m cl : Nat) (gs : List Int) (left put best : List Nat) (least : Nat) (pv bv : Value) : Prop where
  b1 : B ≤ g
  b2 : B ≤ gl
  b3 : g < base
  b4 : gl < base
  b5 : ¬ g = gl
  b6 : base ≤ w.heap.size
  H : Blk w g 44 #[.slice A ng cg, .slice (some ⟨gl, 0, none⟩) m cl, pv, bv, .int .i64 (least : Int)]
  L : OwnI w B (.slice (some ⟨gl, 0, none⟩) m cl) (nums left)
  P : OwnI w base pv (nums put)
  V : OwnI w base bv (nums best)
  ap : ∀ q, pv.ownBlock = some q → ¬ bv.ownBlock = some q
  G : IntsLt w B A ng gs
section
variable {w w' : World} {B g gl base : Nat} {A : Option Addr} {ng cg m cl : Nat} {gs : List Int} {left put best : List Nat} {least : Nat} {pv bv : Value}
theorem HSt.drewN (h : HSt w B g gl base A ng cg m cl gs left put best least pv bv) (k : Nat) : HSt (w.drewN k) B g gl base A ng cg m cl gs left put best least pv bv := ⟨h.b1, h.b2, h.b3, h.b4, h.b5, h.b6, h.H, h.L, h.P, h.V, h.ap, h.G⟩
theorem HSt.below (h : HSt w B g gl base A ng cg m cl gs left put best least pv bv) (hb : Below w.heap.size w w') : HSt w' B g gl base A ng cg m cl gs left put best least pv bv :=
  ⟨h.b1, h.b2, h.b3, h.b4, h.b5, Nat.le_trans h.b6 hb.size, h.H.below_ hb, h.L.below hb, h.P.below hb, h.V.below hb, h.ap, h.G.below (below_le h.G.2.2.1 hb)⟩
theorem below_set {n : Nat} {a : World} (p : Addr) (hp : n ≤ p.block) (u : Value) : Below n a (a.setCell p u) := (Below.refl n a).setCell hp u
theorem own_ne {w : World} {base : Nat} {v : Value} {xs : List Int} (h : OwnI w base v xs) {q : Nat} (hq : q < base) : v.ownBlock ≠ some q := fun e => by have := h.block q e; omega
theorem HSt.setLeft (h : HSt w B g gl base A ng cg m cl gs left put best least pv bv) (c y : Nat) (hc : c < left.length) : HSt (w.setCell ⟨gl, c, none⟩ (.int .i64 (y : Int))) B g gl base A ng cg m cl gs (left.set c y) put best least pv bv := by
  have hl : OwnI (w.setCell ⟨gl, c, none⟩ (.int .i64 (y : Int))) B (.slice (some ⟨gl, 0, none⟩) m cl) (nums (left.set c y)) := by
    have := h.L.put (i := c) (y : Int) (by rw [nums_length]; exact hc)
    have e : (nums left).set c (y : Int) = nums (left.set c y) := by unfold nums; rw [List.map_set]
    rwa [e] at this
  exact ⟨h.b1, h.b2, h.b3, h.b4, h.b5, by have := h.b6; simpa [World.setCell] using this, h.H.far (p := ⟨gl, c, none⟩) h.b5 _, hl, h.P.fixed ⟨gl, c, none⟩ (own_ne h.P h.b4) _, h.V.fixed ⟨gl, c, none⟩ (own_ne h.V h.b4) _, h.ap, h.G.below (below_set _ h.b2 _)⟩
theorem HSt.setG (h : HSt w B g gl base A ng cg m cl gs left put best least pv bv) (i : Nat) (u : Value) {put' best' : List Nat} {least' : Nat} {pv' bv' : Value}
    (hH : (#[.slice A ng cg, .slice (some ⟨gl, 0, none⟩) m cl, pv, bv, .int .i64 (least : Int)] : Array Value).setIfInBounds i u = #[.slice A ng cg, .slice (some ⟨gl, 0, none⟩) m cl, pv', bv', .int .i64 (least' : Int)])
    (hP : OwnI w base pv' (nums put')) (hV : OwnI w base bv' (nums best')) (ap : ∀ q, pv'.ownBlock = some q → ¬ bv'.ownBlock = some q) :
    HSt (w.setCell ⟨g, i, none⟩ u) B g gl base A ng cg m cl gs left put' best' least' pv' bv' :=
  ⟨h.b1, h.b2, h.b3, h.b4, h.b5, by have := h.b6; simpa [World.setCell] using this, by have := h.H.set_ i u; rwa [hH] at this,
    h.L.fixed ⟨g, i, none⟩ (by simp [Value.ownBlock]; exact fun e => h.b5 e.symm) _, hP.fixed ⟨g, i, none⟩ (own_ne hP h.b3) _, hV.fixed ⟨g, i, none⟩ (own_ne hV h.b3) _, ap, h.G.below (below_set _ h.b1 _)⟩
theorem HSt.grownCells (h : HSt w B g gl base A ng cg m cl gs left put best least pv bv) (hg : w.grownBy w' pv.ownBlock) : ∀ i, w'.cell? ⟨g, i, none⟩ = w.cell? ⟨g, i, none⟩ ∧ w'.frozen? ⟨g, i, none⟩ = w.frozen? ⟨g, i, none⟩ := fun i => by
  have := hg.block g h.H.lt (fun e => own_ne h.P h.b3 e.symm)
  exact ⟨World.cell?_of_block this, World.frozen?_of_block this⟩
theorem HSt.push (h : HSt w B g gl base A ng cg m cl gs left put best least pv bv) (hg : w.grownBy w' pv.ownBlock) {v' : Value} {put' : List Nat} (hv : OwnI w' base v' (nums put')) (hn : ∀ q, v'.ownBlock = some q → pv.ownBlock = some q ∨ w.heap.size ≤ q) :
    HSt (w'.setCell ⟨g, 2, none⟩ v') B g gl base A ng cg m cl gs left put' best least v' bv := by
  have hH : Blk w' g 44 #[.slice A ng cg, .slice (some ⟨gl, 0, none⟩) m cl, pv, bv, .int .i64 (least : Int)] := (hg.block g h.H.lt (fun e => own_ne h.P h.b3 e.symm)).trans h.H
  have hL : OwnI w' B (.slice (some ⟨gl, 0, none⟩) m cl) (nums left) := h.L.keep fun q hq hlt => hg.block q hlt (fun e => by
    have e1 : q = gl := by simpa [Value.ownBlock] using hq.symm
    subst e1
    exact own_ne h.P h.b4 e.symm)
  have hV : OwnI w' base bv (nums best) := h.V.keep fun q hq hlt => hg.block q hlt (fun e => h.ap q e.symm hq)
  have hBl : Below B w w' := (Below.refl B w).grown hg h.G.2.2.1 (fun k hk => by have := h.P.block k hk; have := h.b1; have := h.b3; omega)
  have ap : ∀ q, v'.ownBlock = some q → ¬ bv.ownBlock = some q := fun q hq hb => by
    rcases hn q hq with e | e
    · exact h.ap q e hb
    · have := h.V.up.2 q hb
      omega
  exact ⟨h.b1, h.b2, h.b3, h.b4, h.b5, by have := h.b6; have := hg.size; simp [World.setCell]; omega, by have := hH.set_ 2 v'; exact this,
    hL.fixed ⟨g, 2, none⟩ (by simp [Value.ownBlock]; exact fun e => h.b5 e.symm) _, hv.fixed ⟨g, 2, none⟩ (own_ne hv h.b3) _, hV.fixed ⟨g, 2, none⟩ (own_ne hV h.b3) _, ap, (h.G.below hBl).below (below_set _ h.b1 _)⟩
/-- What the walk reads of the state. -/
theorem HSt.cells (h : HSt w B g gl base A ng cg m cl gs left put best least pv bv) : w.cell? ⟨g, 0, none⟩ = some (.slice A ng cg) ∧ w.cell? ⟨g, 1, none⟩ = some (.slice (some ⟨gl, 0, none⟩) m cl) ∧ w.cell? ⟨g, 2, none⟩ = some pv ∧ w.cell? ⟨g, 3, none⟩ = some bv ∧ w.cell? ⟨g, 4, none⟩ = some (.int .i64 (least : Int)) ∧ (∀ i, w.frozen? ⟨g, i, none⟩ = false) ∧ m = left.length :=
  ⟨h.H.cell 0, h.H.cell 1, h.H.cell 2, h.H.cell 3, h.H.cell 4, h.H.frozen, by have := h.L.ints.1; rwa [nums_length] at this⟩
end
end Go.Proofs.Ytikoldnejkhepaa
