/- Drawn calls: contract. -/
import Derived.Test.YtmoifakcjmdghaaFtL
import Derived.Deep.RegionHeld3
namespace Go.Proofs.Ytmoifakcjmdghaa
open Go.ChangeShapes Go.WideShapes Go.ChangeAt Go.RowKit

theorem cvB_none (n : Nat) (h1 : 1 ≤ n) (h8 : n ≤ 8) : cvB (List.replicate n false) (List.replicate n false) (List.replicate n false) = true := by
  have : n = 1 ∨ n = 2 ∨ n = 3 ∨ n = 4 ∨ n = 5 ∨ n = 6 ∨ n = 7 ∨ n = 8 := by omega
  rcases this with rfl | rfl | rfl | rfl | rfl | rfl | rfl | rfl <;> decide

/-- What l20Calls holds: the calls, their box, the result's box; the reader has gone on. -/
structure LcSt (w W : World) (r g n : Nat) (A1 : Option Addr) (c1 : Nat) (us : List Bool) (A2 : Option Addr) (c2 : Nat) (ds : List Bool) (A3 : Option Addr) (c3 : Nat) (cs : List Bool) : Prop where
  co : CO W (w.heap.size + 1) (.slice A1 n c1) (.slice A2 n c2) (.slice A3 n c3) us ds cs
  n1 : (Value.slice A1 n c1).ownBlock ≠ some g
  n2 : (Value.slice A2 n c2).ownBlock ≠ some g
  n3 : (Value.slice A3 n c3).ownBlock ≠ some g
  k0 : W.cell? ⟨g, 0, none⟩ = some (.slice A1 n c1)
  k1 : W.cell? ⟨g, 1, none⟩ = some (.slice A2 n c2)
  k2 : W.cell? ⟨g, 2, none⟩ = some (.slice A3 n c3)
  kf : ∀ o, W.frozen? ⟨g, o, none⟩ = false
  r0 : W.cell? ⟨w.heap.size, 0, none⟩ = some (.slice none 0 0)
  r1 : W.cell? ⟨w.heap.size, 1, none⟩ = some (.slice none 0 0)
  r2 : W.cell? ⟨w.heap.size, 2, none⟩ = some (.slice none 0 0)
  rf : ∀ o, W.frozen? ⟨w.heap.size, o, none⟩ = false
  only : Only r w W
  gl : g < W.heap.size
  wl : w.heap.size < g
  rl : r < w.heap.size
theorem LcSt.step {w W W' : World} {r g n : Nat} {A1 : Option Addr} {c1 : Nat} {us : List Bool} {A2 : Option Addr} {c2 : Nat} {ds : List Bool} {A3 : Option Addr} {c3 : Nat} {cs : List Bool} (h : LcSt w W r g n A1 c1 us A2 c2 ds A3 c3 cs) (o : Only r W W') : LcSt w W' r g n A1 c1 us A2 c2 ds A3 c3 cs := by
  have e1 := h.gl
  have e2 := h.wl
  have e3 := h.rl
  have A := fun j => o.cell g j e1 (by omega)
  have B := fun j => o.cell w.heap.size j (by omega) (by omega)
  exact ⟨h.co.only o (by omega), h.n1, h.n2, h.n3, (A 0).trans h.k0, (A 1).trans h.k1, (A 2).trans h.k2, fun j => (o.frozen g j e1 (by omega)).trans (h.kf j), (B 0).trans h.r0, (B 1).trans h.r1, (B 2).trans h.r2, fun j => (o.frozen w.heap.size j (by omega) (by omega)).trans (h.rf j), h.only.trans o, Nat.lt_of_lt_of_le e1 o.size, e2, e3⟩
theorem LcSt.below {w W W' : World} {r g n : Nat} {A1 : Option Addr} {c1 : Nat} {us : List Bool} {A2 : Option Addr} {c2 : Nat} {ds : List Bool} {A3 : Option Addr} {c3 : Nat} {cs : List Bool} (h : LcSt w W r g n A1 c1 us A2 c2 ds A3 c3 cs) (hb : Below W.heap.size W W') : LcSt w W' r g n A1 c1 us A2 c2 ds A3 c3 cs := h.step (Only.of_below hb)
theorem LcSt.alloc {w W : World} {r g n : Nat} {A1 : Option Addr} {c1 : Nat} {us : List Bool} {A2 : Option Addr} {c2 : Nat} {ds : List Bool} {A3 : Option Addr} {c3 : Nat} {cs : List Bool} (h : LcSt w W r g n A1 c1 us A2 c2 ds A3 c3 cs) (x : Obj) : LcSt w (W.alloc x) r g n A1 c1 us A2 c2 ds A3 c3 cs := h.below ((Below.refl _ _).alloc (Nat.le_refl _) x)
theorem LcSt.drew {w W : World} {r g n : Nat} {A1 : Option Addr} {c1 : Nat} {us : List Bool} {A2 : Option Addr} {c2 : Nat} {ds : List Bool} {A3 : Option Addr} {c3 : Nat} {cs : List Bool} (h : LcSt w W r g n A1 c1 us A2 c2 ds A3 c3 cs) : LcSt w W.drew r g n A1 c1 us A2 c2 ds A3 c3 cs := h.below ((Below.refl _ _).drew)
theorem LcSt.drewN {w W : World} {r g n : Nat} {A1 : Option Addr} {c1 : Nat} {us : List Bool} {A2 : Option Addr} {c2 : Nat} {ds : List Bool} {A3 : Option Addr} {c3 : Nat} {cs : List Bool} (h : LcSt w W r g n A1 c1 us A2 c2 ds A3 c3 cs) (m : Nat) : LcSt w (W.drewN m) r g n A1 c1 us A2 c2 ds A3 c3 cs := h.below (bdrewN (Below.refl _ _) m)
theorem LcSt.cells {w W : World} {r g n : Nat} {A1 : Option Addr} {c1 : Nat} {us : List Bool} {A2 : Option Addr} {c2 : Nat} {ds : List Bool} {A3 : Option Addr} {c3 : Nat} {cs : List Bool} (h : LcSt w W r g n A1 c1 us A2 c2 ds A3 c3 cs) : W.cell? ⟨g, 0, none⟩ = some (.slice A1 n c1) ∧ W.cell? ⟨g, 1, none⟩ = some (.slice A2 n c2) ∧ W.cell? ⟨g, 2, none⟩ = some (.slice A3 n c3) := ⟨h.k0, h.k1, h.k2⟩
theorem LcSt.put {w W : World} {r g n : Nat} {A1 : Option Addr} {c1 : Nat} {us : List Bool} {A2 : Option Addr} {c2 : Nat} {ds : List Bool} {A3 : Option Addr} {c3 : Nat} {cs : List Bool} (h : LcSt w W r g n A1 c1 us A2 c2 ds A3 c3 cs)
    {B1 : Option Addr} {k1 : Nat} {us' : List Bool} {B2 : Option Addr} {k2 : Nat} {ds' : List Bool} {B3 : Option Addr} {k3 : Nat} {cs' : List Bool} (hc : CO W (w.heap.size + 1) (.slice B1 n k1) (.slice B2 n k2) (.slice B3 n k3) us' ds' cs')
    (e1 : (Value.slice B1 n k1).ownBlock ≠ some g) (e2 : (Value.slice B2 n k2).ownBlock ≠ some g) (e3 : (Value.slice B3 n k3).ownBlock ≠ some g) :
    LcSt w (((W.setCell ⟨g, 0, none⟩ (.slice B1 n k1)).setCell ⟨g, 1, none⟩ (.slice B2 n k2)).setCell ⟨g, 2, none⟩ (.slice B3 n k3)) r g n B1 k1 us' B2 k2 ds' B3 k3 cs' := by
  obtain ⟨co, n1, n2, n3, m0, m1, m2, kf, r0, r1, r2, rf, only, gl, wl, rl⟩ := h
  have x1 : ¬ g = w.heap.size := by omega
  have x2 : ¬ w.heap.size = g := by omega
  exact ⟨((hc.fixed _ e1 e2 e3 _).fixed _ e1 e2 e3 _).fixed _ e1 e2 e3 _, e1, e2, e3, by go_simp, by go_simp, by go_simp, fun o => by go_simp, by go_simp, by go_simp, by go_simp, fun o => by go_simp,
    ((only.set _ (.inr (by simp; omega)) _).set _ (.inr (by simp; omega)) _).set _ (.inr (by simp; omega)) _, by simpa using gl, wl, rl⟩

theorem set_any (A1 : Option Addr) (n c1 : Nat) (us : List Bool) (A2 : Option Addr) (c2 : Nat) (ds : List Bool) (A3 : Option Addr) (c3 : Nat) (cs : List Bool) (x f : Int) (w : World) (h : BC w A1 n us A2 n ds A3 n cs) (hv : cvB us ds cs = true) (x0 : 0 ≤ x) (x1 : x < 3) (f0 : 0 ≤ f) (f1 : f < (n : Int)) :
    Calls Try.prog 47 #[.agg #[.slice A1 n c1, .slice A2 n c2, .slice A3 n c3], .int .i64 x, .int .i64 f, .bool true] w (SetOut w n) := by
  obtain ⟨k, rfl⟩ := Int.eq_ofNat_of_zero_le f0
  have hx : x = 0 ∨ x = 1 ∨ x = 2 := by omega
  rcases hx with rfl | rfl | rfl
  · exact set_0 A1 n c1 us A2 c2 ds A3 c3 cs k w h hv (by omega)
  · exact set_1 A1 n c1 us A2 c2 ds A3 c3 cs k w h hv (by omega)
  · exact set_2 A1 n c1 us A2 c2 ds A3 c3 cs k w h hv (by omega)
theorem rd_alloc' {w : World} {r N : Nat} (h : Rd w r N) (o : Obj) : Rd (w.alloc o) r N := h.below ((Below.refl _ _).alloc (Nat.le_refl _) o)
theorem rd_drew' {w : World} {r N : Nat} (h : Rd w r N) : Rd w.drew r N := h

theorem rd_set1 {w : World} {r N : Nat} (h : Rd w r N) (p : Addr) (hp : r < p.block) (u : Value) : Rd (w.setCell p u) r N := h.above ((Below.refl _ _).setCell (by omega) u)
theorem OwnB.ne {w : World} {base b : Nat} {v : Value} {xs : List Bool} (h : OwnB w base v xs) (hb : b < base ∨ w.heap.size ≤ b) : v.ownBlock ≠ some b := fun e => by
  rcases h.form with ⟨h1, h2⟩ | ⟨g, cap, cur, h1, h2, h3, _⟩
  · subst h1; simp [Value.ownBlock] at e
  · subst h1
    have : g = b := by simpa [Value.ownBlock] using e
    subst this
    have := (Array.getElem?_eq_some_iff.1 h3).1
    omega
theorem CO.stay {w : World} {base b : Nat} {v1 v2 v3 : Value} {us ds cs : List Bool} (h : CO w base v1 v2 v3 us ds cs) (hb : b < base ∨ w.heap.size ≤ b) (x y z : Value) : CO (((w.setCell ⟨b, 0, none⟩ x).setCell ⟨b, 1, none⟩ y).setCell ⟨b, 2, none⟩ z) base v1 v2 v3 us ds cs :=
  ((h.fixed _ (h.u.ne hb) (h.d.ne hb) (h.c.ne hb) _).fixed _ (h.u.ne hb) (h.d.ne hb) (h.c.ne hb) _).fixed _ (h.u.ne hb) (h.d.ne hb) (h.c.ne hb) _

/-- A new box for calls. -/
def T9 (W : World) (b : Nat) : Prop := W.cell? ⟨b, 0, none⟩ = some (.slice none 0 0) ∧ W.cell? ⟨b, 1, none⟩ = some (.slice none 0 0) ∧ W.cell? ⟨b, 2, none⟩ = some (.slice none 0 0) ∧ (∀ o, W.frozen? ⟨b, o, none⟩ = false) ∧ b < W.heap.size
theorem T9.new (W : World) : T9 (W.alloc (.cells #[.slice none 0 0, .slice none 0 0, .slice none 0 0] 34)) W.heap.size := ⟨by go_simp, by go_simp, by go_simp, fun o => by go_simp, by simp⟩
theorem T9.only {W W' : World} {r b : Nat} (h : T9 W b) (o : Only r W W') (hr : ¬ b = r) : T9 W' b := by
  obtain ⟨h0, h1, h2, h3, h4⟩ := h
  exact ⟨(o.cell b 0 h4 hr).trans h0, (o.cell b 1 h4 hr).trans h1, (o.cell b 2 h4 hr).trans h2, fun j => (o.frozen b j h4 hr).trans (h3 j), Nat.lt_of_lt_of_le h4 o.size⟩

theorem LcSt.res {w W : World} {r g n : Nat} {A1 : Option Addr} {c1 : Nat} {us : List Bool} {A2 : Option Addr} {c2 : Nat} {ds : List Bool} {A3 : Option Addr} {c3 : Nat} {cs : List Bool} (h : LcSt w W r g n A1 c1 us A2 c2 ds A3 c3 cs) : W.cell? ⟨w.heap.size, 0, none⟩ = some (.slice none 0 0) ∧ W.cell? ⟨w.heap.size, 1, none⟩ = some (.slice none 0 0) ∧ W.cell? ⟨w.heap.size, 2, none⟩ = some (.slice none 0 0) ∧ ∀ o, W.frozen? ⟨w.heap.size, o, none⟩ = false := ⟨h.r0, h.r1, h.r2, h.rf⟩
theorem lc_len {w W : World} {r g n : Nat} {A1 : Option Addr} {c1 : Nat} {us : List Bool} {A2 : Option Addr} {c2 : Nat} {ds : List Bool} {A3 : Option Addr} {c3 : Nat} {cs : List Bool} (h : LcSt w W r g n A1 c1 us A2 c2 ds A3 c3 cs) (_ : cvB us ds cs = true) : us.length = n ∧ ds.length = n ∧ cs.length = n := ⟨h.co.bc.u.1, h.co.bc.d.1, h.co.bc.c.1⟩
/-- Drawn calls. -/
def CallsDrawn (w : World) (r N : Nat) (e : Ending) (w' : World) : Prop := ∃ (v1 v2 v3 : Value) (us ds cs : List Bool), e = .returned (.agg #[v1, v2, v3]) ∧ OwnB w' w.heap.size v1 us ∧ OwnB w' w.heap.size v2 ds ∧ OwnB w' w.heap.size v3 cs ∧ cs.length ≤ 9 ∧ Only r w w' ∧ Rd w' r (N + 30)

theorem drawn_done {w W : World} {r N M : Nat} {v1 v2 v3 : Value} {us ds cs : List Bool} (co : CO W (w.heap.size + 1) v1 v2 v3 us ds cs) (hc : cs.length ≤ 9) (o : Only r w W) (rd : Rd W r M) (hM : M ≤ N + 30) (rl : r < w.heap.size) (x y z : Value) :
    CallsDrawn w r N (.returned (.agg #[v1, v2, v3])) (((W.setCell ⟨w.heap.size, 0, none⟩ x).setCell ⟨w.heap.size, 1, none⟩ y).setCell ⟨w.heap.size, 2, none⟩ z) := by
  have co' := co.stay (b := w.heap.size) (.inl (by omega)) x y z
  exact ⟨v1, v2, v3, us, ds, cs, rfl, co'.u.lower (by omega), co'.d.lower (by omega), co'.c.lower (by omega), hc,
    ((o.set _ (.inr (Nat.le_refl _)) _).set _ (.inr (Nat.le_refl _)) _).set _ (.inr (Nat.le_refl _)) _, Rd.mono (rd_set1 (rd_set1 (rd_set1 rd _ rl _) _ rl _) _ rl _) hM⟩
theorem OwnB.ne_cell {w : World} {base b n c : Nat} {A : Option Addr} {v : Value} {xs : List Bool} (h : OwnB w base v xs) (h0 : 0 < xs.length) (hc : w.cell? ⟨b, 0, none⟩ = some (.slice A n c)) : v.ownBlock ≠ some b := fun e => by
  obtain ⟨g, k, rfl⟩ := h.some_ rfl h0
  have : g = b := by simpa [Value.ownBlock] using e
  subst this
  rw [(h.at_ h0).1] at hc
  cases hc
theorem bools_one (w : World) (y : Bool) : Bools (w.alloc (.cells #[.bool y] 4)) (some ⟨w.heap.size, 0, none⟩) 1 [y] :=
  ⟨rfl, by omega, fun _ => ⟨w.heap.size, 0, rfl, by simp, fun j hj => by
    have : j = 0 := by omega
    subst this
    go_simp⟩⟩
theorem only_grown {r g : Nat} {w W w' : World} (h : Only r w W) (G : W.grownBy w' (some g)) (hg : w.heap.size ≤ g) : Only r w w' :=
  ⟨G.os.trans h.os, G.tape.trans h.tape, G.output.trans h.output, Nat.le_trans h.size G.size, fun i hi hn => (G.block i (Nat.lt_of_lt_of_le hi h.size) (by intro e; injection e; omega)).trans (h.block i hi hn)⟩
theorem rd_grown {r g N : Nat} {W w' : World} (h : Rd W r N) (G : W.grownBy w' (some g)) (hg : r < g) : Rd w' r N :=
  h.above ((Below.refl (r + 1) W).grown G h.lt (fun k hk => by injection hk; omega))
/-- What an append leaves of a block that is not the list's. -/
theorem grown_facts {g b : Nat} {W w' : World} (G : W.grownBy w' (some g)) (hb : b < W.heap.size) (hn : ¬ b = g) : (∀ o, w'.cell? ⟨b, o, none⟩ = W.cell? ⟨b, o, none⟩) ∧ (∀ o, w'.frozen? ⟨b, o, none⟩ = W.frozen? ⟨b, o, none⟩) ∧ b < w'.heap.size :=
  ⟨fun o => G.cell_far ⟨b, o, none⟩ hb (by intro e; injection e; exact hn ‹_›), fun o => G.frozen_far ⟨b, o, none⟩ hb (by intro e; injection e; exact hn ‹_›), Nat.lt_of_lt_of_le hb G.size⟩
theorem drawn_app {w W : World} {r N M g : Nat} {v1 v2 v3 : Value} {us ds cs : List Bool} (h1 : OwnB W (w.heap.size + 1) v1 us) (h2 : OwnB W (w.heap.size + 1) v2 ds) (h3 : OwnB W (w.heap.size + 1) v3 cs) (e1 : v1.ownBlock ≠ some g) (e2 : v2.ownBlock ≠ some g) (e3 : v3.ownBlock ≠ some g)
    (hc : cs.length ≤ 9) (o : Only r w W) (rd : Rd W r M) (hM : M ≤ N + 30) (rl : r < w.heap.size) (hg : w.heap.size < g) (u x y z : Value) :
    CallsDrawn w r N (.returned (.agg #[v1, v2, v3])) ((((W.setCell ⟨g, 2, none⟩ u).setCell ⟨w.heap.size, 0, none⟩ x).setCell ⟨w.heap.size, 1, none⟩ y).setCell ⟨w.heap.size, 2, none⟩ z) := by
  have K : ∀ {v : Value} {xs : List Bool}, OwnB W (w.heap.size + 1) v xs → v.ownBlock ≠ some g → OwnB ((((W.setCell ⟨g, 2, none⟩ u).setCell ⟨w.heap.size, 0, none⟩ x).setCell ⟨w.heap.size, 1, none⟩ y).setCell ⟨w.heap.size, 2, none⟩ z) w.heap.size v xs := fun {v xs} h e => by
    have q : v.ownBlock ≠ some w.heap.size := h.ne (.inl (by omega))
    exact ((((h.fixed ⟨g, 2, none⟩ e u).fixed ⟨w.heap.size, 0, none⟩ q x).fixed ⟨w.heap.size, 1, none⟩ q y).fixed ⟨w.heap.size, 2, none⟩ q z).lower (by omega)
  exact ⟨v1, v2, v3, us, ds, cs, rfl, K h1 e1, K h2 e2, K h3 e3, hc,
    (((o.set _ (.inr (Nat.le_of_lt hg)) _).set _ (.inr (Nat.le_refl _)) _).set _ (.inr (Nat.le_refl _)) _).set _ (.inr (Nat.le_refl _)) _, Rd.mono (rd_set1 (rd_set1 (rd_set1 (rd_set1 rd _ (by simp; omega) _) _ rl _) _ rl _) _ rl _) hM⟩
set_option maxRecDepth 100000 in
set_option maxHeartbeats 8000000 in
theorem l20Calls_any (r N n : Nat) (w : World) (h : Rd w r N) (hN : N ≤ 1000) (h1 : 1 ≤ n) (h8 : n ≤ 8) : Calls Try.prog 42 #[.pointer (some ⟨r, 0, none⟩), .int .i64 n, .int .i64 14] w (CallsDrawn w r N) := by
  have hr := h.lt
  have a1 : 1 ≤ (n : Int) := by omega
  have a8 : (n : Int) ≤ 8 := by omega
  go_enter Try.func42, Try.ntmps42
  go_wp2_with fail
  refine (none_spec n _ h1 h8).mono ?_
  rintro e w1 ⟨v1, v2, v3, rfl, co1, hb1⟩
  obtain ⟨hc1, hf1, -, -, -, hs1⟩ := bfacts5 hb1
  simp at hs1
  obtain ⟨g1, c1, rfl⟩ := co1.u.some_ (n := n) (by simp) (by omega)
  obtain ⟨g2, c2, rfl⟩ := co1.d.some_ (n := n) (by simp) (by omega)
  obtain ⟨g3, c3, rfl⟩ := co1.c.some_ (n := n) (by simp) (by omega)
  obtain ⟨-, -, l1, y1⟩ := co1.u.at_ (i := 0) (by simp; omega)
  obtain ⟨-, -, l2, y2⟩ := co1.d.at_ (i := 0) (by simp; omega)
  obtain ⟨-, -, l3, y3⟩ := co1.c.at_ (i := 0) (by simp; omega)
  simp at y1 y2 y3
  have q0 : w.heap.size < w1.heap.size := by omega
  have L0 : LcSt w (w1.alloc (.cells #[.slice (some ⟨g1, 0, none⟩) n c1, .slice (some ⟨g2, 0, none⟩) n c2, .slice (some ⟨g3, 0, none⟩) n c3] 34)) r w1.heap.size n (some ⟨g1, 0, none⟩) c1 (List.replicate n false) (some ⟨g2, 0, none⟩) c2 (List.replicate n false) (some ⟨g3, 0, none⟩) c3 (List.replicate n false) := by
    have e0 : w1.cell? ⟨w.heap.size, 0, none⟩ = some (.slice none 0 0) := by rw [hc1 _ _ (by simp)]; go_simp
    have e1 : w1.cell? ⟨w.heap.size, 1, none⟩ = some (.slice none 0 0) := by rw [hc1 _ _ (by simp)]; go_simp
    have e2 : w1.cell? ⟨w.heap.size, 2, none⟩ = some (.slice none 0 0) := by rw [hc1 _ _ (by simp)]; go_simp
    have e3 : ∀ o, w1.frozen? ⟨w.heap.size, o, none⟩ = false := fun o => by rw [hf1 _ _ (by simp)]; go_simp
    have B1 : Below w.heap.size w w1 := by (repeat' (first | (with_reducible exact Below.refl _ _) | (with_reducible assumption) | (with_reducible exact bundrew (by assumption)) | (with_reducible refine balloc ?_ _) | (with_reducible refine bset ?_ _ ?_ _) | (with_reducible refine Below.drew ?_) | (with_reducible refine bdrewN ?_ _) | (with_reducible refine bvia (by assumption) ?_) | (with_reducible refine Below.trans ?_ (by assumption)) | omega | (simp; omega) | (simp; done)))
    exact ⟨(co1.lower (by simp)).alloc _, by simp [Value.ownBlock]; omega, by simp [Value.ownBlock]; omega, by simp [Value.ownBlock]; omega, by go_simp, by go_simp, by go_simp, fun o => by go_simp, by go_simp, by go_simp, by go_simp, fun o => by go_simp, (Only.of_below B1).alloc _, by simp, q0, hr⟩
  have R0 : Rd (w1.alloc (.cells #[.slice (some ⟨g1, 0, none⟩) n c1, .slice (some ⟨g2, 0, none⟩) n c2, .slice (some ⟨g3, 0, none⟩) n c3] 34)) r N := (h.below (by (repeat' (first | (with_reducible exact Below.refl _ _) | (with_reducible assumption) | (with_reducible exact bundrew (by assumption)) | (with_reducible refine balloc ?_ _) | (with_reducible refine bset ?_ _ ?_ _) | (with_reducible refine Below.drew ?_) | (with_reducible refine bdrewN ?_ _) | (with_reducible refine bvia (by assumption) ?_) | (with_reducible refine Below.trans ?_ (by assumption)) | omega | (simp; omega) | (simp; done))))).below ((Below.refl _ _).alloc (Nat.le_refl _) _)
  have hcv := cvB_none n h1 h8
  obtain ⟨W, hW⟩ : ∃ W : World, W = w1.alloc (.cells #[.slice (some ⟨g1, 0, none⟩) n c1, .slice (some ⟨g2, 0, none⟩) n c2, .slice (some ⟨g3, 0, none⟩) n c3] 34) := ⟨_, rfl⟩
  rw [← hW] at L0 R0
  go_wp2_with fail
  rw [← hW]
  clear hW co1 hb1 hc1 hf1 l1 l2 l3 y1 y2 y3 hs1 h
  obtain ⟨g, hg⟩ : ∃ g, w1.heap.size = g := ⟨_, rfl⟩
  rw [hg] at L0 q0 ⊢
  clear hg
  refine (pick_any r N 8 _ R0 (by omega) (by omega) (by omega)).mono ?_
  rintro e w2 ⟨a, rfl, ha0, ha1, ow2, rd2⟩
  have L2 := L0.step ow2
  clear L0 R0 ow2
  go_wp2_with fail
  go_loopw [8] (fun i wr => ∃ (j : Nat) (A1 : Option Addr) (c1 : Nat) (us : List Bool) (A2 : Option Addr) (c2 : Nat) (ds : List Bool) (A3 : Option Addr) (c3 : Nat) (cs : List Bool), i = .int .i64 j ∧ j ≤ 7 ∧ LcSt w wr r g n A1 c1 us A2 c2 ds A3 c3 cs ∧ cvB us ds cs = true ∧ Rd wr r (N + 1 + 2 * (7 - j))) (fun i _ => (intOf i).toNat)
  case atStart =>
    obtain ⟨j, rfl⟩ := Int.eq_ofNat_of_zero_le ha0
    exact ⟨j, _, _, _, _, _, _, _, _, _, rfl, by omega, L2, hcv, rd2.mono (by omega)⟩
  case round =>
    clear L2 rd2 hcv ha0 ha1
    obtain ⟨j, A1, c1, us, A2, c2, ds, A3, c3, cs, rfl, hj, LS, hv, RD⟩ := hrel
    obtain ⟨k0, k1, k2⟩ := LS.cells
    have gl := LS.gl
    by_cases hj0 : j = 0
    · subst hj0
      obtain ⟨hl1, hl2, hl3⟩ := lc_len LS hv
      obtain ⟨g1, _, e1⟩ := LS.co.u.some_ hl1 (by omega)
      obtain ⟨g2, _, e2⟩ := LS.co.d.some_ hl2 (by omega)
      obtain ⟨g3, _, e3⟩ := LS.co.c.some_ hl3 (by omega)
      obtain rfl : A1 = some ⟨g1, 0, none⟩ := by injection e1
      obtain rfl : A2 = some ⟨g2, 0, none⟩ := by injection e2
      obtain rfl : A3 = some ⟨g3, 0, none⟩ := by injection e3
      clear e1 e2 e3 hv hj
      have n1 : 0 < (n : Int) := by omega
      go_wp2_with fail
      refine (odd_any r (N + 15) _ _ (RD.mono (by omega)) (by omega) (by omega) (by omega)).mono ?_
      rintro e w3 ⟨b, rfl, ow3, rd3⟩
      have L3 := LS.step ow3
      clear LS RD k0 k1 k2 gl
      obtain ⟨k0, k1, k2⟩ := L3.cells
      obtain ⟨r0, r1, r2, rf⟩ := L3.res
      have ne := L3.wl
      have gl := L3.gl
      have ne1 : ¬ w.heap.size = g := by omega
      have ne2 : ¬ g = w.heap.size := by omega
      have HL3 := Lib.hid L3
      have HR3 := Lib.hid rd3
      clear L3 rd3 ow3
      cases b
      · go_wp2
        refine bodyPost_ret (by simp [results, Try.results42, go_sem, *]; try rfl) rfl ?_
        exact drawn_done HL3.out.co (by omega) HL3.out.only HR3.out (by omega) hr _ _ _
      · go_wp2_with fail
        refine (pick_any r (N + 16) 4 _ HR3.out (by omega) (by omega) (by omega)).mono ?_
        rintro e w4 ⟨a, rfl, a0, a1, ow4, rd4⟩
        have L4 := HL3.out.step ow4
        clear HL3 HR3 ow4 k0 k1 k2 r0 r1 r2 rf ne gl
        obtain ⟨k0, k1, k2⟩ := L4.cells
        obtain ⟨r0, r1, r2, rf⟩ := L4.res
        have ne := L4.wl
        have gl := L4.gl
        have CO4 := L4.co
        have f1 := L4.n1
        have f2 := L4.n2
        have kf := L4.kf
        have HL := Lib.hid L4
        have HR := Lib.hid rd4
        clear L4 rd4
        have ha : a = 0 ∨ a = 1 ∨ a = 2 ∨ a = 3 := by omega
        obtain ⟨m, hm⟩ : ∃ m : Nat, (n : Int) - 1 = (m : Int) := ⟨n - 1, by omega⟩
        have hmn : m < n := by omega
        rcases ha with rfl | rfl | rfl | rfl
        · obtain ⟨x1, x2, x3, x4⟩ := CO4.u.at_ (i := m) (by omega)
          have d1 : ¬ g1 = g := fun e => f1 (by simp [Value.ownBlock, e])
          have d2 : ¬ g = g1 := fun e => d1 e.symm
          have d3 : ¬ g1 = w.heap.size := by omega
          have d4 : ¬ w.heap.size = g1 := by omega
          have HC := Lib.hid CO4
          clear CO4 f1 f2
          go_wp2
          refine bodyPost_ret (by simp [results, Try.results42, go_sem, *]; try rfl) rfl ?_
          exact drawn_done (HC.out.putU (by omega) true) (by omega) (HL.out.only.set _ (.inr (by simp; omega)) _) (rd_set1 HR.out _ (by simp; omega) _) (by omega) hr _ _ _
        · obtain ⟨x1, x2, x3, x4⟩ := CO4.d.at_ (i := 0) (by omega)
          have d1 : ¬ g2 = g := fun e => f2 (by simp [Value.ownBlock, e])
          have d2 : ¬ g = g2 := fun e => d1 e.symm
          have d3 : ¬ g2 = w.heap.size := by omega
          have d4 : ¬ w.heap.size = g2 := by omega
          have HC := Lib.hid CO4
          clear CO4 f1 f2
          go_wp2
          refine bodyPost_ret (by simp [results, Try.results42, go_sem, *]; try rfl) rfl ?_
          exact drawn_done (HC.out.putD (by omega) true) (by omega) (HL.out.only.set _ (.inr (by simp; omega)) _) (rd_set1 HR.out _ (by simp; omega) _) (by omega) hr _ _ _
        · have f3 := HL.out.n3
          have d1 : ¬ g3 = g := fun e => f3 (by simp [Value.ownBlock, e])
          obtain ⟨x1, x2, x3, x4⟩ := CO4.c.at_ (i := 0) (by omega)
          have HC := Lib.hid CO4
          clear CO4 x1 x2
          go_wp2_with (at_builtin; refine app_bools rfl _ _ rfl (w.heap.size + 1) _ cs (some ⟨w4.heap.size, 0, none⟩) 1 1 [false] rfl rfl (HC.out.c.alloc _) (bools_one w4 false) (by simp) ?_ ?_ ?_)
          · omega
          · simp; omega
          intro v' w5 hv' G
          have G' : (w4.alloc (.cells #[.bool false] 4)).grownBy w5 (some g3) := G
          clear G
          obtain ⟨cg, fg, sg⟩ := grown_facts G' (b := g) (by simp; omega) (fun e => d1 e.symm)
          obtain ⟨cr, fr, sr⟩ := grown_facts G' (b := w.heap.size) (by simp; omega) (by omega)
          have q1 : ¬ g = w4.heap.size := by omega
          have q2 : ¬ w.heap.size = w4.heap.size := by omega
          have q3 : w.heap.size < w4.heap.size := by omega
          have k0' : w5.cell? ⟨g, 0, none⟩ = some (.slice (some ⟨g1, 0, none⟩) n c1) := by rw [cg]; go_simp
          have k1' : w5.cell? ⟨g, 1, none⟩ = some (.slice (some ⟨g2, 0, none⟩) n c2) := by rw [cg]; go_simp
          have k2' : w5.cell? ⟨g, 2, none⟩ = some (.slice (some ⟨g3, 0, none⟩) n c3) := by rw [cg]; go_simp
          have kf' : ∀ o, w5.frozen? ⟨g, o, none⟩ = false := fun o => by rw [fg]; go_simp
          have r0' : w5.cell? ⟨w.heap.size, 0, none⟩ = some (.slice none 0 0) := by rw [cr]; go_simp
          have r1' : w5.cell? ⟨w.heap.size, 1, none⟩ = some (.slice none 0 0) := by rw [cr]; go_simp
          have r2' : w5.cell? ⟨w.heap.size, 2, none⟩ = some (.slice none 0 0) := by rw [cr]; go_simp
          have rf' : ∀ o, w5.frozen? ⟨w.heap.size, o, none⟩ = false := fun o => by rw [fr]; go_simp
          have e3 := hv'.ne_cell (by simp) k0'
          have hu : OwnB w5 (w.heap.size + 1) (.slice (some ⟨g1, 0, none⟩) n c1) us := (HC.out.u.alloc _).grownE G' (fun e => HC.out.uc g1 rfl (by simp [Value.ownBlock, e]))
          have hd : OwnB w5 (w.heap.size + 1) (.slice (some ⟨g2, 0, none⟩) n c2) ds := (HC.out.d.alloc _).grownE G' (fun e => HC.out.dc g2 rfl (by simp [Value.ownBlock, e]))
          have O5 : Only r w w5 := only_grown (HL.out.only.alloc _) G' (by omega)
          have R5 : Rd w5 r (N + 16 + 1) := rd_grown (rd_alloc' HR.out _) G' (by omega)
          have HU := Lib.hid hu
          have HD := Lib.hid hd
          obtain ⟨A', c', ev⟩ := hv'.shape
          rw [show (cs ++ [false]).length = n + 1 by simp; omega] at ev
          subst ev
          have HV := Lib.hid hv'
          clear hu hd hv' cg fg cr fr k0 k1 k2 kf r0 r1 r2 rf
          go_wp2
          refine bodyPost_ret (by simp [results, Try.results42, go_sem, *]; try rfl) rfl ?_
          exact drawn_app HU.out HD.out HV.out f1 f2 e3 (by simp; omega) O5 R5 (by omega) hr ne _ _ _ _
        · go_wp2
          refine bodyPost_ret (by simp [results, Try.results42, go_sem, *]; try rfl) rfl ?_
          exact drawn_done (CO.nil w4 _) (by simp) HL.out.only HR.out (by omega) hr _ _ _
    · have hj1 : 0 < (j : Int) := by omega
      have HS0 := Lib.hid LS
      have RD0 := Lib.hid RD
      have hV := Lib.hid hv
      have wl := LS.wl
      have nbr : ¬ wr.heap.size = g := by omega
      have nbr' : ¬ g = wr.heap.size := by omega
      clear LS RD hv
      go_wp2_with fail
      go_region_held3 (fun w' => w'.cell? ⟨g, 0, none⟩ = some (.slice A1 n c1) ∧ w'.cell? ⟨g, 1, none⟩ = some (.slice A2 n c2) ∧ w'.cell? ⟨g, 2, none⟩ = some (.slice A3 n c3))
        (first | (refine ⟨?_, ?_, ?_⟩ <;> (have _t := uu0; go_simp; done)) | exact (show LcSt w _ r g n A1 c1 us A2 c2 ds A3 c3 cs from (by (repeat' (first | (with_reducible exact HSc.out) | (with_reducible exact HSb.out) | (with_reducible exact HSa.out) | (with_reducible exact HS0.out) | (with_reducible refine LcSt.alloc ?_ _) | (with_reducible refine LcSt.drew ?_) | (with_reducible refine LcSt.drewN ?_ _))))).cells | go_keep)
        (first
          | (go_at_call 47; refine (set_any A1 n c1 us A2 c2 ds A3 c3 cs x1 x2 _ (show LcSt w _ r g n A1 c1 us A2 c2 ds A3 c3 cs from (by (repeat' (first | (with_reducible exact HSc.out) | (with_reducible exact HSb.out) | (with_reducible exact HSa.out) | (with_reducible exact HS0.out) | (with_reducible refine LcSt.alloc ?_ _) | (with_reducible refine LcSt.drew ?_) | (with_reducible refine LcSt.drewN ?_ _))))).co.bc hV.out x10 (by omega) x20 x2n).mono ?_; rintro e w5 ⟨v1, v2, v3, us', ds', cs', ok, rfl, co5, hb5, hok⟩; obtain ⟨B1, m1, B2, m2, B3, m3, e1, e2, e3, -⟩ := co5.shape; subst e1 e2 e3; have HSc : Hid (LcSt w w5 r g n A1 c1 us A2 c2 ds A3 c3 cs) := Lib.hid (LcSt.below (by (repeat' (first | (with_reducible exact HSc.out) | (with_reducible exact HSb.out) | (with_reducible exact HSa.out) | (with_reducible exact HS0.out) | (with_reducible refine LcSt.alloc ?_ _) | (with_reducible refine LcSt.drew ?_) | (with_reducible refine LcSt.drewN ?_ _)))) hb5); have RDc : Hid (Rd w5 r (N + 1 + 2 * (7 - j) + 1 + 1)) := Lib.hid (Rd.below (by (repeat' (first | (with_reducible exact RDc.out) | (with_reducible exact RDb.out) | (with_reducible exact RDa.out) | (with_reducible exact RD0.out) | (with_reducible refine rd_alloc' ?_ _) | (with_reducible refine rd_drew' ?_) | (with_reducible refine rd_drewN ?_ _)))) hb5); have gl5 := HSc.out.gl; have ob5 := Only.of_below (r := r) hb5; have OC : Only r wr w5 := (by (repeat' (first | (with_reducible exact Only.refl _ _) | (with_reducible assumption) | (with_reducible refine Only.alloc ?_ _) | (with_reducible refine Only.set ?_ _ ?_ _) | (with_reducible refine Only.drew ?_) | (with_reducible refine Only.drewN ?_ _) | (with_reducible refine Only.via (by assumption) ?_) | (refine .inr ?_; omega) | (refine .inr ?_; simp; omega) | omega | (simp; omega) | (simp; done)))); have so5 := OC.size; have so5' := ob5.size; (try simp at so5'); have kf5 := HSc.out.kf; have nb5 : ¬ w5.heap.size = g := (by omega); have nb5' : ¬ g = w5.heap.size := (by omega); obtain ⟨uu0, uu1, uu2⟩ := HSc.out.cells; (try (have TC := T9.only TB (Only.of_below (r := r) hb5) (by omega); obtain ⟨t0, t1, t2, tf, tl⟩ := TC)); (try (have TC := T9.only (T9.new w4) (Only.of_below (r := r) hb5) (by omega); obtain ⟨t0, t1, t2, tf, tl⟩ := TC)))
          | (go_at_call 34; have _t := RDa; refine (pick_any r (N + 1 + 2 * (7 - j) + 1) _ _ (by (repeat' (first | (with_reducible exact RDc.out) | (with_reducible exact RDb.out) | (with_reducible exact RDa.out) | (with_reducible exact RD0.out) | (with_reducible refine rd_alloc' ?_ _) | (with_reducible refine rd_drew' ?_) | (with_reducible refine rd_drewN ?_ _)))) (by omega) (by first | omega | (split <;> omega)) (by first | omega | (split <;> omega))).mono ?_; rintro e w4 ⟨x2, rfl, x20, x21, ow4, rd4⟩; have HSb : Hid (LcSt w w4 r g n A1 c1 us A2 c2 ds A3 c3 cs) := Lib.hid (LcSt.step (by (repeat' (first | (with_reducible exact HSc.out) | (with_reducible exact HSb.out) | (with_reducible exact HSa.out) | (with_reducible exact HS0.out) | (with_reducible refine LcSt.alloc ?_ _) | (with_reducible refine LcSt.drew ?_) | (with_reducible refine LcSt.drewN ?_ _)))) ow4); have RDb := Lib.hid rd4; have gl4 := HSb.out.gl; have OB : Only r wr w4 := (by (repeat' (first | (with_reducible exact Only.refl _ _) | (with_reducible assumption) | (with_reducible refine Only.alloc ?_ _) | (with_reducible refine Only.set ?_ _ ?_ _) | (with_reducible refine Only.drew ?_) | (with_reducible refine Only.drewN ?_ _) | (with_reducible refine Only.via (by assumption) ?_) | (refine .inr ?_; omega) | (refine .inr ?_; simp; omega) | omega | (simp; omega) | (simp; done)))); have so4 := OB.size; have so4' := ow4.size; (try simp at so4'); have nb4 : ¬ w4.heap.size = g := (by omega); have nb4' : ¬ g = w4.heap.size := (by omega); (try (have TB : T9 w4 wr.heap.size := T9.only TA ow4 (by omega))); (try (have TB : T9 w4 w3.heap.size := T9.only (T9.new w3) ow4 (by omega))); have x2n : x2 < (n : Int) := (by first | omega | (split at x21 <;> omega)))
          | (go_at_call 34; refine (pick_any r (N + 1 + 2 * (7 - j)) 3 _ (by (repeat' (first | (with_reducible exact RDc.out) | (with_reducible exact RDb.out) | (with_reducible exact RDa.out) | (with_reducible exact RD0.out) | (with_reducible refine rd_alloc' ?_ _) | (with_reducible refine rd_drew' ?_) | (with_reducible refine rd_drewN ?_ _)))) (by omega) (by omega) (by omega)).mono ?_; rintro e w3 ⟨x1, rfl, x10, x11, ow3, rd3⟩; have HSa : Hid (LcSt w w3 r g n A1 c1 us A2 c2 ds A3 c3 cs) := Lib.hid (LcSt.step (by (repeat' (first | (with_reducible exact HSc.out) | (with_reducible exact HSb.out) | (with_reducible exact HSa.out) | (with_reducible exact HS0.out) | (with_reducible refine LcSt.alloc ?_ _) | (with_reducible refine LcSt.drew ?_) | (with_reducible refine LcSt.drewN ?_ _)))) ow3); have RDa := Lib.hid rd3; have gl3 := HSa.out.gl; have OA : Only r wr w3 := (by (repeat' (first | (with_reducible exact Only.refl _ _) | (with_reducible assumption) | (with_reducible refine Only.alloc ?_ _) | (with_reducible refine Only.set ?_ _ ?_ _) | (with_reducible refine Only.drew ?_) | (with_reducible refine Only.drewN ?_ _) | (with_reducible refine Only.via (by assumption) ?_) | (refine .inr ?_; omega) | (refine .inr ?_; simp; omega) | omega | (simp; omega) | (simp; done)))); have so3 := OA.size; have nb3 : ¬ w3.heap.size = g := (by omega); have nb3' : ¬ g = w3.heap.size := (by omega); (try (have TA : T9 w3 wr.heap.size := T9.only (T9.new wr.drew) ow3 (by omega)))))
      all_goals cases ok
      all_goals first
        | (have _t := hok rfl
           obtain ⟨hcv', hlen⟩ := hok rfl
           obtain ⟨p1, p2, p3, p4, -⟩ := cvB_open hcv'
           have hl2 : ds'.length = n := by omega
           have hl3 : cs'.length = n := by omega
           rw [hlen, hl2, hl3] at co5 ⊢
           have e1 := co5.u.ne (b := g) (by left; first | omega | (simp; omega))
           have e2 := co5.d.ne (b := g) (by left; first | omega | (simp; omega))
           have e3 := co5.c.ne (b := g) (by left; first | omega | (simp; omega))
           have CV := Lib.hid hcv'
           clear hok p1 p2 p3 p4 hcv'
           go_wp2
           refine ⟨⟨j - 1, B1, m1, us', B2, m2, ds', B3, m3, cs', by congr 1; omega, by omega, ?_, CV.out, ?_⟩, by simp only [intOf]; omega⟩
           · first
               | (with_reducible refine LcSt.alloc ?_ _
                  exact LcSt.put HSc.out (co5.lower (by first | omega | (simp; omega))) e1 e2 e3)
               | (refine LcSt.put (LcSt.step HS0.out ?_) (CO.lower (CO.stay co5 ?_ _ _ _) ?_) e1 e2 e3
                  · (repeat' (first | (with_reducible exact Only.refl _ _) | (with_reducible assumption) | (with_reducible refine Only.alloc ?_ _) | (with_reducible refine Only.set ?_ _ ?_ _) | (with_reducible refine Only.drew ?_) | (with_reducible refine Only.drewN ?_ _) | (with_reducible refine Only.via (by assumption) ?_) | (refine .inr ?_; omega) | (refine .inr ?_; simp; omega) | omega | (simp; omega) | (simp; done)))
                  · first | omega | (simp; omega)
                  · first | omega | (simp; omega))
           · refine Rd.mono (N := N + 1 + 2 * (7 - j) + 1 + 1) ?_ (by omega)
             have RL := HSc.out.rl
             have WL := HSc.out.wl
             have rg : r < g := by omega
             repeat' (first | (with_reducible exact RDc.out) | (with_reducible refine rd_set1 ?_ _ ?_ _) | (with_reducible refine rd_alloc' ?_ _) | (with_reducible refine rd_drewN ?_ _) | (with_reducible refine rd_drew' ?_) | (with_reducible exact rg) | omega | (simp; omega)))
        | (go_wp2
           refine ⟨⟨j - 1, A1, c1, us, A2, c2, ds, A3, c3, cs, by congr 1; omega, by omega, ?_, hV.out, ?_⟩, by simp only [intOf]; omega⟩
           · exact LcSt.step HS0.out (by (repeat' (first | (with_reducible exact Only.refl _ _) | (with_reducible assumption) | (with_reducible refine Only.alloc ?_ _) | (with_reducible refine Only.set ?_ _ ?_ _) | (with_reducible refine Only.drew ?_) | (with_reducible refine Only.drewN ?_ _) | (with_reducible refine Only.via (by assumption) ?_) | (refine .inr ?_; omega) | (refine .inr ?_; simp; omega) | omega | (simp; omega) | (simp; done))))
           · exact Rd.mono (RDc.out.above (by first | (exact Below.refl _ _) | go_grown)) (by omega))
end Go.Proofs.Ytmoifakcjmdghaa
