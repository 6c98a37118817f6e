/- Drawn calls with a stop; the draws of FnFireTarget: contracts. -/
import Derived.Test.YtmoifakcjmdghaaFtN
import Derived.Deep.RegionHeld3
namespace Go.Proofs.Ytmoifakcjmdghaa
open Go.ChangeShapes Go.WideShapes Go.ChangeAt Go.RowKit

theorem l20Calls_int (r N : Nat) (n : Int) (w : World) (h : Rd w r N) (hN : N ≤ 1000) (h1 : 1 ≤ n) (h8 : n ≤ 8) : Calls Try.prog 42 #[.pointer (some ⟨r, 0, none⟩), .int .i64 n, .int .i64 14] w (CallsDrawn w r N) := by
  obtain ⟨k, rfl⟩ := Int.eq_ofNat_of_zero_le (show 0 ≤ n by omega)
  exact l20Calls_any r N k w h hN (by omega) (by omega)
theorem l20Stop_int (r N : Nat) (n : Int) (w : World) (h : Rd w r N) (hN : N ≤ 1000) (h1 : 1 ≤ n) (h8 : n ≤ 8) : Calls Try.prog 43 #[.pointer (some ⟨r, 0, none⟩), .int .i64 n, .int .i64 14] w (StopDrawn w r N) := by
  obtain ⟨k, rfl⟩ := Int.eq_ofNat_of_zero_le (show 0 ≤ n by omega)
  exact l20Stop_any r N k w h hN (by omega) (by omega)

/-- Drawn calls with a stop. -/
def CalledDrawn (w : World) (r N : Nat) (e : Ending) (w' : World) : Prop := ∃ (v1 v2 v3 : Value) (us ds cs : List Bool) (f d : Int), e = .returned (.tuple #[.agg #[v1, v2, v3], .agg #[.int .i64 f, .int .i64 d]]) ∧ OwnB w' w.heap.size v1 us ∧ OwnB w' w.heap.size v2 ds ∧ OwnB w' w.heap.size v3 cs ∧ cs.length ≤ 9 ∧ Only r w w' ∧ Rd w' r (N + 50)

theorem called_done {w W : World} {r N M : Nat} {v1 v2 v3 : Value} {us ds cs : List Bool} {f d : Int} (h1 : OwnB W (w.heap.size + 2) v1 us) (h2 : OwnB W (w.heap.size + 2) v2 ds) (h3 : OwnB W (w.heap.size + 2) v3 cs) (hc : cs.length ≤ 9) (o : Only r w W) (rd : Rd W r M) (hM : M ≤ N + 50) (rl : r < w.heap.size) (x y z p q : Value) :
    CalledDrawn w r N (.returned (.tuple #[.agg #[v1, v2, v3], .agg #[.int .i64 f, .int .i64 d]])) (((((W.setCell ⟨w.heap.size, 0, none⟩ x).setCell ⟨w.heap.size, 1, none⟩ y).setCell ⟨w.heap.size, 2, none⟩ z).setCell ⟨w.heap.size + 1, 0, none⟩ p).setCell ⟨w.heap.size + 1, 1, none⟩ q) := by
  have K : ∀ {v : Value} {xs : List Bool}, OwnB W (w.heap.size + 2) v xs → OwnB (((((W.setCell ⟨w.heap.size, 0, none⟩ x).setCell ⟨w.heap.size, 1, none⟩ y).setCell ⟨w.heap.size, 2, none⟩ z).setCell ⟨w.heap.size + 1, 0, none⟩ p).setCell ⟨w.heap.size + 1, 1, none⟩ q) w.heap.size v xs := fun {v xs} h => by
    have e1 : v.ownBlock ≠ some w.heap.size := h.ne (.inl (by omega))
    have e2 : v.ownBlock ≠ some (w.heap.size + 1) := h.ne (.inl (by omega))
    exact (((((h.fixed ⟨w.heap.size, 0, none⟩ e1 x).fixed ⟨w.heap.size, 1, none⟩ e1 y).fixed ⟨w.heap.size, 2, none⟩ e1 z).fixed ⟨w.heap.size + 1, 0, none⟩ e2 p).fixed ⟨w.heap.size + 1, 1, none⟩ e2 q).lower (by omega)
  have l1 : r < w.heap.size + 1 := by omega
  have m0 : w.heap.size ≤ w.heap.size := Nat.le_refl _
  have m1 : w.heap.size ≤ w.heap.size + 1 := by omega
  exact ⟨v1, v2, v3, us, ds, cs, f, d, rfl, K h1, K h2, K h3, hc, ((((o.set _ (.inr m0) _).set _ (.inr m0) _).set _ (.inr m0) _).set _ (.inr m1) _).set _ (.inr m1) _,
    Rd.mono (rd_set1 (rd_set1 (rd_set1 (rd_set1 (rd_set1 rd _ rl _) _ rl _) _ rl _) _ l1 _) _ l1 _) hM⟩

set_option maxRecDepth 100000 in
set_option maxHeartbeats 2000000 in
theorem l20Called_any (r N : Nat) (w : World) (h : Rd w r N) (hN : N ≤ 900) : Calls Try.prog 33 #[.pointer (some ⟨r, 0, none⟩)] w (CalledDrawn w r N) := by
  have hr := h.lt
  go_enter Try.func33, Try.ntmps33
  go_wp2_with fail
  refine (pick_any r N _ _ (h.above (by first | (exact Below.refl _ _) | go_grown)) (by omega) (by omega) (by omega)).mono ?_
  rintro e w1 ⟨x1, rfl, x10, x11, ow1, rd1⟩
  obtain ⟨cw10, fw10, zw10, yw10, xw10, vw10⟩ := only_facts ow1 (w.heap.size) (by first | omega | (simp; omega) | (simp; done)) (by omega)
  obtain ⟨cw11, fw11, zw11, yw11, xw11, vw11⟩ := only_facts ow1 (w.heap.size + 1) (by first | omega | (simp; omega) | (simp; done)) (by omega)
  have sw1 := only_size ow1
  try simp at sw1
  go_wp2_with fail
  refine (pick_any r (N + 1) _ _ (rd1.above (by first | (exact Below.refl _ _) | go_grown)) (by omega) (by omega) (by omega)).mono ?_
  rintro e w2 ⟨x2, rfl, x20, x21, ow2, rd2⟩
  obtain ⟨cw20, fw20, zw20, yw20, xw20, vw20⟩ := only_facts ow2 (w.heap.size) (by first | omega | (simp; omega) | (simp; done)) (by omega)
  obtain ⟨cw21, fw21, zw21, yw21, xw21, vw21⟩ := only_facts ow2 (w.heap.size + 1) (by first | omega | (simp; omega) | (simp; done)) (by omega)
  have sw2 := only_size ow2
  try simp at sw2
  by_cases hx2 : 0 < x2
  · go_wp2_with fail
    refine (pick_any r (N + 2) _ _ (rd2.above (by first | (exact Below.refl _ _) | go_grown)) (by omega) (by omega) (by omega)).mono ?_
    rintro e w3 ⟨x3, rfl, x30, x31, ow3, rd3⟩
    obtain ⟨cw30, fw30, zw30, yw30, xw30, vw30⟩ := only_facts ow3 (w.heap.size) (by first | omega | (simp; omega) | (simp; done)) (by omega)
    obtain ⟨cw31, fw31, zw31, yw31, xw31, vw31⟩ := only_facts ow3 (w.heap.size + 1) (by first | omega | (simp; omega) | (simp; done)) (by omega)
    have sw3 := only_size ow3
    try simp at sw3
    go_wp2_with fail
    refine (l20Calls_int r (N + 3) _ _ (rd3.above (by first | (exact Below.refl _ _) | go_grown)) (by omega) (by omega) (by omega)).mono ?_
    rintro e w4 ⟨v1, v2, v3, us, ds, cs, rfl, o1, o2, o3, hcl, ow4, rd4⟩
    obtain ⟨cw40, fw40, zw40, yw40, xw40, vw40⟩ := only_facts ow4 (w.heap.size) (by first | omega | (simp; omega) | (simp; done)) (by omega)
    obtain ⟨cw41, fw41, zw41, yw41, xw41, vw41⟩ := only_facts ow4 (w.heap.size + 1) (by first | omega | (simp; omega) | (simp; done)) (by omega)
    have sw4 := only_size ow4
    try simp at sw4
    obtain ⟨A1, c1, rfl⟩ := o1.shape
    obtain ⟨A2, c2, rfl⟩ := o2.shape
    obtain ⟨A3, c3, rfl⟩ := o3.shape
    have p1 := Lib.hid o1
    have p2 := Lib.hid o2
    have p3 := Lib.hid o3
    clear o1 o2 o3
    go_wp2_with fail
    refine (l20Stop_int r (N + 33) _ _ (rd4.above (by first | (exact Below.refl _ _) | go_grown)) (by omega) (by omega) (by omega)).mono ?_
    rintro e w5 ⟨f, d, rfl, ow5, rd5⟩
    obtain ⟨cw50, fw50, zw50, yw50, xw50, vw50⟩ := only_facts ow5 (w.heap.size) (by first | omega | (simp; omega) | (simp; done)) (by omega)
    obtain ⟨cw51, fw51, zw51, yw51, xw51, vw51⟩ := only_facts ow5 (w.heap.size + 1) (by first | omega | (simp; omega) | (simp; done)) (by omega)
    have sw5 := only_size ow5
    try simp at sw5
    go_wp2
    refine bodyPost_ret (by simp [results, Try.results33, go_sem, *]; try rfl) rfl ?_
    have K : ∀ {v : Value} {xs : List Bool}, OwnB w4 w3.heap.size v xs → OwnB w5 (w.heap.size + 2) v xs := fun h => (h.only ow5 (by omega)).lower (by omega)
    exact called_done (K p1.out) (K p2.out) (K p3.out) hcl (by (repeat' (first | (with_reducible exact Only.refl _ _) | (with_reducible assumption) | (with_reducible refine Only.alloc ?_ _) | (with_reducible refine Only.set ?_ _ ?_ _) | (with_reducible refine Only.drew ?_) | (with_reducible refine Only.drewN ?_ _) | (with_reducible refine Only.via (by assumption) ?_) | (refine .inr ?_; omega) | (refine .inr ?_; simp; omega) | omega | (simp; omega) | (simp; done)))) rd5 (by omega) hr _ _ _ _ _
  · go_wp2_with fail
    refine (l20Calls_int r (N + 2) _ _ (rd2.above (by first | (exact Below.refl _ _) | go_grown)) (by omega) (by omega) (by omega)).mono ?_
    rintro e w4 ⟨v1, v2, v3, us, ds, cs, rfl, o1, o2, o3, hcl, ow4, rd4⟩
    obtain ⟨cw40, fw40, zw40, yw40, xw40, vw40⟩ := only_facts ow4 (w.heap.size) (by first | omega | (simp; omega) | (simp; done)) (by omega)
    obtain ⟨cw41, fw41, zw41, yw41, xw41, vw41⟩ := only_facts ow4 (w.heap.size + 1) (by first | omega | (simp; omega) | (simp; done)) (by omega)
    have sw4 := only_size ow4
    try simp at sw4
    obtain ⟨A1, c1, rfl⟩ := o1.shape
    obtain ⟨A2, c2, rfl⟩ := o2.shape
    obtain ⟨A3, c3, rfl⟩ := o3.shape
    have p1 := Lib.hid o1
    have p2 := Lib.hid o2
    have p3 := Lib.hid o3
    clear o1 o2 o3
    go_wp2_with fail
    refine (l20Stop_int r (N + 32) _ _ (rd4.above (by first | (exact Below.refl _ _) | go_grown)) (by omega) (by omega) (by omega)).mono ?_
    rintro e w5 ⟨f, d, rfl, ow5, rd5⟩
    obtain ⟨cw50, fw50, zw50, yw50, xw50, vw50⟩ := only_facts ow5 (w.heap.size) (by first | omega | (simp; omega) | (simp; done)) (by omega)
    obtain ⟨cw51, fw51, zw51, yw51, xw51, vw51⟩ := only_facts ow5 (w.heap.size + 1) (by first | omega | (simp; omega) | (simp; done)) (by omega)
    have sw5 := only_size ow5
    try simp at sw5
    go_wp2
    refine bodyPost_ret (by simp [results, Try.results33, go_sem, *]; try rfl) rfl ?_
    have K : ∀ {v : Value} {xs : List Bool}, OwnB w4 w2.heap.size v xs → OwnB w5 (w.heap.size + 2) v xs := fun h => (h.only ow5 (by omega)).lower (by omega)
    exact called_done (K p1.out) (K p2.out) (K p3.out) hcl (by (repeat' (first | (with_reducible exact Only.refl _ _) | (with_reducible assumption) | (with_reducible refine Only.alloc ?_ _) | (with_reducible refine Only.set ?_ _ ?_ _) | (with_reducible refine Only.drew ?_) | (with_reducible refine Only.drewN ?_ _) | (with_reducible refine Only.via (by assumption) ?_) | (refine .inr ?_; omega) | (refine .inr ?_; simp; omega) | omega | (simp; omega) | (simp; done)))) rd5 (by omega) hr _ _ _ _ _

/-- The draws of the law. -/
def FtDrawn (w : World) (e : Ending) (w' : World) : Prop := ∃ (m f d rc : Int) (A1 : Option Addr) (n1 c1 : Nat) (us : List Bool) (A2 : Option Addr) (n2 c2 : Nat) (ds : List Bool) (A3 : Option Addr) (n3 c3 : Nat) (cs : List Bool),
  e = .returned (.tuple #[.int .i64 m, .agg #[.slice A1 n1 c1, .slice A2 n2 c2, .slice A3 n3 c3], .agg #[.int .i64 f, .int .i64 d], .int .i64 rc]) ∧ BC w' A1 n1 us A2 n2 ds A3 n3 cs ∧ Below w.heap.size w w'

/-- What the region keeps: the results' boxes, the boxes of the calls and of the stop, the calls, and all that is older. -/
structure DfK (w : World) (B : Nat) (v1 v2 v3 : Value) (us ds cs : List Bool) (f d : Int) (w' : World) : Prop where
  s0 : w'.cell? ⟨w.heap.size, 0, none⟩ = some (.slice none 0 0)
  s1 : w'.cell? ⟨w.heap.size, 1, none⟩ = some (.slice none 0 0)
  s2 : w'.cell? ⟨w.heap.size, 2, none⟩ = some (.slice none 0 0)
  sf : ∀ o, w'.frozen? ⟨w.heap.size, o, none⟩ = false
  t0 : w'.cell? ⟨w.heap.size + 1, 0, none⟩ = some (.int .i64 0)
  t1 : w'.cell? ⟨w.heap.size + 1, 1, none⟩ = some (.int .i64 0)
  tf : ∀ o, w'.frozen? ⟨w.heap.size + 1, o, none⟩ = false
  k0 : w'.cell? ⟨B, 0, none⟩ = some v1
  k1 : w'.cell? ⟨B, 1, none⟩ = some v2
  k2 : w'.cell? ⟨B, 2, none⟩ = some v3
  b0 : w'.cell? ⟨B + 1, 0, none⟩ = some (.int .i64 f)
  b1 : w'.cell? ⟨B + 1, 1, none⟩ = some (.int .i64 d)
  u : OwnB w' (w.heap.size + 3) v1 us
  d : OwnB w' (w.heap.size + 3) v2 ds
  c : OwnB w' (w.heap.size + 3) v3 cs
  below : Below w.heap.size w w'
  size : B + 2 ≤ w'.heap.size
  wl : w.heap.size + 2 < B
theorem DfK.only {w W w' : World} {B : Nat} {v1 v2 v3 : Value} {us ds cs : List Bool} {f d : Int} (k : DfK w B v1 v2 v3 us ds cs f d W) {r : Nat} (o : Only r W w') (hr : w.heap.size + 1 + 1 = r) : DfK w B v1 v2 v3 us ds cs f d w' := by
  have e1 := k.size
  have e2 := k.wl
  have C : ∀ g j : Nat, g < B + 2 → ¬ g = r → w'.cell? ⟨g, j, none⟩ = W.cell? ⟨g, j, none⟩ := fun g j hg hn => o.cell g j (by omega) hn
  have F : ∀ g j : Nat, g < B + 2 → ¬ g = r → w'.frozen? ⟨g, j, none⟩ = W.frozen? ⟨g, j, none⟩ := fun g j hg hn => o.frozen g j (by omega) hn
  exact ⟨(C _ 0 (by omega) (by omega)).trans k.s0, (C _ 1 (by omega) (by omega)).trans k.s1, (C _ 2 (by omega) (by omega)).trans k.s2, fun j => (F _ j (by omega) (by omega)).trans (k.sf j),
    (C _ 0 (by omega) (by omega)).trans k.t0, (C _ 1 (by omega) (by omega)).trans k.t1, fun j => (F _ j (by omega) (by omega)).trans (k.tf j),
    (C _ 0 (by omega) (by omega)).trans k.k0, (C _ 1 (by omega) (by omega)).trans k.k1, (C _ 2 (by omega) (by omega)).trans k.k2, (C _ 0 (by omega) (by omega)).trans k.b0, (C _ 1 (by omega) (by omega)).trans k.b1,
    k.u.only o (by omega), k.d.only o (by omega), k.c.only o (by omega), k.below.trans (o.below (by omega) (by omega)), Nat.le_trans e1 o.size, e2⟩
theorem DfK.drewN {w W : World} {B : Nat} {v1 v2 v3 : Value} {us ds cs : List Bool} {f d : Int} (k : DfK w B v1 v2 v3 us ds cs f d W) (m : Nat) : DfK w B v1 v2 v3 us ds cs f d (W.drewN m) :=
  ⟨k.s0, k.s1, k.s2, k.sf, k.t0, k.t1, k.tf, k.k0, k.k1, k.k2, k.b0, k.b1, k.u, k.d, k.c, bdrewN k.below m, k.size, k.wl⟩
theorem DfK.cells {w W : World} {B : Nat} {v1 v2 v3 : Value} {us ds cs : List Bool} {f d : Int} (k : DfK w B v1 v2 v3 us ds cs f d W) : W.cell? ⟨B, 0, none⟩ = some v1 ∧ W.cell? ⟨B, 1, none⟩ = some v2 ∧ W.cell? ⟨B, 2, none⟩ = some v3 ∧ W.cell? ⟨B + 1, 0, none⟩ = some (.int .i64 f) ∧ W.cell? ⟨B + 1, 1, none⟩ = some (.int .i64 d) := ⟨k.k0, k.k1, k.k2, k.b0, k.b1⟩
end Go.Proofs.Ytmoifakcjmdghaa
