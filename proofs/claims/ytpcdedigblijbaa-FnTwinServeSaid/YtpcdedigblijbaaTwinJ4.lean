/- A drawn shaft and a drawn list of moves: contract. -/
import Derived.Test.YtpcdedigblijbaaTwinJ
namespace Go.Proofs.Ytpcdedigblijbaa
open Go.ChangeShapes Go.WideShapes Go.ChangeAt Go.RowKit

theorem below_le {n m : Nat} {a b : World} (h : n ≤ m) (hb : Below m a b) : Below n a b := ⟨hb.os, hb.tape, hb.output, hb.size, fun i hi => hb.block i (Nat.lt_of_lt_of_le hi h)⟩
theorem OwnP.cap {w : World} {base : Nat} {A : Option Addr} {n c : Nat} {xs : List (Int × Int)} (h : OwnP w base (.slice A n c) xs) : xs.length ≤ c ∧ c ≤ maxLen := by
  rcases h.form with ⟨h1, h2⟩ | ⟨g, cap, cur, h1, h2, h3, h4, h5, _⟩
  · injection h1 with a1 a2 a3
    subst a3 h2
    exact ⟨Nat.le_refl _, Nat.zero_le _⟩
  · injection h1 with a1 a2 a3
    subst a3
    exact ⟨h4, h5⟩
theorem OwnP.setOld {w : World} {base : Nat} {v : Value} {xs : List (Int × Int)} (h : OwnP w base v xs) (p : Addr) (hp : p.block < base) (u : Value) : OwnP (w.setCell p u) base v xs :=
  h.keep fun g hg _ => Below.heap_setCell _ _ _ g (fun e => by have := h.block g hg; omega)
/-- A drawn shaft and a drawn list of moves. -/
def MovesDrawn (w : World) (e : Ending) (w' : World) : Prop := ∃ (f l h : Int) (A : Option Addr) (c : Nat) (xs : List (Int × Int)), e = .returned (.tuple #[.agg #[.int .i64 f, .int .i64 l, .int .i64 h], .slice A xs.length c]) ∧ xs.length ≤ c ∧ c ≤ maxLen ∧ Pairs w' A xs.length xs ∧ xs.length ≤ 15 ∧ Below w.heap.size w w'
/-- Block g holds three numbers. -/
def Three (w : World) (g : Nat) (a b c : Int) : Prop := w.cell? ⟨g, 0, none⟩ = some (.int .i64 a) ∧ w.cell? ⟨g, 1, none⟩ = some (.int .i64 b) ∧ w.cell? ⟨g, 2, none⟩ = some (.int .i64 c) ∧ ∀ o, w.frozen? ⟨g, o, none⟩ = false
theorem Three.only {w w' : World} {r g : Nat} {a b c : Int} (h : Three w g a b c) (o : Only r w w') (hg : g < w.heap.size) (hr : ¬ g = r) : Three w' g a b c :=
  ⟨(o.cell g 0 hg hr).trans h.1, (o.cell g 1 hg hr).trans h.2.1, (o.cell g 2 hg hr).trans h.2.2.1, fun k => (o.frozen g k hg hr).trans (h.2.2.2 k)⟩
theorem Three.below {w w' : World} {B g : Nat} {a b c : Int} (h : Three w g a b c) (hb : Below B w w') (hg : g < B) : Three w' g a b c :=
  ⟨(hb.cell (p := ⟨g, 0, none⟩) hg).trans h.1, (hb.cell (p := ⟨g, 1, none⟩) hg).trans h.2.1, (hb.cell (p := ⟨g, 2, none⟩) hg).trans h.2.2.1, fun k => (hb.frozen (p := ⟨g, k, none⟩) hg).trans (h.2.2.2 k)⟩

set_option maxHeartbeats 2000000 in
theorem drawTwinRun_any (A : Option Addr) (n c : Nat) (g : Nat → Int) (w : World) (h : Bytes w A n c g) : Calls Try.prog 38 #[.slice A n c] w (MovesDrawn w) := by
  go_enter Try.func38, Try.ntmps38
  go_wp2_with fail
  refine (open_any A n c g _ (h.alloc _)).mono ?_
  rintro e w1 ⟨rfl, hb1, rd1⟩
  simp only [World.size_alloc] at rd1
  obtain ⟨c1, f1, z1, y1, x1, s1⟩ := bfacts5 hb1
  simp at s1
  have q0 : w.heap.size < w1.heap.size := by omega
  go_wp2_with fail
  refine (l20TwinB_any (w.heap.size + 1) 0 _ _ rd1 (by omega) (by omega) (by omega)).mono ?_
  rintro e w2 ⟨f, l, h, rfl, ow2, rd2, bf1, bf2⟩
  obtain ⟨cw20, fw20, zw20, yw20, xw20, vw20⟩ := only_facts ow2 (w.heap.size) (by first | omega | (simp; omega) | (simp; done)) (by omega)
  have sw2 := only_size ow2
  try simp at sw2
  have hr2 := rd2.lt
  have k0 : w2.cell? ⟨w.heap.size, 0, none⟩ = some (.int .i64 0) := by rw [cw20, c1 _ _ (by simp)]; go_simp
  have k1 : w2.cell? ⟨w.heap.size, 1, none⟩ = some (.int .i64 0) := by rw [cw20, c1 _ _ (by simp)]; go_simp
  have k2 : w2.cell? ⟨w.heap.size, 2, none⟩ = some (.int .i64 0) := by rw [cw20, c1 _ _ (by simp)]; go_simp
  have n0 : ∀ o, w2.frozen? ⟨w.heap.size, o, none⟩ = false := fun o => by rw [fw20, f1 _ _ (by simp)]; go_simp
  have T2 : Three w2 w.heap.size 0 0 0 := ⟨k0, k1, k2, n0⟩
  have B2 : Below w.heap.size w w2 := by (repeat' (first | (with_reducible exact Below.refl _ _) | (with_reducible assumption) | (with_reducible exact bundrew (by assumption)) | (with_reducible refine balloc ?_ _) | (with_reducible refine bset ?_ _ ?_ _) | (with_reducible refine Below.drew ?_) | (with_reducible refine bdrewN ?_ _) | (with_reducible refine bonly (by assumption) ?_ ?_) | (with_reducible refine bvia (by assumption) ?_) | (with_reducible refine Below.trans ?_ (by assumption)) | omega | (simp; omega) | (simp; done)))
  clear cw20 fw20 c1 f1 k0 k1 k2 n0
  have d1 : ¬ w2.heap.size = w.heap.size + 1 := by omega
  have d2 : ¬ w.heap.size + 1 = w2.heap.size := by omega
  obtain ⟨W, hW⟩ : ∃ W : World, W = (w2.alloc (.cells #[.int .i64 f, .int .i64 l, .int .i64 h] 25)).alloc (.cells #[] 34) := ⟨_, rfl⟩
  have T3 : Three W w.heap.size 0 0 0 := by
    rw [hW]
    exact T2.below (((Below.refl _ _).alloc (Nat.le_refl _) _).alloc (by simp) _) (by omega)
  have T5 : Three W w2.heap.size f l h := by
    rw [hW]
    exact ⟨by go_simp, by go_simp, by go_simp, fun o => by go_simp⟩
  have OP : OwnP W (w2.heap.size + 1) (.slice (some ⟨w2.heap.size + 1, 0, none⟩) 0 0) [] := by
    rw [hW]
    exact OwnP.empty (Nat.le_refl _) (by have := heap_alloc_new (w2.alloc (.cells #[.int .i64 f, .int .i64 l, .int .i64 h] 25)) (.cells #[] 34); simpa using this)
  have RW : Rd W (w.heap.size + 1) 6 := by rw [hW]; exact rd2.above (by first | (exact Below.refl _ _) | go_grown)
  have BW : Below w.heap.size w W := by rw [hW]; (repeat' (first | (with_reducible exact Below.refl _ _) | (with_reducible assumption) | (with_reducible exact bundrew (by assumption)) | (with_reducible refine balloc ?_ _) | (with_reducible refine bset ?_ _ ?_ _) | (with_reducible refine Below.drew ?_) | (with_reducible refine bdrewN ?_ _) | (with_reducible refine bonly (by assumption) ?_ ?_) | (with_reducible refine bvia (by assumption) ?_) | (with_reducible refine Below.trans ?_ (by assumption)) | omega | (simp; omega) | (simp; done)))
  have SW : W.heap.size = w2.heap.size + 2 := by rw [hW]; simp
  go_wp2_with fail
  rw [← hW]
  have HW := Lib.hid hW
  clear hW
  refine (pick_any (w.heap.size + 1) 6 16 _ RW (by omega) (by omega) (by omega)).mono ?_
  rintro e w3 ⟨a3, rfl, a30, a31, ow3, rd3⟩
  have s3 := ow3.size
  have T3' := T3.only ow3 (by omega) (by omega)
  have T5' := T5.only ow3 (by omega) (by omega)
  have OP' := OP.only ow3 (by omega)
  have BW' : Below w.heap.size w w3 := BW.trans (ow3.below (by omega) (by omega))
  clear T3 T5 OP BW T2
  go_wp2_with fail
  go_loopw [6, 7] (fun v i wr => ∃ (v0 : Value) (k : Nat) (xs : List (Int × Int)), v0 = v ∧ i = .int .i64 k ∧ k + xs.length ≤ 15 ∧ OwnP wr (w2.heap.size + 1) v0 xs ∧ Rd wr (w.heap.size + 1) (100 - 4 * k) ∧ Three wr w2.heap.size f l h ∧ Three wr w.heap.size 0 0 0 ∧ Below w.heap.size w wr ∧ w2.heap.size + 1 ≤ wr.heap.size) (fun _ i _ => (intOf i).toNat)
  case atStart =>
    obtain ⟨k, rfl⟩ := Int.eq_ofNat_of_zero_le a30
    exact ⟨_, k, [], rfl, rfl, by simp; omega, OP', rd3.mono (by omega), T5', T3', BW', by omega⟩
  case round =>
    obtain ⟨v0, k, xs, rfl, rfl, hk, hv, rd, t5, t3, hbr, hs⟩ := hrel
    obtain ⟨p0, p1, p2, p3⟩ := t5
    by_cases h0 : 0 < k
    · have h0' : 0 < (k : Int) := by omega
      go_wp2_with fail
      refine (l20TwinMove_any (w.heap.size + 1) (100 - 4 * k) f l h _ rd (by omega) (by omega) (by omega)).mono ?_
      rintro e w4 ⟨cc, tt, rfl, ow4, rd4⟩
      have sw4 := only_size ow4
      try simp at sw4
      have s4 := ow4.size
      have hv4 := hv.only ow4 (by omega)
      have t54 := Three.only ⟨p0, p1, p2, p3⟩ ow4 (by omega) (by omega)
      have t34 := t3.only ow4 (by omega) (by omega)
      go_wp2_with (at_builtin; refine app_pair rfl _ _ rfl (w2.heap.size + 1) w4.heap.size _ xs cc tt rfl rfl (hv4.alloc _) ?_ ?_ ?_ ?_ ?_; (focus (first | (go_simp; done) | (simp; done) | omega | (simp; omega))); (focus (first | (go_simp; done) | (simp; done) | omega | (simp; omega))); (focus (first | (go_simp; done) | (simp; done) | omega | (simp; omega))); (focus (first | (go_simp; done) | (simp; done) | omega | (simp; omega))); intro v6 w6 h6 g6; have zw6 := g6.size; (try simp at zw6))
      have g7 : Below (w2.heap.size + 1) w4 w6 := ((Below.refl _ w4).alloc (by omega) _).trans g6
      exact ⟨⟨_, k - 1, xs ++ [(cc, tt)], rfl, by first | go_num | (congr 1; omega), by simp; omega, h6, (rd4.above (below_le (by omega) g7)).mono (by omega), t54.below g7 (by omega), t34.below g7 (by omega), (hbr.trans (ow4.below (by omega) (by omega))).trans (below_le (by omega) g7), by omega⟩, by simp [intOf]; omega⟩
    · obtain rfl : k = 0 := by omega
      obtain ⟨A', c', rfl⟩ := hv.shape
      have hi := hv.pairs.2
      obtain ⟨u0, u1, u2, u3⟩ := t3
      go_wp2
      refine bodyPost_ret (by simp [results, Try.results38, go_sem, *]; try rfl) rfl ?_
      refine ⟨f, l, h, A', c', xs, rfl, hv.cap.1, hv.cap.2, ?_, by omega, by (repeat' (first | (with_reducible exact Below.refl _ _) | (with_reducible assumption) | (with_reducible exact bundrew (by assumption)) | (with_reducible refine balloc ?_ _) | (with_reducible refine bset ?_ _ ?_ _) | (with_reducible refine Below.drew ?_) | (with_reducible refine bdrewN ?_ _) | (with_reducible refine bvia (by assumption) ?_) | (with_reducible refine Below.trans ?_ (by assumption)) | omega | (simp; omega) | (simp; done)))⟩
      exact (((hv.setOld ⟨w.heap.size, 0, none⟩ (by simp; omega) _).setOld ⟨w.heap.size, 1, none⟩ (by simp; omega) _).setOld ⟨w.heap.size, 2, none⟩ (by simp; omega) _).pairs.2
end Go.Proofs.Ytpcdedigblijbaa
