/- A drawn shaft and two floors: contract. -/
import Derived.Test.YtpcdedigblijbaaTwinJ4
import Derived.Deep.RegionHeld3
namespace Go.Proofs.Ytpcdedigblijbaa
open Go.ChangeShapes Go.WideShapes Go.ChangeAt Go.RowKit

/-- What the region keeps: the result's block, the shaft's block, and all that is older. -/
structure TwK (w : World) (B : Nat) (f l h : Int) (w' : World) : Prop where
  three : Three w' w.heap.size 0 0 0
  shaft : Three w' B f l h
  below : Below w.heap.size w w'
  size : B + 1 ≤ w'.heap.size
theorem TwK.only {w W w' : World} {B r : Nat} {f l h : Int} (k : TwK w B f l h W) (o : Only r W w') (h0 : w.heap.size < W.heap.size) (h1 : r = w.heap.size + 1) (h2 : ¬ B = r) : TwK w B f l h w' :=
  ⟨k.three.only o h0 (by omega), k.shaft.only o (by have := k.size; omega) h2, k.below.trans (o.below (by omega) (Nat.le_of_lt h0)), Nat.le_trans k.size o.size⟩
theorem TwK.drewN {w W : World} {B : Nat} {f l h : Int} (k : TwK w B f l h W) (m : Nat) : TwK w B f l h (W.drewN m) := ⟨k.three, k.shaft, bdrewN k.below m, k.size⟩
theorem TwK.cells {w W : World} {B : Nat} {f l h : Int} (k : TwK w B f l h W) : W.cell? ⟨B, 0, none⟩ = some (.int .i64 f) ∧ W.cell? ⟨B, 1, none⟩ = some (.int .i64 l) ∧ W.cell? ⟨B, 2, none⟩ = some (.int .i64 h) := ⟨k.shaft.1, k.shaft.2.1, k.shaft.2.2.1⟩

set_option maxHeartbeats 2000000 in
theorem drawTwinFor_any (A : Option Addr) (n c : Nat) (g : Nat → Int) (w : World) (h : Bytes w A n c g) : Calls Try.prog 39 #[.slice A n c] w (TwinTwoDrawn w) := by
  go_enter Try.func39, Try.ntmps39
  go_wp2_with fail
  refine (open_any A n c g _ (h.alloc _)).mono ?_
  rintro e w1 ⟨rfl, hb1, rd1⟩
  simp only [World.size_alloc] at rd1
  obtain ⟨c1, f1, z1, y1, x1, s1⟩ := bfacts5 hb1
  simp at s1
  have q0 : w.heap.size < w1.heap.size := by omega
  go_wp2_with fail
  refine (l20TwinB_any (w.heap.size + 1) 0 _ _ rd1 (by omega) (by omega) (by omega)).mono ?_
  rintro e w2 ⟨f, l, h, rfl, ow2, rd2, bf1, bf2⟩
  obtain ⟨cw20, fw20, zw20, yw20, xw20, vw20⟩ := only_facts ow2 (w.heap.size) (by first | omega | (simp; omega) | (simp; done)) (by omega)
  have sw2 := only_size ow2
  try simp at sw2
  have hr2 := rd2.lt
  have k0 : w2.cell? ⟨w.heap.size, 0, none⟩ = some (.int .i64 0) := by rw [cw20, c1 _ _ (by simp)]; go_simp
  have k1 : w2.cell? ⟨w.heap.size, 1, none⟩ = some (.int .i64 0) := by rw [cw20, c1 _ _ (by simp)]; go_simp
  have k2 : w2.cell? ⟨w.heap.size, 2, none⟩ = some (.int .i64 0) := by rw [cw20, c1 _ _ (by simp)]; go_simp
  have n0 : ∀ o, w2.frozen? ⟨w.heap.size, o, none⟩ = false := fun o => by rw [fw20, f1 _ _ (by simp)]; go_simp
  have T2 : Three w2 w.heap.size 0 0 0 := ⟨k0, k1, k2, n0⟩
  have B2 : Below w.heap.size w w2 := by (repeat' (first | (with_reducible exact Below.refl _ _) | (with_reducible assumption) | (with_reducible exact bundrew (by assumption)) | (with_reducible refine balloc ?_ _) | (with_reducible refine bset ?_ _ ?_ _) | (with_reducible refine Below.drew ?_) | (with_reducible refine bdrewN ?_ _) | (with_reducible refine bonly (by assumption) ?_ ?_) | (with_reducible refine bvia (by assumption) ?_) | (with_reducible refine Below.trans ?_ (by assumption)) | omega | (simp; omega) | (simp; done)))
  clear cw20 fw20 c1 f1 k0 k1 k2 n0 z1 y1 x1
  have d2 : ¬ w2.heap.size = w.heap.size + 1 := by omega
  obtain ⟨W, hW⟩ : ∃ W : World, W = w2.alloc (.cells #[.int .i64 f, .int .i64 l, .int .i64 h] 25) := ⟨_, rfl⟩
  have SW : W.heap.size = w2.heap.size + 1 := by rw [hW]; simp
  have K : TwK w w2.heap.size f l h W := by
    rw [hW]
    exact ⟨T2.below ((Below.refl _ _).alloc (Nat.le_refl _) _) (by omega), ⟨by go_simp, by go_simp, by go_simp, fun o => by go_simp⟩, B2.alloc B2.size _, by simp⟩
  have RW : Rd W (w.heap.size + 1) 6 := by rw [hW]; exact rd2.above (by first | (exact Below.refl _ _) | go_grown)
  have K0 := K.drewN 1
  have S0 := K0.cells
  have RW0 : Rd (W.drewN 1) (w.heap.size + 1) 6 := RW
  have e1 : IntKind.i64.wrap (f + 1) = f + 1 := IntWalk.i64_in _ ⟨by omega, by omega⟩
  have hlW : w.heap.size < W.heap.size := by omega
  go_wp2_with fail
  rw [← hW]
  have d3 : ¬ w2.heap.size = w.heap.size := by omega
  have d4 : ¬ w.heap.size = w2.heap.size := by omega
  have f20 : f ≤ 20 := by omega
  have hB : W.heap.size = w2.heap.size + 1 := SW
  clear hW T2 B2 rd1 hb1 ow2 rd2 K RW zw20 yw20 xw20 vw20 sw2 s1 q0 hr2 bf2
  go_region_held3 (fun w' => w'.cell? ⟨w2.heap.size, 0, none⟩ = some (.int .i64 f) ∧ w'.cell? ⟨w2.heap.size, 1, none⟩ = some (.int .i64 l) ∧ w'.cell? ⟨w2.heap.size, 2, none⟩ = some (.int .i64 h))
    (first | exact S3 | exact S2 | exact S1 | exact S0 | (refine ⟨?_, ?_, ?_⟩ <;> (go_simp; done)))
    (first
      | (have _t := RW2; go_at_call 51; refine (pick_any (w.heap.size + 1) 8 f _ RW2 (by omega) (by omega) (by omega)).mono ?_; rintro e w5 ⟨a5, rfl, a50, a51, ow5, RW3⟩; have K3 := K2.only ow5 (by have := K2.size; omega) rfl d2; have S3 := K3.cells; obtain ⟨u0, u1, u2, u3⟩ := K3.three)
      | (have _t := RW1; go_at_call 51; refine (pick_any (w.heap.size + 1) 7 20 _ RW1 (by omega) (by omega) (by omega)).mono ?_; rintro e w4 ⟨a4, rfl, a40, a41, ow4, RW2⟩; have K2 := K1.only ow4 (by have := K1.size; omega) rfl d2; have S2 := K2.cells)
      | (go_at_call 51; refine (pick_any (w.heap.size + 1) 6 (f + 1) _ RW0 (by omega) (by omega) (by omega)).mono ?_; rintro e w3 ⟨a3, rfl, a30, a31, ow3, RW1⟩; have K1 := K0.only ow3 hlW rfl d2; have S1 := K1.cells))
  all_goals go_wp2
  all_goals refine bodyPost_ret (by simp [results, Try.results39, go_sem, *]; try rfl) rfl ?_
  all_goals exact ⟨_, _, _, _, _, rfl, by have := K3.below; (repeat' (first | (with_reducible exact Below.refl _ _) | (with_reducible assumption) | (with_reducible exact bundrew (by assumption)) | (with_reducible refine balloc ?_ _) | (with_reducible refine bset ?_ _ ?_ _) | (with_reducible refine Below.drew ?_) | (with_reducible refine bdrewN ?_ _) | (with_reducible refine bonly (by assumption) ?_ ?_) | (with_reducible refine bvia (by assumption) ?_) | (with_reducible refine Below.trans ?_ (by assumption)) | omega | (simp; omega) | (simp; done)))⟩
end Go.Proofs.Ytpcdedigblijbaa
