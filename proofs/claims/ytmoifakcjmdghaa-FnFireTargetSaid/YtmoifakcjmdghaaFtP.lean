/- The draws of FnFireTarget: contract. -/
import Derived.Test.YtmoifakcjmdghaaFtO
namespace Go.Proofs.Ytmoifakcjmdghaa
open Go.ChangeShapes Go.WideShapes Go.ChangeAt Go.RowKit

theorem OwnB.bc {w : World} {base : Nat} {A1 A2 A3 : Option Addr} {n1 n2 n3 c1 c2 c3 : Nat} {us ds cs : List Bool} (h1 : OwnB w base (.slice A1 n1 c1) us) (h2 : OwnB w base (.slice A2 n2 c2) ds) (h3 : OwnB w base (.slice A3 n3 c3) cs) : BC w A1 n1 us A2 n2 ds A3 n3 cs := by
  obtain ⟨e1, b1⟩ := h1.bools
  obtain ⟨e2, b2⟩ := h2.bools
  obtain ⟨e3, b3⟩ := h3.bools
  subst e1 e2 e3
  exact ⟨b1, b2, b3⟩
theorem df_done {w W : World} {B : Nat} {A1 A2 A3 : Option Addr} {n1 n2 n3 c1 c2 c3 : Nat} {us ds cs : List Bool} {f d : Int} (k : DfK w B (.slice A1 n1 c1) (.slice A2 n2 c2) (.slice A3 n3 c3) us ds cs f d W) (m rc : Int) (x y z p q : Value) :
    FtDrawn w (.returned (.tuple #[.int .i64 m, .agg #[.slice A1 n1 c1, .slice A2 n2 c2, .slice A3 n3 c3], .agg #[.int .i64 f, .int .i64 d], .int .i64 rc])) (((((W.setCell ⟨w.heap.size, 0, none⟩ x).setCell ⟨w.heap.size, 1, none⟩ y).setCell ⟨w.heap.size, 2, none⟩ z).setCell ⟨w.heap.size + 1, 0, none⟩ p).setCell ⟨w.heap.size + 1, 1, none⟩ q) := by
  have K : ∀ {v : Value} {xs : List Bool}, OwnB W (w.heap.size + 3) v xs → OwnB (((((W.setCell ⟨w.heap.size, 0, none⟩ x).setCell ⟨w.heap.size, 1, none⟩ y).setCell ⟨w.heap.size, 2, none⟩ z).setCell ⟨w.heap.size + 1, 0, none⟩ p).setCell ⟨w.heap.size + 1, 1, none⟩ q) (w.heap.size + 3) v xs := fun {v xs} h => by
    have e1 : v.ownBlock ≠ some w.heap.size := h.ne (.inl (by omega))
    have e2 : v.ownBlock ≠ some (w.heap.size + 1) := h.ne (.inl (by omega))
    exact ((((h.fixed ⟨w.heap.size, 0, none⟩ e1 x).fixed ⟨w.heap.size, 1, none⟩ e1 y).fixed ⟨w.heap.size, 2, none⟩ e1 z).fixed ⟨w.heap.size + 1, 0, none⟩ e2 p).fixed ⟨w.heap.size + 1, 1, none⟩ e2 q
  have m0 : w.heap.size ≤ w.heap.size := Nat.le_refl _
  have m1 : w.heap.size ≤ w.heap.size + 1 := by omega
  exact ⟨m, f, d, rc, A1, n1, c1, us, A2, n2, c2, ds, A3, n3, c3, cs, rfl, OwnB.bc (K k.u) (K k.d) (K k.c), ((((k.below.setCell m0 x).setCell m0 y).setCell m0 z).setCell m1 p).setCell m1 q⟩

set_option maxRecDepth 100000 in
set_option maxHeartbeats 4000000 in
theorem drawFireTarget_any (A : Option Addr) (n c : Nat) (g : Nat → Int) (w : World) (h : Bytes w A n c g) : Calls Try.prog 17 #[.slice A n c] w (FtDrawn w) := by
  go_enter Try.func17, Try.ntmps17
  go_wp2_with fail
  refine (open_any A n c g _ (h.keep (by simp; omega) (fun p hp => by rw [World.cell?_alloc_lt _ _ _ (by simp; omega), World.cell?_alloc_lt _ _ _ hp]))).mono ?_
  rintro e w1 ⟨rfl, hb1, rd1⟩
  simp only [World.size_alloc] at rd1
  obtain ⟨c1, f1, z1, y1, x1, s1⟩ := bfacts5 hb1
  simp at s1
  have q0 : w.heap.size < w1.heap.size := by omega
  have q1 : w.heap.size + 1 < w1.heap.size := by omega
  go_wp2_with fail
  refine (l20Mode_any (w.heap.size + 1 + 1) 0 _ _ rd1 (by omega) (by omega) (by omega)).mono ?_
  rintro e w2 ⟨m, rfl, m0, m1, ow2, rd2⟩
  obtain ⟨cw20, fw20, zw20, yw20, xw20, vw20⟩ := only_facts ow2 (w.heap.size) (by first | omega | (simp; omega) | (simp; done)) (by omega)
  obtain ⟨cw21, fw21, zw21, yw21, xw21, vw21⟩ := only_facts ow2 (w.heap.size + 1) (by first | omega | (simp; omega) | (simp; done)) (by omega)
  have sw2 := only_size ow2
  try simp at sw2
  go_wp2_with fail
  refine (l20Called_any (w.heap.size + 1 + 1) 2 _ rd2 (by omega)).mono ?_
  rintro e w3 ⟨v1, v2, v3, us, ds, cs, f, d, rfl, o1, o2, o3, hcl, ow3, rd3⟩
  obtain ⟨cw30, fw30, zw30, yw30, xw30, vw30⟩ := only_facts ow3 (w.heap.size) (by first | omega | (simp; omega) | (simp; done)) (by omega)
  obtain ⟨cw31, fw31, zw31, yw31, xw31, vw31⟩ := only_facts ow3 (w.heap.size + 1) (by first | omega | (simp; omega) | (simp; done)) (by omega)
  have sw3 := only_size ow3
  try simp at sw3
  obtain ⟨A1, c1', rfl⟩ := o1.shape
  obtain ⟨A2, c2', rfl⟩ := o2.shape
  obtain ⟨A3, c3', rfl⟩ := o3.shape
  have hr3 := rd3.lt
  obtain ⟨n1, hn1⟩ : ∃ k, us.length = k := ⟨_, rfl⟩
  obtain ⟨n2, hn2⟩ : ∃ k, ds.length = k := ⟨_, rfl⟩
  obtain ⟨n3, hn3⟩ : ∃ k, cs.length = k := ⟨_, rfl⟩
  rw [hn1] at o1 ⊢
  rw [hn2] at o2 ⊢
  rw [hn3] at o3 hcl ⊢
  clear hn1 hn2 hn3
  obtain ⟨W, hW⟩ : ∃ W : World, W = (w3.alloc (.cells #[.slice A1 n1 c1', .slice A2 n2 c2', .slice A3 n3 c3'] 34)).alloc (.cells #[.int .i64 f, .int .i64 d] 36) := ⟨_, rfl⟩
  have K : DfK w w3.heap.size (.slice A1 n1 c1') (.slice A2 n2 c2') (.slice A3 n3 c3') us ds cs f d W := by
    have B3 : Below w.heap.size w w3 := by (repeat' (first | (with_reducible exact Below.refl _ _) | (with_reducible assumption) | (with_reducible exact bundrew (by assumption)) | (with_reducible refine balloc ?_ _) | (with_reducible refine bset ?_ _ ?_ _) | (with_reducible refine Below.drew ?_) | (with_reducible refine bdrewN ?_ _) | (with_reducible refine bonly (by assumption) ?_ ?_) | (with_reducible refine bvia (by assumption) ?_) | (with_reducible refine Below.trans ?_ (by assumption)) | omega | (simp; omega) | (simp; done)))
    have BW : Below w3.heap.size w3 W := by rw [hW]; exact ((Below.refl _ _).alloc (Nat.le_refl _) _).alloc (by simp) _
    have hr2 := rd2.lt
    have b2 : w.heap.size + 3 ≤ w2.heap.size := by omega
    have s : w3.heap.size + 2 ≤ W.heap.size := by rw [hW]; simp
    have C : ∀ b o, b < w.heap.size + 2 → W.cell? ⟨b, o, none⟩ = w3.cell? ⟨b, o, none⟩ := fun b o hb => BW.cell (p := ⟨b, o, none⟩) (by simp; omega)
    have F : ∀ b o, b < w.heap.size + 2 → W.frozen? ⟨b, o, none⟩ = w3.frozen? ⟨b, o, none⟩ := fun b o hb => BW.frozen (p := ⟨b, o, none⟩) (by simp; omega)
    refine ⟨?_, ?_, ?_, fun o => ?_, ?_, ?_, fun o => ?_, ?_, ?_, ?_, ?_, ?_, ?_, ?_, ?_, ?_, s, by omega⟩
    · rw [C w.heap.size _ (by omega), cw30, cw20, c1 _ _ (by simp; omega)]; go_simp
    · rw [C w.heap.size _ (by omega), cw30, cw20, c1 _ _ (by simp; omega)]; go_simp
    · rw [C w.heap.size _ (by omega), cw30, cw20, c1 _ _ (by simp; omega)]; go_simp
    · rw [F w.heap.size _ (by omega), fw30, fw20, f1 _ _ (by simp; omega)]; go_simp
    · rw [C (w.heap.size + 1) _ (by omega), cw31, cw21, c1 _ _ (by simp)]; go_simp
    · rw [C (w.heap.size + 1) _ (by omega), cw31, cw21, c1 _ _ (by simp)]; go_simp
    · rw [F (w.heap.size + 1) _ (by omega), fw31, fw21, f1 _ _ (by simp)]; go_simp
    · rw [hW]; go_simp
    · rw [hW]; go_simp
    · rw [hW]; go_simp
    · rw [hW]; go_simp
    · rw [hW]; go_simp
    · exact (o1.lower b2).below BW
    · exact (o2.lower b2).below BW
    · exact (o3.lower b2).below BW
    · exact B3.trans (BW.mono B3.size)
  have RW : Rd W (w.heap.size + 1 + 1) 52 := by rw [hW]; exact (rd_alloc' (rd_alloc' rd3 _) _)
  have K0 := Lib.hid (K.drewN 1)
  have S0 := K0.out.cells
  have RW0 : Rd (W.drewN 1) (w.heap.size + 1 + 1) 52 := RW
  have hb3 : w.heap.size + 2 < w3.heap.size := by omega
  have e1 : IntKind.i64.wrap ((n3 : Int) + 1) = (n3 : Int) + 1 := IntWalk.i64_in _ ⟨by omega, by omega⟩
  have n30 : 0 ≤ (n3 : Int) := by omega
  have n39 : (n3 : Int) ≤ 9 := by omega
  go_wp2_with fail
  rw [← hW]
  obtain ⟨B, hB⟩ : ∃ B, w3.heap.size = B := ⟨_, rfl⟩
  rw [hB] at K0 S0 hb3 ⊢
  have nb0 : ¬ B = w.heap.size := by omega
  have nb1 : ¬ w.heap.size = B := by omega
  have nb2 : ¬ B = w.heap.size + 1 := by omega
  have nb3 : ¬ w.heap.size + 1 = B := by omega
  have nb4 : ¬ B + 1 = w.heap.size := by omega
  have nb5 : ¬ w.heap.size = B + 1 := by omega
  clear hW rd1 hb1 ow2 rd2 K RW s1 q0 q1 c1 f1 z1 y1 x1 cw20 fw20 zw20 yw20 xw20 vw20 cw21 fw21 zw21 yw21 xw21 vw21 sw2 cw30 fw30 zw30 yw30 xw30 vw30 cw31 fw31 zw31 yw31 xw31 vw31 sw3 o1 o2 o3 ow3 rd3 hr3 h hB
  obtain ⟨r, hr⟩ : ∃ r, w.heap.size + 1 + 1 = r := ⟨_, rfl⟩
  rw [hr] at RW0 ⊢
  have HR := Lib.hid hr
  clear hr
  go_region_held3 (fun w' => w'.cell? ⟨B, 0, none⟩ = some (.slice A1 n1 c1') ∧ w'.cell? ⟨B, 1, none⟩ = some (.slice A2 n2 c2') ∧ w'.cell? ⟨B, 2, none⟩ = some (.slice A3 n3 c3') ∧ w'.cell? ⟨B + 1, 0, none⟩ = some (.int .i64 f) ∧ w'.cell? ⟨B + 1, 1, none⟩ = some (.int .i64 d))
    (first | (with_reducible exact S2) | (with_reducible exact S1) | (have _t := u0; refine ⟨?_, ?_, ?_, ?_, ?_⟩ <;> (go_simp; done)) | exact S0)
    (first
      | (have _t := RW1; go_at_call 34; refine (pick_any r 53 20 _ RW1 (by omega) (by omega) (by omega)).mono ?_; rintro e w5 ⟨a5, rfl, a50, a51, ow5, RW2⟩; have K2 := Lib.hid (K1.out.only ow5 HR.out); have S2 := K2.out.cells; obtain ⟨u0, u1, u2, u3, u4, u5, u6, -, -, -, -, -, -, -, -, -, -, -⟩ := K2.out)
      | (go_at_call 34; refine (pick_any r 52 ((n3 : Int) + 1) _ RW0 (by omega) (by omega) (by omega)).mono ?_; rintro e w4 ⟨a4, rfl, a40, a41, ow4, RW1⟩; have K1 := Lib.hid (K0.out.only ow4 HR.out); have S1 := K1.out.cells))
  all_goals go_wp2
  all_goals refine bodyPost_ret (by simp [results, Try.results17, go_sem, *]; try rfl) rfl ?_
  all_goals exact df_done K2.out _ _ _ _ _ _ _
end Go.Proofs.Ytmoifakcjmdghaa
