/- The law FnExactFireTarget of the given program returns true for every input, and its arguments read afterwards as before: the row's step and the statement; no condition. -/
import Derived.Test.YtmoifakcjmdghaaFtI
import Derived.Lib.SmallJoins
namespace Go.Proofs.Ytmoifakcjmdghaa.fnExactFireTarget
open Go.ChangeShapes Go.WideShapes Go.ChangeAt Go.RowKit Go.Joins

set_option maxRecDepth 100000 in
theorem lifted (os : Os) (started : os.Started) (H : Type) (enc : TypeId × Value → H) :
    ReturnsInHanded {} Try.checked os 4 .any (Rows.fnExactFireTargetSpec.pre6 enc Try.prog Try.f4 Rows.fnExactFireTargetRow.domain false) (Rows.fnExactFireTargetSpec.post enc Try.prog Try.f4 false true false false) := by
  refine returnsInHanded_of_change (C := Try.checked) own started (by kernel_rfl) Try.func4
    (ChangeSpec.witness6 (enc := enc) (C := Try.checked) false ⟨#[], #[.int .i64 0, .agg #[.slice none 0 0, .slice none 0 0, .slice none 0 0], .agg #[.int .i64 0, .int .i64 0], .int .i64 0], []⟩ 8 (by kernel_rfl) (by kernel_rfl) (by kernel_rfl) (by kernel_rfl)) ?_
  intro W base args ds gs before hval0 hW _ _
  have hval : ∀ (j : Nat) t v, Try.f4.params[j]? = some t → args[j]? = some v → Value.okWide Try.prog W .any base t v := hval0
  have hW' := hW
  obtain ⟨p, q, hA0, hV, rfl, hfz, hnd⟩ := hW
  have hA : DataW.TrodAll enc Try.prog W 0 (fun _ => true) true Try.f4.params.toList args.toList ds p := hA0
  rw [Try.params4] at hA hval
  obtain ⟨v0, vs0, d0, ds0, p0, q0, hargs, rfl, rfl, h0, r0⟩ := trodAll_cons hA
  obtain ⟨v1, vs1, d1, ds1, p1, q1, rfl, rfl, rfl, h1, r1⟩ := trodAll_cons r0
  obtain ⟨v2, vs2, d2, ds2, p2, q2, rfl, rfl, rfl, h2, r2⟩ := trodAll_cons r1
  obtain ⟨v3, vs3, d3, ds3, p3, q3, rfl, rfl, rfl, h3, r3⟩ := trodAll_cons r2
  obtain ⟨rfl, rfl, rfl⟩ := trodAll_nil r3
  obtain rfl : args = #[v0, v1, v2, v3] := by cases args; simp_all
  obtain ⟨rfl, rfl⟩ := trodVars_none hV
  have k0 := h0
  have lt0 : ∀ x ∈ p0, x.block < W.heap.size := by obtain ⟨m, hm⟩ := k0; exact DataW.trod_lt m _ _ _ hm
  obtain ⟨a0, rfl, -, -, w0⟩ := open_int Try.underlying3 (hval 0 3 v0 rfl rfl) h0
  have k1 := h1
  have lt1 : ∀ x ∈ p1, x.block < W.heap.size := by obtain ⟨m, hm⟩ := k1; exact DataW.trod_lt m _ _ _ hm
  obtain ⟨c1_0, c1_1, c1_2, y1_0, y1_1, y1_2, m1, rfl, -, -, g1_0, g1_1, g1_2⟩ := open_agg3 Try.underlying29 (by kernel_rfl) (show Try.prog.cellsOf 29 = 3 by kernel_rfl) (hval 1 29 v1 rfl rfl) h1
  obtain ⟨A1_0, n1_0, cap1_0, bs1_0, rfl, hx1_0⟩ := bools_field Try.underlying27 Try.underlying4 (by kernel_rfl) g1_0
  obtain ⟨A1_1, n1_1, cap1_1, bs1_1, rfl, hx1_1⟩ := bools_field Try.underlying27 Try.underlying4 (by kernel_rfl) g1_1
  obtain ⟨A1_2, n1_2, cap1_2, bs1_2, rfl, hx1_2⟩ := bools_field Try.underlying27 Try.underlying4 (by kernel_rfl) g1_2
  have k2 := h2
  have lt2 : ∀ x ∈ p2, x.block < W.heap.size := by obtain ⟨m, hm⟩ := k2; exact DataW.trod_lt m _ _ _ hm
  obtain ⟨c2_0, c2_1, y2_0, y2_1, m2, rfl, -, -, g2_0, g2_1⟩ := open_agg2 Try.underlying31 (by kernel_rfl) (show Try.prog.cellsOf 31 = 2 by kernel_rfl) (hval 2 31 v2 rfl rfl) h2
  obtain ⟨x2_0, e2_0, -, w2_0⟩ := DataW.trod_int Try.underlying3 g2_0
  obtain rfl : c2_0 = .int .i64 x2_0 := by simpa using e2_0
  obtain ⟨x2_1, e2_1, -, w2_1⟩ := DataW.trod_int Try.underlying3 g2_1
  obtain rfl : c2_1 = .int .i64 x2_1 := by simpa using e2_1
  have k3 := h3
  have lt3 : ∀ x ∈ p3, x.block < W.heap.size := by obtain ⟨m, hm⟩ := k3; exact DataW.trod_lt m _ _ _ hm
  obtain ⟨a3, rfl, -, -, w3⟩ := open_int Try.underlying3 (hval 3 3 v3 rfl rfl) h3
  clear hA0 hval0
  refine (walk_FnExactFireTarget a0 A1_0 n1_0 cap1_0 bs1_0 A1_1 n1_1 cap1_1 bs1_1 A1_2 n1_2 cap1_2 bs1_2 x2_0 x2_1 a3 W w0 hx1_0 hx1_1 hx1_2 w2_0 w2_1 w3).mono fun e W' ⟨he, bel⟩ => ?_
  subst he
  exact ⟨_, rfl, _, _, _, [], _, [], hW', trodAll_mk1 (shut_bool Try.underlying4 _), (trodAll_cons_mk (Below.trod laidOut (by kernel_rfl) (of_decide_eq_true (by kernel_rfl)) k0 bel lt0) (trodAll_cons_mk (Below.trod laidOut (by kernel_rfl) (of_decide_eq_true (by kernel_rfl)) k1 bel lt1) (trodAll_cons_mk (Below.trod laidOut (by kernel_rfl) (of_decide_eq_true (by kernel_rfl)) k2 bel lt2) (trodAll_cons_mk (Below.trod laidOut (by kernel_rfl) (of_decide_eq_true (by kernel_rfl)) k3 bel lt3) trodAll_mk0)))), rfl, bel.frame _, fun h => by cases h⟩

theorem proved : Rows.FnExactFireTargetSaid :=
  OpenClaim.holds_of_wide 4 Try.f4 rfl rfl rfl rfl rfl rfl rfl ⟨rfl, rfl, rfl, rfl, rfl⟩ rfl rfl rfl rfl rfl (by kernel_rfl) Try.func4 (by kernel_rfl)
    (of_decide_eq_true (by kernel_rfl)) (by unfold Func.isWrapper; first | (rw [if_pos (by decide +kernel)]; kernel_rfl) | (rw [if_neg (by decide +kernel)]; exact ⟨rfl, rfl⟩))
    (fun os started H enc _ => lifted os started H enc)
end Go.Proofs.Ytmoifakcjmdghaa.fnExactFireTarget
