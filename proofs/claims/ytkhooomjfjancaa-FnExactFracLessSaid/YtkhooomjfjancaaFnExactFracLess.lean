/- The law FnExactFracLess of the given program returns true for every input, and its arguments read afterwards as before: the row's step and the statement; no condition. -/
import Derived.Test.YtkhooomjfjancaaFracB
import Derived.Lib.SmallJoins
namespace Go.Proofs.Ytkhooomjfjancaa.fnExactFracLess
open Go.ChangeShapes Go.WideShapes Go.ChangeAt Go.RowKit Go.Joins

set_option maxRecDepth 100000 in
theorem lifted (os : Os) (started : os.Started) (H : Type) (enc : TypeId × Value → H) :
    ReturnsInHanded {} Try.checked os 4 .any (Rows.fnExactFracLessSpec.pre6 enc Try.prog Try.f4 Rows.fnExactFracLessRow.domain false) (Rows.fnExactFracLessSpec.post enc Try.prog Try.f4 false true false false) := by
  refine returnsInHanded_of_change (C := Try.checked) own started (by kernel_rfl) Try.func4
    (ChangeSpec.witness6 (enc := enc) (C := Try.checked) false ⟨#[], #[.agg #[.int .i64 0, .int .i64 0], .agg #[.int .i64 0, .int .i64 0]], []⟩ 8 (by kernel_rfl) (by kernel_rfl) (by kernel_rfl) (by kernel_rfl)) ?_
  intro W base args ds gs before hval0 hW _ _
  have hval : ∀ (j : Nat) t v, Try.f4.params[j]? = some t → args[j]? = some v → Value.okWide Try.prog W .any base t v := hval0
  have hW' := hW
  obtain ⟨p, q, hA0, hV, rfl, hfz, hnd⟩ := hW
  have hA : DataW.TrodAll enc Try.prog W 0 (fun _ => true) true Try.f4.params.toList args.toList ds p := hA0
  rw [Try.params4] at hA hval
  obtain ⟨v0, vs0, d0, ds0, p0, q0, hargs, rfl, rfl, h0, r0⟩ := trodAll_cons hA
  obtain ⟨v1, vs1, d1, ds1, p1, q1, rfl, rfl, rfl, h1, r1⟩ := trodAll_cons r0
  obtain ⟨rfl, rfl, rfl⟩ := trodAll_nil r1
  obtain rfl : args = #[v0, v1] := by cases args; simp_all
  obtain ⟨rfl, rfl⟩ := trodVars_none hV
  have k0 := h0
  have lt0 : ∀ x ∈ p0, x.block < W.heap.size := by obtain ⟨m, hm⟩ := k0; exact DataW.trod_lt m _ _ _ hm
  obtain ⟨c0_0, c0_1, y0_0, y0_1, m0, rfl, -, -, g0_0, g0_1⟩ := open_agg2 Try.underlying28 (by kernel_rfl) (show Try.prog.cellsOf 28 = 2 by kernel_rfl) (hval 0 28 v0 rfl rfl) h0
  obtain ⟨x0_0, e0_0, -, w0_0⟩ := DataW.trod_int Try.underlying3 g0_0
  obtain rfl : c0_0 = .int .i64 x0_0 := by simpa using e0_0
  obtain ⟨x0_1, e0_1, -, w0_1⟩ := DataW.trod_int Try.underlying3 g0_1
  obtain rfl : c0_1 = .int .i64 x0_1 := by simpa using e0_1
  have k1 := h1
  have lt1 : ∀ x ∈ p1, x.block < W.heap.size := by obtain ⟨m, hm⟩ := k1; exact DataW.trod_lt m _ _ _ hm
  obtain ⟨c1_0, c1_1, y1_0, y1_1, m1, rfl, -, -, g1_0, g1_1⟩ := open_agg2 Try.underlying28 (by kernel_rfl) (show Try.prog.cellsOf 28 = 2 by kernel_rfl) (hval 1 28 v1 rfl rfl) h1
  obtain ⟨x1_0, e1_0, -, w1_0⟩ := DataW.trod_int Try.underlying3 g1_0
  obtain rfl : c1_0 = .int .i64 x1_0 := by simpa using e1_0
  obtain ⟨x1_1, e1_1, -, w1_1⟩ := DataW.trod_int Try.underlying3 g1_1
  obtain rfl : c1_1 = .int .i64 x1_1 := by simpa using e1_1
  clear hA0 hval0
  refine (walk_FnExactFracLess x0_0 x0_1 x1_0 x1_1 W w0_0 w0_1 w1_0 w1_1).mono fun e W' ⟨he, bel⟩ => ?_
  subst he
  exact ⟨_, rfl, _, _, _, [], _, [], hW', trodAll_mk1 (shut_bool Try.underlying4 _), (trodAll_cons_mk (Below.trod laidOut (by kernel_rfl) (of_decide_eq_true (by kernel_rfl)) k0 bel lt0) (trodAll_cons_mk (Below.trod laidOut (by kernel_rfl) (of_decide_eq_true (by kernel_rfl)) k1 bel lt1) trodAll_mk0)), rfl, bel.frame _, fun h => by cases h⟩

theorem proved : Rows.FnExactFracLessSaid :=
  OpenClaim.holds_of_wide 4 Try.f4 rfl rfl rfl rfl rfl rfl rfl ⟨rfl, rfl, rfl, rfl, rfl⟩ rfl rfl rfl rfl rfl (by kernel_rfl) Try.func4 (by kernel_rfl)
    (of_decide_eq_true (by kernel_rfl)) (by unfold Func.isWrapper; first | (rw [if_pos (by decide +kernel)]; kernel_rfl) | (rw [if_neg (by decide +kernel)]; exact ⟨rfl, rfl⟩))
    (fun os started H enc _ => lifted os started H enc)
end Go.Proofs.Ytkhooomjfjancaa.fnExactFracLess
