/- The table of modes, out of the row's list of package-level variables; a world for the witness. -/
import Derived.Test.YtmoifakcjmdghaaDoorFireA
import Derived.Test.YtmoifakcjmdghaaDoorTie
import Derived.Test.YtmoifakcjmdghaaDoorCards
import Derived.Lib.LaidTab
import Derived.Deep.DeepHandedRow
import Derived.OpenVars
namespace Go.Proofs.YtmoifakcjmdghaaDoor
open Go.ChangeShapes Go.WideShapes Go.ChangeAt Go.RowKit

/-- An array of arrays of integers that reads as rows of numbers holds them, row by row. -/
theorem rows_of_tab {H : Type} {enc : TypeId × Value → H} {P : Program} {w : World} {base : Nat} {sp : Nat → Bool} {held : Bool} {fuel : Nat} {t e e2 : TypeId} {n m : Nat} {k : IntKind} {cs : List Value} {rows : List (List Int)} {p : List MemPlace}
    (ht : P.underlying t = some (.array n e)) (he : P.underlying e = some (.array m e2)) (he2 : P.underlying e2 = some (.int k)) (hce : P.cellsOf e2 = 1) (hcm : P.cellsOf e = m) (hct : P.cellsOf t = n * m)
    (h : DataW.trod enc P w base sp held fuel t cs = some (.agg (rows.map (Lib.tabData k)), p)) :
    cs.length = n * m ∧ rows.length = n ∧ ∀ i, i < n → ∃ r, rows[i]? = some r ∧ (cs.drop (i * m)).take m = r.map fun z => Value.int k z := by
  cases fuel with
  | zero => simp [DataW.trod] at h
  | succ fuel =>
    simp only [DataW.trod, ht, hcm, hct] at h
    split at h
    · rename_i hl
      obtain ⟨xs, hm, hx⟩ := Option.map_eq_some_iff.1 h
      have hxs : xs.map (·.1) = rows.map (Lib.tabData (H := H) k) := by
        have := congrArg Prod.fst hx
        simpa using this
      have hxl : xs.length = n := by simpa using Lib.mapM_length hm
      have hrl : rows.length = n := by
        have := congrArg List.length hxs
        simp at this
        omega
      refine ⟨hl, hrl, fun i hi => ?_⟩
      obtain ⟨b, hb, hf⟩ := Lib.mapM_at hm i i (by simp [hi])
      have h2 : (xs.map (·.1))[i]? = some b.1 := by simp [hb]
      rw [hxs] at h2
      simp only [List.getElem?_map, Option.map_eq_some_iff] at h2
      obtain ⟨r, hr, hbr⟩ := h2
      refine ⟨r, hr, ?_⟩
      obtain ⟨b1, b2⟩ := b
      simp only at hbr
      subst hbr
      exact Lib.cells_of_tab he he2 hce hcm hf
    · cases h

theorem gTab : Tryd.prog.globalNamed "loop.example/elevators/impl.fireModes" = some 0 := by kernel_rfl
theorem gTabType : (Tryd.prog.globals[0]?).map (·.type) = some 40 := by kernel_rfl
theorem laid_is : (Rows.laid_loop_example_elevators_impl_fireModes : DataW Unit) = .agg ([[1, 0, 0, 0, 0], [1, 2, 1, 1, 1], [2, 2, 3, 2, 0], [3, 3, 3, 1, 3]].map (Lib.tabData .i64)) := rfl

/-- What the row's list gives. -/
theorem tab_of {W : World} (h : laidMetH Tryd.prog [("loop.example/elevators/impl.fireModes", Rows.laid_loop_example_elevators_impl_fireModes)] W) : Tab W := by
  obtain ⟨ps, ⟨g, t, cs, fuel, p, q, hg, ht, hvar, hd, _, _⟩, _⟩ := h
  obtain rfl := Option.some.inj (gTab.symm.trans hg)
  obtain rfl := Option.some.inj (gTabType.symm.trans ht)
  rw [laid_is] at hd
  obtain ⟨hl, _, hrow⟩ := rows_of_tab Tryd.underlying40 Tryd.underlying39 Tryd.underlying3 (by kernel_rfl) (by kernel_rfl) (by kernel_rfl) hd
  have key : ∀ i, i < 20 → cs.toList[i]? = some (.int .i64 (fireTab.getD i 0)) := by
    intro i hi
    obtain ⟨r, hr, hc⟩ := hrow (i / 5) (by omega)
    have h1 : cs.toList[i]? = ((cs.toList.drop (i / 5 * 5)).take 5)[i % 5]? := by
      rw [List.getElem?_take, if_pos (by omega), List.getElem?_drop, show i / 5 * 5 + i % 5 = i by omega]
    rw [h1, hc]
    have h2 : ∀ i, i < 20 → ∃ r, ([[1, 0, 0, 0, 0], [1, 2, 1, 1, 1], [2, 2, 3, 2, 0], [3, 3, 3, 1, 3]] : List (List Int))[i / 5]? = some r ∧ r[i % 5]? = some (fireTab.getD i 0) := by
      intro i hi
      have : ∀ i, i < 20 → (([[1, 0, 0, 0, 0], [1, 2, 1, 1, 1], [2, 2, 3, 2, 0], [3, 3, 3, 1, 3]] : List (List Int))[i / 5]?.getD [])[i % 5]? = some (fireTab.getD i 0) := by decide
      have h3 := this i hi
      cases hx : ([[1, 0, 0, 0, 0], [1, 2, 1, 1, 1], [2, 2, 3, 2, 0], [3, 3, 3, 1, 3]] : List (List Int))[i / 5]? with
      | none => rw [hx] at h3; simp at h3
      | some r => rw [hx] at h3; exact ⟨r, rfl, h3⟩
    obtain ⟨r', hr', hv⟩ := h2 i hi
    obtain rfl : r = r' := Option.some.inj (hr.symm.trans hr')
    simp [hv]
  have cell : ∀ i : Nat, i < 20 → W.cell? ⟨0, i, none⟩ = some (.int .i64 (fireTab.getD i 0)) := by
    intro i hi
    rw [World.var?_cell gTab hvar i]
    have := key i hi
    simpa using this
  exact ⟨World.block_lt_of_cell? W _ (cell 0 (by omega)), cell⟩

/-- The settled world, the table (block 0) holding what its initialiser lays. -/
noncomputable def laidWorld (os : Os) : World :=
  { World.holding Tryd.prog os ⟨#[], #[], []⟩ with heap := (World.holding Tryd.prog os ⟨#[], #[], []⟩).heap.modify 0 fun
      | .cells _ t frozen => .cells (fireTab.map (Value.int .i64)).toArray t frozen
      | o => o }
end Go.Proofs.YtmoifakcjmdghaaDoor
