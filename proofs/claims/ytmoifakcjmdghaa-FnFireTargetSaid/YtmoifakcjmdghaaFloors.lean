/- FloorsValid and FloorAt of the program, and the law's fixed answer 'alive': contracts. -/
import Derived.Test.YtmoifakcjmdghaaBase
import Derived.LoopN
namespace Go.Proofs.Ytmoifakcjmdghaa
open Go.ChangeShapes Go.WideShapes Go.ChangeAt Go.RowKit

/-- A slice of numbers that reads as xs. -/
def Ints (w : World) (A : Option Addr) (n : Nat) (xs : List Int) : Prop :=
  xs.length = n ∧ n ≤ 9223372036854775807 ∧ (0 < n → ∃ b off : Nat, A = some ⟨b, off, none⟩ ∧ b < w.heap.size ∧ ∀ j, j < n → w.cell? ⟨b, off + j, none⟩ = some (.int .i64 (xs[j]?.getD 0)))
theorem Ints.keep {w w' : World} {A : Option Addr} {n : Nat} {xs : List Int} (h : Ints w A n xs) (hs : w.heap.size ≤ w'.heap.size) (hk : ∀ p : Addr, p.block < w.heap.size → w'.cell? p = w.cell? p) : Ints w' A n xs :=
  ⟨h.1, h.2.1, fun hn => by
    obtain ⟨b, off, hA, hb, hc⟩ := h.2.2 hn
    exact ⟨b, off, hA, by omega, fun j hj => (hk ⟨b, off + j, none⟩ hb).trans (hc j hj)⟩⟩
theorem Ints.below {w w' : World} {A : Option Addr} {n : Nat} {xs : List Int} (h : Ints w A n xs) (hb : Below w.heap.size w w') : Ints w' A n xs := h.keep hb.size (fun _ hp => hb.cell hp)
theorem Ints.nil (w : World) : Ints w none 0 [] := ⟨rfl, by omega, fun h => absurd h (by omega)⟩

theorem ints_form {H : Type} {enc : TypeId × Value → H} {P : Program} {W : World} {r : Reach} {base : Nat} {t e : TypeId} {v : Value} {d : DataW H} {p : List MemPlace} (ht : P.underlying t = some (.slice e)) (he : P.underlying e = some (.int .i64)) (hc : P.cellsOf e = 1)
    (hv : Value.okWide P W r base t v) (h : DataW.Trod enc P W 0 (fun _ => true) true t v d p) : ∃ (A : Option Addr) (n c : Nat) (xs : List Int), v = .slice A n c ∧ Ints W A n xs := by
  obtain ⟨a0, len0, cap0, rfl⟩ := okWide_slice ht hv
  obtain ⟨fuel, hf⟩ := h
  rcases open_ints ht he hc hf with ⟨hcs, _⟩ | ⟨x, l, c, zs, hcs, _, hl, hm, hz, _, hcell, hwz⟩
  · simp [Value.cells] at hcs
    obtain ⟨rfl, rfl, rfl⟩ := hcs
    exact ⟨none, 0, 0, [], rfl, Ints.nil _⟩
  · simp [Value.cells] at hcs
    obtain ⟨rfl, rfl, rfl⟩ := hcs
    have hz' : zs.length = cap0 := by simpa using hz
    unfold maxLen at hm
    refine ⟨some x, len0, cap0, zs.take len0, rfl, by rw [List.length_take]; omega, by omega, fun hn => ?_⟩
    obtain ⟨b, off, spot⟩ := x
    have hc0 := hcell 0 (by omega)
    have hspot : spot = none := by simpa [Addr.add] using World.cell?_spot hc0
    subst hspot
    have hlt := World.block_lt_of_cell? _ _ hc0
    refine ⟨b, off, rfl, by simpa [Addr.add] using hlt, fun j hj => ?_⟩
    have hcj := hcell j (by omega)
    have hg : (zs.take len0)[j]?.getD 0 = zs.getD j 0 := by rw [List.getElem?_take, if_pos hj, List.getD_eq_getElem?_getD]
    rw [hg]
    by_cases hj0 : j = 0
    · subst hj0; simpa [Addr.add] using hcj
    · simpa [Addr.add, hj0] using hcj

/-- It returns v and has only drawn orders. -/
def Qt (w : World) (v : Value) (e : Ending) (w' : World) : Prop := e = .returned v ∧ ∃ m, w' = w.drewN m
theorem Qt.of {P : Program} {f : FuncId} {args : Array Value} {w : World} {v : Value} (h : Calls P f args w (Qt w v)) : Calls P f args w fun e w' => e = .returned v ∧ ∃ m, w' = w.drewN m := h
theorem qt_same (w : World) (v : Value) : Qt w v (.returned v) w := ⟨rfl, 0, rfl⟩
theorem qt_drew (w : World) (v : Value) (m : Nat) : Qt w v (.returned v) (w.drewN m) := ⟨rfl, m, rfl⟩

/-- Valid floors. -/
def FV (xs : List Int) : Prop := 1 ≤ xs.length ∧ xs.length ≤ 8 ∧ xs[0]?.getD 0 = 0 ∧ (∀ i, i < xs.length - 1 → xs[i]?.getD 0 < xs[i + 1]?.getD 0) ∧ xs[xs.length - 1]?.getD 0 ≤ 60
instance (xs : List Int) : Decidable (FV xs) := by unfold FV; infer_instance
def fvB (xs : List Int) : Bool := decide (FV xs)
theorem fv_yes {xs : List Int} (h : FV xs) : fvB xs = true := by simpa [fvB] using h
theorem fv_no {xs : List Int} (h : ¬ FV xs) : fvB xs = false := by simpa [fvB] using h
theorem fv_open {xs : List Int} (h : fvB xs = true) : FV xs := by simpa [fvB] using h

set_option maxHeartbeats 1000000 in
theorem fv_any (A : Option Addr) (n c : Nat) (xs : List Int) (w : World) (h : Ints w A n xs) : Calls Try.prog 44 #[.slice A n c] w (Qt w (.bool (fvB xs))) := by
  obtain ⟨hl, hm, hc⟩ := h
  have HL := Lib.hid hl
  clear hl
  by_cases h0 : n = 0
  · have h1 : fvB xs = false := fv_no (fun h => by have := HL.out; have := h.1; omega)
    subst h0
    rw [h1]
    go_enter Try.func44, Try.ntmps44
    go_wp2
    go_ret
    exact qt_same _ _
  by_cases h8 : 8 < n
  · have h1 : fvB xs = false := fv_no (fun h => by have := HL.out; have := h.2.1; omega)
    rw [h1]
    obtain ⟨b, off, rfl, hb, hcc⟩ := hc (by omega)
    clear hcc
    go_enter Try.func44, Try.ntmps44
    go_wp2
    go_ret
    exact qt_same _ _
  obtain ⟨b, off, rfl, hb, hcc⟩ := hc (by omega)
  have hc0 : w.cell? ⟨b, off, none⟩ = some (.int .i64 (xs[0]?.getD 0)) := hcc 0 (by omega)
  have HC := Lib.hid hcc
  clear hcc hc
  have n1 : 1 ≤ (n : Int) := by omega
  have n8 : (n : Int) ≤ 8 := by omega
  rcases bne_or (xs[0]?.getD 0) 0 with ⟨e0, e00, g0⟩ | ⟨e0, e00, g0⟩
  · have G0 := Lib.hid g0
    clear g0 h0 h8
    go_enter Try.func44, Try.ntmps44
    go_wp2
    go_ways
    go_loopw [3] (fun i wr => (∃ m, wr = w.drewN m) ∧ ∃ j : Nat, j + 1 ≤ n ∧ i = .int .i64 ((j : Int) + 1) ∧ ∀ i, i < j → xs[i]?.getD 0 < xs[i + 1]?.getD 0) (fun i _ => n - (intOf i).toNat)
    case atStart => exact ⟨⟨0, rfl⟩, 0, by omega, rfl, fun i hi => by omega⟩
    case round =>
      obtain ⟨⟨m, rfl⟩, j, hj, rfl, hasc⟩ := hrel
      have HA := Lib.hid hasc
      clear hasc
      by_cases hlt : j + 1 < n
      · have c1 := HC.out (j + 1) hlt
        have c2 := HC.out j (by omega)
        have hlt' : (j : Int) + 1 < (n : Int) := by omega
        have hlt2 : (j : Int) < (n : Int) := by omega
        have e1 : IntKind.i64.wrap ((j : Int) + 1 - 1) = (j : Int) := by rw [IntWalk.i64_in _ ⟨by omega, by omega⟩]; omega
        go_wp2
        go_quiet (fail)
        go_wp2
        · go_ret
          have hle : xs[j + 1]?.getD 0 ≤ xs[j]?.getD 0 := by assumption
          have hno : fvB xs = false := fv_no (fun hv => by have hx := hv.2.2.2.1 j (by rw [HL.out]; omega); omega)
          rw [hno]
          exact ⟨rfl, _, World.drewN_drewN _ _ _⟩
        · have hgt : xs[j]?.getD 0 < xs[j + 1]?.getD 0 := by assumption
          exact ⟨⟨⟨_, rfl⟩, j + 1, by omega, by go_num, fun i hi => by
            by_cases hij : i = j
            · subst hij; exact hgt
            · exact HA.out i (by omega)⟩, by simp [intOf]; omega⟩
      · obtain rfl : n = j + 1 := by omega
        have c2 := HC.out j (by omega)
        have e1 : ((j + 1 : Nat) : Int) = (j : Int) + 1 := by omega
        go_wp2
        go_ret
        refine ⟨ret_bool ?_, _, rfl⟩
        rw [Bool.eq_iff_iff]
        simp only [fvB, decide_eq_true_eq]
        have hl := HL.out
        constructor
        · intro hle
          exact ⟨by omega, by omega, G0.out, fun i hi => HA.out i (by omega), by rw [hl]; exact hle⟩
        · intro hv
          have := hv.2.2.2.2
          rw [hl] at this
          exact this
  · have hno : fvB xs = false := fv_no (fun hv => by have := hv.2.2.1; omega)
    rw [hno]
    clear g0 hno
    go_enter Try.func44, Try.ntmps44
    go_wp2
    go_ret
    exact qt_same _ _

theorem floorAt_nil (a : Int) (w : World) : Calls Try.prog 35 #[.slice none 0 0, .int .i64 a] w (Qt w (.int .i64 (-1))) := by
  have hf : fvB [] = false := by decide
  go_enter Try.func35, Try.ntmps35
  go_wp2_with (go_at_call 44; refine (fv_any none 0 0 [] _ (Ints.nil _)).mono ?_; rintro e w' ⟨rfl, m, rfl⟩)
  go_ret
  exact qt_drew _ _ _

theorem floorAt_three (b : Nat) (w : World) (hb : b < w.heap.size) (h0 : w.cell? ⟨b, 0, none⟩ = some (.int .i64 0)) (h1 : w.cell? ⟨b, 1, none⟩ = some (.int .i64 4)) (h2 : w.cell? ⟨b, 2, none⟩ = some (.int .i64 9)) :
    Calls Try.prog 35 #[.slice (some ⟨b, 0, none⟩) 3 3, .int .i64 4] w (Qt w (.int .i64 1)) := by
  have hf : fvB [0, 4, 9] = true := by decide
  have hI : Ints w (some ⟨b, 0, none⟩) 3 [0, 4, 9] := ⟨rfl, by omega, fun _ => ⟨b, 0, rfl, hb, fun j hj => by
    rcases (show j = 0 ∨ j = 1 ∨ j = 2 by omega) with rfl | rfl | rfl
    · exact h0
    · exact h1
    · exact h2⟩⟩
  have HI := Lib.hid hI
  clear hI
  go_enter Try.func35, Try.ntmps35
  go_wp2_with (go_at_call 44; refine (fv_any _ 3 3 [0, 4, 9] _ HI.out).mono ?_; rintro e w' ⟨rfl, m, rfl⟩)
  go_rounds 2
  go_ret
  exact qt_drew _ _ _

theorem alive_any (w : World) : Calls Try.prog 19 #[] w fun e w' => e = .returned (.bool true) ∧ Below w.heap.size w w' := by
  go_enter Try.func19, Try.ntmps19
  go_wp2_with fail
  refine (floorAt_three w.heap.size _ (by simp) (by go_simp) (by go_simp) (by go_simp)).mono ?_
  rintro e w' ⟨rfl, m, rfl⟩
  go_wp2_with fail
  refine (floorAt_nil _ _).mono ?_
  rintro e w' ⟨rfl, m', rfl⟩
  go_wp2
  go_ret
  exact ⟨rfl, by (repeat' (first | (with_reducible exact Below.refl _ _) | (with_reducible assumption) | (with_reducible exact bundrew (by assumption)) | (with_reducible refine balloc ?_ _) | (with_reducible refine bset ?_ _ ?_ _) | (with_reducible refine Below.drew ?_) | (with_reducible refine bdrewN ?_ _) | (with_reducible refine bvia (by assumption) ?_) | (with_reducible refine Below.trans ?_ (by assumption)) | omega | (simp; omega) | (simp; done)))⟩
end Go.Proofs.Ytmoifakcjmdghaa
