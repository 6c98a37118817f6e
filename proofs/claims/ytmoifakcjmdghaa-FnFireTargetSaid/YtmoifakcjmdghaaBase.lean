/- Small lemmas that every walk of this seat uses: endings, and memory below a block number. -/
import Derived.Test.YtmoifakcjmdghaaRows
import Derived.WalkKit
import Derived.ProofKit
import Derived.OpenShut
import Derived.Handy
import Derived.Lib.Hide
import Derived.Deep.QuietTactic
import Derived.BigQuiet
import Derived.Deep.DeepMust
namespace Go.Proofs.Ytmoifakcjmdghaa
open Go.ChangeShapes Go.WideShapes Go.ChangeAt Go.RowKit

theorem ret_bool {a b : Bool} (h : a = b) : Ending.returned (.bool a) = .returned (.bool b) := by rw [h]
theorem ret_int {a b : Int} (h : a = b) : Ending.returned (.int .i64 a) = .returned (.int .i64 b) := by rw [h]
theorem bcell {W w1 : World} (hb : Below W.heap.size W w1) : (∀ b o, b < W.heap.size → w1.cell? ⟨b, o, none⟩ = W.cell? ⟨b, o, none⟩) ∧ (∀ b o, b < W.heap.size → w1.frozen? ⟨b, o, none⟩ = W.frozen? ⟨b, o, none⟩) :=
  ⟨fun b o h => hb.cell (p := ⟨b, o, none⟩) h, fun b o h => hb.frozen (p := ⟨b, o, none⟩) h⟩
/-- One call more: below n the world still is as W0. -/
theorem bstep {n : Nat} {W0 a b : World} (h : Below n W0 a) (hb : Below a.heap.size a b) (hn : n ≤ W0.heap.size) : Below n W0 b := h.trans (hb.mono (Nat.le_trans hn h.size))
theorem bfacts {n : Nat} {W0 a : World} (h : Below n W0 a) : (∀ b o, b < n → a.cell? ⟨b, o, none⟩ = W0.cell? ⟨b, o, none⟩) ∧ (∀ b o, b < n → a.frozen? ⟨b, o, none⟩ = W0.frozen? ⟨b, o, none⟩) :=
  ⟨fun b o hlt => h.cell (p := ⟨b, o, none⟩) hlt, fun b o hlt => h.frozen (p := ⟨b, o, none⟩) hlt⟩
theorem bfacts3 {n : Nat} {W0 a : World} (h : Below n W0 a) (hn : n ≤ W0.heap.size) : (∀ b o, b < n → a.cell? ⟨b, o, none⟩ = W0.cell? ⟨b, o, none⟩) ∧ (∀ b o, b < n → a.frozen? ⟨b, o, none⟩ = W0.frozen? ⟨b, o, none⟩) ∧ ∀ b, b < n → b < a.heap.size :=
  ⟨fun b o hlt => h.cell (p := ⟨b, o, none⟩) hlt, fun b o hlt => h.frozen (p := ⟨b, o, none⟩) hlt, fun _ hb => Nat.lt_of_lt_of_le hb (Nat.le_trans hn h.size)⟩
theorem bvia {w W w1 : World} (hb : Below W.heap.size W w1) (h : Below w.heap.size w W) : Below w.heap.size w w1 := h.trans (hb.mono h.size)
theorem balloc {w W : World} (h : Below w.heap.size w W) (o : Obj) : Below w.heap.size w (W.alloc o) := h.alloc h.size o
theorem bset {w W : World} (h : Below w.heap.size w W) (p : Addr) (hp : w.heap.size ≤ p.block) (u : Value) : Below w.heap.size w (W.setCell p u) := h.setCell hp u
theorem bsize {W w1 : World} (hb : Below W.heap.size W w1) : W.heap.size ≤ w1.heap.size := hb.size
/-- What a call leaves of the caller's world W (its blocks and all older ones), in the forms that the walk asks. -/
theorem bfacts5 {W a : World} (h : Below W.heap.size W a) : (∀ b o, b < W.heap.size → a.cell? ⟨b, o, none⟩ = W.cell? ⟨b, o, none⟩) ∧ (∀ b o, b < W.heap.size → a.frozen? ⟨b, o, none⟩ = W.frozen? ⟨b, o, none⟩) ∧
    (∀ b, b < W.heap.size → b < a.heap.size) ∧ (∀ b, b < W.heap.size → b ≤ a.heap.size) ∧ (∀ b, b < W.heap.size → ¬ b = a.heap.size) ∧ W.heap.size ≤ a.heap.size :=
  ⟨fun b o hlt => h.cell (p := ⟨b, o, none⟩) hlt, fun b o hlt => h.frozen (p := ⟨b, o, none⟩) hlt, fun _ hb => Nat.lt_of_lt_of_le hb h.size, fun _ hb => Nat.le_of_lt (Nat.lt_of_lt_of_le hb h.size), fun _ hb => Nat.ne_of_lt (Nat.lt_of_lt_of_le hb h.size), h.size⟩
theorem size_drewN (w : World) (n : Nat) : (w.drewN n).heap.size = w.heap.size := rfl
theorem bundrew {n : Nat} {w W : World} (h : Below n w W.drew) : Below n w W := ⟨h.os, h.tape, h.output, h.size, h.block⟩
theorem lt_more {a b : Nat} (h : a < b) : ∀ m : Nat, a < b + m := fun _ => Nat.lt_add_right _ h
theorem far_facts {a b : Nat} (h : a < b) : (∀ m : Nat, a < b + m) ∧ ¬ a = b ∧ ¬ b = a ∧ (∀ m : Nat, ¬ a = b + m) ∧ ∀ m : Nat, ¬ b + m = a :=
  ⟨fun _ => Nat.lt_add_right _ h, by omega, by omega, fun _ => by omega, fun _ => by omega⟩
theorem selfs (a : Nat) : a < a + 1 ∧ a < a + 1 + 1 ∧ a < a + 1 + 1 + 1 ∧ a < a + 1 + 1 + 1 + 1 ∧ a < a + 1 + 1 + 1 + 1 + 1 ∧ a < a + 1 + 1 + 1 + 1 + 1 + 1 ∧ a < a + 1 + 1 + 1 + 1 + 1 + 1 + 1 ∧ a < a + 1 + 1 + 1 + 1 + 1 + 1 + 1 + 1 ∧ a < a + 1 + 1 + 1 + 1 + 1 + 1 + 1 + 1 + 1 := by omega
theorem bne_or (a b : Int) : ((a == b) = true ∧ (a != b) = false ∧ a = b) ∨ ((a == b) = false ∧ (a != b) = true ∧ (a < b ∨ b < a)) := by
  by_cases h : a = b
  · exact .inl ⟨by simpa using h, by simpa using h, h⟩
  · exact .inr ⟨by simpa using h, by simpa using h, by omega⟩
theorem flipW {P : Program} {f : FuncId} {args : Array Value} {w : World} {v : Value} (h : Calls P f args w fun e w' => e = .returned v ∧ w = w') : Calls P f args w fun e w' => e = .returned v ∧ w' = w :=
  h.mono fun _ _ hh => ⟨hh.1, hh.2.symm⟩
theorem bdrewN {n : Nat} {W0 a : World} (h : Below n W0 a) (k : Nat) : Below n W0 (a.drewN k) := ⟨h.os, h.tape, h.output, h.size, h.block⟩
theorem bfalse {b : Bool} (h : ¬ b = true) : b = false := by simpa using h
theorem beq_or (a b : Int) : ((a == b) = true ∧ a = b) ∨ ((a == b) = false ∧ (a < b ∨ b < a)) := by
  by_cases h : a = b
  · exact .inl ⟨by simpa using h, h⟩
  · exact .inr ⟨by simpa using h, by omega⟩
theorem own : ownKnob Try.prog.godebug = none := by kernel_rfl
theorem laidOut : laidOutB Try.prog = true := by kernel_rfl

/-- 'a ≤ n and n ≤ b', as a Bool that the walk does not open. -/
def inB (n a b : Int) : Bool := decide (a ≤ n ∧ n ≤ b)
theorem inB_yes {n a b : Int} (h : a ≤ n ∧ n ≤ b) : inB n a b = true := by simp [inB, h]
theorem inB_open {n a b : Int} (h : inB n a b = true) : a ≤ n ∧ n ≤ b := by simpa [inB] using h
theorem inB_shut {n a b : Int} (h : ¬ inB n a b = true) : n < a ∨ b < n := by simp only [inB, decide_eq_true_eq] at h; omega
theorem inB_no {n a b : Int} (h : ¬ (a ≤ n ∧ n ≤ b)) : inB n a b = false := by simp only [inB, h, decide_false]

theorem l1In_any (n a b : Int) (w : World) : Calls Try.prog 22 #[.int .i64 n, .int .i64 a, .int .i64 b] w fun e w' => e = .returned (.bool (inB n a b)) ∧ w = w' := by
  go_enter Try.func22, Try.ntmps22
  go_wp2
  all_goals go_ret
  all_goals exact ⟨ret_bool (by simp only [inB]; first | rfl | (simp; omega)), rfl⟩
end Go.Proofs.Ytmoifakcjmdghaa
