/- Lists of natural numbers as the program's numbers. -/
import Derived.Test.YtmekbfjeljfbpaaLower
namespace Go.Proofs.Ytmekbfjeljfbpaa
open Go.ChangeShapes Go.WideShapes Go.ChangeAt Go.RowKit

/-- Natural numbers as the program's numbers. -/
def nums (l : List Nat) : List Int := l.map fun (a : Nat) => (a : Int)
theorem nums_length (l : List Nat) : (nums l).length = l.length := by simp [nums]
theorem nums_cons (a : Nat) (l : List Nat) : nums (a :: l) = [(a : Int)] ++ nums l := rfl
theorem nums_snoc (a : Nat) (l : List Nat) : nums (l ++ [a]) = nums l ++ [(a : Int)] := by simp [nums]
theorem nums_append (l m : List Nat) : nums (l ++ m) = nums l ++ nums m := by simp [nums]
theorem nums_get (l : List Nat) (k : Nat) : (nums l)[k]?.getD 0 = ((l[k]?.getD 0 : Nat) : Int) := by
  unfold nums
  rw [List.getElem?_map]
  cases l[k]? <;> rfl
theorem nums_inj {l m : List Nat} (h : nums l = nums m) : l = m := by
  apply List.ext_getElem?
  intro i
  have h1 := congrArg (fun x => x[i]?) h
  simp only [nums, List.getElem?_map] at h1
  cases e1 : l[i]? <;> cases e2 : m[i]? <;> simp [e1, e2] at h1 ⊢
  omega
/-- The numbers of a list, from 0 on. -/
def toN (xs : List Int) : List Nat := xs.map Int.toNat
theorem toN_length (xs : List Int) : (toN xs).length = xs.length := by simp [toN]
theorem toN_get (xs : List Int) (k : Nat) : (toN xs)[k]?.getD 0 = (xs[k]?.getD 0).toNat := by
  unfold toN
  rw [List.getElem?_map]
  cases xs[k]? <;> rfl
theorem toN_nums (l : List Nat) : toN (nums l) = l := by
  unfold toN nums
  rw [List.map_map]
  exact List.map_id'' (by intro a; simp) l
theorem nums_toN {xs : List Int} (h : ∀ k, k < xs.length → 0 ≤ xs[k]?.getD 0) : nums (toN xs) = xs := by
  apply List.ext_getElem?
  intro i
  unfold nums toN
  rw [List.map_map, List.getElem?_map]
  rcases Nat.lt_or_ge i xs.length with hi | hi
  · have := h i hi
    rw [List.getElem?_eq_getElem hi] at this ⊢
    simp at this ⊢
    omega
  · rw [List.getElem?_eq_none hi]; rfl
/-- A list of numbers of the call's own. -/
def NumsOut (w : World) (l : List Nat) (e : Ending) (w' : World) : Prop := ∃ v : Value, e = .returned v ∧ OwnI w' w.heap.size v (nums l) ∧ Below w.heap.size w w'
end Go.Proofs.Ytmekbfjeljfbpaa
