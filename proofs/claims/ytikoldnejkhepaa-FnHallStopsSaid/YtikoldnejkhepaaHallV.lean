/- The lists of cars by their numbers (l13Of): contract; HallBest of the reference: contract. -/
import Derived.Test.YtikoldnejkhepaaClone
import Derived.Test.YtikoldnejkhepaaHallQ
namespace Go.Proofs.Ytikoldnejkhepaa
open Go.ChangeShapes Go.WideShapes Go.ChangeAt Go.RowKit

/-- Natural numbers as the program's numbers. -/
def nums (l : List Nat) : List Int := l.map fun (a : Nat) => (a : Int)
theorem nums_length (l : List Nat) : (nums l).length = l.length := by simp [nums]
theorem nums_cons (a : Nat) (l : List Nat) : nums (a :: l) = [(a : Int)] ++ nums l := rfl
theorem nums_snoc (a : Nat) (l : List Nat) : nums (l ++ [a]) = nums l ++ [(a : Int)] := by simp [nums]
theorem nums_get (l : List Nat) (k : Nat) : (nums l)[k]?.getD 0 = ((l[k]?.getD 0 : Nat) : Int) := by
  unfold nums
  rw [List.getElem?_map]
  cases l[k]? <;> rfl
theorem toN_nums (l : List Nat) : toN (nums l) = l := by
  unfold toN nums
  rw [List.map_map]
  exact List.map_id'' (by intro a; simp) l
theorem digits_length (m : Nat) : ∀ n a, (HP.digits m n a).length = n
  | 0, _ => rfl
  | n + 1, a => by simp [HP.digits, digits_length m n a]
theorem digits_lt {m : Nat} (hm : 0 < m) : ∀ n a, ∀ c ∈ HP.digits m n a, c < m
  | 0, _, c, hc => by simp [HP.digits] at hc
  | n + 1, a, c, hc => by
    simp only [HP.digits, List.mem_cons] at hc
    rcases hc with rfl | hc
    · exact Nat.mod_lt _ hm
    · exact digits_lt hm n a c hc

/-- A list of numbers of the call's own. -/
def NumsOut (w : World) (l : List Nat) (e : Ending) (w' : World) : Prop := ∃ v : Value, e = .returned v ∧ OwnI w' w.heap.size v (nums l) ∧ Below w.heap.size w w'

set_option maxHeartbeats 2000000 in
theorem digits_any (a m k : Nat) (hm : 1 ≤ m) (hm2 : m ≤ 3) (hk : k ≤ 6) (ha : a ≤ 1000) (w : World) :
    Calls Try.prog 40 #[.int .i64 (a : Int), .int .i64 (k : Int), .int .i64 (m : Int)] w (NumsOut w (HP.digits m k a)) := by
  have hm' : 1 ≤ (m : Int) := by omega
  have hm2' : (m : Int) ≤ 3 := by omega
  have Hz0 := OwnI.made (w := w.alloc (.cells #[] 3)) (base := w.heap.size) (g := w.heap.size) (xs := []) (Nat.le_refl _) (heap_alloc_new w _) (by unfold maxLen; decide)
  go_enter Try.func40, Try.ntmps40
  go_wp2_with fail
  go_loopw [0, 7, 8] (fun x v i wr => ∃ (v0 : Value) (j : Nat), v0 = v ∧ j ≤ k ∧ i = .int .i64 j ∧ x = .int .i64 ((a / m ^ j : Nat) : Int) ∧ OwnI wr w.heap.size v0 (nums (HP.digits m j a)) ∧ Below w.heap.size w wr) (fun _ _ i _ => k - (intOf i).toNat)
  case atStart =>
    exact ⟨_, 0, rfl, Nat.zero_le _, rfl, by simp, Hz0, by (repeat' (first | (with_reducible exact Below.refl _ _) | (with_reducible assumption) | (with_reducible exact bundrew (by assumption)) | (with_reducible refine balloc ?_ _) | (with_reducible refine bset ?_ _ ?_ _) | (with_reducible refine Below.drew ?_) | (with_reducible refine bdrewN ?_ _) | (with_reducible refine bvia (by assumption) ?_) | (with_reducible refine Below.trans ?_ (by assumption)) | omega | (simp; omega) | (simp; done)))⟩
  case round =>
    obtain ⟨v0, j, rfl, hj, rfl, rfl, hv, hb⟩ := hrel
    by_cases hlt : j < k
    · have hlt' : (j : Int) < (k : Int) := by omega
      have hx1 : a / m ^ j ≤ a := Nat.div_le_self _ _
      have hx2 : a / m ^ (j + 1) = a / m ^ j / m := by rw [Nat.pow_succ, Nat.div_div_eq_div_mul]
      have hd : HP.digits m (j + 1) a = (a / m ^ j) % m :: HP.digits m j a := rfl
      have HD : Hid (nums (HP.digits m (j + 1) a) = [((((a / m ^ j) % m : Nat)) : Int)] ++ nums (HP.digits m j a)) := Lib.hid (by rw [hd, nums_cons])
      have HX := Lib.hid hx2
      have hlen := Lib.hid (digits_length m j a)
      obtain ⟨x, hx⟩ : ∃ x, a / m ^ j = x := ⟨_, rfl⟩
      rw [hx] at hx1 HD HX ⊢
      clear hd hx2 hx
      have e1 : (x : Int).tmod (m : Int) = ((x % m : Nat) : Int) := by rw [Int.tmod_eq_emod_of_nonneg (by omega)]; exact (Int.natCast_emod _ _).symm
      have e2 : (x : Int).tdiv (m : Int) = ((x / m : Nat) : Int) := by rw [Int.tdiv_eq_ediv_of_nonneg (by omega)]; exact (Int.natCast_ediv _ _).symm
      have l1 : x % m < m := Nat.mod_lt _ (by omega)
      have l2 : x / m ≤ x := Nat.div_le_self _ _
      obtain ⟨y, hy⟩ : ∃ y, x % m = y := ⟨_, rfl⟩
      obtain ⟨z, hz⟩ : ∃ z, x / m = z := ⟨_, rfl⟩
      rw [hy] at e1 l1 HD
      rw [hz] at e2 l2 HX
      have e3 : IntKind.i64.wrap ((x : Int).tdiv (m : Int)) = (z : Int) := by rw [e2]; exact IntWalk.i64_in _ ⟨by omega, by omega⟩
      have e4 : IntKind.i64.wrap ((x : Int).tmod (m : Int)) = (y : Int) := by rw [e1]; exact IntWalk.i64_in _ ⟨by omega, by omega⟩
      have e5 : ((m : Int) == 0) = false := by rw [beq_eq_false_iff_ne]; omega
      clear hy hz
      obtain ⟨A', c', rfl⟩ := hv.shape
      obtain ⟨A2, c2, hA, ⟨hc1, hc2⟩, _, hI⟩ := hv.sl
      cases hA
      have hb1 : Below wr.heap.size wr (wr.alloc (.cells #[.int .i64 (y : Int)] 3)) := (Below.refl _ wr).alloc (Nat.le_refl _) _
      have hO := OwnI.made (w := wr.alloc (.cells #[.int .i64 (y : Int)] 3)) (base := wr.heap.size) (g := wr.heap.size) (xs := [(y : Int)]) (Nat.le_refl _) (heap_alloc_new wr _) (by show 1 ≤ maxLen; unfold maxLen; decide)
      have hll : (nums (HP.digits m j a)).length = j := by rw [nums_length, hlen.out]
      go_wp2_with (at_builtin; refine app_ints rfl _ _ rfl wr.heap.size _ [(y : Int)] A' (nums (HP.digits m j a)).length c' (nums (HP.digits m j a)) rfl rfl hO (hI.below hb1) hc2 ?_ ?_ ?_; (focus (first | (rw [hll]; simp; omega) | omega)); (focus (first | (go_simp; done) | (simp; done) | omega | (simp; omega))); intro v1 w1 h1 g1; have b1 : Below wr.heap.size wr w1 := hb1.trans (grown_below hO (by simp) g1))
      exact ⟨⟨_, j + 1, rfl, by omega, by go_num, by rw [HX.out], by rw [HD.out]; exact h1.lower hb.size, bvia b1 hb⟩, by simp [intOf]; omega⟩
    · obtain rfl : j = k := by omega
      go_wp2
      go_ret
      exact ⟨_, rfl, hv, by (repeat' (first | (with_reducible exact Below.refl _ _) | (with_reducible assumption) | (with_reducible exact bundrew (by assumption)) | (with_reducible refine balloc ?_ _) | (with_reducible refine bset ?_ _ ?_ _) | (with_reducible refine Below.drew ?_) | (with_reducible refine bdrewN ?_ _) | (with_reducible refine bvia (by assumption) ?_) | (with_reducible refine Below.trans ?_ (by assumption)) | omega | (simp; omega) | (simp; done)))⟩
end Go.Proofs.Ytikoldnejkhepaa
