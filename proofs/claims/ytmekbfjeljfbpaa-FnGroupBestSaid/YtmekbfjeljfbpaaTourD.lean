/- ShortWay of both, for valid arguments: contracts. -/
import Derived.Test.YtmekbfjeljfbpaaTourC
namespace Go.Proofs.Ytmekbfjeljfbpaa
open Go.ChangeShapes Go.WideShapes Go.ChangeAt Go.RowKit

theorem filter_both (p : Nat → Bool) : ∀ l : List Nat, (l.filter p).length + (l.filter fun v => !p v).length = l.length
  | [] => rfl
  | v :: l => by
    have := filter_both p l
    cases h : p v <;> simp [h] <;> omega
theorem tour_length (x : Nat → Int) (a : Nat) (vs : List Nat) : (TP.tour x a vs).length = vs.length := by
  unfold TP.tour
  split
  · have := filter_both (TP.isDown a true) vs
    simp; omega
  · have := filter_both (TP.isDown a false) vs
    simp; omega
theorem tour_lt {x : Nat → Int} {a n : Nat} {vs : List Nat} (h : ∀ k, k < vs.length → vs[k]?.getD 0 < n) : ∀ k, k < (TP.tour x a vs).length → (TP.tour x a vs)[k]?.getD 0 < n := fun k hk => by
  have hm := TP.tour_mem x (List.getElem_mem hk)
  rw [List.getElem?_eq_getElem hk]
  obtain ⟨j, hj, e⟩ := List.getElem_of_mem hm
  have := h j hj
  rw [List.getElem?_eq_getElem hj] at this
  simp at this ⊢
  omega

/-- A number; old memory as it was. -/
def NumOut (w : World) (x : Int) (e : Ending) (w' : World) : Prop := e = .returned (.int .i64 x) ∧ Below w.heap.size w w'

set_option maxHeartbeats 1000000 in
theorem sw_spec (A : Option Addr) (n c : Nat) (xs : List Int) (a : Nat) (A' : Option Addr) (n' c' : Nat) (vs : List Nat) (w : World) (h : Ints w A n xs) (h' : Ints w A' n' (nums vs)) (hv : fvB xs = true) (ha : a < n) (hr : ∀ k, k < n' → vs[k]?.getD 0 < n) (hasc : TP.Asc vs) (hn' : n' ≤ 1000) :
    Calls Try.prog 34 #[.slice A n c, .int .i64 a, .slice A' n' c'] w (NumOut w (TP.short (xa xs) a vs)) := by
  have hos : vs.length = n' := by rw [← nums_length]; exact h'.1
  have V := fun w hx hy => visits_spec A n c xs A' n' c' (nums vs) w hx hy hv (fun k hk => by rw [nums_get]; have := hr k hk; have := h.1; omega) (fun k hk => by
    rw [nums_get, nums_get]; have := hasc k (k + 1) (by omega) (by omega); omega)
  have S := fun w hx hy => st_spec A n c xs a A' n' c' vs w hx hy hv ha hr hasc hn'
  have T := fun (A2 : Option Addr) (c2 : Nat) w hx hy => tour_spec A n c xs a A2 n' c2 (TP.tour (xa xs) a vs) w hx hy hv ha (fun k hk => tour_lt (fun k hk => hr k (by omega)) k (by rw [tour_length]; omega)) hn'
  have HL : Hid ((nums (TP.tour (xa xs) a vs)).length = n') := Lib.hid (by rw [nums_length, tour_length]; exact hos)
  have HV := Lib.hid V
  have HS := Lib.hid S
  have HT := Lib.hid T
  clear V S T hr hasc hv hos
  go_enter Try.func34, Try.ntmps34
  go_wp2_with fail
  refine (HV.out _ h h').mono ?_
  rintro e w1 ⟨rfl, m1, hm1⟩
  have h1 : Ints w1 A n xs := by rw [hm1]; exact h.drewN _
  have h1' : Ints w1 A' n' (nums vs) := by rw [hm1]; exact h'.drewN _
  have b1 : Below w.heap.size w w1 := by rw [hm1]; exact bdrewN (Below.refl _ _) _
  clear hm1
  go_wp2_with fail
  refine (HS.out _ h1 h1').mono ?_
  rintro e w2 ⟨v2, rfl, o2, b2⟩
  have h2 := h1.below b2
  obtain ⟨A2, c2, rfl⟩ := o2.shape
  have i2 := o2.ints.2
  rw [HL.out] at i2 ⊢
  go_wp2_with fail
  refine (HT.out _ _ _ h2 i2).mono ?_
  rintro e w3 ⟨rfl, m3, rfl⟩
  go_wp2
  go_ret
  exact ⟨rfl, bdrewN (bvia b2 b1) _⟩

set_option maxHeartbeats 1000000 in
theorem sw_impl (A : Option Addr) (n c : Nat) (xs : List Int) (a : Nat) (A' : Option Addr) (n' c' : Nat) (vs : List Nat) (w : World) (h : Ints w A n xs) (h' : Ints w A' n' (nums vs)) (hv : fvB xs = true) (ha : a < n) (hr : ∀ k, k < n' → vs[k]?.getD 0 < n) (hasc : TP.Asc vs) (hn' : n' ≤ 1000) (hc1 : n' ≤ c') (hc2 : c' ≤ maxLen) :
    Calls Try.prog 37 #[.slice A n c, .int .i64 a, .slice A' n' c'] w (NumOut w (TP.short (xa xs) a vs)) := by
  have hos : vs.length = n' := by rw [← nums_length]; exact h'.1
  have V := fun w hx hy => visits_impl A n c xs A' n' c' (nums vs) w hx hy hv (fun k hk => by rw [nums_get]; have := hr k hk; have := h.1; omega) (fun k hk => by
    rw [nums_get, nums_get]; have := hasc k (k + 1) (by omega) (by omega); omega)
  have S := fun w hx hy => st_impl A n c xs a A' n' c' vs w hx hy hv ha hr hasc hn' hc1 hc2
  have T := fun (A2 : Option Addr) (c2 : Nat) w hx hy => tour_impl A n c xs a A2 n' c2 (TP.tour (xa xs) a vs) w hx hy hv ha (fun k hk => tour_lt (fun k hk => hr k (by omega)) k (by rw [tour_length]; omega)) hn'
  have HL : Hid ((nums (TP.tour (xa xs) a vs)).length = n') := Lib.hid (by rw [nums_length, tour_length]; exact hos)
  have HV := Lib.hid V
  have HS := Lib.hid S
  have HT := Lib.hid T
  clear V S T hr hasc hv hos
  go_enter Try.func37, Try.ntmps37
  go_wp2_with fail
  refine (HV.out _ h h').mono ?_
  rintro e w1 ⟨rfl, m1, hm1⟩
  have h1 : Ints w1 A n xs := by rw [hm1]; exact h.drewN _
  have h1' : Ints w1 A' n' (nums vs) := by rw [hm1]; exact h'.drewN _
  have b1 : Below w.heap.size w w1 := by rw [hm1]; exact bdrewN (Below.refl _ _) _
  clear hm1
  go_wp2_with fail
  refine (HS.out _ h1 h1').mono ?_
  rintro e w2 ⟨v2, rfl, o2, b2⟩
  have h2 := h1.below b2
  obtain ⟨A2, c2, rfl⟩ := o2.shape
  have i2 := o2.ints.2
  rw [HL.out] at i2 ⊢
  go_wp2_with fail
  refine (HT.out _ _ _ h2 i2).mono ?_
  rintro e w3 ⟨rfl, m3, rfl⟩
  go_wp2
  go_ret
  exact ⟨rfl, bdrewN (bvia b2 b1) _⟩
end Go.Proofs.Ytmekbfjeljfbpaa
