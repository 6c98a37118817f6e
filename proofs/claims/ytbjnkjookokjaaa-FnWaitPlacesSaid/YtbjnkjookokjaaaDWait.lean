/- The Draw functions of the waits: contracts. -/
import Derived.Test.YtbjnkjookokjaaaDOften
namespace Go.Proofs.Ytbjnkjookokjaaa
open Go.ChangeShapes Go.WideShapes Go.ChangeAt Go.RowKit

/-- Two drawn lists, in new memory. -/
def OftenDrawn (w : World) (e : Ending) (w' : World) : Prop :=
  ∃ (v u : Value) (xs os : List Int), e = .returned (.tuple #[v, u]) ∧ SlI w' v xs ∧ SlI w' u os ∧ xs.length ≤ 9 ∧ os.length ≤ 9 ∧ Below w.heap.size w w'
theorem drawOftenOk_any (A : Option Addr) (n c : Nat) (g : Nat → Int) (w : World) (h : Bytes w A n c g) : Calls Try.prog 23 #[.slice A n c] w (OftenDrawn w) := by
  go_enter Try.func23, Try.ntmps23
  go_wp2_with fail
  refine (open_any A n c g _ h).mono ?_
  rintro e w1 ⟨rfl, hb1, rd1⟩
  have s1 := hb1.size
  have r1 := rd1.lt
  go_wp2_with fail
  refine (l20Often_any w.heap.size 0 1 _ rd1 (by omega) (by omega) (by omega)).mono ?_
  rintro e w2 ⟨v, u, xs, os, rfl, sv, su, l1, l2, o2, rd2⟩
  go_wp2
  go_ret2
  exact ⟨v, u, xs, os, rfl, sv.1, su.1, l1, l2, hb1.trans (o2.below (Nat.le_refl _) s1)⟩

/-- Two drawn lists and a number, in new memory. -/
def WaitDrawn (w : World) (e : Ending) (w' : World) : Prop :=
  ∃ (v u : Value) (xs os : List Int) (a : Int), e = .returned (.tuple #[v, u, .int .i64 a]) ∧ SlI w' v xs ∧ SlI w' u os ∧ xs.length ≤ 9 ∧ os.length ≤ 9 ∧ -1 ≤ a ∧ a ≤ 4 ∧ Below w.heap.size w w'
set_option maxHeartbeats 1000000 in
theorem drawWaitPlaces_any (A : Option Addr) (n c : Nat) (g : Nat → Int) (w : World) (h : Bytes w A n c g) : Calls Try.prog 28 #[.slice A n c] w (WaitDrawn w) := by
  go_enter Try.func28, Try.ntmps28
  go_wp2_with fail
  refine (open_any A n c g _ h).mono ?_
  rintro e w1 ⟨rfl, hb1, rd1⟩
  have s1 := hb1.size
  have r1 := rd1.lt
  go_wp2_with fail
  refine (l20Often_any w.heap.size 0 6 _ rd1 (by omega) (by omega) (by omega)).mono ?_
  rintro e w2 ⟨v, u, xs, os, rfl, ⟨sv, lv⟩, ⟨su, lu⟩, l1, l2, o2, rd2⟩
  obtain ⟨A1, c1, rfl, q1⟩ := sv
  obtain ⟨A2, c2, rfl, q2⟩ := su
  have sv : SlI w2 (.slice A1 xs.length c1) xs := ⟨A1, c1, rfl, q1⟩
  have su : SlI w2 (.slice A2 os.length c2) os := ⟨A2, c2, rfl, q2⟩
  have T2 : Below w.heap.size w w2 := hb1.trans (o2.below (Nat.le_refl _) s1)
  clear q1 q2
  go_wp2_with fail
  refine (pick_any w.heap.size 30 5 _ rd2 (by omega) (by omega) (by omega)).mono ?_
  rintro e w3 ⟨a3, rfl, a30, a31, ow3, rd3⟩
  have sw3 := only_size ow3
  try simp at sw3
  go_wp2_with fail
  refine (pick_any w.heap.size 31 20 _ rd3 (by omega) (by omega) (by omega)).mono ?_
  rintro e w4 ⟨a4, rfl, a40, a41, ow4, rd4⟩
  have sw4 := only_size ow4
  try simp at sw4
  have sv4 := (sv.only ow3 lv r1).only ow4 lv r1
  have su4 := (su.only ow3 lu r1).only ow4 lu r1
  have T4 : Below w.heap.size w w4 := (T2.trans (ow3.below (Nat.le_refl _) T2.size)).trans (ow4.below (Nat.le_refl _) (Nat.le_trans T2.size ow3.size))
  go_wp2
  go_ret3
  exact ⟨_, _, xs, os, _, rfl, sv4, su4, l1, l2, by omega, by omega, T4⟩
theorem drawWaitLeast_any (A : Option Addr) (n c : Nat) (g : Nat → Int) (w : World) (h : Bytes w A n c g) : Calls Try.prog 27 #[.slice A n c] w (WaitDrawn w) := by
  go_enter Try.func27, Try.ntmps27
  go_wp2_with fail
  refine (drawWaitPlaces_any A n c g _ h).mono ?_
  rintro e w1 ⟨v, u, xs, os, a, rfl, h1⟩
  go_wp2
  go_ret3
  exact ⟨_, _, xs, os, _, rfl, h1⟩

/-- Three drawn lists, in new memory. -/
def CostDrawn (w : World) (e : Ending) (w' : World) : Prop :=
  ∃ (v u t : Value) (xs os ps : List Int), e = .returned (.tuple #[v, u, t]) ∧ SlI w' v xs ∧ SlI w' u os ∧ SlI w' t ps ∧ xs.length ≤ 9 ∧ os.length ≤ 9 ∧ ps.length ≤ 4 ∧ Below w.heap.size w w'
set_option maxHeartbeats 2000000 in
theorem drawWaitCost_any (A : Option Addr) (n c : Nat) (g : Nat → Int) (w : World) (h : Bytes w A n c g) : Calls Try.prog 26 #[.slice A n c] w (CostDrawn w) := by
  go_enter Try.func26, Try.ntmps26
  go_wp2_with fail
  refine (open_any A n c g _ h).mono ?_
  rintro e w1 ⟨rfl, hb1, rd1⟩
  have s1 := hb1.size
  have r1 := rd1.lt
  go_wp2_with fail
  refine (l20Often_any w.heap.size 0 6 _ rd1 (by omega) (by omega) (by omega)).mono ?_
  rintro e w2 ⟨v, u, xs, os, rfl, ⟨sv, lv⟩, ⟨su, lu⟩, l1, l2, o2, rd2⟩
  obtain ⟨A1, c1, rfl, q1⟩ := sv
  obtain ⟨A2, c2, rfl, q2⟩ := su
  have SV : SlU w2 w1.heap.size w2.heap.size (.slice A1 xs.length c1) xs := SlI.u ⟨A1, c1, rfl, q1⟩ lv
  have SU : SlU w2 w1.heap.size w2.heap.size (.slice A2 os.length c2) os := SlI.u ⟨A2, c2, rfl, q2⟩ lu
  have T2 : Below w.heap.size w w2 := hb1.trans (o2.below (Nat.le_refl _) s1)
  have s2 := o2.size
  have hz := OwnI.made (w := w2.alloc (.cells #[] 3)) (base := w2.heap.size) (g := w2.heap.size) (xs := []) (by omega) (heap_alloc_new w2 _) (by unfold maxLen; decide)
  have B2 : Below w2.heap.size w2 (w2.alloc (.cells #[] 3)) := (Below.refl _ w2).alloc (Nat.le_refl _) _
  have l1' : (xs.length : Int) ≤ 9 := by omega
  have SV2 := SV.below B2
  have SU2 := SU.below B2
  have T2' : Below w.heap.size w (w2.alloc (.cells #[] 3)) := T2.trans (below_le T2.size B2)
  have rd2' := rd2.above (below_le (show w.heap.size + 1 ≤ w2.heap.size by omega) B2)
  clear q1 q2 SV SU lv lu
  go_wp2_with fail
  refine (pick_any w.heap.size 30 4 _ rd2' (by omega) (by omega) (by omega)).mono ?_
  rintro e w3 ⟨a3, rfl, a30, a31, ow3, rd3⟩
  have sw3 := only_size ow3
  try simp at sw3
  go_wp2_with fail
  refine (pick_any w.heap.size 31 2 _ rd3 (by omega) (by omega) (by omega)).mono ?_
  rintro e w4 ⟨a4, rfl, a40, a41, ow4, rd4⟩
  have sw4 := only_size ow4
  try simp at sw4
  have hz4 := (hz.only ow3 (by omega)).only ow4 (by omega)
  have SV4 := (SV2.only ow3 r1 (by simp)).only ow4 r1 (by omega)
  have SU4 := (SU2.only ow3 r1 (by simp)).only ow4 r1 (by omega)
  have T4 : Below w.heap.size w w4 := (T2'.trans (ow3.below (Nat.le_refl _) T2'.size)).trans (ow4.below (Nat.le_refl _) (Nat.le_trans T2'.size ow3.size))
  clear SV2 SU2 hz
  go_wp2_with fail
  go_loopw [8, 9] (fun t' i wr => ∃ (t : Value) (k : Nat) (ps : List Int), t = t' ∧ i = .int .i64 k ∧ k + ps.length ≤ 4 ∧ OwnI wr w2.heap.size t ps ∧ SlU wr w1.heap.size w2.heap.size (.slice A1 xs.length c1) xs ∧ SlU wr w1.heap.size w2.heap.size (.slice A2 os.length c2) os ∧ Rd wr w.heap.size (100 - 2 * k) ∧ Below w.heap.size w wr ∧ w2.heap.size ≤ wr.heap.size) (fun _ i _ => (intOf i).toNat)
  case atStart =>
    obtain ⟨k, hk⟩ := Int.eq_ofNat_of_zero_le (show 0 ≤ a3 + a4 by omega)
    exact ⟨_, k, [], rfl, by rw [hk], by simp; omega, hz4, SV4, SU4, rd4.mono (by omega), T4, by omega⟩
  case round =>
    obtain ⟨t, k, ps, rfl, rfl, hk, ht, sv, su, rd, tt, hs⟩ := hrel
    by_cases h0 : 0 < k
    · have h0' : 0 < (k : Int) := by omega
      have fin : ∀ n : Int, 1 ≤ n → n ≤ 9 → Calls Try.prog 44 #[.pointer (some ⟨w.heap.size, 0, none⟩), .int .i64 n] wr (PickPost wr w.heap.size (100 - 2 * k) n) := fun n h1 h2 => pick_any w.heap.size (100 - 2 * k) n wr rd (by omega) (by omega) (by omega)
      go_wp2_with fail
      all_goals
        refine (fin _ (by omega) (by omega)).mono ?_
        rintro e w5 ⟨a5, rfl, a50, a51, ow5, rd5⟩
        have s5 := ow5.size
        have b59 : a5 ≤ 8 := by omega
        clear a51
        go_wp2_with fail
        refine (pick_any w.heap.size (100 - 2 * k + 1) 30 _ rd5 (by omega) (by omega) (by omega)).mono ?_
        rintro e w6 ⟨a6, rfl, a60, a61, ow6, rd6⟩
        have s6 := ow6.size
        have ht6 := (ht.only ow5 (by omega)).only ow6 (by omega)
        have sv6 := (sv.only ow5 r1 hs).only ow6 r1 (by omega)
        have su6 := (su.only ow5 r1 hs).only ow6 r1 (by omega)
        have t6 : Below w.heap.size w w6 := (tt.trans (ow5.below (Nat.le_refl _) tt.size)).trans (ow6.below (Nat.le_refl _) (Nat.le_trans tt.size ow5.size))
        obtain ⟨d, hd, d0, d1⟩ : ∃ d : Int, a6.tdiv 29 = d ∧ 0 ≤ d ∧ d ≤ 1 := ⟨a6.tdiv 29, rfl, by rw [Int.tdiv_eq_ediv_of_nonneg a60]; omega, by rw [Int.tdiv_eq_ediv_of_nonneg a60]; omega⟩
        have hd2 : a6 / 29 = d := by rw [← hd, Int.tdiv_eq_ediv_of_nonneg a60]
        go_wp2_with (at_builtin; refine app_int rfl _ _ rfl (w2.heap.size) w6.heap.size _ ps (a5 + d * 8) rfl rfl (ht6.alloc _) ?_ ?_ ?_ ?_; (focus (first | (go_simp; done) | (simp; done) | omega | (simp; omega))); (focus (first | (go_simp; done) | (simp; done) | omega | (simp; omega))); (focus (first | (go_simp; done) | (simp; done) | omega | (simp; omega))); intro v7 w7 h7 g7; have zw7 := g7.size; (try simp at zw7))
        have g8 : Below w2.heap.size w6 w7 := ((Below.refl _ w6).alloc (by omega) _).trans g7
        exact ⟨⟨_, k - 1, ps ++ [a5 + d * 8], rfl, by first | go_num | (congr 1; omega), by simp; omega, h7, sv6.below g8, su6.below g8, (rd6.above (below_le (by omega) g8)).mono (by omega), t6.trans (below_le (by omega) g8), by omega⟩, by simp [intOf]; omega⟩
    · obtain rfl : k = 0 := by omega
      go_wp2
      go_ret3
      exact ⟨_, _, _, xs, os, ps, rfl, sv.sl (by omega), su.sl (by omega), ht.sl, l1, l2, by omega, tt⟩
end Go.Proofs.Ytbjnkjookokjaaa
