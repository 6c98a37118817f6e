/- HallBest of the program: contract. -/
import Derived.Test.YtikoldnejkhepaaHallY
namespace Go.Proofs.Ytikoldnejkhepaa
open Go.ChangeShapes Go.WideShapes Go.ChangeAt Go.RowKit

theorem nums_toN {xs : List Int} {b : Int} (h : allB xs 0 b = true) : nums (toN xs) = xs := by
  apply List.ext_getElem?
  intro i
  unfold nums toN
  rw [List.map_map, List.getElem?_map]
  rcases Nat.lt_or_ge i xs.length with hi | hi
  · have := allB_at h rfl hi
    rw [List.getElem?_eq_getElem hi] at this ⊢
    simp at this ⊢
    omega
  · rw [List.getElem?_eq_none hi]; rfl

set_option maxRecDepth 100000 in
set_option maxHeartbeats 4000000 in
theorem best_impl (A : Option Addr) (n c : Nat) (gs : List Int) (A' : Option Addr) (n' c' : Nat) (rs : List Int) (w : World) (h : Ints w A n gs) (h' : Ints w A' n' rs) :
    Calls Try.prog 24 #[.slice A n c, .slice A' n' c'] w (BestOut w (bestT gs rs)) := by
  have HL := Lib.hid h.1
  have HL' := Lib.hid h'.1
  cases hh : hallB gs rs
  · rw [bestT_no hh]
    go_enter Try.func24, Try.ntmps24
    go_wp2_with (go_at_call 15; refine (hallOk_impl _ _ _ gs _ _ _ rs _ h h').mono ?_; rintro e w' ⟨rfl, rfl⟩; rw [hh])
    go_ret2
    exact ⟨_, rfl, OwnI.nil _ _, Below.refl _ _⟩
  · rw [bestT_yes hh]
    obtain ⟨b1, b2, b3, b4, b5⟩ := hallB_iff.1 hh
    have m1 : n ≤ 6 := by have := HL.out; omega
    have m2 : 1 ≤ n' := by have := HL'.out; omega
    have m3 : n' ≤ 3 := by have := HL'.out; omega
    have m1' : (n : Int) ≤ 6 := by omega
    have n0 : 0 ≤ (n : Int) := by omega
    have e1 : IntKind.i64.wrap ((n : Int) + 1) = (n : Int) + 1 := IntWalk.i64_in _ ⟨by omega, by omega⟩
    have hp0 := HP.place_best gs (toN rs)
    obtain ⟨bst, hbst⟩ : ∃ s, HP.best gs (toN rs) = s := ⟨_, rfl⟩
    rw [hbst] at hp0 ⊢
    have HP0 := Lib.hid hp0
    obtain ⟨bl, bb⟩ := bst
    clear hp0 hbst
    have HNT := Lib.hid (nums_toN b5)
    have H8 : Hid (∀ k, k < (toN rs).length → (toN rs)[k]?.getD 0 ≤ 8) := Lib.hid (fun k hk => by
      rw [toN_length] at hk
      rw [toN_get]
      have := allB_at b5 rfl hk
      omega)
    have IG := Lib.hid h
    clear b1 b2 b3 b4 b5
    go_enter Try.func24, Try.ntmps24
    go_wp2_with (first
      | (go_at_call 41; refine (clone_any A' n' c' rs _ h' (by omega)).mono ?_; rintro e w1 ⟨vL, rfl, hv, hb1⟩; rcases hv.form with ⟨-, hz⟩ | ⟨gl, cl, cur, rfl, hgl, hgc, -⟩; (focus (have := HL'.out; rw [hz] at this; simp at this; omega)); skip)
      | (go_at_call 15; refine (hallOk_impl _ _ _ gs _ _ _ rs _ h h').mono ?_; rintro e w' ⟨rfl, rfl⟩; rw [hh]))
    have hgl1 : gl < w1.heap.size := (Array.getElem?_eq_some_iff.1 hgc).1
    have hB1 : Below w.heap.size w (w1.alloc (.cells #[.slice A n c, .slice (some ⟨gl, 0, none⟩) rs.length cl, .slice none 0 0, .slice none 0 0, .int .i64 ((n : Int) + 1)] 44)) := hb1.alloc hb1.size _
    have HST : HSt (w1.alloc (.cells #[.slice A n c, .slice (some ⟨gl, 0, none⟩) rs.length cl, .slice none 0 0, .slice none 0 0, .int .i64 ((n : Int) + 1)] 44)) w.heap.size w1.heap.size gl (w1.heap.size + 1) A n c rs.length cl gs (toN rs) [] [] (n + 1) (.slice none 0 0) (.slice none 0 0) :=
      ⟨hb1.size, hgl, by omega, by omega, by omega, by simp, Blk.new w1 _ _, by rw [HNT.out]; exact hv.alloc _, OwnI.nil _ _, OwnI.nil _ _, fun q hq => by simp [Value.ownBlock] at hq, IG.out.lt.below hB1⟩
    have HPL := place_any w.heap.size w1.heap.size gl (w1.heap.size + 1) A n c rs.length cl gs (by rw [HL.out]; exact m1) (by rw [HL'.out]; exact m3) gs.length (toN rs) [] [] (n + 1) (.slice none 0 0) (.slice none 0 0) _ HST (by simp) H8.out
    rw [show HP.stops gs [] = 0 from rfl] at HPL
    refine HPL.mono ?_
    rintro e w2 ⟨rfl, hb2, pv, bv, H2⟩
    have HAG := HP0.out
    rw [HL.out] at HAG
    obtain ⟨HA1, HA2⟩ := HAG
    have hB2 : Below w.heap.size w w2 := hB1.trans hb2
    rw [HL.out] at H2
    clear HST HPL hB1 hb2 hv hgc
    cases bb
    · obtain ⟨e2, e3⟩ := HA1 rfl
      rw [e2] at H2
      obtain ⟨i0, i1, i2, i3, i4, -, -⟩ := H2.cells
      have hlt : (n : Int) < ((n + 1 : Nat) : Int) := by omega
      clear HA1 HA2 H2 e2
      simp only at e3
      subst e3
      go_wp2_with fail
      go_ret2
      exact ⟨_, rfl, OwnI.nil _ _, hB2⟩
    · obtain ⟨e2, e3⟩ := HA2 rfl
      rw [e2] at H2
      obtain ⟨i0, i1, i2, i3, i4, -, -⟩ := H2.cells
      simp only at e3 i4 H2
      obtain ⟨st, hst⟩ : ∃ st, HP.stops gs bl = st := ⟨_, rfl⟩
      have hle := HP.stops_le gs bl
      rw [hst] at hle i4
      have hle' : (st : Int) ≤ (n : Int) := by omega
      have HV := H2.V.lower (Nat.le_trans H2.b1 (Nat.le_of_lt H2.b3))
      obtain ⟨Ab, cb, rfl⟩ := H2.V.shape
      clear HA1 HA2 H2 e2 hst
      go_wp2_with fail
      go_ret2
      exact ⟨_, rfl, HV, hB2⟩
end Go.Proofs.Ytikoldnejkhepaa
