/- Drawn groups (l20Group): contract. -/
import Derived.Test.YtmekbfjeljfbpaaDFloors
namespace Go.Proofs.Ytmekbfjeljfbpaa
open Go.ChangeShapes Go.WideShapes Go.ChangeAt Go.RowKit

/-- Three drawn lists; only the reader has changed. -/
def GroupOut (w : World) (r N : Nat) (e : Ending) (w' : World) : Prop :=
  ∃ (v u t : Value) (xs cs ks : List Int), e = .returned (.tuple #[v, u, t]) ∧ (SlI w' v xs ∧ LoB w.heap.size v) ∧ (SlI w' u cs ∧ LoB w.heap.size u) ∧ (SlI w' t ks ∧ LoB w.heap.size t) ∧ xs.length ≤ 9 ∧ cs.length ≤ 4 ∧ ks.length ≤ 5 ∧ Only r w w' ∧ Rd w' r (N + 40)

set_option maxHeartbeats 4000000 in
theorem l20Group_any (r N : Nat) (n : Int) (w : World) (hR : Rd w r N) (hN : N ≤ 80000) (h1 : 1 ≤ n) (h2 : n ≤ 400) :
    Calls Try.prog 42 #[.pointer (some ⟨r, 0, none⟩), .int .i64 n] w (GroupOut w r N) := by
  have hr := hR.lt
  go_enter Try.func42, Try.ntmps42
  go_wp2_with fail
  refine (l20Floors_any r N (2 * n) _ hR (by omega) (by omega) (by omega)).mono ?_
  rintro e wf ⟨vf, xs, rfl, ov, lv, oo1, rdf⟩
  have SV := ov.up
  have sf := oo1.size
  obtain ⟨Af, cf, rfl⟩ := ov.shape
  have lv' : (xs.length : Int) ≤ 9 := by omega
  have hz := OwnI.made (w := wf.alloc (.cells #[] 3)) (base := wf.heap.size) (g := wf.heap.size) (xs := []) (by omega) (heap_alloc_new wf _) (by unfold maxLen; decide)
  have BA1 : Below wf.heap.size wf (wf.alloc (.cells #[] 3)) := (Below.refl _ wf).alloc (Nat.le_refl _) _
  have SV1 := SV.below BA1
  have or1 := only_below oo1 (below_le sf BA1)
  go_wp2_with fail
  refine (pick_any r (N + 12) 3 _ (rdf.above (below_le (show r + 1 ≤ wf.heap.size by omega) BA1)) (by omega) (by omega) (by omega)).mono ?_
  rintro e w1 ⟨a1, rfl, a10, a11, ow1, rd1⟩
  obtain ⟨cw10, fw10, zw10, yw10, xw10, vw10⟩ := only_facts ow1 (wf.heap.size) (by first | omega | (simp; omega) | (simp; done)) (by omega)
  have sw1 := only_size ow1
  try simp at sw1
  have hz1 := hz.only ow1 (by omega)
  have SV2 := SV1.only ow1 hr
  have or2 := or1.trans ow1
  clear hz SV1 SV or1
  go_wp2_with fail
  go_loopw [8, 9] (fun v' i wr => ∃ (v : Value) (k : Nat) (cs : List Int), v = v' ∧ i = .int .i64 k ∧ k + cs.length ≤ 3 ∧ OwnI wr wf.heap.size v cs ∧ OwnU wr w.heap.size wf.heap.size (.slice Af xs.length cf) xs ∧ Rd wr r (N + 16 - k) ∧ Only r w wr ∧ wf.heap.size ≤ wr.heap.size) (fun _ i _ => (intOf i).toNat)
  case atStart =>
    obtain ⟨k, rfl⟩ := Int.eq_ofNat_of_zero_le a10
    exact ⟨_, k + 1, [], rfl, by first | go_num | (congr 1; omega), by simp; omega, hz1, SV2, rd1.mono (by omega), or2, by omega⟩
  case round =>
    obtain ⟨v, k, cs, rfl, rfl, hk, hv, hu, rd, hor, hs⟩ := hrel
    by_cases h0 : 0 < k
    · have h0' : 0 < (k : Int) := by omega
      have fin : ∀ n : Int, 1 ≤ n → n ≤ 9 → Calls Try.prog 59 #[.pointer (some ⟨r, 0, none⟩), .int .i64 n] wr (PickPost wr r (N + 16 - k) n) := fun n h1 h2 => pick_any r (N + 16 - k) n wr rd (by omega) (by omega) (by omega)
      go_wp2_with fail
      all_goals
        refine (fin _ (by omega) (by omega)).mono ?_
        rintro e w4 ⟨a4, rfl, a40, a41, ow4, rd4⟩
        have s4 := ow4.size
        have hv4 := hv.only ow4 (by omega)
        have hu4 := hu.only ow4 hr
        go_wp2_with (at_builtin; refine app_int rfl _ _ rfl (wf.heap.size) w4.heap.size _ cs a4 rfl rfl (hv4.alloc _) ?_ ?_ ?_ ?_; (focus (first | (go_simp; done) | (simp; done) | omega | (simp; omega))); (focus (first | (go_simp; done) | (simp; done) | omega | (simp; omega))); (focus (first | (go_simp; done) | (simp; done) | omega | (simp; omega))); intro v6 w6 h6 g6; have zw6 := g6.size; (try simp at zw6))
        have g7 : Below wf.heap.size w4 w6 := ((Below.refl _ w4).alloc (by omega) _).trans g6
        exact ⟨⟨_, k - 1, cs ++ [a4], rfl, by first | go_num | (congr 1; omega), by simp; omega, h6, hu4.below g7, (rd4.above (below_le (by omega) g7)).mono (by omega), only_below (hor.trans ow4) (below_le (by omega) g7), by omega⟩, by simp [intOf]; omega⟩
    · obtain rfl : k = 0 := by omega
      obtain ⟨wq, hwq⟩ : ∃ wq : World, wq = wr := ⟨_, rfl⟩
      subst hwq
      have hz := OwnI.made (w := wq.alloc (.cells #[] 3)) (base := wq.heap.size) (g := wq.heap.size) (xs := []) (by omega) (heap_alloc_new wq _) (by unfold maxLen; decide)
      have BA2 : Below wq.heap.size wq (wq.alloc (.cells #[] 3)) := (Below.refl _ wq).alloc (Nat.le_refl _) _
      have hU := hv.up.below BA2
      have hF := hu.below (below_le hs BA2)
      have or3 := only_below hor (below_le (by omega) BA2)
      go_wp2_with fail
      refine (pick_any r (N + 16) 5 _ (rd.above (below_le (show r + 1 ≤ wq.heap.size by omega) BA2)) (by omega) (by omega) (by omega)).mono ?_
      rintro e w5 ⟨a5, rfl, a50, a51, ow5, rd5⟩
      obtain ⟨cw50, fw50, zw50, yw50, xw50, vw50⟩ := only_facts ow5 (wq.heap.size) (by first | omega | (simp; omega) | (simp; done)) (by omega)
      have sw5 := only_size ow5
      try simp at sw5
      have hz5 := hz.only ow5 (by omega)
      have hU5 := hU.only ow5 (by omega)
      have hF5 := hF.only ow5 hr
      have or5 := or3.trans ow5
      clear hz hU hv hu hF or3
      go_wp2_with fail
      go_loopw [10, 11] (fun t' i wr => ∃ (t : Value) (k : Nat) (ks : List Int), t = t' ∧ i = .int .i64 k ∧ k + ks.length ≤ 4 ∧ OwnI wr wq.heap.size t ks ∧ OwnU wr wf.heap.size wq.heap.size v cs ∧ OwnU wr w.heap.size wf.heap.size (.slice Af xs.length cf) xs ∧ Rd wr r (N + 24 - k) ∧ Only r w wr ∧ wq.heap.size ≤ wr.heap.size) (fun _ i _ => (intOf i).toNat)
      case atStart =>
        obtain ⟨k, rfl⟩ := Int.eq_ofNat_of_zero_le a50
        exact ⟨_, k, [], rfl, rfl, by simp; omega, hz5, hU5, hF5, rd5.mono (by omega), or5, by omega⟩
      case round =>
        obtain ⟨t, k, ks, rfl, rfl, hk, ht, hu, hx, rd, hor8, hs8⟩ := hrel
        by_cases h8 : 0 < k
        · have h8' : 0 < (k : Int) := by omega
          have fin : ∀ n : Int, 1 ≤ n → n ≤ 9 → Calls Try.prog 59 #[.pointer (some ⟨r, 0, none⟩), .int .i64 n] wr (PickPost wr r (N + 24 - k) n) := fun n h1 h2 => pick_any r (N + 24 - k) n wr rd (by omega) (by omega) (by omega)
          go_wp2_with fail
          all_goals
            refine (fin _ (by omega) (by omega)).mono ?_
            rintro e w9 ⟨a9, rfl, a90, a91, ow9, rd9⟩
            have s9 := ow9.size
            have ht9 := ht.only ow9 (by omega)
            have hu9 := hu.only ow9 (by omega)
            have hx9 := hx.only ow9 hr
            go_wp2_with (at_builtin; refine app_int rfl _ _ rfl (wq.heap.size) w9.heap.size _ ks a9 rfl rfl (ht9.alloc _) ?_ ?_ ?_ ?_; (focus (first | (go_simp; done) | (simp; done) | omega | (simp; omega))); (focus (first | (go_simp; done) | (simp; done) | omega | (simp; omega))); (focus (first | (go_simp; done) | (simp; done) | omega | (simp; omega))); intro v10 w10 h10 g10; have zw10 := g10.size; (try simp at zw10))
            have g11 : Below wq.heap.size w9 w10 := ((Below.refl _ w9).alloc (by omega) _).trans g10
            exact ⟨⟨_, k - 1, ks ++ [a9], rfl, by first | go_num | (congr 1; omega), by simp; omega, h10, hu9.below g11, hx9.below (below_le (by omega) g11), (rd9.above (below_le (by omega) g11)).mono (by omega), only_below (hor8.trans ow9) (below_le (by omega) g11), by omega⟩, by simp [intOf]; omega⟩
        · obtain rfl : k = 0 := by omega
          obtain ⟨wx, hwx⟩ : ∃ wx : World, wx = wr := ⟨_, rfl⟩
          subst hwx
          go_wp2_with fail
          refine (odd_any r (N + 24) (2 * n) _ rd (by omega) (by omega) (by omega)).mono ?_
          rintro e w10 ⟨b, rfl, ow10, rd10⟩
          have sw10 := only_size ow10
          try simp at sw10
          have ht10 := ht.only ow10 (by omega)
          have hu10 := hu.only ow10 (by omega)
          have hx10 := hx.only ow10 hr
          have B10 := hor8.trans ow10
          have s10 := ow10.size
          cases b
          · go_wp2
            go_ret3
            exact ⟨_, _, _, xs, cs, ks, rfl, hx10.1.slo (by omega), hu10.1.slo (by omega), ht10.slo (by omega), by omega, by omega, by omega, B10, rd10.mono (by omega)⟩
          · go_wp2_with fail
            refine (pick_any r (N + 25) 3 _ rd10 (by omega) (by omega) (by omega)).mono ?_
            rintro e w11 ⟨a11, rfl, a110, a111, ow11, rd11⟩
            have sw11 := only_size ow11
            try simp at sw11
            have ht11 := ht10.only ow11 (by omega)
            have hu11 := hu10.only ow11 (by omega)
            have hx11 := hx10.only ow11 hr
            have B11 := B10.trans ow11
            have s11' := ow11.size
            have hc : a11 = 0 ∨ a11 = 1 ∨ a11 = 2 := by omega
            rcases hc with rfl | rfl | rfl
            · have hz := OwnI.made (w := w11.alloc (.cells #[] 3)) (base := w11.heap.size) (g := w11.heap.size) (xs := []) (by omega) (heap_alloc_new w11 _) (by unfold maxLen; decide)
              have BA3 : Below w11.heap.size w11 (w11.alloc (.cells #[] 3)) := (Below.refl _ w11).alloc (Nat.le_refl _) _
              go_wp2
              go_ret3
              exact ⟨_, _, _, xs, [], ks, rfl, (hx11.1.alloc _).slo (by omega), hz.slo (by omega), (ht11.alloc _).slo (by omega), by omega, by simp, by omega, only_below B11 (below_le (by omega) BA3), (rd11.above (below_le (by omega) BA3)).mono (by omega)⟩
            · go_wp2_with (at_builtin; refine app_intG rfl _ _ rfl (wq.heap.size) w11.heap.size _ ks (xs.length : Int) rfl rfl (ht11.alloc _) ?_ ?_ ?_ ?_; (focus (first | (go_simp; done) | (simp; done) | omega | (simp; omega))); (focus (first | (go_simp; done) | (simp; done) | omega | (simp; omega))); (focus (first | (go_simp; done) | (simp; done) | omega | (simp; omega))); intro v13 w13 h13 g13; have zw13 := g13.size; (try simp at zw13))
              have g14 : Below wq.heap.size w11 w13 := ((Below.refl _ w11).alloc (by omega) _).trans (grown_below (ht11.alloc _) (by simp; omega) g13)
              go_ret3
              exact ⟨_, _, _, xs, cs, ks ++ [(xs.length : Int)], rfl, (hx11.below (below_le (by omega) g14)).1.slo (by omega), (hu11.below g14).1.slo (by omega), h13.slo (by omega), by omega, by omega, by simp; omega, only_below B11 (below_le (by omega) g14), (rd11.above (below_le (by omega) g14)).mono (by omega)⟩
            · go_wp2_with (at_builtin; refine app_intG rfl _ _ rfl (wf.heap.size) w11.heap.size _ cs (-1) rfl rfl (hu11.1.alloc _) ?_ ?_ ?_ ?_; (focus (first | (go_simp; done) | (simp; done) | omega | (simp; omega))); (focus (first | (go_simp; done) | (simp; done) | omega | (simp; omega))); (focus (first | (go_simp; done) | (simp; done) | omega | (simp; omega))); intro v13 w13 h13 g13; have zw13 := g13.size; (try simp at zw13))
              have hw13 := OwnU.grown (ht11.alloc (.cells #[.int .i64 (-1)] 3)) g13 hu11.2 (Nat.le_refl _)
              have g14 : Below wf.heap.size w11 w13 := ((Below.refl _ w11).alloc (by omega) _).trans (grown_below (hu11.1.alloc _) (by simp; omega) g13)
              go_ret3
              exact ⟨_, _, _, xs, cs ++ [-1], ks, rfl, (hx11.below g14).1.slo (by omega), h13.slo (by omega), hw13.slo (by omega), by omega, by simp; omega, by omega, only_below B11 (below_le (by omega) g14), (rd11.above (below_le (by omega) g14)).mono (by omega)⟩
end Go.Proofs.Ytmekbfjeljfbpaa
