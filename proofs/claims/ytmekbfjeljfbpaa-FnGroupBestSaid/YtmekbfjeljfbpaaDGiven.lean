/- Drawn groups with given calls; the Draw functions: contracts. -/
import Derived.Test.YtmekbfjeljfbpaaDGroup
namespace Go.Proofs.Ytmekbfjeljfbpaa
open Go.ChangeShapes Go.WideShapes Go.ChangeAt Go.RowKit

/-- Three drawn lists, in new memory. -/
def GroupDrawn (w : World) (e : Ending) (w' : World) : Prop :=
  ∃ (v u t : Value) (xs cs ks : List Int), e = .returned (.tuple #[v, u, t]) ∧ SlI w' v xs ∧ SlI w' u cs ∧ SlI w' t ks ∧ xs.length ≤ 9 ∧ cs.length ≤ 4 ∧ ks.length ≤ 5 ∧ Below w.heap.size w w'

theorem drawGroupNear_any (A : Option Addr) (n c : Nat) (g : Nat → Int) (w : World) (h : Bytes w A n c g) : Calls Try.prog 23 #[.slice A n c] w (GroupDrawn w) := by
  go_enter Try.func23, Try.ntmps23
  go_wp2_with fail
  refine (open_any A n c g _ h).mono ?_
  rintro e w1 ⟨rfl, hb1, rd1⟩
  have s1 := hb1.size
  go_wp2_with fail
  refine (l20Group_any w.heap.size 0 6 _ rd1 (by omega) (by omega) (by omega)).mono ?_
  rintro e w2 ⟨v, u, t, xs, cs, ks, rfl, sv, su, st, l1, l2, l3, o2, rd2⟩
  go_wp2
  go_ret3
  exact ⟨v, u, t, xs, cs, ks, rfl, sv.1, su.1, st.1, l1, l2, l3, hb1.trans (o2.below (Nat.le_refl _) s1)⟩
theorem drawGroupBest_any (A : Option Addr) (n c : Nat) (g : Nat → Int) (w : World) (h : Bytes w A n c g) : Calls Try.prog 20 #[.slice A n c] w (GroupDrawn w) := by
  go_enter Try.func20, Try.ntmps20
  go_wp2_with fail
  refine (open_any A n c g _ h).mono ?_
  rintro e w1 ⟨rfl, hb1, rd1⟩
  have s1 := hb1.size
  go_wp2_with fail
  refine (l20Group_any w.heap.size 0 6 _ rd1 (by omega) (by omega) (by omega)).mono ?_
  rintro e w2 ⟨v, u, t, xs, cs, ks, rfl, sv, su, st, l1, l2, l3, o2, rd2⟩
  go_wp2
  go_ret3
  exact ⟨v, u, t, xs, cs, ks, rfl, sv.1, su.1, st.1, l1, l2, l3, hb1.trans (o2.below (Nat.le_refl _) s1)⟩

theorem results_tmp4 {fn : Func} {t u v s : Tmp} (h : fn.results = #[.tmp t, .tmp u, .tmp v, .tmp s]) (tmps : Array Value) (P : Program) (w : World) :
    (results fn tmps).run P w = .ok (.tuple #[tmps.getD t undef, tmps.getD u undef, tmps.getD v undef, tmps.getD s undef]) w := by
  simp [results, h]
/-- Four drawn lists; only the reader has changed. -/
def GivenOut (w : World) (r : Nat) (e : Ending) (w' : World) : Prop :=
  ∃ (v u t s : Value) (xs cs ks gs : List Int), e = .returned (.tuple #[v, u, t, s]) ∧ SlI w' v xs ∧ SlI w' u cs ∧ SlI w' t ks ∧ SlI w' s gs ∧ xs.length ≤ 9 ∧ cs.length ≤ 4 ∧ ks.length ≤ 5 ∧ gs.length ≤ 6 ∧ Only r w w'

set_option maxHeartbeats 4000000 in
theorem l20Given_any (r N : Nat) (w : World) (hR : Rd w r N) (hN : N ≤ 80000) : Calls Try.prog 39 #[.pointer (some ⟨r, 0, none⟩)] w (GivenOut w r) := by
  have hr := hR.lt
  go_enter Try.func39, Try.ntmps39
  go_wp2_with fail
  refine (l20Group_any r N 9 _ hR (by omega) (by omega) (by omega)).mono ?_
  rintro e w1 ⟨v, u, t, xs, cs, ks, rfl, ⟨sv, lv⟩, ⟨su, lu⟩, ⟨st, lt⟩, l1, l2, l3, o1, rd1⟩
  obtain ⟨A1, c1, rfl, c10, c11, I1⟩ := sv
  obtain ⟨A2, c2, rfl, c20, c21, I2⟩ := su
  obtain ⟨A3, c3, rfl, c30, c31, I3⟩ := st
  have SV : SlU w1 w.heap.size w1.heap.size (.slice A1 xs.length c1) xs := SlI.u ⟨A1, c1, rfl, c10, c11, I1⟩ lv
  have SU : SlU w1 w.heap.size w1.heap.size (.slice A2 cs.length c2) cs := SlI.u ⟨A2, c2, rfl, c20, c21, I2⟩ lu
  have ST : SlU w1 w.heap.size w1.heap.size (.slice A3 ks.length c3) ks := SlI.u ⟨A3, c3, rfl, c30, c31, I3⟩ lt
  have s1 := o1.size
  have hz := OwnI.made (w := w1.alloc (.cells #[] 3)) (base := w1.heap.size) (g := w1.heap.size) (xs := []) (by omega) (heap_alloc_new w1 _) (by unfold maxLen; decide)
  have B1 : Below w1.heap.size w1 (w1.alloc (.cells #[] 3)) := (Below.refl _ w1).alloc (Nat.le_refl _) _
  have l1' : (xs.length : Int) ≤ 9 := by omega
  have l2' : (cs.length : Int) ≤ 4 := by omega
  have l3' : (ks.length : Int) ≤ 5 := by omega
  have rd1' := (rd1.above (below_le (show r + 1 ≤ w1.heap.size by omega) B1))
  clear I1 I2 I3 c10 c11 c20 c21 c30 c31
  go_wp2
  go_loopw [9, 10] (fun t' i wr => ∃ (t : Value) (k : Nat) (gs : List Int), t = t' ∧ i = .int .i64 k ∧ k ≤ ks.length ∧ gs.length = k ∧ OwnI wr w1.heap.size t gs ∧ SlU wr w.heap.size w1.heap.size (.slice A1 xs.length c1) xs ∧ SlU wr w.heap.size w1.heap.size (.slice A2 cs.length c2) cs ∧ SlU wr w.heap.size w1.heap.size (.slice A3 ks.length c3) ks ∧ Rd wr r (N + 40 + k) ∧ Only r w wr ∧ w1.heap.size ≤ wr.heap.size) (fun _ i _ => ks.length - (intOf i).toNat)
  case atStart => exact ⟨_, 0, [], rfl, rfl, Nat.zero_le _, rfl, hz, SV.below B1, SU.below B1, ST.below B1, rd1', only_below o1 (below_le (by omega) B1), by simp⟩
  case round =>
    obtain ⟨t, k, gs, rfl, rfl, hk, hp, ht, sv, su, st, rd, oo, hs⟩ := hrel
    by_cases hlt : k < ks.length
    · have hlt' : (k : Int) < (ks.length : Int) := by omega
      have fin : ∀ n : Int, 1 ≤ n → n ≤ 4 → Calls Try.prog 59 #[.pointer (some ⟨r, 0, none⟩), .int .i64 n] wr (PickPost wr r (N + 40 + k) n) := fun n h1 h2 => pick_any r (N + 40 + k) n wr rd (by omega) (by omega) (by omega)
      go_wp2_with fail
      all_goals
        refine (fin _ (by omega) (by omega)).mono ?_
        rintro e w4 ⟨a4, rfl, a40, a41, ow4, rd4⟩
        have s4 := ow4.size
        have ht4 := ht.only ow4 (by omega)
        go_wp2_with (at_builtin; refine app_int rfl _ _ rfl (w1.heap.size) w4.heap.size _ gs a4 rfl rfl (ht4.alloc _) ?_ ?_ ?_ ?_; (focus (first | (go_simp; done) | (simp; done) | omega | (simp; omega))); (focus (first | (go_simp; done) | (simp; done) | omega | (simp; omega))); (focus (first | (go_simp; done) | (simp; done) | omega | (simp; omega))); intro v6 w6 h6 g6; have zw6 := g6.size; (try simp at zw6))
        have g7 : Below w1.heap.size w4 w6 := ((Below.refl _ w4).alloc (by omega) _).trans g6
        have sv4 := (sv.only ow4 hr hs).below g7
        have su4 := (su.only ow4 hr hs).below g7
        have st4 := (st.only ow4 hr hs).below g7
        exact ⟨⟨_, k + 1, gs ++ [a4], rfl, by go_num, by omega, by simp [hp], h6, sv4, su4, st4, (rd4.above (below_le (by omega) g7)).mono (by omega), only_below (oo.trans ow4) (below_le (by omega) g7), by omega⟩, by simp [intOf]; omega⟩
    · have hk' : k = ks.length := by omega
      have hpl : (gs.length : Int) ≤ 5 := by omega
      obtain ⟨wx, hwx⟩ : ∃ wx : World, wx = wr := ⟨_, rfl⟩
      subst hwx
      have hge : ¬ (k : Int) < (ks.length : Int) := by omega
      go_wp2_with fail
      refine (odd_any r (N + 40 + k) 14 _ rd (by omega) (by omega) (by omega)).mono ?_
      rintro e w5 ⟨b, rfl, ow5, rd5⟩
      have sw5 := only_size ow5
      try simp at sw5
      have s5 := ow5.size
      have ht5 := ht.only ow5 (by omega)
      have sv5 := sv.only ow5 hr hs
      have su5 := su.only ow5 hr hs
      have st5 := st.only ow5 hr hs
      cases b
      · go_wp2
        ((try simp only [Exit.inBlock, Exit.then]); refine bodyPost_ret (results_tmp4 rfl _ _ _) rfl ?_)
        exact ⟨_, _, _, _, xs, cs, ks, gs, rfl, sv5.sl (by omega), su5.sl (by omega), st5.sl (by omega), ht5.sl, l1, l2, l3, by omega, oo.trans ow5⟩
      · go_wp2_with fail
        refine (pick_any r (N + 41 + k) 5 _ (rd5.mono (by omega)) (by omega) (by omega) (by omega)).mono ?_
        rintro e w6 ⟨a6, rfl, a60, a61, ow6, rd6⟩
        have sw6 := only_size ow6
        try simp at sw6
        have s6 := ow6.size
        have ht6 := ht5.only ow6 (by omega)
        have sv6 := sv5.only ow6 hr (by omega)
        have su6 := su5.only ow6 hr (by omega)
        have st6 := st5.only ow6 hr (by omega)
        go_wp2_with (at_builtin; refine app_int rfl _ _ rfl (w1.heap.size) w6.heap.size _ gs (a6 - 1) rfl rfl (ht6.alloc _) ?_ ?_ ?_ ?_; (focus (first | (go_simp; done) | (simp; done) | omega | (simp; omega))); (focus (first | (go_simp; done) | (simp; done) | omega | (simp; omega))); (focus (first | (go_simp; done) | (simp; done) | omega | (simp; omega))); intro v7 w7 h7 g7; have zw7 := g7.size; (try simp at zw7))
        have g8 : Below w1.heap.size w6 w7 := ((Below.refl _ w6).alloc (by omega) _).trans g7
        ((try simp only [Exit.inBlock, Exit.then]); refine bodyPost_ret (results_tmp4 rfl _ _ _) rfl ?_)
        exact ⟨_, _, _, _, xs, cs, ks, gs ++ [a6 - 1], rfl, (sv6.below g8).sl (by omega), (su6.below g8).sl (by omega), (st6.below g8).sl (by omega), h7.sl, l1, l2, l3, by simp; omega, only_below ((oo.trans ow5).trans ow6) (below_le (by omega) g8)⟩

/-- Four drawn lists, in new memory. -/
def GivenDrawn (w : World) (e : Ending) (w' : World) : Prop :=
  ∃ (v u t s : Value) (xs cs ks gs : List Int), e = .returned (.tuple #[v, u, t, s]) ∧ SlI w' v xs ∧ SlI w' u cs ∧ SlI w' t ks ∧ SlI w' s gs ∧ xs.length ≤ 9 ∧ cs.length ≤ 4 ∧ ks.length ≤ 5 ∧ gs.length ≤ 6 ∧ Below w.heap.size w w'
theorem drawGroupLongest_any (A : Option Addr) (n c : Nat) (g : Nat → Int) (w : World) (h : Bytes w A n c g) : Calls Try.prog 27 #[.slice A n c] w (GivenDrawn w) := by
  go_enter Try.func27, Try.ntmps27
  go_wp2_with fail
  refine (open_any A n c g _ h).mono ?_
  rintro e w1 ⟨rfl, hb1, rd1⟩
  have s1 := hb1.size
  go_wp2_with fail
  refine (l20Given_any w.heap.size 0 _ rd1 (by omega)).mono ?_
  rintro e w2 ⟨v, u, t, s, xs, cs, ks, gs, rfl, sv, su, st, ss, l1, l2, l3, l4, o2⟩
  go_wp2
  ((try simp only [Exit.inBlock, Exit.then]); refine bodyPost_ret (results_tmp4 rfl _ _ _) rfl ?_)
  exact ⟨v, u, t, s, xs, cs, ks, gs, rfl, sv, su, st, ss, l1, l2, l3, l4, hb1.trans (o2.below (Nat.le_refl _) s1)⟩
theorem drawGroupSum_any (A : Option Addr) (n c : Nat) (g : Nat → Int) (w : World) (h : Bytes w A n c g) : Calls Try.prog 17 #[.slice A n c] w (GivenDrawn w) := by
  go_enter Try.func17, Try.ntmps17
  go_wp2_with fail
  refine (open_any A n c g _ h).mono ?_
  rintro e w1 ⟨rfl, hb1, rd1⟩
  have s1 := hb1.size
  go_wp2_with fail
  refine (l20Given_any w.heap.size 0 _ rd1 (by omega)).mono ?_
  rintro e w2 ⟨v, u, t, s, xs, cs, ks, gs, rfl, sv, su, st, ss, l1, l2, l3, l4, o2⟩
  go_wp2
  ((try simp only [Exit.inBlock, Exit.then]); refine bodyPost_ret (results_tmp4 rfl _ _ _) rfl ?_)
  exact ⟨v, u, t, s, xs, cs, ks, gs, rfl, sv, su, st, ss, l1, l2, l3, l4, hb1.trans (o2.below (Nat.le_refl _) s1)⟩
end Go.Proofs.Ytmekbfjeljfbpaa
