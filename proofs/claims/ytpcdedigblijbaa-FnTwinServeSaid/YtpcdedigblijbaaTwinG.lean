/- The walk of the law FnExactTwinRun. -/
import Derived.Test.YtpcdedigblijbaaTwinF
import Derived.Deep.SlicePairs
namespace Go.Proofs.Ytpcdedigblijbaa
open Go.ChangeShapes Go.WideShapes Go.ChangeAt Go.RowKit

theorem addr_add (b off i : Nat) : (⟨b, off, none⟩ : Addr).add i = ⟨b, off + i, none⟩ := by
  unfold Addr.add
  by_cases h : i = 0
  · subst h; rfl
  · simp [h]

theorem pairs_form {H : Type} {enc : TypeId × Value → H} {P : Program} {W : World} {r : Reach} {base : Nat} {t e : TypeId} {f0 f1 : Field} {v : Value} {d : DataW H} {p : List MemPlace} (ht : P.underlying t = some (.slice e)) (he : P.underlying e = some (.struct #[f0, f1]))
    (ce : P.cellsOf e = 2) (o0 : f0.offset = 0) (o1 : f1.offset = 1) (c0 : P.cellsOf f0.type = 1) (c1 : P.cellsOf f1.type = 1) (u0 : P.underlying f0.type = some (.int .i64)) (u1 : P.underlying f1.type = some (.int .i64))
    (hv : Value.okWide P W r base t v) (h : DataW.Trod enc P W 0 (fun _ => true) true t v d p) : ∃ (A : Option Addr) (n c : Nat) (xs : List (Int × Int)), v = .slice A n c ∧ Pairs W A n xs := by
  obtain ⟨a0, len0, cap0, rfl⟩ := okWide_slice ht hv
  obtain ⟨fuel, hf⟩ := h
  rcases Go.Deep.open_slice_pairs ht he ce o0 o1 c0 c1 hf with ⟨hcs, _⟩ | ⟨a, l, c, m, n, V0, V1, D0, D1, P0, P1, hcs, _, hl, hm, hmm, _, hi⟩
  · simp [Value.cells] at hcs
    obtain ⟨rfl, rfl, rfl⟩ := hcs
    exact ⟨none, 0, 0, [], rfl, rfl, by omega, fun h => absurd h (by omega)⟩
  · simp [Value.cells] at hcs
    obtain ⟨rfl, rfl, rfl⟩ := hcs
    have hm' : m = cap0 := by simpa using hmm
    have each : ∀ i, i < len0 → ∃ q : Int × Int, W.cell? (a.add (i * 2)) = some (.int .i64 q.1) ∧ W.cell? (a.add (i * 2 + 1)) = some (.int .i64 q.2) := by
      intro i hil
      obtain ⟨h0, h1, t0, t1⟩ := hi i (by omega)
      obtain ⟨x0, e0, _, _⟩ := DataW.trod_int u0 t0
      obtain ⟨x1, e1, _, _⟩ := DataW.trod_int u1 t1
      have e0' : V0 i = .int .i64 x0 := by simpa using e0
      have e1' : V1 i = .int .i64 x1 := by simpa using e1
      exact ⟨(x0, x1), by rw [h0, e0'], by rw [h1, e1']⟩
    let q : Nat → Int × Int := fun i => if h : i < len0 then Classical.choose (each i h) else (0, 0)
    have hq : ∀ i (h : i < len0), W.cell? (a.add (i * 2)) = some (.int .i64 (q i).1) ∧ W.cell? (a.add (i * 2 + 1)) = some (.int .i64 (q i).2) := by
      intro i h
      have := Classical.choose_spec (each i h)
      simpa only [q, dif_pos h] using this
    unfold maxLen at hm
    refine ⟨some a, len0, cap0, (List.range len0).map q, rfl, by simp, by omega, fun hn => ?_⟩
    obtain ⟨b, off, spot⟩ := a
    have h0 := (hq 0 hn).1
    have hspot : spot = none := by simpa [Addr.add] using World.cell?_spot h0
    subst hspot
    have hlt := World.block_lt_of_cell? _ _ h0
    refine ⟨b, off, rfl, by simpa [Addr.add] using hlt, fun j hj => ?_⟩
    have hqj : ((List.range len0).map q)[j]?.getD (0, 0) = q j := by simp [List.getElem?_map, List.getElem?_range hj]
    obtain ⟨g0, g1⟩ := hq j hj
    rw [addr_add] at g0 g1
    simp only [px, py, hqj]
    exact ⟨g0, by rw [Nat.add_assoc]; exact g1⟩

theorem sz_yes (A : Option Addr) (n c : Nat) (w : World) (hn : n ≤ 1048576) : Calls Try.prog 29 #[.slice A n c, .int .i64 1048576] w fun e w' => e = .returned (.int .i64 (1048576 - (n : Int))) ∧ w = w' := by
  have h1 : (n : Int) ≤ 1048576 := by omega
  go_enter Try.func29, Try.ntmps29
  go_wp2
  go_ret
  exact ⟨rfl, rfl⟩
theorem sz_no (A : Option Addr) (n c : Nat) (w : World) (hn : 1048576 < n) (hm : n ≤ 9223372036854775807) : Calls Try.prog 29 #[.slice A n c, .int .i64 1048576] w fun e w' => e = .returned (.int .i64 (-1)) ∧ w = w' := by
  have h1 : (1048576 : Int) < (n : Int) := by omega
  go_enter Try.func29, Try.ntmps29
  go_wp2
  go_ret
  exact ⟨rfl, rfl⟩

set_option maxHeartbeats 2000000 in
theorem walk_FnExactTwinRun (f l h : Int) (A : Option Addr) (n c : Nat) (xs : List (Int × Int)) (w : World) (_ : (Lit.int .i64 f).wf = true) (_ : (Lit.int .i64 l).wf = true) (_ : (Lit.int .i64 h).wf = true) (hP : Pairs w A n xs) :
    Calls Try.prog 7 #[.agg #[.int .i64 f, .int .i64 l, .int .i64 h], .slice A n c] w fun e w' => e = .returned (.bool true) ∧ Below w.heap.size w w' := by
  by_cases hn : n ≤ 1048576
  · have hn1 : (n : Int) ≤ 1048576 := by omega
    go_enter Try.func7, Try.ntmps7
    go_wp2_with (go_at_call 29; refine (sz_yes _ _ _ _ hn).mono ?_; rintro e w' ⟨rfl, rfl⟩)
    go_wp2_with fail
    refine (toTwin_any _ _ _ _).mono ?_
    rintro e w1 ⟨rfl, hbw1⟩
    obtain ⟨hcw1, hfw1, -, -, -, hsw1⟩ := bfacts5 hbw1
    try simp only [World.size_drew] at hcw1 hfw1
    try simp at hsw1
    have qw10 : w.heap.size < w1.heap.size := (by omega)
    have rw10 : ∀ m : Nat, w.heap.size < w1.heap.size + m := fun m => (by omega)
    go_wp2_with fail
    refine (toMoves_any A n c xs _ (hP.below (by (repeat' (first | (with_reducible exact Below.refl _ _) | (with_reducible assumption) | (with_reducible exact bundrew (by assumption)) | (with_reducible refine balloc ?_ _) | (with_reducible refine bset ?_ _ ?_ _) | (with_reducible refine Below.drew ?_) | (with_reducible refine bdrewN ?_ _) | (with_reducible refine bvia (by assumption) ?_) | (with_reducible refine Below.trans ?_ (by assumption)) | omega | (simp; omega) | (simp; done))))) hn).mono ?_
    rintro e w2 ⟨g2, c2, rfl, hg2, hP2, hbw2⟩
    obtain ⟨hcw2, hfw2, -, -, -, hsw2⟩ := bfacts5 hbw2
    try simp only [World.size_drew] at hcw2 hfw2
    try simp at hsw2
    have qw20 : w.heap.size < w2.heap.size := (by omega)
    have rw20 : ∀ m : Nat, w.heap.size < w2.heap.size + m := fun m => (by omega)
    go_wp2_with fail
    refine (trun_spec _ _ _ _ _ _ xs _ hP2).mono ?_
    rintro e w3 ⟨rfl, hbw3⟩
    obtain ⟨hcw3, hfw3, -, -, -, hsw3⟩ := bfacts5 hbw3
    try simp only [World.size_drew] at hcw3 hfw3
    try simp at hsw3
    have qw30 : w.heap.size < w3.heap.size := (by omega)
    have rw30 : ∀ m : Nat, w.heap.size < w3.heap.size + m := fun m => (by omega)
    go_wp2_with fail
    refine (toMoves_any A n c xs _ (hP.below (by (repeat' (first | (with_reducible exact Below.refl _ _) | (with_reducible assumption) | (with_reducible exact bundrew (by assumption)) | (with_reducible refine balloc ?_ _) | (with_reducible refine bset ?_ _ ?_ _) | (with_reducible refine Below.drew ?_) | (with_reducible refine bdrewN ?_ _) | (with_reducible refine bvia (by assumption) ?_) | (with_reducible refine Below.trans ?_ (by assumption)) | omega | (simp; omega) | (simp; done))))) hn).mono ?_
    rintro e w4 ⟨g4, c4, rfl, hg4, hP4, hbw4⟩
    obtain ⟨hcw4, hfw4, -, -, -, hsw4⟩ := bfacts5 hbw4
    try simp only [World.size_drew] at hcw4 hfw4
    try simp at hsw4
    have qw40 : w.heap.size < w4.heap.size := (by omega)
    have rw40 : ∀ m : Nat, w.heap.size < w4.heap.size + m := fun m => (by omega)
    have qw41 : w3.heap.size < w4.heap.size := (by omega)
    have rw41 : ∀ m : Nat, w3.heap.size < w4.heap.size + m := fun m => (by omega)
    go_wp2_with fail
    refine (toTwin_any _ _ _ _).mono ?_
    rintro e w5 ⟨rfl, hbw5⟩
    obtain ⟨hcw5, hfw5, -, -, -, hsw5⟩ := bfacts5 hbw5
    try simp only [World.size_drew] at hcw5 hfw5
    try simp at hsw5
    have qw50 : w.heap.size < w5.heap.size := (by omega)
    have rw50 : ∀ m : Nat, w.heap.size < w5.heap.size + m := fun m => (by omega)
    have qw51 : w3.heap.size < w5.heap.size := (by omega)
    have rw51 : ∀ m : Nat, w3.heap.size < w5.heap.size + m := fun m => (by omega)
    go_wp2_with fail
    refine (trun_impl _ _ _ _ _ _ xs _ (hP4.below hbw5)).mono ?_
    rintro e w6 ⟨rfl, hbw6⟩
    obtain ⟨hcw6, hfw6, -, -, -, hsw6⟩ := bfacts5 hbw6
    try simp only [World.size_drew] at hcw6 hfw6
    try simp at hsw6
    have qw60 : w.heap.size < w6.heap.size := (by omega)
    have rw60 : ∀ m : Nat, w.heap.size < w6.heap.size + m := fun m => (by omega)
    have qw61 : w3.heap.size < w6.heap.size := (by omega)
    have rw61 : ∀ m : Nat, w3.heap.size < w6.heap.size + m := fun m => (by omega)
    go_wp2_with fail
    refine (eqTwin_any _ _ _ _ _ _ _).mono ?_
    rintro e w7 ⟨rfl, hbw7⟩
    obtain ⟨hcw7, hfw7, -, -, -, hsw7⟩ := bfacts5 hbw7
    try simp only [World.size_drew] at hcw7 hfw7
    try simp at hsw7
    have qw70 : w.heap.size < w7.heap.size := (by omega)
    have rw70 : ∀ m : Nat, w.heap.size < w7.heap.size + m := fun m => (by omega)
    have qw71 : w3.heap.size < w7.heap.size := (by omega)
    have rw71 : ∀ m : Nat, w3.heap.size < w7.heap.size + m := fun m => (by omega)
    have qw72 : w6.heap.size < w7.heap.size := (by omega)
    have rw72 : ∀ m : Nat, w6.heap.size < w7.heap.size + m := fun m => (by omega)
    go_wp2_with fail
    refine (toMoves_any A n c xs _ (hP.below (by (repeat' (first | (with_reducible exact Below.refl _ _) | (with_reducible assumption) | (with_reducible exact bundrew (by assumption)) | (with_reducible refine balloc ?_ _) | (with_reducible refine bset ?_ _ ?_ _) | (with_reducible refine Below.drew ?_) | (with_reducible refine bdrewN ?_ _) | (with_reducible refine bvia (by assumption) ?_) | (with_reducible refine Below.trans ?_ (by assumption)) | omega | (simp; omega) | (simp; done))))) hn).mono ?_
    rintro e w8 ⟨g8, c8, rfl, hg8, hP8, hbw8⟩
    obtain ⟨hcw8, hfw8, -, -, -, hsw8⟩ := bfacts5 hbw8
    try simp only [World.size_drew] at hcw8 hfw8
    try simp at hsw8
    have qw80 : w.heap.size < w8.heap.size := (by omega)
    have rw80 : ∀ m : Nat, w.heap.size < w8.heap.size + m := fun m => (by omega)
    go_wp2_with fail
    refine (eqMoves_any _ _ _ _ _ xs _ ((((hP4.below hbw5).below hbw6).below (((Below.refl _ _).alloc (Nat.le_refl _) _).trans (hbw7.mono (by simp)))).below hbw8) hP8).mono ?_
    rintro e w9 ⟨rfl, hbw9⟩
    go_wp2
    go_ret
    exact ⟨rfl, by (repeat' (first | (with_reducible exact Below.refl _ _) | (with_reducible assumption) | (with_reducible exact bundrew (by assumption)) | (with_reducible refine balloc ?_ _) | (with_reducible refine bset ?_ _ ?_ _) | (with_reducible refine Below.drew ?_) | (with_reducible refine bdrewN ?_ _) | (with_reducible refine bvia (by assumption) ?_) | (with_reducible refine Below.trans ?_ (by assumption)) | omega | (simp; omega) | (simp; done)))⟩
  · have hn1 : (1048576 : Int) < (n : Int) := by omega
    go_enter Try.func7, Try.ntmps7
    go_wp2_with (go_at_call 29; refine (sz_no _ _ _ _ (by omega) hP.2.1).mono ?_; rintro e w' ⟨rfl, rfl⟩)
    go_ret
    exact ⟨rfl, by (repeat' (first | (with_reducible exact Below.refl _ _) | (with_reducible assumption) | (with_reducible exact bundrew (by assumption)) | (with_reducible refine balloc ?_ _) | (with_reducible refine bset ?_ _ ?_ _) | (with_reducible refine Below.drew ?_) | (with_reducible refine bdrewN ?_ _) | (with_reducible refine bvia (by assumption) ?_) | (with_reducible refine Below.trans ?_ (by assumption)) | omega | (simp; omega) | (simp; done)))⟩
end Go.Proofs.Ytpcdedigblijbaa
