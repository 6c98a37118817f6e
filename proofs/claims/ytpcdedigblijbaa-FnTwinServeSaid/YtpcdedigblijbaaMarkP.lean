/- Marks laid into a list of moves, and looked for again: contracts; the walk of the law FnExactTwinWay. -/
import Derived.Test.YtpcdedigblijbaaTwinH
import Derived.Test.YtpcdedigblijbaaFloors
namespace Go.Proofs.Ytpcdedigblijbaa
open Go.ChangeShapes Go.WideShapes Go.ChangeAt Go.RowKit

/-- The marks. -/
def marksP (k : Int) (n : Nat) : List (Int × Int) := (List.range n).map fun j : Nat => (k + 2 * (j : Int), k + 2 * (j : Int) + 1)
theorem marksP_length (k : Int) (n : Nat) : (marksP k n).length = n := by simp [marksP]
theorem marksP_get (k : Int) (n j : Nat) (h : j < n) : px (marksP k n) j = k + 2 * (j : Int) ∧ py (marksP k n) j = k + 2 * (j : Int) + 1 := by simp [px, py, marksP, h]
/-- The first i pairs of cells are marks. -/
def Marked2 (cs : Array Value) (cap i : Nat) (k : Int) : Prop := cs.size = cap * 2 ∧ ∀ j, j < i → cs[j * 2]? = some (.int .i64 (k + 2 * (j : Int))) ∧ cs[j * 2 + 1]? = some (.int .i64 (k + 2 * (j : Int) + 1))
theorem Marked2.next {cs : Array Value} {cap i : Nat} {k : Int} (h : Marked2 cs cap i k) (hi : i < cap) :
    Marked2 ((cs.setIfInBounds (i * 2) (.int .i64 (k + 2 * (i : Int)))).setIfInBounds (i * 2 + 1) (.int .i64 (k + 2 * (i : Int) + 1))) cap (i + 1) k := by
  refine ⟨by simpa using h.1, fun j hj => ?_⟩
  have hs := h.1
  by_cases e : j = i
  · subst e
    constructor
    · rw [Array.getElem?_setIfInBounds_ne (by omega), Array.getElem?_setIfInBounds_self_of_lt (by omega)]
    · rw [Array.getElem?_setIfInBounds_self_of_lt (by simp; omega)]
  · obtain ⟨a1, a2⟩ := h.2 j (by omega)
    constructor
    · rw [Array.getElem?_setIfInBounds_ne (by omega), Array.getElem?_setIfInBounds_ne (by omega)]; exact a1
    · rw [Array.getElem?_setIfInBounds_ne (by omega), Array.getElem?_setIfInBounds_ne (by omega)]; exact a2
theorem flat_at (xs : List (Int × Int)) (j : Nat) : (flat xs)[j]? = if j < xs.length * 2 then (if j % 2 = 0 then some (.int .i64 (px xs (j / 2))) else some (.int .i64 (py xs (j / 2)))) else none := by
  by_cases h : j < xs.length * 2
  · rw [if_pos h]
    obtain ⟨f1, f2⟩ := flat_get xs (j / 2) (by omega)
    by_cases h2 : j % 2 = 0
    · rw [if_pos h2, show j = j / 2 * 2 by omega, f1]
      congr 2
      rw [show j / 2 * 2 / 2 = j / 2 by omega]
    · rw [if_neg h2]
      have e : j = j / 2 * 2 + 1 := by omega
      rw [← f2]
      congr 1
  · rw [if_neg h, List.getElem?_eq_none]
    rw [flat_length]; omega
theorem Marked2.list {cs : Array Value} {cap n : Nat} {k : Int} (h : Marked2 cs cap n k) : cs.toList.take (n * 2) = flat (marksP k n) := by
  apply List.ext_getElem?
  intro j
  rw [List.getElem?_take, flat_at, marksP_length]
  by_cases hj : j < n * 2
  · rw [if_pos hj, if_pos hj, Array.getElem?_toList]
    obtain ⟨m1, m2⟩ := marksP_get k n (j / 2) (by omega)
    obtain ⟨h1, h2⟩ := h.2 (j / 2) (by omega)
    by_cases h3 : j % 2 = 0
    · rw [if_pos h3, m1, ← h1]
      congr 1
      omega
    · rw [if_neg h3, m2, ← h2]
      congr 1
      omega
  · rw [if_neg hj, if_neg hj]

theorem grown_set {w w' : World} {g : Nat} (h : w.grownBy w' (some g)) (i : Nat) (u : Value) : w.grownBy (w'.setCell ⟨g, i, none⟩ u) (some g) :=
  Only.set (r := g) h ⟨g, i, none⟩ (.inl rfl) u
/-- The list bears marks now; nothing else has changed. -/
def MarkPostP (base : Nat) (v : Value) (n : Nat) (k : Int) (w : World) (e : Ending) (w' : World) : Prop :=
  e = .returned (.int .i64 (k + 2 * (n : Int))) ∧ OwnP w' base v (marksP k n) ∧ w.grownBy w' v.ownBlock

set_option maxHeartbeats 1000000 in
theorem markP_any (w : World) (base : Nat) (A : Option Addr) (n c : Nat) (xs : List (Int × Int)) (k : Int) (h : OwnP w base (.slice A n c) xs) (hn : n ≤ 1000000000) (h0 : 0 ≤ k) (h1 : k ≤ 1000000000) :
    Calls Try.prog 27 #[.slice A n c, .int .i64 k] w (MarkPostP base (.slice A n c) n k w) := by
  have hx : n = xs.length := h.pairs.1
  have HX := Lib.hid hx
  clear hx
  rcases h.form with ⟨e1, e2⟩ | ⟨g, cap, cur, e1, hg, hh, hc1, hc2, hc3, hc4⟩
  · injection e1 with a1 a2 a3
    subst a1 a2 a3
    clear h e2 HX
    go_enter Try.func27, Try.ntmps27
    go_wp2
    go_loop [1, 5] (fun q i => q = .int .i64 k ∧ i = .int .i64 0) (fun _ _ => 0)
    case atStart => exact ⟨rfl, rfl⟩
    case round =>
      obtain ⟨rfl, rfl⟩ := hrel
      go_wp2
      go_ret
      exact ⟨by simp, by simpa [marksP] using OwnP.nil w base, World.grownBy.refl w _⟩
  · injection e1 with a1 a2 a3
    subst a1 a3
    clear a2 h hc4
    rw [← HX.out] at hc1
    clear HX
    have hn' : (n : Int) ≤ 1000000000 := by omega
    have hM : Marked2 cur c 0 k := ⟨hc3, fun j hj => by omega⟩
    have HH := Lib.hid hh
    clear hh hc3
    go_enter Try.func27, Try.ntmps27
    go_wp2
    go_loopw [1, 5] (fun q i wr => ∃ (j : Nat) (cs : Array Value), j ≤ n ∧ i = .int .i64 j ∧ q = .int .i64 (k + 2 * (j : Int)) ∧ Blk wr g 34 cs ∧ Marked2 cs c j k ∧ w.grownBy wr (some g)) (fun _ i _ => n - (intOf i).toNat)
    case atStart => exact ⟨0, cur, Nat.zero_le _, rfl, by simp, HH.out, hM, World.grownBy.refl w _⟩
    case round =>
      obtain ⟨j, cs, hj, rfl, rfl, hb, hF, hgr⟩ := hrel
      by_cases hlt : j < n
      · have hlt' : (j : Int) < (n : Int) := by omega
        have hs := hF.1
        have hgl := hb.lt
        obtain ⟨u2, e2⟩ : ∃ u, wr.cell? ⟨g, j * 2, none⟩ = some u := ⟨_, by rw [hb.cell]; exact Array.getElem?_eq_getElem (by omega)⟩
        obtain ⟨u3, e3⟩ : ∃ u, wr.cell? ⟨g, j * 2 + 1, none⟩ = some u := ⟨_, by rw [hb.cell]; exact Array.getElem?_eq_getElem (by omega)⟩
        have e4 := hb.frozen (j * 2)
        have e5 := hb.frozen (j * 2 + 1)
        have HB := Lib.hid hb
        have HF := Lib.hid hF
        clear hs hb hF hM
        go_wp2
        refine ⟨⟨j + 1, _, by omega, by go_num, ?_, ?_, HF.out.next (by omega), ?_⟩, by simp [intOf]; omega⟩
        · go_num
        · exact (HB.out.set_ _ _).set_ _ _
        · exact grown_set (grown_set hgr _ _) _ _
      · obtain rfl : j = n := by omega
        go_wp2
        go_ret
        refine ⟨rfl, ?_, hgr⟩
        refine ⟨by rw [flat_length], .inr ⟨g, c, cs, by rw [marksP_length], hg, hb, by rw [marksP_length]; omega, hc2, hF.1, ?_⟩⟩
        rw [marksP_length]
        exact hF.list

/-- The marks are found again. -/
theorem heldP_any (w : World) (A : Option Addr) (n c : Nat) (k : Int) (h : Pairs w A n (marksP k n)) (hn : n ≤ 1000000000) (h0 : 0 ≤ k) (h1 : k ≤ 1000000000) :
    Calls Try.prog 28 #[.slice A n c, .int .i64 k] w (Qt w (.int .i64 (k + 2 * (n : Int)))) := by
  obtain ⟨hl, hm, hc⟩ := h
  have HC := Lib.hid hc
  clear hl hc
  have hn' : (n : Int) ≤ 1000000000 := by omega
  go_enter Try.func28, Try.ntmps28
  go_wp2
  go_loopw [1, 5] (fun q i wr => ∃ j : Nat, j ≤ n ∧ i = .int .i64 j ∧ q = .int .i64 (k + 2 * (j : Int)) ∧ ∃ m, wr = w.drewN m) (fun _ i _ => n - (intOf i).toNat)
  case atStart => exact ⟨0, Nat.zero_le _, rfl, by simp, 0, rfl⟩
  case round =>
    obtain ⟨j, hj, rfl, rfl, m, rfl⟩ := hrel
    by_cases hlt : j < n
    · obtain ⟨b, off, rfl, hb, hcc⟩ := HC.out (by omega)
      obtain ⟨e0, e1⟩ := hcc j hlt
      obtain ⟨m0, m1⟩ := marksP_get k n j hlt
      rw [m0] at e0
      rw [m1] at e1
      have hlt' : (j : Int) < (n : Int) := by omega
      clear hcc m0 m1
      go_wp2
      all_goals exact ⟨⟨j + 1, by omega, by go_num, by go_num, _, rfl⟩, by simp [intOf]; omega⟩
    · obtain rfl : j = n := by omega
      go_wp2
      go_ret
      exact qt_drew _ _ _

theorem wayT_length (f l h car d : Int) : (wayT f l h car d).1.length ≤ 2 := by
  unfold wayT
  repeat' split
  all_goals simp

/-- What a change of one list of the call's own leaves of another one. -/
theorem OwnP.grown {w w' : World} {base : Nat} {v u : Value} {xs : List (Int × Int)} (h : OwnP w base v xs) (hg : w.grownBy w' u.ownBlock) (hd : ∀ g, v.ownBlock = some g → u.ownBlock ≠ some g) : OwnP w' base v xs :=
  h.keep fun g hv hlt => hg.block g hlt fun e => hd g hv e.symm
theorem OwnP.apart {w w' : World} {b1 b2 : Nat} {v u : Value} {xs ys : List (Int × Int)} (h : OwnP w b1 v xs) (k : OwnP w' b2 u ys) (hs : w.heap.size ≤ b2) : ∀ g, v.ownBlock = some g → u.ownBlock ≠ some g := fun g hv hu => by
  have h1 := k.block g hu
  rcases h.form with ⟨e, _⟩ | ⟨g', cap, cur, e, _, hh, _⟩
  · subst e; simp [Value.ownBlock] at hv
  · subst e
    have : g' = g := by simpa [Value.ownBlock] using hv
    subst this
    have := (Array.getElem?_eq_some_iff.1 hh).1
    omega
theorem below_grownP {w W w' : World} {base : Nat} {v : Value} {xs : List (Int × Int)} (h : Below w.heap.size w W) (o : OwnP W base v xs) (hb : w.heap.size ≤ base) (hg : W.grownBy w' v.ownBlock) : Below w.heap.size w w' :=
  h.trans ((Below.refl _ _).grown hg h.size fun k hk => Nat.le_trans hb (o.block k hk))

set_option maxHeartbeats 2000000 in
theorem walk_FnExactTwinWay (f l h car d : Int) (w : World) (_ : (Lit.int .i64 f).wf = true) (_ : (Lit.int .i64 l).wf = true) (_ : (Lit.int .i64 h).wf = true) (_ : (Lit.int .i64 car).wf = true) (_ : (Lit.int .i64 d).wf = true) :
    Calls Try.prog 6 #[.agg #[.int .i64 f, .int .i64 l, .int .i64 h], .int .i64 car, .int .i64 d] w fun e w' => e = .returned (.bool true) ∧ Below w.heap.size w w' := by
  have hL := wayT_length f l h car d
  obtain ⟨xs, hxs⟩ : ∃ xs, (wayT f l h car d).1 = xs := ⟨_, rfl⟩
  obtain ⟨bt, hbt⟩ : ∃ bt, (wayT f l h car d).2 = bt := ⟨_, rfl⟩
  rw [hxs] at hL
  have hL' : (xs.length : Int) ≤ 2 := by omega
  have WI := fun w => way_impl f l h car d w
  have WS := fun w => way_spec f l h car d w
  rw [hxs, hbt] at WI WS
  have HI := Lib.hid WI
  have HS := Lib.hid WS
  clear WI WS hxs hbt
  go_enter Try.func6, Try.ntmps6
  go_wp2_with fail
  refine (toTwin_any _ _ _ _).mono ?_
  rintro e w1 ⟨rfl, hbw1⟩
  obtain ⟨hcw1, hfw1, -, -, -, hsw1⟩ := bfacts5 hbw1
  try simp only [World.size_drew] at hcw1 hfw1
  try simp at hsw1
  have qw10 : w.heap.size < w1.heap.size := (by omega)
  have rw10 : ∀ m : Nat, w.heap.size < w1.heap.size + m := fun m => (by omega)
  go_wp2_with fail
  refine (HS.out _).mono ?_
  rintro e w2 ⟨v1, rfl, o1, hb2⟩
  obtain ⟨A1, c1, rfl⟩ := o1.shape
  obtain ⟨hcw2, hfw2, -, -, -, hsw2⟩ := bfacts5 hb2
  have q2 : w.heap.size < w2.heap.size := by omega
  go_wp2_with fail
  refine (toTwin_any _ _ _ _).mono ?_
  rintro e w3 ⟨rfl, hbw3⟩
  obtain ⟨hcw3, hfw3, -, -, -, hsw3⟩ := bfacts5 hbw3
  try simp only [World.size_drew] at hcw3 hfw3
  try simp at hsw3
  have qw30 : w.heap.size < w3.heap.size := (by omega)
  have rw30 : ∀ m : Nat, w.heap.size < w3.heap.size + m := fun m => (by omega)
  go_wp2_with fail
  refine (HI.out _).mono ?_
  rintro e w4 ⟨v2, rfl, o2, hb4⟩
  obtain ⟨A2, c2, rfl⟩ := o2.shape
  obtain ⟨hcw4, hfw4, -, -, -, hsw4⟩ := bfacts5 hb4
  have q4 : w.heap.size < w4.heap.size := by omega
  have B4 : Below w.heap.size w w4 := by (repeat' (first | (with_reducible exact Below.refl _ _) | (with_reducible assumption) | (with_reducible exact bundrew (by assumption)) | (with_reducible refine balloc ?_ _) | (with_reducible refine bset ?_ _ ?_ _) | (with_reducible refine Below.drew ?_) | (with_reducible refine bdrewN ?_ _) | (with_reducible refine bvia (by assumption) ?_) | (with_reducible refine Below.trans ?_ (by assumption)) | omega | (simp; omega) | (simp; done)))
  have o1' := (o1.below hbw3).below hb4
  have ap := (o1.below hbw3).apart o2 (Nat.le_refl _)
  have z3 : w.heap.size ≤ w3.heap.size := by omega
  have c4 : w4.cell? ⟨w.heap.size, 0, none⟩ = some (.int .i64 f) ∧ w4.cell? ⟨w.heap.size, 1, none⟩ = some (.int .i64 l) ∧ w4.cell? ⟨w.heap.size, 2, none⟩ = some (.int .i64 h) := by
    refine ⟨?_, ?_, ?_⟩ <;> go_simp
  go_wp2_with fail
  refine (eqMoves_any _ _ _ _ _ xs _ o2.pairs.2 o1'.pairs.2).mono ?_
  rintro e w5 ⟨rfl, hb5⟩
  obtain ⟨hcw5, hfw5, -, -, -, hsw5⟩ := bfacts5 hb5
  have B5 : Below w.heap.size w w5 := by (repeat' (first | (with_reducible exact Below.refl _ _) | (with_reducible assumption) | (with_reducible exact bundrew (by assumption)) | (with_reducible refine balloc ?_ _) | (with_reducible refine bset ?_ _ ?_ _) | (with_reducible refine Below.drew ?_) | (with_reducible refine bdrewN ?_ _) | (with_reducible refine bvia (by assumption) ?_) | (with_reducible refine Below.trans ?_ (by assumption)) | omega | (simp; omega) | (simp; done)))
  go_wp2_with fail
  refine (markP_any _ _ _ _ _ _ 1 (o2.below hb5) (by omega) (by omega) (by omega)).mono ?_
  rintro e w6 ⟨rfl, o6, gr6⟩
  have o1'' := (o1'.below hb5).grown gr6 ap
  have B6 : Below w.heap.size w w6 := below_grownP B5 (o2.below hb5) z3 gr6
  have c6 : w6.cell? ⟨w.heap.size, 0, none⟩ = some (.int .i64 f) ∧ w6.cell? ⟨w.heap.size, 1, none⟩ = some (.int .i64 l) ∧ w6.cell? ⟨w.heap.size, 2, none⟩ = some (.int .i64 h) := by
    have hB : Below (w.heap.size + 1) w5 w6 := (Below.refl _ _).grown gr6 (by omega) fun k hk => by have := o2.block k hk; omega
    refine ⟨?_, ?_, ?_⟩
    · rw [hB.cell (p := ⟨w.heap.size, 0, none⟩) (by simp), hcw5 _ _ q4]; exact c4.1
    · rw [hB.cell (p := ⟨w.heap.size, 1, none⟩) (by simp), hcw5 _ _ q4]; exact c4.2.1
    · rw [hB.cell (p := ⟨w.heap.size, 2, none⟩) (by simp), hcw5 _ _ q4]; exact c4.2.2
  obtain ⟨c60, c61, c62⟩ := c6
  have s6 := gr6.size
  have q6 : w.heap.size < w6.heap.size := by omega
  go_wp2_with fail
  refine (heldP_any _ _ _ _ 1 (by have := o6.pairs.2; rw [marksP_length] at this; exact this) (by omega) (by omega) (by omega)).mono ?_
  rintro e w' ⟨rfl, m7, rfl⟩
  go_wp2_with fail
  refine (toTwin_any _ _ _ _).mono ?_
  rintro e w8 ⟨rfl, hbw8⟩
  obtain ⟨hcw8, hfw8, -, -, -, hsw8⟩ := bfacts5 hbw8
  try simp only [World.size_drew] at hcw8 hfw8
  try simp at hsw8
  have qw80 : w.heap.size < w8.heap.size := (by omega)
  have rw80 : ∀ m : Nat, w.heap.size < w8.heap.size + m := fun m => (by omega)
  go_wp2_with fail
  refine (HI.out _).mono ?_
  rintro e w9 ⟨v9, rfl, o9, hb9⟩
  obtain ⟨A9, c9, rfl⟩ := o9.shape
  obtain ⟨hcw9, hfw9, -, -, -, hsw9⟩ := bfacts5 hb9
  go_wp2_with fail
  refine (eqMoves_any _ _ _ _ _ xs _ o9.pairs.2 (((o1''.drewN m7).below hbw8).below hb9).pairs.2).mono ?_
  rintro e w10 ⟨rfl, hb10⟩
  obtain ⟨hcw10, hfw10, -, -, -, hsw10⟩ := bfacts5 hb10
  go_wp2_with fail
  refine (heldP_any _ _ _ _ 1 (by have := ((((o6.drewN m7).below hbw8).below hb9).below hb10).pairs.2; rw [marksP_length] at this; exact this) (by omega) (by omega) (by omega)).mono ?_
  rintro e w' ⟨rfl, m11, rfl⟩
  go_wp2
  go_ret
  exact ⟨rfl, by (repeat' (first | (with_reducible exact Below.refl _ _) | (with_reducible assumption) | (with_reducible exact bundrew (by assumption)) | (with_reducible refine balloc ?_ _) | (with_reducible refine bset ?_ _ ?_ _) | (with_reducible refine Below.drew ?_) | (with_reducible refine bdrewN ?_ _) | (with_reducible refine bvia (by assumption) ?_) | (with_reducible refine Below.trans ?_ (by assumption)) | omega | (simp; omega) | (simp; done)))⟩
end Go.Proofs.Ytpcdedigblijbaa
