/- What the laws do with calls: szCalls, toCalls, toStop, eqCalls: contracts. -/
import Derived.Test.YtmoifakcjmdghaaFtG
namespace Go.Proofs.Ytmoifakcjmdghaa
open Go.ChangeShapes Go.WideShapes Go.ChangeAt Go.RowKit

theorem infoBool : (Try.prog.info? 4).map (fun i => (i.zero, i.size, i.bytes)) = some (some (.bool false), 1, 1) := by kernel_rfl

/-- The first k truths of a row of cells. -/
def FilledB (cs : Array Value) (n k : Nat) (bs : List Bool) : Prop := cs.size = n ∧ ∀ j, j < k → cs[j]? = some (.bool (bs[j]?.getD false))
theorem FilledB.next {cs : Array Value} {n k : Nat} {bs : List Bool} (h : FilledB cs n k bs) (hk : k < n) : FilledB (cs.setIfInBounds k (.bool (bs[k]?.getD false))) n (k + 1) bs := by
  refine ⟨by simpa using h.1, fun j hj => ?_⟩
  have hs := h.1
  by_cases e : j = k
  · subst e
    rw [Array.getElem?_setIfInBounds_self_of_lt (by omega)]
  · rw [Array.getElem?_setIfInBounds_ne (by omega)]; exact h.2 j (by omega)

theorem Bools.set {w : World} {g n : Nat} {bs : List Bool} (h : Bools w (some ⟨g, 0, none⟩) n bs) (p : Addr) (v : Value) (hp : ¬ g = p.block) : Bools (w.setCell p v) (some ⟨g, 0, none⟩) n bs :=
  ⟨h.1, h.2.1, fun hn => by
    obtain ⟨b, off, hA, hb, hc⟩ := h.2.2 hn
    obtain ⟨rfl, rfl⟩ : g = b ∧ 0 = off := by simpa using hA
    exact ⟨g, 0, rfl, by simpa using hb, fun j hj => by rw [World.cell?_setCell_other _ _ _ _ (fun e => hp (by rw [e]))]; exact hc j hj⟩⟩

/-- A slice of truths in new memory. -/
def BoolsNew (w : World) (n : Nat) (bs : List Bool) (e : Ending) (w' : World) : Prop :=
  ∃ (g : Nat), e = .returned (.slice (some ⟨g, 0, none⟩) n n) ∧ w.heap.size ≤ g ∧ Bools w' (some ⟨g, 0, none⟩) n bs ∧ Below w.heap.size w w'

set_option maxHeartbeats 1000000 in
theorem toBools_any (A : Option Addr) (n c : Nat) (bs : List Bool) (w : World) (hI : Bools w A n bs) (hn : n ≤ 1048576) :
    Calls Try.prog 26 #[.slice A n c] w (BoolsNew w n bs) := by
  obtain ⟨hl, hm, hc⟩ := hI
  obtain ⟨i0, hi, hz0, hz1, hz2⟩ := info_parts infoBool
  have hmk : ∀ W : World, (Instr.makeSlice 27 (.int .i64 (n : Int)) (.int .i64 (n : Int))).run Try.prog W = .ok (.slice (some ⟨W.heap.size, 0, none⟩) n n) (W.alloc (.cells (madeCells #[.bool false] n) 4)) := fun W => by
    have h := make_row (P := Try.prog) 27 4 i0 _ Try.underlying27 hi hz0 n (by rw [hz2]; omega) (by omega) W
    rw [hz1, Nat.mul_one] at h
    exact h
  have HL := Lib.hid hl
  have HC := Lib.hid hc
  clear hl hc hi hz0 hz1 hz2
  go_enter Try.func26, Try.ntmps26
  go_wp2
  go_loopw [4] (fun i wr => ∃ k : Nat, k ≤ n ∧ i = .int .i64 k ∧ Below w.heap.size w wr ∧ ∃ cs : Array Value, Blk wr w.heap.size 4 cs ∧ FilledB cs n k bs) (fun i _ => n - (intOf i).toNat)
  case atStart =>
    exact ⟨0, Nat.zero_le _, rfl, by (repeat' (first | (with_reducible exact Below.refl _ _) | (with_reducible assumption) | (with_reducible exact bundrew (by assumption)) | (with_reducible refine balloc ?_ _) | (with_reducible refine bset ?_ _ ?_ _) | (with_reducible refine Below.drew ?_) | (with_reducible refine bdrewN ?_ _) | (with_reducible refine bvia (by assumption) ?_) | (with_reducible refine Below.trans ?_ (by assumption)) | omega | (simp; omega) | (simp; done))), _, Blk.new _ _ _, size_madeCells _ _, fun j hj => by omega⟩
  case round =>
    obtain ⟨k, hk, rfl, B1, cs, hb1, hF⟩ := hrel
    have hlt1 := hb1.lt
    by_cases hlt : k < n
    · obtain ⟨b, off, rfl, hb, hcc⟩ := HC.out (by omega)
      have e0 : wr.cell? ⟨b, off + k, none⟩ = some (.bool (bs[k]?.getD false)) := (B1.cell (p := ⟨b, off + k, none⟩) hb).trans (hcc k hlt)
      have hlt' : (k : Int) < (n : Int) := by omega
      have hs := hF.1
      obtain ⟨u2, e2⟩ : ∃ u, wr.cell? ⟨w.heap.size, k, none⟩ = some u := ⟨_, by rw [hb1.cell]; exact Array.getElem?_eq_getElem (by omega)⟩
      have e4 := hb1.frozen k
      have HB := Lib.hid hb1
      have HF := Lib.hid (hF.next hlt)
      obtain ⟨x, hx⟩ : ∃ x, bs[k]?.getD false = x := ⟨_, rfl⟩
      rw [hx] at e0 HF
      clear hcc hs hb1 hF hx
      go_wp2
      try go_region
      all_goals try go_wp2
      all_goals refine ⟨⟨k + 1, by omega, by go_num, ?_, _, ?_, HF.out⟩, by simp [intOf]; omega⟩
      all_goals first | exact (HB.out.set_ k _) | exact (HB.out.set_ k _).drew | (repeat' (first | (with_reducible exact Below.refl _ _) | (with_reducible assumption) | (with_reducible exact bundrew (by assumption)) | (with_reducible refine balloc ?_ _) | (with_reducible refine bset ?_ _ ?_ _) | (with_reducible refine Below.drew ?_) | (with_reducible refine bdrewN ?_ _) | (with_reducible refine bvia (by assumption) ?_) | (with_reducible refine Below.trans ?_ (by assumption)) | omega | (simp; omega) | (simp; done)))
    · obtain rfl : k = n := by omega
      go_wp2
      go_ret
      refine ⟨w.heap.size, rfl, Nat.le_refl _, ⟨HL.out, by omega, fun hn0 => ⟨w.heap.size, 0, rfl, hlt1, fun j hj => ?_⟩⟩, by (repeat' (first | (with_reducible exact Below.refl _ _) | (with_reducible assumption) | (with_reducible exact bundrew (by assumption)) | (with_reducible refine balloc ?_ _) | (with_reducible refine bset ?_ _ ?_ _) | (with_reducible refine Below.drew ?_) | (with_reducible refine bdrewN ?_ _) | (with_reducible refine bvia (by assumption) ?_) | (with_reducible refine Below.trans ?_ (by assumption)) | omega | (simp; omega) | (simp; done)))⟩
      rw [Nat.zero_add, hb1.cell]
      exact hF.2 j hj

set_option maxHeartbeats 1000000 in
/-- Equal lists are equal. -/
theorem eqBools_any (A A' : Option Addr) (n c c' : Nat) (bs : List Bool) (w : World) (hP : Bools w A n bs) (hP' : Bools w A' n bs) :
    Calls Try.prog 30 #[.slice A n c, .slice A' n c'] w (Qt w (.bool true)) := by
  obtain ⟨hl, hm, hc⟩ := hP
  obtain ⟨hl', hm', hc'⟩ := hP'
  have HC := Lib.hid hc
  have HC' := Lib.hid hc'
  clear hl hl' hc hc'
  go_enter Try.func30, Try.ntmps30
  go_wp2
  go_loopw [5] (fun i wr => ∃ k : Nat, k ≤ n ∧ i = .int .i64 k ∧ ∃ m, wr = w.drewN m) (fun i _ => n - (intOf i).toNat)
  case atStart => exact ⟨0, Nat.zero_le _, rfl, 0, rfl⟩
  case round =>
    obtain ⟨k, hk, rfl, m, rfl⟩ := hrel
    by_cases hlt : k < n
    · obtain ⟨b, off, rfl, hb, hcc⟩ := HC.out (by omega)
      obtain ⟨b', off', rfl, hb', hcc'⟩ := HC'.out (by omega)
      have e0 := hcc k hlt
      have e1 := hcc' k hlt
      obtain ⟨x, hx⟩ : ∃ x, bs[k]?.getD false = x := ⟨_, rfl⟩
      rw [hx] at e0 e1
      have hlt' : (k : Int) < (n : Int) := by omega
      clear hcc hcc' hx
      cases x
      all_goals
        go_wp2
        try go_quiet (fail)
        all_goals try go_wp2
        all_goals exact ⟨⟨k + 1, by omega, by go_num, _, rfl⟩, by simp [intOf]; omega⟩
    · obtain rfl : k = n := by omega
      go_wp2
      go_ret
      exact qt_drew _ _ _

theorem szBool_any (A : Option Addr) (n c : Nat) (k : Int) (w : World) (hk0 : 0 ≤ k) (hk1 : k ≤ 1048576) (hn : n ≤ 9223372036854775807) :
    Calls Try.prog 23 #[.slice A n c, .int .i64 k] w fun e w' => e = .returned (.int .i64 (if k - (n : Int) < 0 then -1 else k - (n : Int))) ∧ w = w' := by
  have n0 : 0 ≤ (n : Int) := by omega
  have n1 : (n : Int) ≤ 9223372036854775807 := by omega
  by_cases h : k - (n : Int) < 0
  · rw [if_pos h]
    go_enter Try.func23, Try.ntmps23
    go_wp2
    go_ret
    exact ⟨rfl, rfl⟩
  · rw [if_neg h]
    have h' : 0 ≤ k - (n : Int) := by omega
    go_enter Try.func23, Try.ntmps23
    go_wp2
    go_ret
    exact ⟨rfl, rfl⟩

/-- If a size is told, the lists are short. -/
def SzC (w : World) (n1 n2 n3 : Nat) (e : Ending) (w' : World) : Prop := ∃ r : Int, e = .returned (.int .i64 r) ∧ (0 ≤ r → n1 ≤ 1048576 ∧ n2 ≤ 1048576 ∧ n3 ≤ 1048576) ∧ Below w.heap.size w w'

set_option maxHeartbeats 1000000 in
theorem szCalls_any (A1 : Option Addr) (n1 c1 : Nat) (A2 : Option Addr) (n2 c2 : Nat) (A3 : Option Addr) (n3 c3 : Nat) (w : World) (h1 : n1 ≤ 9223372036854775807) (h2 : n2 ≤ 9223372036854775807) (h3 : n3 ≤ 9223372036854775807) :
    Calls Try.prog 11 #[.agg #[.slice A1 n1 c1, .slice A2 n2 c2, .slice A3 n3 c3], .int .i64 1048576] w (SzC w n1 n2 n3) := by
  by_cases t1 : (1048576 : Int) - (n1 : Int) < 0
  · have Z1 := fun w => szBool_any A1 n1 c1 1048576 w (by omega) (by omega) h1
    rw [if_pos t1] at Z1
    have HZ1 := Lib.hid Z1
    clear Z1
    go_enter Try.func11, Try.ntmps11
    go_wp2_with fail
    refine (HZ1.out _).mono ?_
    rintro e w' ⟨rfl, rfl⟩
    go_wp2
    go_ret
    exact ⟨_, rfl, fun h => by omega, by (repeat' (first | (with_reducible exact Below.refl _ _) | (with_reducible assumption) | (with_reducible exact bundrew (by assumption)) | (with_reducible refine balloc ?_ _) | (with_reducible refine bset ?_ _ ?_ _) | (with_reducible refine Below.drew ?_) | (with_reducible refine bdrewN ?_ _) | (with_reducible refine bvia (by assumption) ?_) | (with_reducible refine Below.trans ?_ (by assumption)) | omega | (simp; omega) | (simp; done)))⟩
  · have Z1 := fun w => szBool_any A1 n1 c1 1048576 w (by omega) (by omega) h1
    rw [if_neg t1] at Z1
    obtain ⟨k1, hk1⟩ : ∃ k1, (1048576 : Int) - (n1 : Int) = k1 := ⟨_, rfl⟩
    rw [hk1] at Z1
    have HZ1 := Lib.hid Z1
    have a1 : 0 ≤ k1 := by omega
    by_cases t2 : k1 - (n2 : Int) < 0
    · have Z2 := fun w => szBool_any A2 n2 c2 k1 w (by omega) (by omega) h2
      rw [if_pos t2] at Z2
      have HZ2 := Lib.hid Z2
      clear Z1 Z2 hk1
      go_enter Try.func11, Try.ntmps11
      go_wp2_with fail
      refine (HZ1.out _).mono ?_
      rintro e w' ⟨rfl, rfl⟩
      go_wp2_with fail
      refine (HZ2.out _).mono ?_
      rintro e w' ⟨rfl, rfl⟩
      go_wp2
      go_ret
      exact ⟨_, rfl, fun h => by omega, by (repeat' (first | (with_reducible exact Below.refl _ _) | (with_reducible assumption) | (with_reducible exact bundrew (by assumption)) | (with_reducible refine balloc ?_ _) | (with_reducible refine bset ?_ _ ?_ _) | (with_reducible refine Below.drew ?_) | (with_reducible refine bdrewN ?_ _) | (with_reducible refine bvia (by assumption) ?_) | (with_reducible refine Below.trans ?_ (by assumption)) | omega | (simp; omega) | (simp; done)))⟩
    · have Z2 := fun w => szBool_any A2 n2 c2 k1 w (by omega) (by omega) h2
      rw [if_neg t2] at Z2
      obtain ⟨k2, hk2⟩ : ∃ k2, k1 - (n2 : Int) = k2 := ⟨_, rfl⟩
      rw [hk2] at Z2
      have HZ2 := Lib.hid Z2
      have a2 : 0 ≤ k2 := by omega
      by_cases t3 : k2 - (n3 : Int) < 0
      · have Z3 := fun w => szBool_any A3 n3 c3 k2 w (by omega) (by omega) h3
        rw [if_pos t3] at Z3
        have HZ3 := Lib.hid Z3
        clear Z1 Z2 Z3 hk1 hk2
        go_enter Try.func11, Try.ntmps11
        go_wp2_with fail
        refine (HZ1.out _).mono ?_
        rintro e w' ⟨rfl, rfl⟩
        go_wp2_with fail
        refine (HZ2.out _).mono ?_
        rintro e w' ⟨rfl, rfl⟩
        go_wp2_with fail
        refine (HZ3.out _).mono ?_
        rintro e w' ⟨rfl, rfl⟩
        go_wp2
        go_ret
        exact ⟨_, rfl, fun h => by omega, by (repeat' (first | (with_reducible exact Below.refl _ _) | (with_reducible assumption) | (with_reducible exact bundrew (by assumption)) | (with_reducible refine balloc ?_ _) | (with_reducible refine bset ?_ _ ?_ _) | (with_reducible refine Below.drew ?_) | (with_reducible refine bdrewN ?_ _) | (with_reducible refine bvia (by assumption) ?_) | (with_reducible refine Below.trans ?_ (by assumption)) | omega | (simp; omega) | (simp; done)))⟩
      · have Z3 := fun w => szBool_any A3 n3 c3 k2 w (by omega) (by omega) h3
        rw [if_neg t3] at Z3
        obtain ⟨k3, hk3⟩ : ∃ k3, k2 - (n3 : Int) = k3 := ⟨_, rfl⟩
        rw [hk3] at Z3
        have HZ3 := Lib.hid Z3
        have a3 : 0 ≤ k3 := by omega
        have HN : Hid (n1 ≤ 1048576 ∧ n2 ≤ 1048576 ∧ n3 ≤ 1048576) := Lib.hid ⟨by omega, by omega, by omega⟩
        clear Z1 Z2 Z3 hk1 hk2 hk3
        go_enter Try.func11, Try.ntmps11
        go_wp2_with fail
        refine (HZ1.out _).mono ?_
        rintro e w' ⟨rfl, rfl⟩
        go_wp2_with fail
        refine (HZ2.out _).mono ?_
        rintro e w' ⟨rfl, rfl⟩
        go_wp2_with fail
        refine (HZ3.out _).mono ?_
        rintro e w' ⟨rfl, rfl⟩
        go_wp2
        go_ret
        exact ⟨_, rfl, fun _ => HN.out, by (repeat' (first | (with_reducible exact Below.refl _ _) | (with_reducible assumption) | (with_reducible exact bundrew (by assumption)) | (with_reducible refine balloc ?_ _) | (with_reducible refine bset ?_ _ ?_ _) | (with_reducible refine Below.drew ?_) | (with_reducible refine bdrewN ?_ _) | (with_reducible refine bvia (by assumption) ?_) | (with_reducible refine Below.trans ?_ (by assumption)) | omega | (simp; omega) | (simp; done)))⟩

/-- Calls in new memory. -/
def CallsNew (w : World) (n1 : Nat) (us : List Bool) (n2 : Nat) (ds : List Bool) (n3 : Nat) (cs : List Bool) (e : Ending) (w' : World) : Prop :=
  ∃ g1 g2 g3 : Nat, e = .returned (.agg #[.slice (some ⟨g1, 0, none⟩) n1 n1, .slice (some ⟨g2, 0, none⟩) n2 n2, .slice (some ⟨g3, 0, none⟩) n3 n3]) ∧ BC w' (some ⟨g1, 0, none⟩) n1 us (some ⟨g2, 0, none⟩) n2 ds (some ⟨g3, 0, none⟩) n3 cs ∧ Below w.heap.size w w'

set_option maxHeartbeats 2000000 in
theorem toCalls_any (A1 : Option Addr) (n1 c1 : Nat) (us : List Bool) (A2 : Option Addr) (n2 c2 : Nat) (ds : List Bool) (A3 : Option Addr) (n3 c3 : Nat) (cs : List Bool) (w : World) (h : BC w A1 n1 us A2 n2 ds A3 n3 cs) (h1 : n1 ≤ 1048576) (h2 : n2 ≤ 1048576) (h3 : n3 ≤ 1048576) :
    Calls Try.prog 13 #[.agg #[.slice A1 n1 c1, .slice A2 n2 c2, .slice A3 n3 c3]] w (CallsNew w n1 us n2 ds n3 cs) := by
  have H := Lib.hid h
  clear h
  go_enter Try.func13, Try.ntmps13
  go_wp2_with fail
  refine (toBools_any A1 n1 c1 us _ (H.out.below (by (repeat' (first | (with_reducible exact Below.refl _ _) | (with_reducible assumption) | (with_reducible exact bundrew (by assumption)) | (with_reducible refine balloc ?_ _) | (with_reducible refine bset ?_ _ ?_ _) | (with_reducible refine Below.drew ?_) | (with_reducible refine bdrewN ?_ _) | (with_reducible refine bvia (by assumption) ?_) | (with_reducible refine Below.trans ?_ (by assumption)) | omega | (simp; omega) | (simp; done))))).u h1).mono ?_
  rintro e w1 ⟨g1, rfl, l1, B1, hbw1⟩
  obtain ⟨hcw1, hfw1, -, -, -, hsw1⟩ := bfacts5 hbw1
  try simp only [World.size_drew] at hcw1 hfw1
  try simp at hsw1
  have qw10 : w.heap.size < w1.heap.size := (by omega)
  have rw10 : ∀ m : Nat, w.heap.size < w1.heap.size + m := fun m => (by omega)
  have qw11 : w.heap.size + 1 < w1.heap.size := (by omega)
  have rw11 : ∀ m : Nat, w.heap.size + 1 < w1.heap.size + m := fun m => (by omega)
  have qw12 : w.heap.size + 2 < w1.heap.size := (by omega)
  have rw12 : ∀ m : Nat, w.heap.size + 2 < w1.heap.size + m := fun m => (by omega)
  have HB1 := Lib.hid B1
  have L1 := Lib.hid l1
  clear B1 l1
  go_wp2_with fail
  refine (toBools_any A2 n2 c2 ds _ (H.out.below (by (repeat' (first | (with_reducible exact Below.refl _ _) | (with_reducible assumption) | (with_reducible exact bundrew (by assumption)) | (with_reducible refine balloc ?_ _) | (with_reducible refine bset ?_ _ ?_ _) | (with_reducible refine Below.drew ?_) | (with_reducible refine bdrewN ?_ _) | (with_reducible refine bvia (by assumption) ?_) | (with_reducible refine Below.trans ?_ (by assumption)) | omega | (simp; omega) | (simp; done))))).d h2).mono ?_
  rintro e w2 ⟨g2, rfl, l2, B2, hbw2⟩
  obtain ⟨hcw2, hfw2, -, -, -, hsw2⟩ := bfacts5 hbw2
  try simp only [World.size_drew] at hcw2 hfw2
  try simp at hsw2
  have qw20 : w.heap.size < w2.heap.size := (by omega)
  have rw20 : ∀ m : Nat, w.heap.size < w2.heap.size + m := fun m => (by omega)
  have qw21 : w.heap.size + 1 < w2.heap.size := (by omega)
  have rw21 : ∀ m : Nat, w.heap.size + 1 < w2.heap.size + m := fun m => (by omega)
  have qw22 : w.heap.size + 2 < w2.heap.size := (by omega)
  have rw22 : ∀ m : Nat, w.heap.size + 2 < w2.heap.size + m := fun m => (by omega)
  have HB2 := Lib.hid B2
  have HB1' := Lib.hid (Bools.below (HB1.out.set _ _ (by have := L1.out; simp at this ⊢; omega)) hbw2)
  have L2 := Lib.hid l2
  clear B2 l2
  go_wp2_with fail
  refine (toBools_any A3 n3 c3 cs _ (H.out.below (by (repeat' (first | (with_reducible exact Below.refl _ _) | (with_reducible assumption) | (with_reducible exact bundrew (by assumption)) | (with_reducible refine balloc ?_ _) | (with_reducible refine bset ?_ _ ?_ _) | (with_reducible refine Below.drew ?_) | (with_reducible refine bdrewN ?_ _) | (with_reducible refine bvia (by assumption) ?_) | (with_reducible refine Below.trans ?_ (by assumption)) | omega | (simp; omega) | (simp; done))))).c h3).mono ?_
  rintro e w3 ⟨g3, rfl, l3, B3, hbw3⟩
  obtain ⟨hcw3, hfw3, -, -, -, hsw3⟩ := bfacts5 hbw3
  try simp only [World.size_drew] at hcw3 hfw3
  try simp at hsw3
  have qw30 : w.heap.size < w3.heap.size := (by omega)
  have rw30 : ∀ m : Nat, w.heap.size < w3.heap.size + m := fun m => (by omega)
  have qw31 : w.heap.size + 1 < w3.heap.size := (by omega)
  have rw31 : ∀ m : Nat, w.heap.size + 1 < w3.heap.size + m := fun m => (by omega)
  have qw32 : w.heap.size + 2 < w3.heap.size := (by omega)
  have rw32 : ∀ m : Nat, w.heap.size + 2 < w3.heap.size + m := fun m => (by omega)
  have HB3 := Lib.hid B3
  have HB1'' := Lib.hid (Bools.below (HB1'.out.set _ _ (by have := L1.out; simp at this ⊢; omega)) hbw3)
  have HB2' := Lib.hid (Bools.below (HB2.out.set _ _ (by have := L2.out; simp at this ⊢; omega)) hbw3)
  have L3 := Lib.hid l3
  clear B3 l3
  go_wp2
  refine bodyPost_ret (by simp [results, Try.results13, go_sem, *]; try rfl) rfl ?_
  have e1 := L1.out
  have e2 := L2.out
  have e3 := L3.out
  simp at e1 e2 e3
  refine ⟨_, _, _, rfl, ⟨?_, ?_, ?_⟩, by (repeat' (first | (with_reducible exact Below.refl _ _) | (with_reducible assumption) | (with_reducible exact bundrew (by assumption)) | (with_reducible refine balloc ?_ _) | (with_reducible refine bset ?_ _ ?_ _) | (with_reducible refine Below.drew ?_) | (with_reducible refine bdrewN ?_ _) | (with_reducible refine bvia (by assumption) ?_) | (with_reducible refine Below.trans ?_ (by assumption)) | omega | (simp; omega) | (simp; done)))⟩
  · repeat refine Bools.set ?_ _ _ (by simp; omega)
    exact HB1''.out
  · repeat refine Bools.set ?_ _ _ (by simp; omega)
    exact HB2'.out
  · repeat refine Bools.set ?_ _ _ (by simp; omega)
    exact HB3.out

theorem toStop_any (f d : Int) (w : World) : Calls Try.prog 14 #[.agg #[.int .i64 f, .int .i64 d]] w fun e w' => e = .returned (.agg #[.int .i64 f, .int .i64 d]) ∧ Below w.heap.size w w' := by
  go_enter Try.func14, Try.ntmps14
  go_wp2
  go_returns
  exact ⟨rfl, by go_grown⟩

set_option maxHeartbeats 1000000 in
theorem eqCalls_any (A1 : Option Addr) (n1 c1 : Nat) (us : List Bool) (A2 : Option Addr) (n2 c2 : Nat) (ds : List Bool) (A3 : Option Addr) (n3 c3 : Nat) (cs : List Bool) (B1 : Option Addr) (k1 : Nat) (B2 : Option Addr) (k2 : Nat) (B3 : Option Addr) (k3 : Nat) (w : World) (h : BC w A1 n1 us A2 n2 ds A3 n3 cs) (h' : BC w B1 n1 us B2 n2 ds B3 n3 cs) :
    Calls Try.prog 16 #[.agg #[.slice A1 n1 c1, .slice A2 n2 c2, .slice A3 n3 c3], .agg #[.slice B1 n1 k1, .slice B2 n2 k2, .slice B3 n3 k3]] w fun e w' => e = .returned (.bool true) ∧ Below w.heap.size w w' := by
  have H := Lib.hid h
  have H' := Lib.hid h'
  clear h h'
  go_enter Try.func16, Try.ntmps16
  go_wp2_with fail
  refine (eqBools_any A1 B1 n1 c1 k1 us _ (H.out.below (by (repeat' (first | (with_reducible exact Below.refl _ _) | (with_reducible assumption) | (with_reducible exact bundrew (by assumption)) | (with_reducible refine balloc ?_ _) | (with_reducible refine bset ?_ _ ?_ _) | (with_reducible refine Below.drew ?_) | (with_reducible refine bdrewN ?_ _) | (with_reducible refine bvia (by assumption) ?_) | (with_reducible refine Below.trans ?_ (by assumption)) | omega | (simp; omega) | (simp; done))))).u (H'.out.below (by (repeat' (first | (with_reducible exact Below.refl _ _) | (with_reducible assumption) | (with_reducible exact bundrew (by assumption)) | (with_reducible refine balloc ?_ _) | (with_reducible refine bset ?_ _ ?_ _) | (with_reducible refine Below.drew ?_) | (with_reducible refine bdrewN ?_ _) | (with_reducible refine bvia (by assumption) ?_) | (with_reducible refine Below.trans ?_ (by assumption)) | omega | (simp; omega) | (simp; done))))).u).mono ?_
  rintro e w1 ⟨rfl, m1, rfl⟩
  go_wp2_with fail
  refine (eqBools_any A2 B2 n2 c2 k2 ds _ (H.out.below (by (repeat' (first | (with_reducible exact Below.refl _ _) | (with_reducible assumption) | (with_reducible exact bundrew (by assumption)) | (with_reducible refine balloc ?_ _) | (with_reducible refine bset ?_ _ ?_ _) | (with_reducible refine Below.drew ?_) | (with_reducible refine bdrewN ?_ _) | (with_reducible refine bvia (by assumption) ?_) | (with_reducible refine Below.trans ?_ (by assumption)) | omega | (simp; omega) | (simp; done))))).d (H'.out.below (by (repeat' (first | (with_reducible exact Below.refl _ _) | (with_reducible assumption) | (with_reducible exact bundrew (by assumption)) | (with_reducible refine balloc ?_ _) | (with_reducible refine bset ?_ _ ?_ _) | (with_reducible refine Below.drew ?_) | (with_reducible refine bdrewN ?_ _) | (with_reducible refine bvia (by assumption) ?_) | (with_reducible refine Below.trans ?_ (by assumption)) | omega | (simp; omega) | (simp; done))))).d).mono ?_
  rintro e w2 ⟨rfl, m2, rfl⟩
  go_wp2_with fail
  refine (eqBools_any A3 B3 n3 c3 k3 cs _ (H.out.below (by (repeat' (first | (with_reducible exact Below.refl _ _) | (with_reducible assumption) | (with_reducible exact bundrew (by assumption)) | (with_reducible refine balloc ?_ _) | (with_reducible refine bset ?_ _ ?_ _) | (with_reducible refine Below.drew ?_) | (with_reducible refine bdrewN ?_ _) | (with_reducible refine bvia (by assumption) ?_) | (with_reducible refine Below.trans ?_ (by assumption)) | omega | (simp; omega) | (simp; done))))).c (H'.out.below (by (repeat' (first | (with_reducible exact Below.refl _ _) | (with_reducible assumption) | (with_reducible exact bundrew (by assumption)) | (with_reducible refine balloc ?_ _) | (with_reducible refine bset ?_ _ ?_ _) | (with_reducible refine Below.drew ?_) | (with_reducible refine bdrewN ?_ _) | (with_reducible refine bvia (by assumption) ?_) | (with_reducible refine Below.trans ?_ (by assumption)) | omega | (simp; omega) | (simp; done))))).c).mono ?_
  rintro e w3 ⟨rfl, m3, rfl⟩
  go_wp2
  go_ret
  exact ⟨rfl, by (repeat' (first | (with_reducible exact Below.refl _ _) | (with_reducible assumption) | (with_reducible exact bundrew (by assumption)) | (with_reducible refine balloc ?_ _) | (with_reducible refine bset ?_ _ ?_ _) | (with_reducible refine Below.drew ?_) | (with_reducible refine bdrewN ?_ _) | (with_reducible refine bvia (by assumption) ?_) | (with_reducible refine Below.trans ?_ (by assumption)) | omega | (simp; omega) | (simp; done)))⟩
end Go.Proofs.Ytmoifakcjmdghaa
