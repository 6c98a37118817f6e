/- The walks of the laws FnExactGoalMany and FnExactHallStops. -/
import Derived.Test.YtikoldnejkhepaaHallD
namespace Go.Proofs.Ytikoldnejkhepaa
open Go.ChangeShapes Go.WideShapes Go.ChangeAt Go.RowKit

set_option maxHeartbeats 2000000 in
theorem walk_FnExactGoalMany (A0 : Option Addr) (n0 c0 : Nat) (gs : List Int) (A1 : Option Addr) (n1 c1 : Nat) (rs : List Int) (w : World) (h0 : Ints w A0 n0 gs) (h1 : Ints w A1 n1 rs) :
    Calls Try.prog 5 #[Value.slice A0 n0 c0, Value.slice A1 n1 c1] w fun e w' => e = .returned (.bool true) ∧ Below w.heap.size w w' := by
  by_cases k0 : n0 ≤ 1048576
  · have l0 : (n0 : Int) ≤ 1048576 := by omega
    by_cases k1 : n1 ≤ 1048576
    · have l1 : (n1 : Int) ≤ 1048576 := by omega
      go_enter Try.func5, Try.ntmps5
      go_wp2_with fail
      refine (toIntsC_any A0 n0 c0 gs _ (h0.below (by (repeat' (first | (with_reducible exact Below.refl _ _) | (with_reducible assumption) | (with_reducible exact bundrew (by assumption)) | (with_reducible refine balloc ?_ _) | (with_reducible refine bset ?_ _ ?_ _) | (with_reducible refine Below.drew ?_) | (with_reducible refine bdrewN ?_ _) | (with_reducible refine bvia (by assumption) ?_) | (with_reducible refine Below.trans ?_ (by assumption)) | omega | (simp; omega) | (simp; done))))) k0).mono ?_
      rintro e w1 ⟨g1, rfl, hg1, hP1, hbw1⟩
      obtain ⟨hcw1, hfw1, -, -, -, hsw1⟩ := bfacts5 hbw1
      try simp only [World.size_drew] at hcw1 hfw1
      try simp at hsw1
      go_wp2_with fail
      refine (toIntsC_any A1 n1 c1 rs _ (h1.below (by (repeat' (first | (with_reducible exact Below.refl _ _) | (with_reducible assumption) | (with_reducible exact bundrew (by assumption)) | (with_reducible refine balloc ?_ _) | (with_reducible refine bset ?_ _ ?_ _) | (with_reducible refine Below.drew ?_) | (with_reducible refine bdrewN ?_ _) | (with_reducible refine bvia (by assumption) ?_) | (with_reducible refine Below.trans ?_ (by assumption)) | omega | (simp; omega) | (simp; done))))) k1).mono ?_
      rintro e w2 ⟨g2, rfl, hg2, hP2, hbw2⟩
      obtain ⟨hcw2, hfw2, -, -, -, hsw2⟩ := bfacts5 hbw2
      try simp only [World.size_drew] at hcw2 hfw2
      try simp at hsw2
      go_wp2_with fail
      refine (many_spec _ _ _ gs _ _ _ rs _ (Nat.le_refl _) (hP1.below hbw2) hP2).mono ?_
      rintro e w' ⟨rfl, m3, rfl⟩
      go_wp2_with fail
      refine (toIntsC_any A0 n0 c0 gs _ (h0.below (by (repeat' (first | (with_reducible exact Below.refl _ _) | (with_reducible assumption) | (with_reducible exact bundrew (by assumption)) | (with_reducible refine balloc ?_ _) | (with_reducible refine bset ?_ _ ?_ _) | (with_reducible refine Below.drew ?_) | (with_reducible refine bdrewN ?_ _) | (with_reducible refine bvia (by assumption) ?_) | (with_reducible refine Below.trans ?_ (by assumption)) | omega | (simp; omega) | (simp; done))))) k0).mono ?_
      rintro e w4 ⟨g4, rfl, hg4, hP4, hbw4⟩
      obtain ⟨hcw4, hfw4, -, -, -, hsw4⟩ := bfacts5 hbw4
      try simp only [World.size_drew] at hcw4 hfw4
      try simp at hsw4
      go_wp2_with fail
      refine (toIntsC_any A1 n1 c1 rs _ (h1.below (by (repeat' (first | (with_reducible exact Below.refl _ _) | (with_reducible assumption) | (with_reducible exact bundrew (by assumption)) | (with_reducible refine balloc ?_ _) | (with_reducible refine bset ?_ _ ?_ _) | (with_reducible refine Below.drew ?_) | (with_reducible refine bdrewN ?_ _) | (with_reducible refine bvia (by assumption) ?_) | (with_reducible refine Below.trans ?_ (by assumption)) | omega | (simp; omega) | (simp; done))))) k1).mono ?_
      rintro e w5 ⟨g5, rfl, hg5, hP5, hbw5⟩
      obtain ⟨hcw5, hfw5, -, -, -, hsw5⟩ := bfacts5 hbw5
      try simp only [World.size_drew] at hcw5 hfw5
      try simp at hsw5
      go_wp2_with fail
      refine (many_impl _ _ _ gs _ _ _ rs _ (Nat.le_refl _) (hP4.below hbw5) hP5).mono ?_
      rintro e w' ⟨rfl, m6, rfl⟩
      go_wp2_with fail
      refine (toIntsC_any A0 n0 c0 gs _ (h0.below (by (repeat' (first | (with_reducible exact Below.refl _ _) | (with_reducible assumption) | (with_reducible exact bundrew (by assumption)) | (with_reducible refine balloc ?_ _) | (with_reducible refine bset ?_ _ ?_ _) | (with_reducible refine Below.drew ?_) | (with_reducible refine bdrewN ?_ _) | (with_reducible refine bvia (by assumption) ?_) | (with_reducible refine Below.trans ?_ (by assumption)) | omega | (simp; omega) | (simp; done))))) k0).mono ?_
      rintro e w7 ⟨g7, rfl, hg7, hP7, hbw7⟩
      obtain ⟨hcw7, hfw7, -, -, -, hsw7⟩ := bfacts5 hbw7
      try simp only [World.size_drew] at hcw7 hfw7
      try simp at hsw7
      go_wp2_with fail
      refine (eqInts_any _ _ _ _ _ gs _ (((hP4.below hbw5).drewN m6).below hbw7) hP7).mono ?_
      rintro e w' ⟨rfl, m8, rfl⟩
      go_wp2_with fail
      refine (toIntsC_any A1 n1 c1 rs _ (h1.below (by (repeat' (first | (with_reducible exact Below.refl _ _) | (with_reducible assumption) | (with_reducible exact bundrew (by assumption)) | (with_reducible refine balloc ?_ _) | (with_reducible refine bset ?_ _ ?_ _) | (with_reducible refine Below.drew ?_) | (with_reducible refine bdrewN ?_ _) | (with_reducible refine bvia (by assumption) ?_) | (with_reducible refine Below.trans ?_ (by assumption)) | omega | (simp; omega) | (simp; done))))) k1).mono ?_
      rintro e w9 ⟨g9, rfl, hg9, hP9, hbw9⟩
      obtain ⟨hcw9, hfw9, -, -, -, hsw9⟩ := bfacts5 hbw9
      try simp only [World.size_drew] at hcw9 hfw9
      try simp at hsw9
      go_wp2_with fail
      refine (eqInts_any _ _ _ _ _ rs _ ((((hP5.drewN m6).below hbw7).drewN m8).below hbw9) hP9).mono ?_
      rintro e w' ⟨rfl, m10, rfl⟩
      go_wp2
      go_ret
      exact ⟨rfl, by (repeat' (first | (with_reducible exact Below.refl _ _) | (with_reducible assumption) | (with_reducible exact bundrew (by assumption)) | (with_reducible refine balloc ?_ _) | (with_reducible refine bset ?_ _ ?_ _) | (with_reducible refine Below.drew ?_) | (with_reducible refine bdrewN ?_ _) | (with_reducible refine bvia (by assumption) ?_) | (with_reducible refine Below.trans ?_ (by assumption)) | omega | (simp; omega) | (simp; done)))⟩
    · have l1 : (1048576 : Int) < (n1 : Int) := by omega
      go_enter Try.func5, Try.ntmps5
      go_wp2
      go_ret
      exact ⟨rfl, by (repeat' (first | (with_reducible exact Below.refl _ _) | (with_reducible assumption) | (with_reducible exact bundrew (by assumption)) | (with_reducible refine balloc ?_ _) | (with_reducible refine bset ?_ _ ?_ _) | (with_reducible refine Below.drew ?_) | (with_reducible refine bdrewN ?_ _) | (with_reducible refine bvia (by assumption) ?_) | (with_reducible refine Below.trans ?_ (by assumption)) | omega | (simp; omega) | (simp; done)))⟩
  · have l0 : (1048576 : Int) < (n0 : Int) := by omega
    go_enter Try.func5, Try.ntmps5
    go_wp2
    go_ret
    exact ⟨rfl, by (repeat' (first | (with_reducible exact Below.refl _ _) | (with_reducible assumption) | (with_reducible exact bundrew (by assumption)) | (with_reducible refine balloc ?_ _) | (with_reducible refine bset ?_ _ ?_ _) | (with_reducible refine Below.drew ?_) | (with_reducible refine bdrewN ?_ _) | (with_reducible refine bvia (by assumption) ?_) | (with_reducible refine Below.trans ?_ (by assumption)) | omega | (simp; omega) | (simp; done)))⟩

set_option maxHeartbeats 2000000 in
theorem walk_FnExactHallStops (A0 : Option Addr) (n0 c0 : Nat) (gs : List Int) (A1 : Option Addr) (n1 c1 : Nat) (rs : List Int) (A2 : Option Addr) (n2 c2 : Nat) (ps : List Int) (w : World) (h0 : Ints w A0 n0 gs) (h1 : Ints w A1 n1 rs) (h2 : Ints w A2 n2 ps) :
    Calls Try.prog 6 #[Value.slice A0 n0 c0, Value.slice A1 n1 c1, Value.slice A2 n2 c2] w fun e w' => e = .returned (.bool true) ∧ Below w.heap.size w w' := by
  by_cases k0 : n0 ≤ 1048576
  · have l0 : (n0 : Int) ≤ 1048576 := by omega
    by_cases k1 : n1 ≤ 1048576
    · have l1 : (n1 : Int) ≤ 1048576 := by omega
      by_cases k2 : n2 ≤ 1048576
      · have l2 : (n2 : Int) ≤ 1048576 := by omega
        go_enter Try.func6, Try.ntmps6
        go_wp2_with fail
        refine (toIntsC_any A0 n0 c0 gs _ (h0.below (by (repeat' (first | (with_reducible exact Below.refl _ _) | (with_reducible assumption) | (with_reducible exact bundrew (by assumption)) | (with_reducible refine balloc ?_ _) | (with_reducible refine bset ?_ _ ?_ _) | (with_reducible refine Below.drew ?_) | (with_reducible refine bdrewN ?_ _) | (with_reducible refine bvia (by assumption) ?_) | (with_reducible refine Below.trans ?_ (by assumption)) | omega | (simp; omega) | (simp; done))))) k0).mono ?_
        rintro e w1 ⟨g1, rfl, hg1, hP1, hbw1⟩
        obtain ⟨hcw1, hfw1, -, -, -, hsw1⟩ := bfacts5 hbw1
        try simp only [World.size_drew] at hcw1 hfw1
        try simp at hsw1
        go_wp2_with fail
        refine (toIntsC_any A1 n1 c1 rs _ (h1.below (by (repeat' (first | (with_reducible exact Below.refl _ _) | (with_reducible assumption) | (with_reducible exact bundrew (by assumption)) | (with_reducible refine balloc ?_ _) | (with_reducible refine bset ?_ _ ?_ _) | (with_reducible refine Below.drew ?_) | (with_reducible refine bdrewN ?_ _) | (with_reducible refine bvia (by assumption) ?_) | (with_reducible refine Below.trans ?_ (by assumption)) | omega | (simp; omega) | (simp; done))))) k1).mono ?_
        rintro e w2 ⟨g2, rfl, hg2, hP2, hbw2⟩
        obtain ⟨hcw2, hfw2, -, -, -, hsw2⟩ := bfacts5 hbw2
        try simp only [World.size_drew] at hcw2 hfw2
        try simp at hsw2
        go_wp2_with fail
        refine (toIntsC_any A2 n2 c2 ps _ (h2.below (by (repeat' (first | (with_reducible exact Below.refl _ _) | (with_reducible assumption) | (with_reducible exact bundrew (by assumption)) | (with_reducible refine balloc ?_ _) | (with_reducible refine bset ?_ _ ?_ _) | (with_reducible refine Below.drew ?_) | (with_reducible refine bdrewN ?_ _) | (with_reducible refine bvia (by assumption) ?_) | (with_reducible refine Below.trans ?_ (by assumption)) | omega | (simp; omega) | (simp; done))))) k2).mono ?_
        rintro e w3 ⟨g3, rfl, hg3, hP3, hbw3⟩
        obtain ⟨hcw3, hfw3, -, -, -, hsw3⟩ := bfacts5 hbw3
        try simp only [World.size_drew] at hcw3 hfw3
        try simp at hsw3
        go_wp2_with fail
        refine (stops_spec _ _ _ gs _ _ _ rs _ _ _ ps _ ((hP1.below hbw2).below hbw3) (hP2.below hbw3) hP3).mono ?_
        rintro e w' ⟨rfl, m4, rfl⟩
        go_wp2_with fail
        refine (toIntsC_any A0 n0 c0 gs _ (h0.below (by (repeat' (first | (with_reducible exact Below.refl _ _) | (with_reducible assumption) | (with_reducible exact bundrew (by assumption)) | (with_reducible refine balloc ?_ _) | (with_reducible refine bset ?_ _ ?_ _) | (with_reducible refine Below.drew ?_) | (with_reducible refine bdrewN ?_ _) | (with_reducible refine bvia (by assumption) ?_) | (with_reducible refine Below.trans ?_ (by assumption)) | omega | (simp; omega) | (simp; done))))) k0).mono ?_
        rintro e w5 ⟨g5, rfl, hg5, hP5, hbw5⟩
        obtain ⟨hcw5, hfw5, -, -, -, hsw5⟩ := bfacts5 hbw5
        try simp only [World.size_drew] at hcw5 hfw5
        try simp at hsw5
        go_wp2_with fail
        refine (toIntsC_any A1 n1 c1 rs _ (h1.below (by (repeat' (first | (with_reducible exact Below.refl _ _) | (with_reducible assumption) | (with_reducible exact bundrew (by assumption)) | (with_reducible refine balloc ?_ _) | (with_reducible refine bset ?_ _ ?_ _) | (with_reducible refine Below.drew ?_) | (with_reducible refine bdrewN ?_ _) | (with_reducible refine bvia (by assumption) ?_) | (with_reducible refine Below.trans ?_ (by assumption)) | omega | (simp; omega) | (simp; done))))) k1).mono ?_
        rintro e w6 ⟨g6, rfl, hg6, hP6, hbw6⟩
        obtain ⟨hcw6, hfw6, -, -, -, hsw6⟩ := bfacts5 hbw6
        try simp only [World.size_drew] at hcw6 hfw6
        try simp at hsw6
        go_wp2_with fail
        refine (toIntsC_any A2 n2 c2 ps _ (h2.below (by (repeat' (first | (with_reducible exact Below.refl _ _) | (with_reducible assumption) | (with_reducible exact bundrew (by assumption)) | (with_reducible refine balloc ?_ _) | (with_reducible refine bset ?_ _ ?_ _) | (with_reducible refine Below.drew ?_) | (with_reducible refine bdrewN ?_ _) | (with_reducible refine bvia (by assumption) ?_) | (with_reducible refine Below.trans ?_ (by assumption)) | omega | (simp; omega) | (simp; done))))) k2).mono ?_
        rintro e w7 ⟨g7, rfl, hg7, hP7, hbw7⟩
        obtain ⟨hcw7, hfw7, -, -, -, hsw7⟩ := bfacts5 hbw7
        try simp only [World.size_drew] at hcw7 hfw7
        try simp at hsw7
        go_wp2_with fail
        refine (stops_impl _ _ _ gs _ _ _ rs _ _ _ ps _ (Nat.le_refl _) ((hP5.below hbw6).below hbw7) (hP6.below hbw7) hP7).mono ?_
        rintro e w8 ⟨rfl, hbw8⟩
        obtain ⟨hcw8, hfw8, -, -, -, hsw8⟩ := bfacts5 hbw8
        try simp only [World.size_drew] at hcw8 hfw8
        try simp at hsw8
        go_wp2_with fail
        refine (toIntsC_any A0 n0 c0 gs _ (h0.below (by (repeat' (first | (with_reducible exact Below.refl _ _) | (with_reducible assumption) | (with_reducible exact bundrew (by assumption)) | (with_reducible refine balloc ?_ _) | (with_reducible refine bset ?_ _ ?_ _) | (with_reducible refine Below.drew ?_) | (with_reducible refine bdrewN ?_ _) | (with_reducible refine bvia (by assumption) ?_) | (with_reducible refine Below.trans ?_ (by assumption)) | omega | (simp; omega) | (simp; done))))) k0).mono ?_
        rintro e w9 ⟨g9, rfl, hg9, hP9, hbw9⟩
        obtain ⟨hcw9, hfw9, -, -, -, hsw9⟩ := bfacts5 hbw9
        try simp only [World.size_drew] at hcw9 hfw9
        try simp at hsw9
        go_wp2_with fail
        refine (eqInts_any _ _ _ _ _ gs _ ((((hP5.below hbw6).below hbw7).below hbw8).below hbw9) hP9).mono ?_
        rintro e w' ⟨rfl, m10, rfl⟩
        go_wp2_with fail
        refine (toIntsC_any A1 n1 c1 rs _ (h1.below (by (repeat' (first | (with_reducible exact Below.refl _ _) | (with_reducible assumption) | (with_reducible exact bundrew (by assumption)) | (with_reducible refine balloc ?_ _) | (with_reducible refine bset ?_ _ ?_ _) | (with_reducible refine Below.drew ?_) | (with_reducible refine bdrewN ?_ _) | (with_reducible refine bvia (by assumption) ?_) | (with_reducible refine Below.trans ?_ (by assumption)) | omega | (simp; omega) | (simp; done))))) k1).mono ?_
        rintro e w11 ⟨g11, rfl, hg11, hP11, hbw11⟩
        obtain ⟨hcw11, hfw11, -, -, -, hsw11⟩ := bfacts5 hbw11
        try simp only [World.size_drew] at hcw11 hfw11
        try simp at hsw11
        go_wp2_with fail
        refine (eqInts_any _ _ _ _ _ rs _ (((((hP6.below hbw7).below hbw8).below hbw9).drewN m10).below hbw11) hP11).mono ?_
        rintro e w' ⟨rfl, m12, rfl⟩
        go_wp2_with fail
        refine (toIntsC_any A2 n2 c2 ps _ (h2.below (by (repeat' (first | (with_reducible exact Below.refl _ _) | (with_reducible assumption) | (with_reducible exact bundrew (by assumption)) | (with_reducible refine balloc ?_ _) | (with_reducible refine bset ?_ _ ?_ _) | (with_reducible refine Below.drew ?_) | (with_reducible refine bdrewN ?_ _) | (with_reducible refine bvia (by assumption) ?_) | (with_reducible refine Below.trans ?_ (by assumption)) | omega | (simp; omega) | (simp; done))))) k2).mono ?_
        rintro e w13 ⟨g13, rfl, hg13, hP13, hbw13⟩
        obtain ⟨hcw13, hfw13, -, -, -, hsw13⟩ := bfacts5 hbw13
        try simp only [World.size_drew] at hcw13 hfw13
        try simp at hsw13
        go_wp2_with fail
        refine (eqInts_any _ _ _ _ _ ps _ ((((((hP7.below hbw8).below hbw9).drewN m10).below hbw11).drewN m12).below hbw13) hP13).mono ?_
        rintro e w' ⟨rfl, m14, rfl⟩
        go_wp2
        go_ret
        exact ⟨rfl, by (repeat' (first | (with_reducible exact Below.refl _ _) | (with_reducible assumption) | (with_reducible exact bundrew (by assumption)) | (with_reducible refine balloc ?_ _) | (with_reducible refine bset ?_ _ ?_ _) | (with_reducible refine Below.drew ?_) | (with_reducible refine bdrewN ?_ _) | (with_reducible refine bvia (by assumption) ?_) | (with_reducible refine Below.trans ?_ (by assumption)) | omega | (simp; omega) | (simp; done)))⟩
      · have l2 : (1048576 : Int) < (n2 : Int) := by omega
        go_enter Try.func6, Try.ntmps6
        go_wp2
        go_ret
        exact ⟨rfl, by (repeat' (first | (with_reducible exact Below.refl _ _) | (with_reducible assumption) | (with_reducible exact bundrew (by assumption)) | (with_reducible refine balloc ?_ _) | (with_reducible refine bset ?_ _ ?_ _) | (with_reducible refine Below.drew ?_) | (with_reducible refine bdrewN ?_ _) | (with_reducible refine bvia (by assumption) ?_) | (with_reducible refine Below.trans ?_ (by assumption)) | omega | (simp; omega) | (simp; done)))⟩
    · have l1 : (1048576 : Int) < (n1 : Int) := by omega
      go_enter Try.func6, Try.ntmps6
      go_wp2
      go_ret
      exact ⟨rfl, by (repeat' (first | (with_reducible exact Below.refl _ _) | (with_reducible assumption) | (with_reducible exact bundrew (by assumption)) | (with_reducible refine balloc ?_ _) | (with_reducible refine bset ?_ _ ?_ _) | (with_reducible refine Below.drew ?_) | (with_reducible refine bdrewN ?_ _) | (with_reducible refine bvia (by assumption) ?_) | (with_reducible refine Below.trans ?_ (by assumption)) | omega | (simp; omega) | (simp; done)))⟩
  · have l0 : (1048576 : Int) < (n0 : Int) := by omega
    go_enter Try.func6, Try.ntmps6
    go_wp2
    go_ret
    exact ⟨rfl, by (repeat' (first | (with_reducible exact Below.refl _ _) | (with_reducible assumption) | (with_reducible exact bundrew (by assumption)) | (with_reducible refine balloc ?_ _) | (with_reducible refine bset ?_ _ ?_ _) | (with_reducible refine Below.drew ?_) | (with_reducible refine bdrewN ?_ _) | (with_reducible refine bvia (by assumption) ?_) | (with_reducible refine Below.trans ?_ (by assumption)) | omega | (simp; omega) | (simp; done)))⟩
end Go.Proofs.Ytikoldnejkhepaa
