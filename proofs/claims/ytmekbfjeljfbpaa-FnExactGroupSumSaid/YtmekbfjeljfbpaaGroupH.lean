/- The walk of the law FnExactGroupSum. -/
import Derived.Test.YtmekbfjeljfbpaaGroupG
namespace Go.Proofs.Ytmekbfjeljfbpaa
open Go.ChangeShapes Go.WideShapes Go.ChangeAt Go.RowKit

set_option maxRecDepth 100000 in
set_option maxHeartbeats 2000000 in
theorem walk_FnExactGroupSum (A0 : Option Addr) (n0 c0 : Nat) (xs : List Int) (A1 : Option Addr) (n1 c1 : Nat) (cs : List Int) (A2 : Option Addr) (n2 c2 : Nat) (ks : List Int) (A3 : Option Addr) (n3 c3 : Nat) (gs : List Int) (w : World) (h0 : Ints w A0 n0 xs) (h1 : Ints w A1 n1 cs) (h2 : Ints w A2 n2 ks) (h3 : Ints w A3 n3 gs) :
    Calls Try.prog 4 #[Value.slice A0 n0 c0, Value.slice A1 n1 c1, Value.slice A2 n2 c2, Value.slice A3 n3 c3] w fun e w' => e = .returned (.bool true) ∧ Below w.heap.size w w' := by
  by_cases k0 : n0 ≤ 1048576
  · have l0 : (n0 : Int) ≤ 1048576 := by omega
    by_cases k1 : n1 ≤ 1048576
    · have l1 : (n1 : Int) ≤ 1048576 := by omega
      by_cases k2 : n2 ≤ 1048576
      · have l2 : (n2 : Int) ≤ 1048576 := by omega
        by_cases k3 : n3 ≤ 1048576
        · have l3 : (n3 : Int) ≤ 1048576 := by omega
          go_enter Try.func4, Try.ntmps4
          go_wp2_with fail
          refine (toIntsC_any A0 n0 c0 xs _ (h0.below (by (repeat' (first | (with_reducible exact Below.refl _ _) | (with_reducible assumption) | (with_reducible exact bundrew (by assumption)) | (with_reducible refine balloc ?_ _) | (with_reducible refine bset ?_ _ ?_ _) | (with_reducible refine Below.drew ?_) | (with_reducible refine bdrewN ?_ _) | (with_reducible refine bvia (by assumption) ?_) | (with_reducible refine Below.trans ?_ (by assumption)) | omega | (simp; omega) | (simp; done))))) k0).mono ?_
          rintro e w1 ⟨g1, rfl, hg1, hP1, hbw1⟩
          obtain ⟨hcw1, hfw1, -, -, -, hsw1⟩ := bfacts5 hbw1
          try simp only [World.size_drew] at hcw1 hfw1
          try simp at hsw1
          go_wp2_with fail
          refine (toIntsC_any A1 n1 c1 cs _ (h1.below (by (repeat' (first | (with_reducible exact Below.refl _ _) | (with_reducible assumption) | (with_reducible exact bundrew (by assumption)) | (with_reducible refine balloc ?_ _) | (with_reducible refine bset ?_ _ ?_ _) | (with_reducible refine Below.drew ?_) | (with_reducible refine bdrewN ?_ _) | (with_reducible refine bvia (by assumption) ?_) | (with_reducible refine Below.trans ?_ (by assumption)) | omega | (simp; omega) | (simp; done))))) k1).mono ?_
          rintro e w2 ⟨g2, rfl, hg2, hP2, hbw2⟩
          obtain ⟨hcw2, hfw2, -, -, -, hsw2⟩ := bfacts5 hbw2
          try simp only [World.size_drew] at hcw2 hfw2
          try simp at hsw2
          go_wp2_with fail
          refine (toIntsC_any A2 n2 c2 ks _ (h2.below (by (repeat' (first | (with_reducible exact Below.refl _ _) | (with_reducible assumption) | (with_reducible exact bundrew (by assumption)) | (with_reducible refine balloc ?_ _) | (with_reducible refine bset ?_ _ ?_ _) | (with_reducible refine Below.drew ?_) | (with_reducible refine bdrewN ?_ _) | (with_reducible refine bvia (by assumption) ?_) | (with_reducible refine Below.trans ?_ (by assumption)) | omega | (simp; omega) | (simp; done))))) k2).mono ?_
          rintro e w3 ⟨g3, rfl, hg3, hP3, hbw3⟩
          obtain ⟨hcw3, hfw3, -, -, -, hsw3⟩ := bfacts5 hbw3
          try simp only [World.size_drew] at hcw3 hfw3
          try simp at hsw3
          go_wp2_with fail
          refine (toIntsC_any A3 n3 c3 gs _ (h3.below (by (repeat' (first | (with_reducible exact Below.refl _ _) | (with_reducible assumption) | (with_reducible exact bundrew (by assumption)) | (with_reducible refine balloc ?_ _) | (with_reducible refine bset ?_ _ ?_ _) | (with_reducible refine Below.drew ?_) | (with_reducible refine bdrewN ?_ _) | (with_reducible refine bvia (by assumption) ?_) | (with_reducible refine Below.trans ?_ (by assumption)) | omega | (simp; omega) | (simp; done))))) k3).mono ?_
          rintro e w4 ⟨g4, rfl, hg4, hP4, hbw4⟩
          obtain ⟨hcw4, hfw4, -, -, -, hsw4⟩ := bfacts5 hbw4
          try simp only [World.size_drew] at hcw4 hfw4
          try simp at hsw4
          go_wp2_with fail
          refine (gs_spec _ _ _ xs _ _ _ cs _ _ _ ks _ _ _ gs _ (((hP1.below hbw2).below hbw3).below hbw4) ((hP2.below hbw3).below hbw4) (hP3.below hbw4) hP4).mono ?_
          rintro e w5 ⟨rfl, hbw5⟩
          obtain ⟨hcw5, hfw5, -, -, -, hsw5⟩ := bfacts5 hbw5
          try simp only [World.size_drew] at hcw5 hfw5
          try simp at hsw5
          go_wp2_with fail
          refine (toIntsC_any A0 n0 c0 xs _ (h0.below (by (repeat' (first | (with_reducible exact Below.refl _ _) | (with_reducible assumption) | (with_reducible exact bundrew (by assumption)) | (with_reducible refine balloc ?_ _) | (with_reducible refine bset ?_ _ ?_ _) | (with_reducible refine Below.drew ?_) | (with_reducible refine bdrewN ?_ _) | (with_reducible refine bvia (by assumption) ?_) | (with_reducible refine Below.trans ?_ (by assumption)) | omega | (simp; omega) | (simp; done))))) k0).mono ?_
          rintro e w6 ⟨g6, rfl, hg6, hP6, hbw6⟩
          obtain ⟨hcw6, hfw6, -, -, -, hsw6⟩ := bfacts5 hbw6
          try simp only [World.size_drew] at hcw6 hfw6
          try simp at hsw6
          go_wp2_with fail
          refine (toIntsC_any A1 n1 c1 cs _ (h1.below (by (repeat' (first | (with_reducible exact Below.refl _ _) | (with_reducible assumption) | (with_reducible exact bundrew (by assumption)) | (with_reducible refine balloc ?_ _) | (with_reducible refine bset ?_ _ ?_ _) | (with_reducible refine Below.drew ?_) | (with_reducible refine bdrewN ?_ _) | (with_reducible refine bvia (by assumption) ?_) | (with_reducible refine Below.trans ?_ (by assumption)) | omega | (simp; omega) | (simp; done))))) k1).mono ?_
          rintro e w7 ⟨g7, rfl, hg7, hP7, hbw7⟩
          obtain ⟨hcw7, hfw7, -, -, -, hsw7⟩ := bfacts5 hbw7
          try simp only [World.size_drew] at hcw7 hfw7
          try simp at hsw7
          go_wp2_with fail
          refine (toIntsC_any A2 n2 c2 ks _ (h2.below (by (repeat' (first | (with_reducible exact Below.refl _ _) | (with_reducible assumption) | (with_reducible exact bundrew (by assumption)) | (with_reducible refine balloc ?_ _) | (with_reducible refine bset ?_ _ ?_ _) | (with_reducible refine Below.drew ?_) | (with_reducible refine bdrewN ?_ _) | (with_reducible refine bvia (by assumption) ?_) | (with_reducible refine Below.trans ?_ (by assumption)) | omega | (simp; omega) | (simp; done))))) k2).mono ?_
          rintro e w8 ⟨g8, rfl, hg8, hP8, hbw8⟩
          obtain ⟨hcw8, hfw8, -, -, -, hsw8⟩ := bfacts5 hbw8
          try simp only [World.size_drew] at hcw8 hfw8
          try simp at hsw8
          go_wp2_with fail
          refine (toIntsC_any A3 n3 c3 gs _ (h3.below (by (repeat' (first | (with_reducible exact Below.refl _ _) | (with_reducible assumption) | (with_reducible exact bundrew (by assumption)) | (with_reducible refine balloc ?_ _) | (with_reducible refine bset ?_ _ ?_ _) | (with_reducible refine Below.drew ?_) | (with_reducible refine bdrewN ?_ _) | (with_reducible refine bvia (by assumption) ?_) | (with_reducible refine Below.trans ?_ (by assumption)) | omega | (simp; omega) | (simp; done))))) k3).mono ?_
          rintro e w9 ⟨g9, rfl, hg9, hP9, hbw9⟩
          obtain ⟨hcw9, hfw9, -, -, -, hsw9⟩ := bfacts5 hbw9
          try simp only [World.size_drew] at hcw9 hfw9
          try simp at hsw9
          go_wp2_with fail
          refine (gs_impl _ _ _ xs _ _ _ cs _ _ _ ks _ _ _ gs _ (((hP6.below hbw7).below hbw8).below hbw9) ((hP7.below hbw8).below hbw9) (hP8.below hbw9) hP9).mono ?_
          rintro e w10 ⟨rfl, hbw10⟩
          obtain ⟨hcw10, hfw10, -, -, -, hsw10⟩ := bfacts5 hbw10
          try simp only [World.size_drew] at hcw10 hfw10
          try simp at hsw10
          go_wp2_with fail
          refine (toIntsC_any A0 n0 c0 xs _ (h0.below (by (repeat' (first | (with_reducible exact Below.refl _ _) | (with_reducible assumption) | (with_reducible exact bundrew (by assumption)) | (with_reducible refine balloc ?_ _) | (with_reducible refine bset ?_ _ ?_ _) | (with_reducible refine Below.drew ?_) | (with_reducible refine bdrewN ?_ _) | (with_reducible refine bvia (by assumption) ?_) | (with_reducible refine Below.trans ?_ (by assumption)) | omega | (simp; omega) | (simp; done))))) k0).mono ?_
          rintro e w11 ⟨g11, rfl, hg11, hP11, hbw11⟩
          obtain ⟨hcw11, hfw11, -, -, -, hsw11⟩ := bfacts5 hbw11
          try simp only [World.size_drew] at hcw11 hfw11
          try simp at hsw11
          go_wp2_with fail
          refine (eqInts_any _ _ _ _ _ xs _ (((((hP6.below hbw7).below hbw8).below hbw9).below hbw10).below hbw11) hP11).mono ?_
          rintro e w' ⟨rfl, m12, rfl⟩
          go_wp2_with fail
          refine (toIntsC_any A1 n1 c1 cs _ (h1.below (by (repeat' (first | (with_reducible exact Below.refl _ _) | (with_reducible assumption) | (with_reducible exact bundrew (by assumption)) | (with_reducible refine balloc ?_ _) | (with_reducible refine bset ?_ _ ?_ _) | (with_reducible refine Below.drew ?_) | (with_reducible refine bdrewN ?_ _) | (with_reducible refine bvia (by assumption) ?_) | (with_reducible refine Below.trans ?_ (by assumption)) | omega | (simp; omega) | (simp; done))))) k1).mono ?_
          rintro e w13 ⟨g13, rfl, hg13, hP13, hbw13⟩
          obtain ⟨hcw13, hfw13, -, -, -, hsw13⟩ := bfacts5 hbw13
          try simp only [World.size_drew] at hcw13 hfw13
          try simp at hsw13
          go_wp2_with fail
          refine (eqInts_any _ _ _ _ _ cs _ ((((((hP7.below hbw8).below hbw9).below hbw10).below hbw11).drewN m12).below hbw13) hP13).mono ?_
          rintro e w' ⟨rfl, m14, rfl⟩
          go_wp2_with fail
          refine (toIntsC_any A2 n2 c2 ks _ (h2.below (by (repeat' (first | (with_reducible exact Below.refl _ _) | (with_reducible assumption) | (with_reducible exact bundrew (by assumption)) | (with_reducible refine balloc ?_ _) | (with_reducible refine bset ?_ _ ?_ _) | (with_reducible refine Below.drew ?_) | (with_reducible refine bdrewN ?_ _) | (with_reducible refine bvia (by assumption) ?_) | (with_reducible refine Below.trans ?_ (by assumption)) | omega | (simp; omega) | (simp; done))))) k2).mono ?_
          rintro e w15 ⟨g15, rfl, hg15, hP15, hbw15⟩
          obtain ⟨hcw15, hfw15, -, -, -, hsw15⟩ := bfacts5 hbw15
          try simp only [World.size_drew] at hcw15 hfw15
          try simp at hsw15
          go_wp2_with fail
          refine (eqInts_any _ _ _ _ _ ks _ (((((((hP8.below hbw9).below hbw10).below hbw11).drewN m12).below hbw13).drewN m14).below hbw15) hP15).mono ?_
          rintro e w' ⟨rfl, m16, rfl⟩
          go_wp2_with fail
          refine (toIntsC_any A3 n3 c3 gs _ (h3.below (by (repeat' (first | (with_reducible exact Below.refl _ _) | (with_reducible assumption) | (with_reducible exact bundrew (by assumption)) | (with_reducible refine balloc ?_ _) | (with_reducible refine bset ?_ _ ?_ _) | (with_reducible refine Below.drew ?_) | (with_reducible refine bdrewN ?_ _) | (with_reducible refine bvia (by assumption) ?_) | (with_reducible refine Below.trans ?_ (by assumption)) | omega | (simp; omega) | (simp; done))))) k3).mono ?_
          rintro e w17 ⟨g17, rfl, hg17, hP17, hbw17⟩
          obtain ⟨hcw17, hfw17, -, -, -, hsw17⟩ := bfacts5 hbw17
          try simp only [World.size_drew] at hcw17 hfw17
          try simp at hsw17
          go_wp2_with fail
          refine (eqInts_any _ _ _ _ _ gs _ ((((((((hP9.below hbw10).below hbw11).drewN m12).below hbw13).drewN m14).below hbw15).drewN m16).below hbw17) hP17).mono ?_
          rintro e w' ⟨rfl, m18, rfl⟩
          go_wp2
          go_ret
          exact ⟨rfl, by (repeat' (first | (with_reducible exact Below.refl _ _) | (with_reducible assumption) | (with_reducible exact bundrew (by assumption)) | (with_reducible refine balloc ?_ _) | (with_reducible refine bset ?_ _ ?_ _) | (with_reducible refine Below.drew ?_) | (with_reducible refine bdrewN ?_ _) | (with_reducible refine bvia (by assumption) ?_) | (with_reducible refine Below.trans ?_ (by assumption)) | omega | (simp; omega) | (simp; done)))⟩
        · have l3 : (1048576 : Int) < (n3 : Int) := by omega
          go_enter Try.func4, Try.ntmps4
          go_wp2
          go_ret
          exact ⟨rfl, by (repeat' (first | (with_reducible exact Below.refl _ _) | (with_reducible assumption) | (with_reducible exact bundrew (by assumption)) | (with_reducible refine balloc ?_ _) | (with_reducible refine bset ?_ _ ?_ _) | (with_reducible refine Below.drew ?_) | (with_reducible refine bdrewN ?_ _) | (with_reducible refine bvia (by assumption) ?_) | (with_reducible refine Below.trans ?_ (by assumption)) | omega | (simp; omega) | (simp; done)))⟩
      · have l2 : (1048576 : Int) < (n2 : Int) := by omega
        go_enter Try.func4, Try.ntmps4
        go_wp2
        go_ret
        exact ⟨rfl, by (repeat' (first | (with_reducible exact Below.refl _ _) | (with_reducible assumption) | (with_reducible exact bundrew (by assumption)) | (with_reducible refine balloc ?_ _) | (with_reducible refine bset ?_ _ ?_ _) | (with_reducible refine Below.drew ?_) | (with_reducible refine bdrewN ?_ _) | (with_reducible refine bvia (by assumption) ?_) | (with_reducible refine Below.trans ?_ (by assumption)) | omega | (simp; omega) | (simp; done)))⟩
    · have l1 : (1048576 : Int) < (n1 : Int) := by omega
      go_enter Try.func4, Try.ntmps4
      go_wp2
      go_ret
      exact ⟨rfl, by (repeat' (first | (with_reducible exact Below.refl _ _) | (with_reducible assumption) | (with_reducible exact bundrew (by assumption)) | (with_reducible refine balloc ?_ _) | (with_reducible refine bset ?_ _ ?_ _) | (with_reducible refine Below.drew ?_) | (with_reducible refine bdrewN ?_ _) | (with_reducible refine bvia (by assumption) ?_) | (with_reducible refine Below.trans ?_ (by assumption)) | omega | (simp; omega) | (simp; done)))⟩
  · have l0 : (1048576 : Int) < (n0 : Int) := by omega
    go_enter Try.func4, Try.ntmps4
    go_wp2
    go_ret
    exact ⟨rfl, by (repeat' (first | (with_reducible exact Below.refl _ _) | (with_reducible assumption) | (with_reducible exact bundrew (by assumption)) | (with_reducible refine balloc ?_ _) | (with_reducible refine bset ?_ _ ?_ _) | (with_reducible refine Below.drew ?_) | (with_reducible refine bdrewN ?_ _) | (with_reducible refine bvia (by assumption) ?_) | (with_reducible refine Below.trans ?_ (by assumption)) | omega | (simp; omega) | (simp; done)))⟩
end Go.Proofs.Ytmekbfjeljfbpaa
