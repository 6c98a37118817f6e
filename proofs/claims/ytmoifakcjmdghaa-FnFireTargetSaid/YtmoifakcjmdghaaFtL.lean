/- CallSet for valid calls, a kind and a floor: contract. -/
import Derived.Test.YtmoifakcjmdghaaFtK2
namespace Go.Proofs.Ytmoifakcjmdghaa
open Go.ChangeShapes Go.WideShapes Go.ChangeAt Go.RowKit

theorem OwnB.some_ {w : World} {base n : Nat} {v : Value} {xs : List Bool} (h : OwnB w base v xs) (hn : xs.length = n) (h0 : 0 < n) : ∃ g c, v = .slice (some ⟨g, 0, none⟩) n c := by
  rcases h.form with ⟨h1, h2⟩ | ⟨g, cap, cur, h1, _⟩
  · subst h2; simp at hn; omega
  · subst hn; exact ⟨g, cap, h1⟩
theorem CO.bc {w : World} {base : Nat} {A1 A2 A3 : Option Addr} {n1 n2 n3 c1 c2 c3 : Nat} {us ds cs : List Bool} (h : CO w base (.slice A1 n1 c1) (.slice A2 n2 c2) (.slice A3 n3 c3) us ds cs) : BC w A1 n1 us A2 n2 ds A3 n3 cs := by
  obtain ⟨e1, b1⟩ := h.u.bools
  obtain ⟨e2, b2⟩ := h.d.bools
  obtain ⟨e3, b3⟩ := h.c.bools
  subst e1 e2 e3
  exact ⟨b1, b2, b3⟩
theorem CO.alloc {w : World} {base : Nat} {v1 v2 v3 : Value} {us ds cs : List Bool} (h : CO w base v1 v2 v3 us ds cs) (o : Obj) : CO (w.alloc o) base v1 v2 v3 us ds cs := h.below ((Below.refl _ _).alloc (Nat.le_refl _) _)
/-- Calls, and whether they were set; if so they are valid. -/
def SetOut (w : World) (n : Nat) (e : Ending) (w' : World) : Prop := ∃ (v1 v2 v3 : Value) (us ds cs : List Bool) (ok : Bool), e = .returned (.tuple #[.agg #[v1, v2, v3], .bool ok]) ∧ CO w' (w.heap.size + 2) v1 v2 v3 us ds cs ∧ Below w.heap.size w w' ∧ (ok = true → cvB us ds cs = true ∧ us.length = n)

set_option maxRecDepth 100000 in
set_option maxHeartbeats 4000000 in
theorem set_0 (A1 : Option Addr) (n c1 : Nat) (us : List Bool) (A2 : Option Addr) (c2 : Nat) (ds : List Bool) (A3 : Option Addr) (c3 : Nat) (cs : List Bool) (k : Nat) (w : World) (h : BC w A1 n us A2 n ds A3 n cs) (hv : cvB us ds cs = true) (hk : k < n) :
    Calls Try.prog 47 #[.agg #[.slice A1 n c1, .slice A2 n c2, .slice A3 n c3], .int .i64 0, .int .i64 k, .bool true] w (SetOut w n) := by
  obtain ⟨_, _, hn1, hn8⟩ := cv_len hv h.u.1 h.d.1 h.c.1
  have hl1 := h.u.1
  have hl2 := h.d.1
  have hl3 := h.c.1
  have H := Lib.hid h
  have V := fun w hx => cv_spec A1 n c1 us A2 n c2 ds A3 n c3 cs w hx
  rw [hv] at V
  have HV := Lib.hid V
  have L1 : ∀ w : World, Calls Try.prog 22 #[.int .i64 k, .int .i64 0, .int .i64 ((n : Int) - 1)] w fun e w' => e = .returned (.bool true) ∧ w = w' := fun w => by have := l1In_any (k : Int) 0 ((n : Int) - 1) w; rwa [inB_yes (by omega)] at this
  have HL := Lib.hid L1
  have HCp : Hid (∀ w' : World, Below w.heap.size w w' → Calls Try.prog 48 #[.agg #[.slice A1 n c1, .slice A2 n c2, .slice A3 n c3]] w' (CallsOut w' us ds cs)) := Lib.hid fun w' hb => copy_any A1 n c1 us A2 n c2 ds A3 n c3 cs w' (H.out.below hb) (by omega) (by omega) (by omega) (by omega) (by omega) (by omega)
  have n0 : 0 ≤ (n : Int) := by omega
  have n9 : (n : Int) ≤ 9 := by omega
  have hk' : (k : Int) < (n : Int) := by omega
  clear V L1 h hv
  go_enter Try.func47, Try.ntmps47
  go_wp2_with fail
  refine (HV.out _ (H.out.below (by (repeat' (first | (with_reducible exact Below.refl _ _) | (with_reducible assumption) | (with_reducible exact bundrew (by assumption)) | (with_reducible refine balloc ?_ _) | (with_reducible refine bset ?_ _ ?_ _) | (with_reducible refine Below.drew ?_) | (with_reducible refine bdrewN ?_ _) | (with_reducible refine bvia (by assumption) ?_) | (with_reducible refine Below.trans ?_ (by assumption)) | omega | (simp; omega) | (simp; done)))))).mono ?_
  rintro e w1 ⟨rfl, hbw1⟩
  obtain ⟨hcw1, hfw1, -, -, -, hsw1⟩ := bfacts5 hbw1
  try simp only [World.size_drew] at hcw1 hfw1
  try simp at hsw1
  have qw10 : w.heap.size < w1.heap.size := (by omega)
  have rw10 : ∀ m : Nat, w.heap.size < w1.heap.size + m := fun m => (by omega)
  have qw11 : w.heap.size + 1 < w1.heap.size := (by omega)
  have rw11 : ∀ m : Nat, w.heap.size + 1 < w1.heap.size + m := fun m => (by omega)
  go_wp2_with fail
  refine (HCp.out _ (by (repeat' (first | (with_reducible exact Below.refl _ _) | (with_reducible assumption) | (with_reducible exact bundrew (by assumption)) | (with_reducible refine balloc ?_ _) | (with_reducible refine bset ?_ _ ?_ _) | (with_reducible refine Below.drew ?_) | (with_reducible refine bdrewN ?_ _) | (with_reducible refine bvia (by assumption) ?_) | (with_reducible refine Below.trans ?_ (by assumption)) | omega | (simp; omega) | (simp; done))))).mono ?_
  rintro e w2 ⟨v1, v2, v3, rfl, co2, hbw2⟩
  obtain ⟨hcw2, hfw2, -, -, -, hsw2⟩ := bfacts5 hbw2
  try simp only [World.size_drew] at hcw2 hfw2
  try simp at hsw2
  have qw20 : w.heap.size < w2.heap.size := (by omega)
  have rw20 : ∀ m : Nat, w.heap.size < w2.heap.size + m := fun m => (by omega)
  have qw21 : w.heap.size + 1 < w2.heap.size := (by omega)
  have rw21 : ∀ m : Nat, w.heap.size + 1 < w2.heap.size + m := fun m => (by omega)
  obtain ⟨g1, k1, rfl⟩ := co2.u.some_ hl1 (by omega)
  obtain ⟨g2, k2, rfl⟩ := co2.d.some_ hl2 (by omega)
  obtain ⟨g3, k3, rfl⟩ := co2.c.some_ hl3 (by omega)
  have B2 : Below w.heap.size w w2 := by (repeat' (first | (with_reducible exact Below.refl _ _) | (with_reducible assumption) | (with_reducible exact bundrew (by assumption)) | (with_reducible refine balloc ?_ _) | (with_reducible refine bset ?_ _ ?_ _) | (with_reducible refine Below.drew ?_) | (with_reducible refine bdrewN ?_ _) | (with_reducible refine bvia (by assumption) ?_) | (with_reducible refine Below.trans ?_ (by assumption)) | omega | (simp; omega) | (simp; done)))
  obtain ⟨z1, z2, l1, y1⟩ := co2.u.at_ (i := k) (by omega)
  obtain ⟨z3, z4, l2, y2⟩ := co2.d.at_ (i := k) (by omega)
  obtain ⟨z5, z6, l3, y3⟩ := co2.c.at_ (i := k) (by omega)
  have CO2 := Lib.hid (co2.lower (b := w.heap.size + 2) (by omega))
  clear co2 z3 z4 z5 z6
  have d1 : ¬ g1 = w2.heap.size := by omega
  have d2 : ¬ w2.heap.size = g1 := by omega
  have d3 : ¬ g1 = w.heap.size := by omega
  have d4 : ¬ w.heap.size = g1 := by omega
  have d5 : ¬ g1 = w.heap.size + 1 := by omega
  have d6 : ¬ w.heap.size + 1 = g1 := by omega
  have CO3 := Lib.hid ((CO2.out.putU (i := k) (by omega) true).alloc (.cells #[.slice (some ⟨g1, 0, none⟩) n k1, .slice (some ⟨g2, 0, none⟩) n k2, .slice (some ⟨g3, 0, none⟩) n k3] 34))
  have VS := cv_spec (some ⟨g1, 0, none⟩) n k1 (us.set k true) (some ⟨g2, 0, none⟩) n k2 ds (some ⟨g3, 0, none⟩) n k3 cs _ CO3.out.bc
  obtain ⟨b, hbv⟩ : ∃ b, cvB (us.set k true) ds cs = b := ⟨_, rfl⟩
  rw [hbv] at VS
  have HBV := Lib.hid hbv
  clear hbv
  go_wp2_with (go_at_call 22; refine (HL.out _).mono ?_; rintro e w' ⟨rfl, rfl⟩)
  refine VS.mono ?_
  rintro e w3 ⟨rfl, hbw3⟩
  obtain ⟨hcw3, hfw3, -, -, -, hsw3⟩ := bfacts5 hbw3
  simp at hsw3
  have CO4 := Lib.hid (CO3.out.below hbw3)
  have B3 : Below w.heap.size w w3 := by (repeat' (first | (with_reducible exact Below.refl _ _) | (with_reducible assumption) | (with_reducible exact bundrew (by assumption)) | (with_reducible refine balloc ?_ _) | (with_reducible refine bset ?_ _ ?_ _) | (with_reducible refine Below.drew ?_) | (with_reducible refine bdrewN ?_ _) | (with_reducible refine bvia (by assumption) ?_) | (with_reducible refine Below.trans ?_ (by assumption)) | omega | (simp; omega) | (simp; done)))
  have q30 : w.heap.size < w3.heap.size := by omega
  have q31 : w.heap.size + 1 < w3.heap.size := by omega
  have q32 : w2.heap.size < w3.heap.size := by omega
  have r30 : ∀ m : Nat, w.heap.size < w3.heap.size + m := fun m => by omega
  have r31 : ∀ m : Nat, w.heap.size + 1 < w3.heap.size + m := fun m => by omega
  cases b
  · go_wp2_with fail
    refine (HCp.out _ B3).mono ?_
    rintro e w4 ⟨u1, u2, u3, rfl, co4, hbw4⟩
    obtain ⟨hcw4, hfw4, -, -, -, hsw4⟩ := bfacts5 hbw4
    try simp only [World.size_drew] at hcw4 hfw4
    try simp at hsw4
    have qw40 : w.heap.size < w4.heap.size := (by omega)
    have rw40 : ∀ m : Nat, w.heap.size < w4.heap.size + m := fun m => (by omega)
    have qw41 : w.heap.size + 1 < w4.heap.size := (by omega)
    have rw41 : ∀ m : Nat, w.heap.size + 1 < w4.heap.size + m := fun m => (by omega)
    have B4 : Below w.heap.size w w4 := by (repeat' (first | (with_reducible exact Below.refl _ _) | (with_reducible assumption) | (with_reducible exact bundrew (by assumption)) | (with_reducible refine balloc ?_ _) | (with_reducible refine bset ?_ _ ?_ _) | (with_reducible refine Below.drew ?_) | (with_reducible refine bdrewN ?_ _) | (with_reducible refine bvia (by assumption) ?_) | (with_reducible refine Below.trans ?_ (by assumption)) | omega | (simp; omega) | (simp; done)))
    have CO5 := Lib.hid (co4.lower (b := w.heap.size + 2) (by omega))
    obtain ⟨j1, j2, j3, j4, j5, j6, e1, e2, e3, -⟩ := co4.shape
    clear co4
    subst e1 e2 e3
    have CO6 := CO5.out
    rw [hl1, hl2, hl3] at CO6
    have HCO6 := Lib.hid CO6
    clear CO6
    go_wp2
    refine bodyPost_ret (by simp [results, Try.results47, go_sem, *]; try rfl) rfl ?_
    refine ⟨_, _, _, us, ds, cs, false, rfl, ?_, by (repeat' (first | (with_reducible exact Below.refl _ _) | (with_reducible assumption) | (with_reducible exact bundrew (by assumption)) | (with_reducible refine balloc ?_ _) | (with_reducible refine bset ?_ _ ?_ _) | (with_reducible refine Below.drew ?_) | (with_reducible refine bdrewN ?_ _) | (with_reducible refine bvia (by assumption) ?_) | (with_reducible refine Below.trans ?_ (by assumption)) | omega | (simp; omega) | (simp; done))), fun h => by cases h⟩
    have O : ∀ (v : Value) (xs : List Bool) (q : Addr), OwnB w4 (w.heap.size + 2) v xs → q.block = w.heap.size + 1 → v.ownBlock ≠ some q.block := fun v xs q ho hq e => by have := ho.block _ e; omega
    repeat refine CO.fixed ?_ _ (O _ _ _ HCO6.out.u rfl) (O _ _ _ HCO6.out.d rfl) (O _ _ _ HCO6.out.c rfl) _
    exact HCO6.out
  · go_wp2
    refine bodyPost_ret (by simp [results, Try.results47, go_sem, *]; try rfl) rfl ?_
    refine ⟨_, _, _, (us.set k true), ds, cs, true, rfl, ?_, by (repeat' (first | (with_reducible exact Below.refl _ _) | (with_reducible assumption) | (with_reducible exact bundrew (by assumption)) | (with_reducible refine balloc ?_ _) | (with_reducible refine bset ?_ _ ?_ _) | (with_reducible refine Below.drew ?_) | (with_reducible refine bdrewN ?_ _) | (with_reducible refine bvia (by assumption) ?_) | (with_reducible refine Below.trans ?_ (by assumption)) | omega | (simp; omega) | (simp; done))), fun _ => ⟨HBV.out, by rw [List.length_set]; exact hl1⟩⟩
    have O : ∀ (v : Value) (xs : List Bool) (q : Addr), OwnB w3 (w.heap.size + 2) v xs → q.block = w.heap.size + 1 → v.ownBlock ≠ some q.block := fun v xs q ho hq e => by have := ho.block _ e; omega
    repeat refine CO.fixed ?_ _ (O _ _ _ CO4.out.u rfl) (O _ _ _ CO4.out.d rfl) (O _ _ _ CO4.out.c rfl) _
    exact CO4.out
set_option maxRecDepth 100000 in
set_option maxHeartbeats 4000000 in
theorem set_1 (A1 : Option Addr) (n c1 : Nat) (us : List Bool) (A2 : Option Addr) (c2 : Nat) (ds : List Bool) (A3 : Option Addr) (c3 : Nat) (cs : List Bool) (k : Nat) (w : World) (h : BC w A1 n us A2 n ds A3 n cs) (hv : cvB us ds cs = true) (hk : k < n) :
    Calls Try.prog 47 #[.agg #[.slice A1 n c1, .slice A2 n c2, .slice A3 n c3], .int .i64 1, .int .i64 k, .bool true] w (SetOut w n) := by
  obtain ⟨_, _, hn1, hn8⟩ := cv_len hv h.u.1 h.d.1 h.c.1
  have hl1 := h.u.1
  have hl2 := h.d.1
  have hl3 := h.c.1
  have H := Lib.hid h
  have V := fun w hx => cv_spec A1 n c1 us A2 n c2 ds A3 n c3 cs w hx
  rw [hv] at V
  have HV := Lib.hid V
  have L1 : ∀ w : World, Calls Try.prog 22 #[.int .i64 k, .int .i64 0, .int .i64 ((n : Int) - 1)] w fun e w' => e = .returned (.bool true) ∧ w = w' := fun w => by have := l1In_any (k : Int) 0 ((n : Int) - 1) w; rwa [inB_yes (by omega)] at this
  have HL := Lib.hid L1
  have HCp : Hid (∀ w' : World, Below w.heap.size w w' → Calls Try.prog 48 #[.agg #[.slice A1 n c1, .slice A2 n c2, .slice A3 n c3]] w' (CallsOut w' us ds cs)) := Lib.hid fun w' hb => copy_any A1 n c1 us A2 n c2 ds A3 n c3 cs w' (H.out.below hb) (by omega) (by omega) (by omega) (by omega) (by omega) (by omega)
  have n0 : 0 ≤ (n : Int) := by omega
  have n9 : (n : Int) ≤ 9 := by omega
  have hk' : (k : Int) < (n : Int) := by omega
  clear V L1 h hv
  go_enter Try.func47, Try.ntmps47
  go_wp2_with fail
  refine (HV.out _ (H.out.below (by (repeat' (first | (with_reducible exact Below.refl _ _) | (with_reducible assumption) | (with_reducible exact bundrew (by assumption)) | (with_reducible refine balloc ?_ _) | (with_reducible refine bset ?_ _ ?_ _) | (with_reducible refine Below.drew ?_) | (with_reducible refine bdrewN ?_ _) | (with_reducible refine bvia (by assumption) ?_) | (with_reducible refine Below.trans ?_ (by assumption)) | omega | (simp; omega) | (simp; done)))))).mono ?_
  rintro e w1 ⟨rfl, hbw1⟩
  obtain ⟨hcw1, hfw1, -, -, -, hsw1⟩ := bfacts5 hbw1
  try simp only [World.size_drew] at hcw1 hfw1
  try simp at hsw1
  have qw10 : w.heap.size < w1.heap.size := (by omega)
  have rw10 : ∀ m : Nat, w.heap.size < w1.heap.size + m := fun m => (by omega)
  have qw11 : w.heap.size + 1 < w1.heap.size := (by omega)
  have rw11 : ∀ m : Nat, w.heap.size + 1 < w1.heap.size + m := fun m => (by omega)
  go_wp2_with fail
  refine (HCp.out _ (by (repeat' (first | (with_reducible exact Below.refl _ _) | (with_reducible assumption) | (with_reducible exact bundrew (by assumption)) | (with_reducible refine balloc ?_ _) | (with_reducible refine bset ?_ _ ?_ _) | (with_reducible refine Below.drew ?_) | (with_reducible refine bdrewN ?_ _) | (with_reducible refine bvia (by assumption) ?_) | (with_reducible refine Below.trans ?_ (by assumption)) | omega | (simp; omega) | (simp; done))))).mono ?_
  rintro e w2 ⟨v1, v2, v3, rfl, co2, hbw2⟩
  obtain ⟨hcw2, hfw2, -, -, -, hsw2⟩ := bfacts5 hbw2
  try simp only [World.size_drew] at hcw2 hfw2
  try simp at hsw2
  have qw20 : w.heap.size < w2.heap.size := (by omega)
  have rw20 : ∀ m : Nat, w.heap.size < w2.heap.size + m := fun m => (by omega)
  have qw21 : w.heap.size + 1 < w2.heap.size := (by omega)
  have rw21 : ∀ m : Nat, w.heap.size + 1 < w2.heap.size + m := fun m => (by omega)
  obtain ⟨g1, k1, rfl⟩ := co2.u.some_ hl1 (by omega)
  obtain ⟨g2, k2, rfl⟩ := co2.d.some_ hl2 (by omega)
  obtain ⟨g3, k3, rfl⟩ := co2.c.some_ hl3 (by omega)
  have B2 : Below w.heap.size w w2 := by (repeat' (first | (with_reducible exact Below.refl _ _) | (with_reducible assumption) | (with_reducible exact bundrew (by assumption)) | (with_reducible refine balloc ?_ _) | (with_reducible refine bset ?_ _ ?_ _) | (with_reducible refine Below.drew ?_) | (with_reducible refine bdrewN ?_ _) | (with_reducible refine bvia (by assumption) ?_) | (with_reducible refine Below.trans ?_ (by assumption)) | omega | (simp; omega) | (simp; done)))
  obtain ⟨z1, z2, l1, y1⟩ := co2.u.at_ (i := k) (by omega)
  obtain ⟨z3, z4, l2, y2⟩ := co2.d.at_ (i := k) (by omega)
  obtain ⟨z5, z6, l3, y3⟩ := co2.c.at_ (i := k) (by omega)
  have CO2 := Lib.hid (co2.lower (b := w.heap.size + 2) (by omega))
  clear co2 z1 z2 z5 z6
  have d1 : ¬ g2 = w2.heap.size := by omega
  have d2 : ¬ w2.heap.size = g2 := by omega
  have d3 : ¬ g2 = w.heap.size := by omega
  have d4 : ¬ w.heap.size = g2 := by omega
  have d5 : ¬ g2 = w.heap.size + 1 := by omega
  have d6 : ¬ w.heap.size + 1 = g2 := by omega
  have CO3 := Lib.hid ((CO2.out.putD (i := k) (by omega) true).alloc (.cells #[.slice (some ⟨g1, 0, none⟩) n k1, .slice (some ⟨g2, 0, none⟩) n k2, .slice (some ⟨g3, 0, none⟩) n k3] 34))
  have VS := cv_spec (some ⟨g1, 0, none⟩) n k1 us (some ⟨g2, 0, none⟩) n k2 (ds.set k true) (some ⟨g3, 0, none⟩) n k3 cs _ CO3.out.bc
  obtain ⟨b, hbv⟩ : ∃ b, cvB us (ds.set k true) cs = b := ⟨_, rfl⟩
  rw [hbv] at VS
  have HBV := Lib.hid hbv
  clear hbv
  go_wp2_with (go_at_call 22; refine (HL.out _).mono ?_; rintro e w' ⟨rfl, rfl⟩)
  refine VS.mono ?_
  rintro e w3 ⟨rfl, hbw3⟩
  obtain ⟨hcw3, hfw3, -, -, -, hsw3⟩ := bfacts5 hbw3
  simp at hsw3
  have CO4 := Lib.hid (CO3.out.below hbw3)
  have B3 : Below w.heap.size w w3 := by (repeat' (first | (with_reducible exact Below.refl _ _) | (with_reducible assumption) | (with_reducible exact bundrew (by assumption)) | (with_reducible refine balloc ?_ _) | (with_reducible refine bset ?_ _ ?_ _) | (with_reducible refine Below.drew ?_) | (with_reducible refine bdrewN ?_ _) | (with_reducible refine bvia (by assumption) ?_) | (with_reducible refine Below.trans ?_ (by assumption)) | omega | (simp; omega) | (simp; done)))
  have q30 : w.heap.size < w3.heap.size := by omega
  have q31 : w.heap.size + 1 < w3.heap.size := by omega
  have q32 : w2.heap.size < w3.heap.size := by omega
  have r30 : ∀ m : Nat, w.heap.size < w3.heap.size + m := fun m => by omega
  have r31 : ∀ m : Nat, w.heap.size + 1 < w3.heap.size + m := fun m => by omega
  cases b
  · go_wp2_with fail
    refine (HCp.out _ B3).mono ?_
    rintro e w4 ⟨u1, u2, u3, rfl, co4, hbw4⟩
    obtain ⟨hcw4, hfw4, -, -, -, hsw4⟩ := bfacts5 hbw4
    try simp only [World.size_drew] at hcw4 hfw4
    try simp at hsw4
    have qw40 : w.heap.size < w4.heap.size := (by omega)
    have rw40 : ∀ m : Nat, w.heap.size < w4.heap.size + m := fun m => (by omega)
    have qw41 : w.heap.size + 1 < w4.heap.size := (by omega)
    have rw41 : ∀ m : Nat, w.heap.size + 1 < w4.heap.size + m := fun m => (by omega)
    have B4 : Below w.heap.size w w4 := by (repeat' (first | (with_reducible exact Below.refl _ _) | (with_reducible assumption) | (with_reducible exact bundrew (by assumption)) | (with_reducible refine balloc ?_ _) | (with_reducible refine bset ?_ _ ?_ _) | (with_reducible refine Below.drew ?_) | (with_reducible refine bdrewN ?_ _) | (with_reducible refine bvia (by assumption) ?_) | (with_reducible refine Below.trans ?_ (by assumption)) | omega | (simp; omega) | (simp; done)))
    have CO5 := Lib.hid (co4.lower (b := w.heap.size + 2) (by omega))
    obtain ⟨j1, j2, j3, j4, j5, j6, e1, e2, e3, -⟩ := co4.shape
    clear co4
    subst e1 e2 e3
    have CO6 := CO5.out
    rw [hl1, hl2, hl3] at CO6
    have HCO6 := Lib.hid CO6
    clear CO6
    go_wp2
    refine bodyPost_ret (by simp [results, Try.results47, go_sem, *]; try rfl) rfl ?_
    refine ⟨_, _, _, us, ds, cs, false, rfl, ?_, by (repeat' (first | (with_reducible exact Below.refl _ _) | (with_reducible assumption) | (with_reducible exact bundrew (by assumption)) | (with_reducible refine balloc ?_ _) | (with_reducible refine bset ?_ _ ?_ _) | (with_reducible refine Below.drew ?_) | (with_reducible refine bdrewN ?_ _) | (with_reducible refine bvia (by assumption) ?_) | (with_reducible refine Below.trans ?_ (by assumption)) | omega | (simp; omega) | (simp; done))), fun h => by cases h⟩
    have O : ∀ (v : Value) (xs : List Bool) (q : Addr), OwnB w4 (w.heap.size + 2) v xs → q.block = w.heap.size + 1 → v.ownBlock ≠ some q.block := fun v xs q ho hq e => by have := ho.block _ e; omega
    repeat refine CO.fixed ?_ _ (O _ _ _ HCO6.out.u rfl) (O _ _ _ HCO6.out.d rfl) (O _ _ _ HCO6.out.c rfl) _
    exact HCO6.out
  · go_wp2
    refine bodyPost_ret (by simp [results, Try.results47, go_sem, *]; try rfl) rfl ?_
    refine ⟨_, _, _, us, (ds.set k true), cs, true, rfl, ?_, by (repeat' (first | (with_reducible exact Below.refl _ _) | (with_reducible assumption) | (with_reducible exact bundrew (by assumption)) | (with_reducible refine balloc ?_ _) | (with_reducible refine bset ?_ _ ?_ _) | (with_reducible refine Below.drew ?_) | (with_reducible refine bdrewN ?_ _) | (with_reducible refine bvia (by assumption) ?_) | (with_reducible refine Below.trans ?_ (by assumption)) | omega | (simp; omega) | (simp; done))), fun _ => ⟨HBV.out, hl1⟩⟩
    have O : ∀ (v : Value) (xs : List Bool) (q : Addr), OwnB w3 (w.heap.size + 2) v xs → q.block = w.heap.size + 1 → v.ownBlock ≠ some q.block := fun v xs q ho hq e => by have := ho.block _ e; omega
    repeat refine CO.fixed ?_ _ (O _ _ _ CO4.out.u rfl) (O _ _ _ CO4.out.d rfl) (O _ _ _ CO4.out.c rfl) _
    exact CO4.out
set_option maxRecDepth 100000 in
set_option maxHeartbeats 4000000 in
theorem set_2 (A1 : Option Addr) (n c1 : Nat) (us : List Bool) (A2 : Option Addr) (c2 : Nat) (ds : List Bool) (A3 : Option Addr) (c3 : Nat) (cs : List Bool) (k : Nat) (w : World) (h : BC w A1 n us A2 n ds A3 n cs) (hv : cvB us ds cs = true) (hk : k < n) :
    Calls Try.prog 47 #[.agg #[.slice A1 n c1, .slice A2 n c2, .slice A3 n c3], .int .i64 2, .int .i64 k, .bool true] w (SetOut w n) := by
  obtain ⟨_, _, hn1, hn8⟩ := cv_len hv h.u.1 h.d.1 h.c.1
  have hl1 := h.u.1
  have hl2 := h.d.1
  have hl3 := h.c.1
  have H := Lib.hid h
  have V := fun w hx => cv_spec A1 n c1 us A2 n c2 ds A3 n c3 cs w hx
  rw [hv] at V
  have HV := Lib.hid V
  have L1 : ∀ w : World, Calls Try.prog 22 #[.int .i64 k, .int .i64 0, .int .i64 ((n : Int) - 1)] w fun e w' => e = .returned (.bool true) ∧ w = w' := fun w => by have := l1In_any (k : Int) 0 ((n : Int) - 1) w; rwa [inB_yes (by omega)] at this
  have HL := Lib.hid L1
  have HCp : Hid (∀ w' : World, Below w.heap.size w w' → Calls Try.prog 48 #[.agg #[.slice A1 n c1, .slice A2 n c2, .slice A3 n c3]] w' (CallsOut w' us ds cs)) := Lib.hid fun w' hb => copy_any A1 n c1 us A2 n c2 ds A3 n c3 cs w' (H.out.below hb) (by omega) (by omega) (by omega) (by omega) (by omega) (by omega)
  have n0 : 0 ≤ (n : Int) := by omega
  have n9 : (n : Int) ≤ 9 := by omega
  have hk' : (k : Int) < (n : Int) := by omega
  clear V L1 h hv
  go_enter Try.func47, Try.ntmps47
  go_wp2_with fail
  refine (HV.out _ (H.out.below (by (repeat' (first | (with_reducible exact Below.refl _ _) | (with_reducible assumption) | (with_reducible exact bundrew (by assumption)) | (with_reducible refine balloc ?_ _) | (with_reducible refine bset ?_ _ ?_ _) | (with_reducible refine Below.drew ?_) | (with_reducible refine bdrewN ?_ _) | (with_reducible refine bvia (by assumption) ?_) | (with_reducible refine Below.trans ?_ (by assumption)) | omega | (simp; omega) | (simp; done)))))).mono ?_
  rintro e w1 ⟨rfl, hbw1⟩
  obtain ⟨hcw1, hfw1, -, -, -, hsw1⟩ := bfacts5 hbw1
  try simp only [World.size_drew] at hcw1 hfw1
  try simp at hsw1
  have qw10 : w.heap.size < w1.heap.size := (by omega)
  have rw10 : ∀ m : Nat, w.heap.size < w1.heap.size + m := fun m => (by omega)
  have qw11 : w.heap.size + 1 < w1.heap.size := (by omega)
  have rw11 : ∀ m : Nat, w.heap.size + 1 < w1.heap.size + m := fun m => (by omega)
  go_wp2_with fail
  refine (HCp.out _ (by (repeat' (first | (with_reducible exact Below.refl _ _) | (with_reducible assumption) | (with_reducible exact bundrew (by assumption)) | (with_reducible refine balloc ?_ _) | (with_reducible refine bset ?_ _ ?_ _) | (with_reducible refine Below.drew ?_) | (with_reducible refine bdrewN ?_ _) | (with_reducible refine bvia (by assumption) ?_) | (with_reducible refine Below.trans ?_ (by assumption)) | omega | (simp; omega) | (simp; done))))).mono ?_
  rintro e w2 ⟨v1, v2, v3, rfl, co2, hbw2⟩
  obtain ⟨hcw2, hfw2, -, -, -, hsw2⟩ := bfacts5 hbw2
  try simp only [World.size_drew] at hcw2 hfw2
  try simp at hsw2
  have qw20 : w.heap.size < w2.heap.size := (by omega)
  have rw20 : ∀ m : Nat, w.heap.size < w2.heap.size + m := fun m => (by omega)
  have qw21 : w.heap.size + 1 < w2.heap.size := (by omega)
  have rw21 : ∀ m : Nat, w.heap.size + 1 < w2.heap.size + m := fun m => (by omega)
  obtain ⟨g1, k1, rfl⟩ := co2.u.some_ hl1 (by omega)
  obtain ⟨g2, k2, rfl⟩ := co2.d.some_ hl2 (by omega)
  obtain ⟨g3, k3, rfl⟩ := co2.c.some_ hl3 (by omega)
  have B2 : Below w.heap.size w w2 := by (repeat' (first | (with_reducible exact Below.refl _ _) | (with_reducible assumption) | (with_reducible exact bundrew (by assumption)) | (with_reducible refine balloc ?_ _) | (with_reducible refine bset ?_ _ ?_ _) | (with_reducible refine Below.drew ?_) | (with_reducible refine bdrewN ?_ _) | (with_reducible refine bvia (by assumption) ?_) | (with_reducible refine Below.trans ?_ (by assumption)) | omega | (simp; omega) | (simp; done)))
  obtain ⟨z1, z2, l1, y1⟩ := co2.u.at_ (i := k) (by omega)
  obtain ⟨z3, z4, l2, y2⟩ := co2.d.at_ (i := k) (by omega)
  obtain ⟨z5, z6, l3, y3⟩ := co2.c.at_ (i := k) (by omega)
  have CO2 := Lib.hid (co2.lower (b := w.heap.size + 2) (by omega))
  clear co2 z1 z2 z3 z4
  have d1 : ¬ g3 = w2.heap.size := by omega
  have d2 : ¬ w2.heap.size = g3 := by omega
  have d3 : ¬ g3 = w.heap.size := by omega
  have d4 : ¬ w.heap.size = g3 := by omega
  have d5 : ¬ g3 = w.heap.size + 1 := by omega
  have d6 : ¬ w.heap.size + 1 = g3 := by omega
  have CO3 := Lib.hid ((CO2.out.putC (i := k) (by omega) true).alloc (.cells #[.slice (some ⟨g1, 0, none⟩) n k1, .slice (some ⟨g2, 0, none⟩) n k2, .slice (some ⟨g3, 0, none⟩) n k3] 34))
  have VS := cv_spec (some ⟨g1, 0, none⟩) n k1 us (some ⟨g2, 0, none⟩) n k2 ds (some ⟨g3, 0, none⟩) n k3 (cs.set k true) _ CO3.out.bc
  obtain ⟨b, hbv⟩ : ∃ b, cvB us ds (cs.set k true) = b := ⟨_, rfl⟩
  rw [hbv] at VS
  have HBV := Lib.hid hbv
  clear hbv
  go_wp2_with (go_at_call 22; refine (HL.out _).mono ?_; rintro e w' ⟨rfl, rfl⟩)
  refine VS.mono ?_
  rintro e w3 ⟨rfl, hbw3⟩
  obtain ⟨hcw3, hfw3, -, -, -, hsw3⟩ := bfacts5 hbw3
  simp at hsw3
  have CO4 := Lib.hid (CO3.out.below hbw3)
  have B3 : Below w.heap.size w w3 := by (repeat' (first | (with_reducible exact Below.refl _ _) | (with_reducible assumption) | (with_reducible exact bundrew (by assumption)) | (with_reducible refine balloc ?_ _) | (with_reducible refine bset ?_ _ ?_ _) | (with_reducible refine Below.drew ?_) | (with_reducible refine bdrewN ?_ _) | (with_reducible refine bvia (by assumption) ?_) | (with_reducible refine Below.trans ?_ (by assumption)) | omega | (simp; omega) | (simp; done)))
  have q30 : w.heap.size < w3.heap.size := by omega
  have q31 : w.heap.size + 1 < w3.heap.size := by omega
  have q32 : w2.heap.size < w3.heap.size := by omega
  have r30 : ∀ m : Nat, w.heap.size < w3.heap.size + m := fun m => by omega
  have r31 : ∀ m : Nat, w.heap.size + 1 < w3.heap.size + m := fun m => by omega
  cases b
  · go_wp2_with fail
    refine (HCp.out _ B3).mono ?_
    rintro e w4 ⟨u1, u2, u3, rfl, co4, hbw4⟩
    obtain ⟨hcw4, hfw4, -, -, -, hsw4⟩ := bfacts5 hbw4
    try simp only [World.size_drew] at hcw4 hfw4
    try simp at hsw4
    have qw40 : w.heap.size < w4.heap.size := (by omega)
    have rw40 : ∀ m : Nat, w.heap.size < w4.heap.size + m := fun m => (by omega)
    have qw41 : w.heap.size + 1 < w4.heap.size := (by omega)
    have rw41 : ∀ m : Nat, w.heap.size + 1 < w4.heap.size + m := fun m => (by omega)
    have B4 : Below w.heap.size w w4 := by (repeat' (first | (with_reducible exact Below.refl _ _) | (with_reducible assumption) | (with_reducible exact bundrew (by assumption)) | (with_reducible refine balloc ?_ _) | (with_reducible refine bset ?_ _ ?_ _) | (with_reducible refine Below.drew ?_) | (with_reducible refine bdrewN ?_ _) | (with_reducible refine bvia (by assumption) ?_) | (with_reducible refine Below.trans ?_ (by assumption)) | omega | (simp; omega) | (simp; done)))
    have CO5 := Lib.hid (co4.lower (b := w.heap.size + 2) (by omega))
    obtain ⟨j1, j2, j3, j4, j5, j6, e1, e2, e3, -⟩ := co4.shape
    clear co4
    subst e1 e2 e3
    have CO6 := CO5.out
    rw [hl1, hl2, hl3] at CO6
    have HCO6 := Lib.hid CO6
    clear CO6
    go_wp2
    refine bodyPost_ret (by simp [results, Try.results47, go_sem, *]; try rfl) rfl ?_
    refine ⟨_, _, _, us, ds, cs, false, rfl, ?_, by (repeat' (first | (with_reducible exact Below.refl _ _) | (with_reducible assumption) | (with_reducible exact bundrew (by assumption)) | (with_reducible refine balloc ?_ _) | (with_reducible refine bset ?_ _ ?_ _) | (with_reducible refine Below.drew ?_) | (with_reducible refine bdrewN ?_ _) | (with_reducible refine bvia (by assumption) ?_) | (with_reducible refine Below.trans ?_ (by assumption)) | omega | (simp; omega) | (simp; done))), fun h => by cases h⟩
    have O : ∀ (v : Value) (xs : List Bool) (q : Addr), OwnB w4 (w.heap.size + 2) v xs → q.block = w.heap.size + 1 → v.ownBlock ≠ some q.block := fun v xs q ho hq e => by have := ho.block _ e; omega
    repeat refine CO.fixed ?_ _ (O _ _ _ HCO6.out.u rfl) (O _ _ _ HCO6.out.d rfl) (O _ _ _ HCO6.out.c rfl) _
    exact HCO6.out
  · go_wp2
    refine bodyPost_ret (by simp [results, Try.results47, go_sem, *]; try rfl) rfl ?_
    refine ⟨_, _, _, us, ds, (cs.set k true), true, rfl, ?_, by (repeat' (first | (with_reducible exact Below.refl _ _) | (with_reducible assumption) | (with_reducible exact bundrew (by assumption)) | (with_reducible refine balloc ?_ _) | (with_reducible refine bset ?_ _ ?_ _) | (with_reducible refine Below.drew ?_) | (with_reducible refine bdrewN ?_ _) | (with_reducible refine bvia (by assumption) ?_) | (with_reducible refine Below.trans ?_ (by assumption)) | omega | (simp; omega) | (simp; done))), fun _ => ⟨HBV.out, hl1⟩⟩
    have O : ∀ (v : Value) (xs : List Bool) (q : Addr), OwnB w3 (w.heap.size + 2) v xs → q.block = w.heap.size + 1 → v.ownBlock ≠ some q.block := fun v xs q ho hq e => by have := ho.block _ e; omega
    repeat refine CO.fixed ?_ _ (O _ _ _ CO4.out.u rfl) (O _ _ _ CO4.out.d rfl) (O _ _ _ CO4.out.c rfl) _
    exact CO4.out
end Go.Proofs.Ytmoifakcjmdghaa
