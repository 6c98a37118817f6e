/- Two drawn fractions; the walk of the law FnFracLess. -/
import Derived.Test.YtkhooomjfjancaaFracE
namespace Go.Proofs.Ytkhooomjfjancaa
open Go.ChangeShapes Go.WideShapes Go.ChangeAt Go.RowKit

theorem Bytes.alloc {w : World} {A : Option Addr} {n c : Nat} {f : Nat → Int} (h : Bytes w A n c f) (o : Obj) : Bytes (w.alloc o) A n c f := h.keep (by simp) (fun p hp => World.cell?_alloc_lt _ _ _ hp)

/-- Two drawn fractions, in new memory. -/
def FracsDrawn (w : World) (e : Ending) (w' : World) : Prop := ∃ a b c d : Int, e = .returned (.tuple #[.agg #[.int .i64 a, .int .i64 b], .agg #[.int .i64 c, .int .i64 d]]) ∧ Below w.heap.size w w'

set_option maxHeartbeats 2000000 in
theorem drawFracLess_any (A : Option Addr) (n c : Nat) (g : Nat → Int) (w : World) (h : Bytes w A n c g) : Calls Try.prog 23 #[.slice A n c] w (FracsDrawn w) := by
  go_enter Try.func23, Try.ntmps23
  go_wp2_with fail
  refine (open_any A n c g _ ((h.alloc _).alloc _)).mono ?_
  rintro e w1 ⟨rfl, hb1, rd1⟩
  simp only [World.size_alloc] at rd1
  obtain ⟨c1, f1, z1, y1, x1, s1⟩ := bfacts5 hb1
  simp at s1
  have q0 : w.heap.size < w1.heap.size := by omega
  have q1 : w.heap.size + 1 < w1.heap.size := by omega
  go_wp2_with fail
  refine (l20Frac_any (w.heap.size + 1 + 1) 0 _ rd1 (by omega)).mono ?_
  rintro e w2 ⟨x, y, rfl, x0, x1', y0, y1', ow2, rd2⟩
  obtain ⟨cw20, fw20, zw20, yw20, xw20, vw20⟩ := only_facts ow2 (w.heap.size) (by first | omega | (simp; omega) | (simp; done)) (by omega)
  obtain ⟨cw21, fw21, zw21, yw21, xw21, vw21⟩ := only_facts ow2 (w.heap.size + 1) (by first | omega | (simp; omega) | (simp; done)) (by omega)
  have sw2 := only_size ow2
  try simp at sw2
  have k0 : w2.cell? ⟨w.heap.size, 0, none⟩ = some (.int .i64 0) := by rw [cw20, c1 _ _ (by simp; omega)]; go_simp
  have k1 : w2.cell? ⟨w.heap.size, 1, none⟩ = some (.int .i64 0) := by rw [cw20, c1 _ _ (by simp; omega)]; go_simp
  have k3 : w2.cell? ⟨w.heap.size + 1, 0, none⟩ = some (.int .i64 0) := by rw [cw21, c1 _ _ (by simp)]; go_simp
  have k4 : w2.cell? ⟨w.heap.size + 1, 1, none⟩ = some (.int .i64 0) := by rw [cw21, c1 _ _ (by simp)]; go_simp
  have n0 : ∀ o, w2.frozen? ⟨w.heap.size, o, none⟩ = false := fun o => by rw [fw20, f1 _ _ (by simp; omega)]; go_simp
  have n1 : ∀ o, w2.frozen? ⟨w.heap.size + 1, o, none⟩ = false := fun o => by rw [fw21, f1 _ _ (by simp)]; go_simp
  clear cw20 fw20 cw21 fw21 c1 f1
  go_wp2_with fail
  refine (l20Frac_any (w.heap.size + 1 + 1) 4 _ rd2 (by omega)).mono ?_
  rintro e w3 ⟨x', y', rfl, x0', x1'', y0', y1'', ow3, rd3⟩
  obtain ⟨cw30, fw30, zw30, yw30, xw30, vw30⟩ := only_facts ow3 (w.heap.size) (by first | omega | (simp; omega) | (simp; done)) (by omega)
  obtain ⟨cw31, fw31, zw31, yw31, xw31, vw31⟩ := only_facts ow3 (w.heap.size + 1) (by first | omega | (simp; omega) | (simp; done)) (by omega)
  have sw3 := only_size ow3
  try simp at sw3
  go_wp2_with fail
  refine (pick_any (w.heap.size + 1 + 1) 8 4 _ rd3 (by omega) (by omega) (by omega)).mono ?_
  rintro e w4 ⟨a4, rfl, a40, a41, ow4, rd4⟩
  obtain ⟨cw40, fw40, zw40, yw40, xw40, vw40⟩ := only_facts ow4 (w.heap.size) (by first | omega | (simp; omega) | (simp; done)) (by omega)
  obtain ⟨cw41, fw41, zw41, yw41, xw41, vw41⟩ := only_facts ow4 (w.heap.size + 1) (by first | omega | (simp; omega) | (simp; done)) (by omega)
  have sw4 := only_size ow4
  try simp at sw4
  rcases beq_or a4 0 with ⟨e1, g1⟩ | ⟨e1, g1⟩
  all_goals
    clear g1
    go_wp2
    refine bodyPost_ret (by simp [results, Try.results23, go_sem, *]; try rfl) rfl ?_
    exact ⟨_, _, _, _, rfl, by (repeat' (first | (with_reducible exact Below.refl _ _) | (with_reducible assumption) | (with_reducible exact bundrew (by assumption)) | (with_reducible refine balloc ?_ _) | (with_reducible refine bset ?_ _ ?_ _) | (with_reducible refine Below.drew ?_) | (with_reducible refine bdrewN ?_ _) | (with_reducible refine bonly (by assumption) ?_ ?_) | (with_reducible refine bvia (by assumption) ?_) | (with_reducible refine Below.trans ?_ (by assumption)) | omega | (simp; omega) | (simp; done)))⟩

theorem fless_case {a b c d : Int} (h1 : fracOk a b) (h2 : fracOk c d) : ∃ P Q R S : Nat, fracT a b = ((P : Int), (Q : Int), true) ∧ fracT c d = ((R : Int), (S : Int), true) ∧ flessB a b a b = false ∧
    ((flessB a b c d = true ∧ flessB c d a b = false ∧ ¬ (P = R ∧ Q = S)) ∨ (flessB a b c d = false ∧ flessB c d a b = true ∧ ¬ (P = R ∧ Q = S)) ∨ (flessB a b c d = false ∧ flessB c d a b = false ∧ P = R ∧ Q = S)) := by
  have e1 := fracT_low h1
  have e2 := fracT_low h2
  have b1 : fokB a b = true := by simp [fokB, h1]
  have b2 : fokB c d = true := by simp [fokB, h2]
  have hx := FP.low_iff (n := a.toNat) (d := b.toNat) (m := c.toNat) (e := d.toNat) (by have := h1.2.2.1; omega) (by have := h2.2.2.1; omega)
  obtain ⟨p1, p2, p3, p4⟩ := h1
  obtain ⟨q1, q2, q3, q4⟩ := h2
  have hc : a.toNat * d.toNat = c.toNat * b.toNat ↔ a * d = c * b := by
    have r1 : (a.toNat : Int) = a := by omega
    have r2 : (b.toNat : Int) = b := by omega
    have r3 : (c.toNat : Int) = c := by omega
    have r4 : (d.toNat : Int) = d := by omega
    rw [← r1, ← r2, ← r3, ← r4, ← Int.natCast_mul, ← Int.natCast_mul, Int.toNat_natCast, Int.toNat_natCast, Int.toNat_natCast, Int.toNat_natCast]
    exact ⟨fun h => by rw [h], fun h => by exact_mod_cast h⟩
  rw [hc] at hx
  refine ⟨_, _, _, _, e1, e2, by rw [fless_yes b1 b1]; simp, ?_⟩
  rw [fless_yes b1 b2, fless_yes b2 b1]
  have hp : (FP.low a.toNat b.toNat = FP.low c.toNat d.toNat) ↔ ((FP.low a.toNat b.toNat).1 = (FP.low c.toNat d.toNat).1 ∧ (FP.low a.toNat b.toNat).2 = (FP.low c.toNat d.toNat).2) := Prod.ext_iff
  rw [hp] at hx
  rcases Int.lt_trichotomy (a * d) (c * b) with h | h | h
  · exact .inl ⟨by simpa using h, by simp; omega, fun hh => by have := hx.1 hh; omega⟩
  · exact .inr (.inr ⟨by simp; omega, by simp; omega, hx.2 h⟩)
  · exact .inr (.inl ⟨by simp; omega, by simpa using h, fun hh => by have := hx.1 hh; omega⟩)

set_option maxRecDepth 100000 in
set_option maxHeartbeats 8000000 in
theorem walk_FnFracLess (A : Option Addr) (n c : Nat) (g : Nat → Int) (w : World) (hB : Bytes w A n c g) : Calls Try.prog 8 #[.slice A n c] w fun e w' => e = .returned (.bool true) ∧ Below w.heap.size w w' := by
  by_cases hn : 1048576 < n
  · have hn' : (1048576 : Int) < (n : Int) := by omega
    go_enter Try.func8, Try.ntmps8
    go_wp2
    go_ret
    exact ⟨rfl, by (repeat' (first | (with_reducible exact Below.refl _ _) | (with_reducible assumption) | (with_reducible exact bundrew (by assumption)) | (with_reducible refine balloc ?_ _) | (with_reducible refine bset ?_ _ ?_ _) | (with_reducible refine Below.drew ?_) | (with_reducible refine bdrewN ?_ _) | (with_reducible refine bvia (by assumption) ?_) | (with_reducible refine Below.trans ?_ (by assumption)) | omega | (simp; omega) | (simp; done)))⟩
  · have hn' : (n : Int) ≤ 1048576 := by omega
    go_enter Try.func8, Try.ntmps8
    go_wp2_with fail
    refine (drawFracLess_any A n c g _ hB).mono ?_
    rintro x wd ⟨a, b, c, d, rfl, hbd⟩
    have T1 := fun w => frac_impl a b w
    have T2 := fun w => frac_impl c d w
    go_wp2_with fail
    refine (fless_impl a b c d _).mono ?_
    rintro e w1 ⟨rfl, hbw1⟩
    obtain ⟨hcw1, hfw1, -, -, -, hsw1⟩ := bfacts5 hbw1
    try simp only [World.size_drew] at hcw1 hfw1
    try simp at hsw1
    have qw10 : wd.heap.size < w1.heap.size := (by omega)
    have rw10 : ∀ m : Nat, wd.heap.size < w1.heap.size + m := fun m => (by omega)
    have qw11 : wd.heap.size + 1 < w1.heap.size := (by omega)
    have rw11 : ∀ m : Nat, wd.heap.size + 1 < w1.heap.size + m := fun m => (by omega)
    go_wp2_with fail
    refine (fless_spec a b c d _).mono ?_
    rintro e w2 ⟨rfl, hbw2⟩
    obtain ⟨hcw2, hfw2, -, -, -, hsw2⟩ := bfacts5 hbw2
    try simp only [World.size_drew] at hcw2 hfw2
    try simp at hsw2
    have qw20 : wd.heap.size < w2.heap.size := (by omega)
    have rw20 : ∀ m : Nat, wd.heap.size < w2.heap.size + m := fun m => (by omega)
    have qw21 : wd.heap.size + 1 < w2.heap.size := (by omega)
    have rw21 : ∀ m : Nat, wd.heap.size + 1 < w2.heap.size + m := fun m => (by omega)
    by_cases h1 : fracOk a b
    · by_cases h2 : fracOk c d
      · obtain ⟨P, Q, R, S, e1, e2, s0, hc⟩ := fless_case h1 h2
        simp only [e1] at T1
        simp only [e2] at T2
        have H1 := Lib.hid T1
        have H2 := Lib.hid T2
        clear T1 T2 e1 e2 h1 h2
        have hd : (flessB a b c d = true ∧ flessB c d a b = false ∧ ¬ (P : Int) = (R : Int)) ∨ (flessB a b c d = true ∧ flessB c d a b = false ∧ P = R ∧ ¬ (Q : Int) = (S : Int)) ∨ (flessB a b c d = false ∧ flessB c d a b = true ∧ 0 = 0) ∨ (flessB a b c d = false ∧ flessB c d a b = false ∧ P = R ∧ Q = S) := by
          rcases hc with ⟨x1, x2, x3⟩ | ⟨x1, x2, x3⟩ | ⟨x1, x2, x3, x4⟩
          · by_cases hp : P = R
            · exact .inr (.inl ⟨x1, x2, hp, by omega⟩)
            · exact .inl ⟨x1, x2, by omega⟩
          · exact .inr (.inr (.inl ⟨x1, x2, rfl⟩))
          · exact .inr (.inr (.inr ⟨x1, x2, x3, x4⟩))
        clear hc
        rcases hd with ⟨x1, x2, x3⟩ | ⟨x1, x2, rfl, x4⟩ | ⟨x1, x2, -⟩ | ⟨x1, x2, rfl, rfl⟩
        all_goals
          go_wp2_with fail
          refine (H1.out _).mono ?_
          rintro e w3 ⟨rfl, hbw3⟩
          obtain ⟨hcw3, hfw3, -, -, -, hsw3⟩ := bfacts5 hbw3
          try simp only [World.size_drew] at hcw3 hfw3
          try simp at hsw3
          have qw30 : wd.heap.size < w3.heap.size := (by omega)
          have rw30 : ∀ m : Nat, wd.heap.size < w3.heap.size + m := fun m => (by omega)
          have qw31 : wd.heap.size + 1 < w3.heap.size := (by omega)
          have rw31 : ∀ m : Nat, wd.heap.size + 1 < w3.heap.size + m := fun m => (by omega)
          go_wp2_with fail
          refine (H2.out _).mono ?_
          rintro e w4 ⟨rfl, hbw4⟩
          obtain ⟨hcw4, hfw4, -, -, -, hsw4⟩ := bfacts5 hbw4
          try simp only [World.size_drew] at hcw4 hfw4
          try simp at hsw4
          have qw40 : wd.heap.size < w4.heap.size := (by omega)
          have rw40 : ∀ m : Nat, wd.heap.size < w4.heap.size + m := fun m => (by omega)
          have qw41 : wd.heap.size + 1 < w4.heap.size := (by omega)
          have rw41 : ∀ m : Nat, wd.heap.size + 1 < w4.heap.size + m := fun m => (by omega)
          have qw42 : w3.heap.size < w4.heap.size := (by omega)
          have rw42 : ∀ m : Nat, w3.heap.size < w4.heap.size + m := fun m => (by omega)
          go_wp2_with fail
          refine (fless_impl c d a b _).mono ?_
          rintro e w5 ⟨rfl, hbw5⟩
          obtain ⟨hcw5, hfw5, -, -, -, hsw5⟩ := bfacts5 hbw5
          try simp only [World.size_drew] at hcw5 hfw5
          try simp at hsw5
          have qw50 : wd.heap.size < w5.heap.size := (by omega)
          have rw50 : ∀ m : Nat, wd.heap.size < w5.heap.size + m := fun m => (by omega)
          have qw51 : wd.heap.size + 1 < w5.heap.size := (by omega)
          have rw51 : ∀ m : Nat, wd.heap.size + 1 < w5.heap.size + m := fun m => (by omega)
          have qw52 : w3.heap.size < w5.heap.size := (by omega)
          have rw52 : ∀ m : Nat, w3.heap.size < w5.heap.size + m := fun m => (by omega)
          have qw53 : w4.heap.size < w5.heap.size := (by omega)
          have rw53 : ∀ m : Nat, w4.heap.size < w5.heap.size + m := fun m => (by omega)
          go_wp2_with (first | (go_at_call 16; go_must (refine (fless_impl a b a b _).mono ?_; rintro e w1 ⟨rfl, hbw1⟩; obtain ⟨hcw1, hfw1, -, -, -, hsw1⟩ := bfacts5 hbw1; (try simp only [World.size_drew] at hcw1 hfw1); (try simp at hsw1); have qw10 : wd.heap.size < w1.heap.size := (by omega); have rw10 : ∀ m : Nat, wd.heap.size < w1.heap.size + m := fun m => (by omega); have qw11 : wd.heap.size + 1 < w1.heap.size := (by omega); have rw11 : ∀ m : Nat, wd.heap.size + 1 < w1.heap.size + m := fun m => (by omega); have qw12 : w3.heap.size < w1.heap.size := (by omega); have rw12 : ∀ m : Nat, w3.heap.size < w1.heap.size + m := fun m => (by omega); have qw13 : w4.heap.size < w1.heap.size := (by omega); have rw13 : ∀ m : Nat, w4.heap.size < w1.heap.size + m := fun m => (by omega))))
          go_ret
          exact ⟨rfl, by (repeat' (first | (with_reducible exact Below.refl _ _) | (with_reducible assumption) | (with_reducible exact bundrew (by assumption)) | (with_reducible refine balloc ?_ _) | (with_reducible refine bset ?_ _ ?_ _) | (with_reducible refine Below.drew ?_) | (with_reducible refine bdrewN ?_ _) | (with_reducible refine bvia (by assumption) ?_) | (with_reducible refine Below.trans ?_ (by assumption)) | omega | (simp; omega) | (simp; done)))⟩
      · have s1 : flessB a b c d = false := fless_no (fun h => h2 (fok_open h.2))
        obtain ⟨P, Q, e1, _⟩ := frac_law h1
        simp only [e1] at T1
        simp only [fracT_no h2] at T2
        have H1 := Lib.hid T1
        have H2 := Lib.hid T2
        clear T1 T2 e1 h1 h2
        go_wp2_with fail
        refine (H1.out _).mono ?_
        rintro e w3 ⟨rfl, hbw3⟩
        obtain ⟨hcw3, hfw3, -, -, -, hsw3⟩ := bfacts5 hbw3
        try simp only [World.size_drew] at hcw3 hfw3
        try simp at hsw3
        have qw30 : wd.heap.size < w3.heap.size := (by omega)
        have rw30 : ∀ m : Nat, wd.heap.size < w3.heap.size + m := fun m => (by omega)
        have qw31 : wd.heap.size + 1 < w3.heap.size := (by omega)
        have rw31 : ∀ m : Nat, wd.heap.size + 1 < w3.heap.size + m := fun m => (by omega)
        go_wp2_with fail
        refine (H2.out _).mono ?_
        rintro e w4 ⟨rfl, hbw4⟩
        obtain ⟨hcw4, hfw4, -, -, -, hsw4⟩ := bfacts5 hbw4
        try simp only [World.size_drew] at hcw4 hfw4
        try simp at hsw4
        have qw40 : wd.heap.size < w4.heap.size := (by omega)
        have rw40 : ∀ m : Nat, wd.heap.size < w4.heap.size + m := fun m => (by omega)
        have qw41 : wd.heap.size + 1 < w4.heap.size := (by omega)
        have rw41 : ∀ m : Nat, wd.heap.size + 1 < w4.heap.size + m := fun m => (by omega)
        have qw42 : w3.heap.size < w4.heap.size := (by omega)
        have rw42 : ∀ m : Nat, w3.heap.size < w4.heap.size + m := fun m => (by omega)
        go_wp2_with (go_at_call 22; refine (alive_any _).mono ?_; rintro x w5 ⟨rfl, hb5⟩)
        go_ret
        exact ⟨rfl, by (repeat' (first | (with_reducible exact Below.refl _ _) | (with_reducible assumption) | (with_reducible exact bundrew (by assumption)) | (with_reducible refine balloc ?_ _) | (with_reducible refine bset ?_ _ ?_ _) | (with_reducible refine Below.drew ?_) | (with_reducible refine bdrewN ?_ _) | (with_reducible refine bvia (by assumption) ?_) | (with_reducible refine Below.trans ?_ (by assumption)) | omega | (simp; omega) | (simp; done)))⟩
    · have s1 : flessB a b c d = false := fless_no (fun h => h1 (fok_open h.1))
      simp only [fracT_no h1] at T1
      obtain ⟨u, hu⟩ : ∃ u, fracT c d = u := ⟨_, rfl⟩
      simp only [hu] at T2
      obtain ⟨u1, u2, u3⟩ := u
      have H1 := Lib.hid T1
      have H2 := Lib.hid T2
      clear T1 T2 h1 hu
      go_wp2_with fail
      refine (H1.out _).mono ?_
      rintro e w3 ⟨rfl, hbw3⟩
      obtain ⟨hcw3, hfw3, -, -, -, hsw3⟩ := bfacts5 hbw3
      try simp only [World.size_drew] at hcw3 hfw3
      try simp at hsw3
      have qw30 : wd.heap.size < w3.heap.size := (by omega)
      have rw30 : ∀ m : Nat, wd.heap.size < w3.heap.size + m := fun m => (by omega)
      have qw31 : wd.heap.size + 1 < w3.heap.size := (by omega)
      have rw31 : ∀ m : Nat, wd.heap.size + 1 < w3.heap.size + m := fun m => (by omega)
      go_wp2_with fail
      refine (H2.out _).mono ?_
      rintro e w4 ⟨rfl, hbw4⟩
      obtain ⟨hcw4, hfw4, -, -, -, hsw4⟩ := bfacts5 hbw4
      try simp only [World.size_drew] at hcw4 hfw4
      try simp at hsw4
      have qw40 : wd.heap.size < w4.heap.size := (by omega)
      have rw40 : ∀ m : Nat, wd.heap.size < w4.heap.size + m := fun m => (by omega)
      have qw41 : wd.heap.size + 1 < w4.heap.size := (by omega)
      have rw41 : ∀ m : Nat, wd.heap.size + 1 < w4.heap.size + m := fun m => (by omega)
      have qw42 : w3.heap.size < w4.heap.size := (by omega)
      have rw42 : ∀ m : Nat, w3.heap.size < w4.heap.size + m := fun m => (by omega)
      go_wp2_with (go_at_call 22; refine (alive_any _).mono ?_; rintro x w5 ⟨rfl, hb5⟩)
      go_ret
      exact ⟨rfl, by (repeat' (first | (with_reducible exact Below.refl _ _) | (with_reducible assumption) | (with_reducible exact bundrew (by assumption)) | (with_reducible refine balloc ?_ _) | (with_reducible refine bset ?_ _ ?_ _) | (with_reducible refine Below.drew ?_) | (with_reducible refine bdrewN ?_ _) | (with_reducible refine bvia (by assumption) ?_) | (with_reducible refine Below.trans ?_ (by assumption)) | omega | (simp; omega) | (simp; done)))⟩
end Go.Proofs.Ytkhooomjfjancaa
