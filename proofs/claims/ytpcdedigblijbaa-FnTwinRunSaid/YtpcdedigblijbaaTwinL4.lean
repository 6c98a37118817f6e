/- The walk of the law FnTwinRun. -/
import Derived.Test.YtpcdedigblijbaaTwinJ4
namespace Go.Proofs.Ytpcdedigblijbaa
open Go.ChangeShapes Go.WideShapes Go.ChangeAt Go.RowKit

theorem tdoT_keeps {f l h c t : Int} (hv : tvB f l h = true) : (tdoT f l h c t).1 = f ∧ tvB (tdoT f l h c t).1 (tdoT f l h c t).2.1 (tdoT f l h c t).2.2.1 = true := by
  unfold tdoT
  rw [if_pos hv]
  by_cases h1 : c = 0 ∧ tvB f t h = true
  · rw [if_pos h1]; exact ⟨rfl, h1.2⟩
  · rw [if_neg h1]
    by_cases h2 : c = 1 ∧ tvB f l t = true
    · rw [if_pos h2]; exact ⟨rfl, h2.2⟩
    · rw [if_neg h2]; exact ⟨rfl, hv⟩
theorem trS_keeps {f l h : Int} (xs : List (Int × Int)) (hv : tvB f l h = true) : ∀ k, (trS f l h xs k).1 = f ∧ tvB (trS f l h xs k).1 (trS f l h xs k).2.1 (trS f l h xs k).2.2 = true
  | 0 => ⟨rfl, hv⟩
  | k + 1 => by
    obtain ⟨h1, h2⟩ := trS_keeps xs hv k
    rw [trS_succ]
    have := tdoT_keeps (c := px xs k) (t := py xs k) h2
    exact ⟨this.1.trans h1, this.2⟩
theorem trS_take {f l h : Int} (xs : List (Int × Int)) (m : Nat) : ∀ k, k ≤ m → trS f l h (xs.take m) k = trS f l h xs k
  | 0, _ => rfl
  | k + 1, hk => by
    rw [trS_succ, trS_succ, trS_take xs m k (by omega)]
    have e : (xs.take m)[k]? = xs[k]? := by rw [List.getElem?_take, if_pos (by omega)]
    simp only [px, py, e]
theorem trS_drop {f l h : Int} (xs : List (Int × Int)) (m : Nat) : ∀ k, trS (trS f l h xs m).1 (trS f l h xs m).2.1 (trS f l h xs m).2.2 (xs.drop m) k = trS f l h xs (m + k)
  | 0 => rfl
  | k + 1 => by
    rw [← Nat.add_assoc, trS_succ, trS_succ, trS_drop xs m k]
    have e : (xs.drop m)[k]? = xs[m + k]? := by rw [List.getElem?_drop]
    simp only [px, py, e]
theorem Pairs.take {w : World} {A : Option Addr} {n : Nat} {xs : List (Int × Int)} (h : Pairs w A n xs) (k : Nat) (hk : k ≤ n) : Pairs w A k (xs.take k) := by
  obtain ⟨h1, h2, h3⟩ := h
  refine ⟨by simp; omega, by omega, fun h0 => ?_⟩
  obtain ⟨b, off, hA, hb, hc⟩ := h3 (by omega)
  refine ⟨b, off, hA, hb, fun j hj => ?_⟩
  have e : (xs.take k)[j]? = xs[j]? := by rw [List.getElem?_take, if_pos hj]
  simp only [px, py, e]
  exact hc j (by omega)
theorem Pairs.drop {w : World} {A : Option Addr} {n : Nat} {xs : List (Int × Int)} (h : Pairs w A n xs) (k : Nat) (hk : k ≤ n) : Pairs w (Option.map (fun x => x.add (k * 2)) A) (n - k) (xs.drop k) := by
  obtain ⟨h1, h2, h3⟩ := h
  refine ⟨by simp; omega, by omega, fun h0 => ?_⟩
  obtain ⟨b, off, rfl, hb, hc⟩ := h3 (by omega)
  refine ⟨b, off + k * 2, by
    simp only [Option.map_some, Addr.add]
    split <;> simp [*], hb, fun j hj => ?_⟩
  have e : (xs.drop k)[j]? = xs[k + j]? := by rw [List.getElem?_drop]
  have := hc (k + j) (by omega)
  simp only [px, py, e]
  rw [show off + k * 2 + j * 2 = off + (k + j) * 2 by omega]
  exact this
theorem Pairs.none0 {w : World} {A : Option Addr} {n : Nat} {xs : List (Int × Int)} {k : Nat} (h : xs.length = n) (hk : n ≤ k) : Pairs w A 0 (xs.drop k) :=
  ⟨by simp; omega, by omega, fun h0 => by omega⟩
theorem Pairs.none' {w : World} {A : Option Addr} {n : Nat} {xs : List (Int × Int)} {k : Nat} (h : xs.length = n) (hk : n ≤ k) : Pairs w A (n - k) (xs.drop k) :=
  ⟨by simp; omega, by omega, fun h0 => by omega⟩

structure HeldPB (w0 : World) (A1 : Option Addr) (n1 : Nat) (xs : List (Int × Int)) (w' : World) : Prop where
  p : Pairs w' A1 n1 xs
  b : Below w0.heap.size w0 w'
theorem HeldPB.then {w0 W w' : World} {A1 : Option Addr} {n1 : Nat} {xs : List (Int × Int)} (hb : Below W.heap.size W w') (h : HeldPB w0 A1 n1 xs W) : HeldPB w0 A1 n1 xs w' := ⟨h.p.below hb, bvia hb h.b⟩
theorem HeldPB.drew {w0 W : World} {A1 : Option Addr} {n1 : Nat} {xs : List (Int × Int)} (h : HeldPB w0 A1 n1 xs W) : HeldPB w0 A1 n1 xs W.drew := ⟨h.p.below ((Below.refl _ W).drew), h.b.drew⟩

set_option maxRecDepth 100000 in
set_option maxHeartbeats 8000000 in
theorem walk_FnTwinRun (A : Option Addr) (n c : Nat) (g : Nat → Int) (w : World) (hB : Bytes w A n c g) : Calls Try.prog 11 #[.slice A n c] w fun e w' => e = .returned (.bool true) ∧ Below w.heap.size w w' := by
  by_cases hn : 1048576 < n
  · have hn' : (1048576 : Int) < (n : Int) := by omega
    go_enter Try.func11, Try.ntmps11
    go_wp2
    go_ret
    exact ⟨rfl, by (repeat' (first | (with_reducible exact Below.refl _ _) | (with_reducible assumption) | (with_reducible exact bundrew (by assumption)) | (with_reducible refine balloc ?_ _) | (with_reducible refine bset ?_ _ ?_ _) | (with_reducible refine Below.drew ?_) | (with_reducible refine bdrewN ?_ _) | (with_reducible refine bvia (by assumption) ?_) | (with_reducible refine Below.trans ?_ (by assumption)) | omega | (simp; omega) | (simp; done)))⟩
  · have hn' : (n : Int) ≤ 1048576 := by omega
    go_enter Try.func11, Try.ntmps11
    go_wp2_with fail
    refine (drawTwinRun_any A n c g _ hB).mono ?_
    rintro x wd ⟨f, l, h, A1, c1, xs, rfl, hc1, hc2, I1, h15, hbd⟩
    have TI := fun A n c w hP => trun_impl f l h A n c xs w hP
    have TS := fun A n c w hP => trun_spec f l h A n c xs w hP
    obtain ⟨n1, hn1⟩ : ∃ n1, xs.length = n1 := ⟨_, rfl⟩
    have HN1 := Lib.hid hn1
    rw [hn1] at I1 hc1 h15 ⊢
    have h15' : (n1 : Int) ≤ 15 := by omega
    by_cases hv : tvB f l h = true
    · obtain ⟨r, hr⟩ : ∃ r, trunT f l h xs = r := ⟨_, rfl⟩
      rw [hr] at TI TS
      have hr2 := (trunT_yes hv hn1).symm.trans hr
      obtain ⟨k1, k2⟩ := trS_keeps xs hv n1
      rw [hr2] at k1 k2
      obtain ⟨s, hs⟩ : ∃ s, trS f l h xs (n1 / 2) = s := ⟨_, rfl⟩
      have T1 := fun A c w hP => trun_impl f l h A (n1 / 2) c (xs.take (n1 / 2)) w hP
      have e1 : trunT f l h (xs.take (n1 / 2)) = s := by rw [trunT_yes hv (n := n1 / 2) (by simp; omega), trS_take xs _ _ (Nat.le_refl _), hs]
      rw [e1] at T1
      have T2 := fun A c w hP => trun_impl s.1 s.2.1 s.2.2 A (n1 - n1 / 2) c (xs.drop (n1 / 2)) w hP
      have e2 : trunT s.1 s.2.1 s.2.2 (xs.drop (n1 / 2)) = r := by
        have hvs := (trS_keeps xs hv (n1 / 2)).2
        rw [hs] at hvs
        rw [trunT_yes hvs (n := n1 - n1 / 2) (by simp; omega), ← hs, trS_drop, show n1 / 2 + (n1 - n1 / 2) = n1 by omega, hr2]
      rw [e2] at T2
      obtain ⟨r1, r2, r3⟩ := r
      obtain ⟨s1, s2, s3⟩ := s
      simp only at k1 k2
      subst k1
      obtain ⟨p1, p2, p3, p4, p5⟩ := tv_open k2
      have HI := Lib.hid TI
      have HS := Lib.hid TS
      have H1 := Lib.hid T1
      have H2 := Lib.hid T2
      have hh : (n1 / 2 : Nat) ≤ c1 := by omega
      have hd1 : (n1 : Int).tdiv 2 = ((n1 / 2 : Nat) : Int) := by rw [Int.tdiv_eq_ediv_of_nonneg (by omega)]; exact (Int.natCast_ediv _ _).symm
      have hd2 : (n1 : Int) / 2 = ((n1 / 2 : Nat) : Int) := (Int.natCast_ediv _ _).symm
      obtain ⟨m, hm⟩ : ∃ m, n1 / 2 = m := ⟨_, rfl⟩
      rw [hm] at hd1 hd2 hh H1 H2
      have hmn : m ≤ n1 := by omega
      have hmn' : (m : Int) ≤ (n1 : Int) := by omega
      clear TI TS T1 T2 hr hr2 hs e1 e2 hn1 hm
      go_wp2_with fail
      refine (HI.out _ _ _ _ (I1.below (by (repeat' (first | (with_reducible exact Below.refl _ _) | (with_reducible assumption) | (with_reducible exact bundrew (by assumption)) | (with_reducible refine balloc ?_ _) | (with_reducible refine bset ?_ _ ?_ _) | (with_reducible refine Below.drew ?_) | (with_reducible refine bdrewN ?_ _) | (with_reducible refine bvia (by assumption) ?_) | (with_reducible refine Below.trans ?_ (by assumption)) | omega | (simp; omega) | (simp; done)))))).mono ?_
      rintro e w1 ⟨rfl, hbw1⟩
      obtain ⟨hcw1, hfw1, -, -, -, hsw1⟩ := bfacts5 hbw1
      try simp only [World.size_drew] at hcw1 hfw1
      try simp at hsw1
      have qw10 : wd.heap.size < w1.heap.size := (by omega)
      have rw10 : ∀ m : Nat, wd.heap.size < w1.heap.size + m := fun m => (by omega)
      have J1 : Pairs w1 A1 n1 xs := (I1.below ((Below.refl _ wd).alloc (Nat.le_refl _) _)).below hbw1
      go_wp2_with fail
      have K1 : Pairs (w1.alloc (.cells #[.int .i64 r1, .int .i64 r2, .int .i64 r3] 25)) A1 n1 xs := J1.below ((Below.refl _ w1).alloc (Nat.le_refl _) _)
      go_region_held3 (fun w' => w'.cell? ⟨wd.heap.size, 0, none⟩ = some (.int .i64 r1) ∧ w'.cell? ⟨wd.heap.size, 1, none⟩ = some (.int .i64 l) ∧ w'.cell? ⟨wd.heap.size, 2, none⟩ = some (.int .i64 h) ∧ w'.cell? ⟨w1.heap.size, 0, none⟩ = some (.int .i64 r1) ∧ w'.cell? ⟨w1.heap.size, 1, none⟩ = some (.int .i64 r2) ∧ w'.cell? ⟨w1.heap.size, 2, none⟩ = some (.int .i64 r3) ∧ Pairs w' A1 n1 xs ∧ Below w.heap.size w w' ∧ wd.heap.size < w'.heap.size ∧ w1.heap.size < w'.heap.size) (first | (refine ⟨?_, ?_, ?_, ?_, ?_, ?_, ?_, ?_, ?_, ?_⟩ <;> first | omega | assumption | (refine bvia (by assumption) ?_; first | assumption | (refine Below.drew ?_; assumption) | (refine bdrewN ?_ _; assumption)) | (exact Pairs.below (by assumption) (by assumption)) | (go_simp; done) | (simp; omega) | (repeat' (first | (with_reducible exact Below.refl _ _) | (with_reducible assumption) | (with_reducible exact bundrew (by assumption)) | (with_reducible refine balloc ?_ _) | (with_reducible refine bset ?_ _ ?_ _) | (with_reducible refine Below.drew ?_) | (with_reducible refine bdrewN ?_ _) | (with_reducible refine bvia (by assumption) ?_) | (with_reducible refine Below.trans ?_ (by assumption)) | omega | (simp; omega) | (simp; done)))))
        (first | (go_at_call 30; go_split_ands; refine (HS.out _ _ _ _ (by assumption)).mono ?_; rintro e w2 ⟨rfl, hbw2⟩; obtain ⟨hcw2, hfw2, -, -, -, hsw2⟩ := bfacts5 hbw2))
      go_split_ands
      have J2 : Pairs w2 A1 n1 xs := by assumption
      have BB2 : Below w.heap.size w w2 := by assumption
      have q20 : wd.heap.size < w2.heap.size := by omega
      have q21 : w1.heap.size < w2.heap.size := by omega
      go_wp2_with fail
      refine (tv_spec _ _ _ _).mono ?_
      rintro e w3 ⟨rfl, hbw3⟩
      obtain ⟨hcw3, hfw3, -, -, -, hsw3⟩ := bfacts5 hbw3
      try simp only [World.size_drew] at hcw3 hfw3
      try simp at hsw3
      have qw30 : wd.heap.size < w3.heap.size := (by omega)
      have rw30 : ∀ m : Nat, wd.heap.size < w3.heap.size + m := fun m => (by omega)
      have qw31 : w1.heap.size < w3.heap.size := (by omega)
      have rw31 : ∀ m : Nat, w1.heap.size < w3.heap.size + m := fun m => (by omega)
      have J3 : Pairs w3 A1 n1 xs := J2.below hbw3
      have BB3 : HeldPB w A1 n1 xs w3 := ⟨J3, bvia hbw3 BB2⟩
      clear J3 BB2 J2
      have kp : HeldPB w A1 n1 xs w3.drew := HeldPB.drew BB3
      have k0 : w3.drew.cell? ⟨wd.heap.size, 0, none⟩ = some (.int .i64 r1) := by go_simp
      have k1 : w3.drew.cell? ⟨wd.heap.size, 1, none⟩ = some (.int .i64 l) := by go_simp
      have k2 : w3.drew.cell? ⟨wd.heap.size, 2, none⟩ = some (.int .i64 h) := by go_simp
      have k3 : w3.drew.cell? ⟨w1.heap.size, 0, none⟩ = some (.int .i64 r1) := by go_simp
      have k4 : w3.drew.cell? ⟨w1.heap.size, 1, none⟩ = some (.int .i64 r2) := by go_simp
      have k5 : w3.drew.cell? ⟨w1.heap.size, 2, none⟩ = some (.int .i64 r3) := by go_simp
      have hd3 : decide (r2 < r3) = true := by simpa using p4
      by_cases hcm : c1 = m
      · have hcm' : m = c1 := hcm.symm
        subst hcm'
        clear hcm
        have hnm : n1 - m = 0 := by have := hc1; omega
        rw [hnm] at H2
        go_wp2_with fail
        go_region_held3 (fun w' => w'.cell? ⟨wd.heap.size, 0, none⟩ = some (.int .i64 r1) ∧ w'.cell? ⟨wd.heap.size, 1, none⟩ = some (.int .i64 l) ∧ w'.cell? ⟨wd.heap.size, 2, none⟩ = some (.int .i64 h) ∧ w'.cell? ⟨w1.heap.size, 0, none⟩ = some (.int .i64 r1) ∧ w'.cell? ⟨w1.heap.size, 1, none⟩ = some (.int .i64 r2) ∧ w'.cell? ⟨w1.heap.size, 2, none⟩ = some (.int .i64 r3) ∧ HeldPB w A1 n1 xs w' ∧ wd.heap.size < w'.heap.size ∧ w1.heap.size < w'.heap.size) (first | (refine ⟨?_, ?_, ?_, ?_, ?_, ?_, ?_, ?_, ?_⟩ <;> first | (with_reducible assumption) | (with_reducible refine (id ?_ : (_ : Nat) < _); first | omega | (simp; omega)) | (with_reducible refine HeldPB.then (by with_reducible assumption) ?_; with_reducible assumption) | (with_reducible refine HeldPB.drew ?_; with_reducible assumption) | (with_reducible refine Eq.trans (hcw6 _ _ (by first | omega | (simp; omega))) ?_; with_reducible assumption) | (with_reducible refine Eq.trans (hcw5 _ _ (by first | omega | (simp; omega))) ?_; with_reducible assumption) | (with_reducible refine Eq.trans (hcw4 _ _ (by first | omega | (simp; omega))) ?_; with_reducible assumption) | (go_simp; done)))
          (first
            | (have _t := tokR; go_at_call 32; go_split_ands; refine (H2.out _ _ _ (Pairs.none0 HN1.out (by omega))).mono ?_; rintro e w6 ⟨rfl, hbw6⟩; obtain ⟨hcw6, hfw6, -, -, -, hsw6⟩ := bfacts5 hbw6)
            | (go_at_call 32; go_split_ands; refine (H1.out _ _ _ (Pairs.take (n := n1) (xs := xs) (HeldPB.p (w0 := w) (by assumption)) m hmn)).mono ?_; rintro e w5 ⟨rfl, hbw5⟩; obtain ⟨hcw5, hfw5, -, -, -, hsw5⟩ := bfacts5 hbw5; have tokR : True := trivial)
            | (go_at_call 17; go_split_ands; refine (tv_impl _ _ _ _).mono ?_; rintro e w4 ⟨rfl, hbw4⟩; obtain ⟨hcw4, hfw4, -, -, -, hsw4⟩ := bfacts5 hbw4))
        all_goals go_wp2
        all_goals go_ret
        all_goals exact ⟨rfl, by (repeat' (first | (with_reducible exact Below.refl _ _) | (with_reducible assumption) | (with_reducible exact bundrew (by assumption)) | (with_reducible refine balloc ?_ _) | (with_reducible refine bset ?_ _ ?_ _) | (with_reducible refine Below.drew ?_) | (with_reducible refine bdrewN ?_ _) | (with_reducible refine bvia (by assumption) ?_) | (with_reducible refine Below.trans ?_ (by assumption)) | omega | (simp; omega) | (simp; done)))⟩
      · have hcm' : ¬ m = c1 := fun e => hcm e.symm
        go_wp2_with fail
        go_region_held3 (fun w' => w'.cell? ⟨wd.heap.size, 0, none⟩ = some (.int .i64 r1) ∧ w'.cell? ⟨wd.heap.size, 1, none⟩ = some (.int .i64 l) ∧ w'.cell? ⟨wd.heap.size, 2, none⟩ = some (.int .i64 h) ∧ w'.cell? ⟨w1.heap.size, 0, none⟩ = some (.int .i64 r1) ∧ w'.cell? ⟨w1.heap.size, 1, none⟩ = some (.int .i64 r2) ∧ w'.cell? ⟨w1.heap.size, 2, none⟩ = some (.int .i64 r3) ∧ HeldPB w A1 n1 xs w' ∧ wd.heap.size < w'.heap.size ∧ w1.heap.size < w'.heap.size) (first | (refine ⟨?_, ?_, ?_, ?_, ?_, ?_, ?_, ?_, ?_⟩ <;> first | (with_reducible assumption) | (with_reducible refine (id ?_ : (_ : Nat) < _); first | omega | (simp; omega)) | (with_reducible refine HeldPB.then (by with_reducible assumption) ?_; with_reducible assumption) | (with_reducible refine HeldPB.drew ?_; with_reducible assumption) | (with_reducible refine Eq.trans (hcw6 _ _ (by first | omega | (simp; omega))) ?_; with_reducible assumption) | (with_reducible refine Eq.trans (hcw5 _ _ (by first | omega | (simp; omega))) ?_; with_reducible assumption) | (with_reducible refine Eq.trans (hcw4 _ _ (by first | omega | (simp; omega))) ?_; with_reducible assumption) | (go_simp; done)))
          (first
            | (have _t := tokR; go_at_call 32; go_split_ands; refine (H2.out _ _ _ (Pairs.drop (n := n1) (xs := xs) (HeldPB.p (w0 := w) (by assumption)) m hmn)).mono ?_; rintro e w6 ⟨rfl, hbw6⟩; obtain ⟨hcw6, hfw6, -, -, -, hsw6⟩ := bfacts5 hbw6)
            | (go_at_call 32; go_split_ands; refine (H1.out _ _ _ (Pairs.take (n := n1) (xs := xs) (HeldPB.p (w0 := w) (by assumption)) m hmn)).mono ?_; rintro e w5 ⟨rfl, hbw5⟩; obtain ⟨hcw5, hfw5, -, -, -, hsw5⟩ := bfacts5 hbw5; have tokR : True := trivial)
            | (go_at_call 17; go_split_ands; refine (tv_impl _ _ _ _).mono ?_; rintro e w4 ⟨rfl, hbw4⟩; obtain ⟨hcw4, hfw4, -, -, -, hsw4⟩ := bfacts5 hbw4))
        all_goals go_wp2
        all_goals go_ret
        all_goals exact ⟨rfl, by (repeat' (first | (with_reducible exact Below.refl _ _) | (with_reducible assumption) | (with_reducible exact bundrew (by assumption)) | (with_reducible refine balloc ?_ _) | (with_reducible refine bset ?_ _ ?_ _) | (with_reducible refine Below.drew ?_) | (with_reducible refine bdrewN ?_ _) | (with_reducible refine bvia (by assumption) ?_) | (with_reducible refine Below.trans ?_ (by assumption)) | omega | (simp; omega) | (simp; done)))⟩
    · rw [trunT_no hv] at TI TS
      have hv' := bfalse hv
      have HI := Lib.hid TI
      have HS := Lib.hid TS
      clear TI TS
      go_wp2_with fail
      refine (HI.out _ _ _ _ (I1.below (by (repeat' (first | (with_reducible exact Below.refl _ _) | (with_reducible assumption) | (with_reducible exact bundrew (by assumption)) | (with_reducible refine balloc ?_ _) | (with_reducible refine bset ?_ _ ?_ _) | (with_reducible refine Below.drew ?_) | (with_reducible refine bdrewN ?_ _) | (with_reducible refine bvia (by assumption) ?_) | (with_reducible refine Below.trans ?_ (by assumption)) | omega | (simp; omega) | (simp; done)))))).mono ?_
      rintro e w1 ⟨rfl, hbw1⟩
      obtain ⟨hcw1, hfw1, -, -, -, hsw1⟩ := bfacts5 hbw1
      try simp only [World.size_drew] at hcw1 hfw1
      try simp at hsw1
      have qw10 : wd.heap.size < w1.heap.size := (by omega)
      have rw10 : ∀ m : Nat, wd.heap.size < w1.heap.size + m := fun m => (by omega)
      have J1 : Pairs w1 A1 n1 xs := (I1.below ((Below.refl _ wd).alloc (Nat.le_refl _) _)).below hbw1
      go_wp2_with fail
      have K1 : Pairs (w1.alloc (.cells #[.int .i64 0, .int .i64 0, .int .i64 0] 25)) A1 n1 xs := J1.below ((Below.refl _ w1).alloc (Nat.le_refl _) _)
      go_region_held3 (fun w' => w'.cell? ⟨wd.heap.size, 0, none⟩ = some (.int .i64 f) ∧ w'.cell? ⟨wd.heap.size, 1, none⟩ = some (.int .i64 l) ∧ w'.cell? ⟨wd.heap.size, 2, none⟩ = some (.int .i64 h) ∧ w'.cell? ⟨w1.heap.size, 0, none⟩ = some (.int .i64 0) ∧ w'.cell? ⟨w1.heap.size, 1, none⟩ = some (.int .i64 0) ∧ w'.cell? ⟨w1.heap.size, 2, none⟩ = some (.int .i64 0) ∧ Pairs w' A1 n1 xs ∧ Below w.heap.size w w' ∧ wd.heap.size < w'.heap.size ∧ w1.heap.size < w'.heap.size) (first | (refine ⟨?_, ?_, ?_, ?_, ?_, ?_, ?_, ?_, ?_, ?_⟩ <;> first | omega | assumption | (refine bvia (by assumption) ?_; first | assumption | (refine Below.drew ?_; assumption) | (refine bdrewN ?_ _; assumption)) | (exact Pairs.below (by assumption) (by assumption)) | (go_simp; done) | (simp; omega) | (repeat' (first | (with_reducible exact Below.refl _ _) | (with_reducible assumption) | (with_reducible exact bundrew (by assumption)) | (with_reducible refine balloc ?_ _) | (with_reducible refine bset ?_ _ ?_ _) | (with_reducible refine Below.drew ?_) | (with_reducible refine bdrewN ?_ _) | (with_reducible refine bvia (by assumption) ?_) | (with_reducible refine Below.trans ?_ (by assumption)) | omega | (simp; omega) | (simp; done)))))
        (first | (go_at_call 30; go_split_ands; refine (HS.out _ _ _ _ (by assumption)).mono ?_; rintro e w2 ⟨rfl, hbw2⟩; obtain ⟨hcw2, hfw2, -, -, -, hsw2⟩ := bfacts5 hbw2))
      all_goals go_split_ands
      have q20 : wd.heap.size < w2.heap.size := by omega
      have q21 : w1.heap.size < w2.heap.size := by omega
      go_wp2_with fail
      refine (tv_spec _ _ _ _).mono ?_
      rintro e w3 ⟨rfl, hbw3⟩
      obtain ⟨hcw3, hfw3, -, -, -, hsw3⟩ := bfacts5 hbw3
      try simp only [World.size_drew] at hcw3 hfw3
      try simp at hsw3
      have qw30 : wd.heap.size < w3.heap.size := (by omega)
      have rw30 : ∀ m : Nat, wd.heap.size < w3.heap.size + m := fun m => (by omega)
      have qw31 : w1.heap.size < w3.heap.size := (by omega)
      have rw31 : ∀ m : Nat, w1.heap.size < w3.heap.size + m := fun m => (by omega)
      go_wp2_with (go_at_call 36; refine (alive_any _).mono ?_; rintro x w5 ⟨rfl, hb5⟩)
      go_ret
      exact ⟨rfl, by (repeat' (first | (with_reducible exact Below.refl _ _) | (with_reducible assumption) | (with_reducible exact bundrew (by assumption)) | (with_reducible refine balloc ?_ _) | (with_reducible refine bset ?_ _ ?_ _) | (with_reducible refine Below.drew ?_) | (with_reducible refine bdrewN ?_ _) | (with_reducible refine bvia (by assumption) ?_) | (with_reducible refine Below.trans ?_ (by assumption)) | omega | (simp; omega) | (simp; done)))⟩
end Go.Proofs.Ytpcdedigblijbaa
