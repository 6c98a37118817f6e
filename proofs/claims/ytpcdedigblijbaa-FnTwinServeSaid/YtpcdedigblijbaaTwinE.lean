/- TwinRun of the program and of the reference: contracts. -/
import Derived.Test.YtpcdedigblijbaaTwinD
namespace Go.Proofs.Ytpcdedigblijbaa
open Go.ChangeShapes Go.WideShapes Go.ChangeAt Go.RowKit

/-- The numbers of the pairs of a list. -/
def px (xs : List (Int × Int)) (k : Nat) : Int := (xs[k]?.getD (0, 0)).1
def py (xs : List (Int × Int)) (k : Nat) : Int := (xs[k]?.getD (0, 0)).2

/-- A slice of pairs of numbers that reads as xs. -/
def Pairs (w : World) (A : Option Addr) (n : Nat) (xs : List (Int × Int)) : Prop :=
  xs.length = n ∧ n ≤ 9223372036854775807 ∧ (0 < n → ∃ b off : Nat, A = some ⟨b, off, none⟩ ∧ b < w.heap.size ∧ ∀ j, j < n → w.cell? ⟨b, off + j * 2, none⟩ = some (.int .i64 (px xs j)) ∧ w.cell? ⟨b, off + j * 2 + 1, none⟩ = some (.int .i64 (py xs j)))
theorem Pairs.keep {w w' : World} {A : Option Addr} {n : Nat} {xs : List (Int × Int)} (h : Pairs w A n xs) (hs : w.heap.size ≤ w'.heap.size) (hk : ∀ p : Addr, p.block < w.heap.size → w'.cell? p = w.cell? p) : Pairs w' A n xs :=
  ⟨h.1, h.2.1, fun hn => by
    obtain ⟨b, off, hA, hb, hc⟩ := h.2.2 hn
    exact ⟨b, off, hA, by omega, fun j hj => ⟨(hk ⟨b, off + j * 2, none⟩ hb).trans (hc j hj).1, (hk ⟨b, off + j * 2 + 1, none⟩ hb).trans (hc j hj).2⟩⟩⟩
theorem Pairs.below {w w' : World} {A : Option Addr} {n : Nat} {xs : List (Int × Int)} (h : Pairs w A n xs) (hb : Below w.heap.size w w') : Pairs w' A n xs := h.keep hb.size (fun _ hp => hb.cell hp)

/-- Block g holds three numbers and may be written. -/
def Own3 (w : World) (g : Nat) (a b c : Int) : Prop :=
  g < w.heap.size ∧ (w.cell? ⟨g, 0, none⟩ = some (.int .i64 a) ∧ w.cell? ⟨g, 1, none⟩ = some (.int .i64 b) ∧ w.cell? ⟨g, 2, none⟩ = some (.int .i64 c)) ∧ (w.frozen? ⟨g, 0, none⟩ = false ∧ w.frozen? ⟨g, 1, none⟩ = false ∧ w.frozen? ⟨g, 2, none⟩ = false)

/-- The shaft after the first k moves of a list. -/
def trS (f l h : Int) (xs : List (Int × Int)) : Nat → Int × Int × Int
  | 0 => (f, l, h)
  | k + 1 => let s := trS f l h xs k; let r := tdoT s.1 s.2.1 s.2.2 (px xs k) (py xs k); (r.1, r.2.1, r.2.2.1)
theorem trS_succ (f l h : Int) (xs : List (Int × Int)) (k : Nat) :
    trS f l h xs (k + 1) = ((tdoT (trS f l h xs k).1 (trS f l h xs k).2.1 (trS f l h xs k).2.2 (px xs k) (py xs k)).1, (tdoT (trS f l h xs k).1 (trS f l h xs k).2.1 (trS f l h xs k).2.2 (px xs k) (py xs k)).2.1,
      (tdoT (trS f l h xs k).1 (trS f l h xs k).2.1 (trS f l h xs k).2.2 (px xs k) (py xs k)).2.2.1) := rfl
/-- The shaft after a list of moves. -/
def trunT (f l h : Int) (xs : List (Int × Int)) : Int × Int × Int := if tvB f l h = true then trS f l h xs xs.length else (0, 0, 0)
theorem trunT_yes {f l h : Int} {xs : List (Int × Int)} {n : Nat} (hv : tvB f l h = true) (hn : xs.length = n) : trunT f l h xs = trS f l h xs n := by simp [trunT, hv, hn]
theorem trunT_no {f l h : Int} {xs : List (Int × Int)} (hv : ¬ tvB f l h = true) : trunT f l h xs = (0, 0, 0) := by simp [trunT, hv]

set_option maxHeartbeats 2000000 in
theorem trun_impl (f l h : Int) (A : Option Addr) (n c : Nat) (xs : List (Int × Int)) (w : World) (hP : Pairs w A n xs) :
    Calls Try.prog 32 #[.agg #[.int .i64 f, .int .i64 l, .int .i64 h], .slice A n c] w fun e w' => e = .returned (.agg #[.int .i64 (trunT f l h xs).1, .int .i64 (trunT f l h xs).2.1, .int .i64 (trunT f l h xs).2.2]) ∧ Below w.heap.size w w' := by
  obtain ⟨hl, hm, hc⟩ := hP
  have HL := Lib.hid hl
  have HC := Lib.hid hc
  clear hl hc
  by_cases hv : tvB f l h = true
  · rw [trunT_yes hv HL.out]
    go_enter Try.func32, Try.ntmps32
    go_wp2_with (first | (go_at_call 17; go_must (refine (tv_impl _ _ _ _).mono ?_; rintro e w1 ⟨rfl, hbw1⟩; obtain ⟨hcw1, hfw1, -, -, -, hsw1⟩ := bfacts5 hbw1; (try simp only [World.size_drew] at hcw1 hfw1); (try simp at hsw1); have qw10 : w.heap.size < w1.heap.size := (by omega); have rw10 : ∀ m : Nat, w.heap.size < w1.heap.size + m := fun m => (by omega); have qw11 : w.heap.size + 1 < w1.heap.size := (by omega); have rw11 : ∀ m : Nat, w.heap.size + 1 < w1.heap.size + m := fun m => (by omega))))
    go_loopw [13] (fun i wr => ∃ k : Nat, k ≤ n ∧ i = .int .i64 k ∧ Below w.heap.size w wr ∧ Own3 wr w.heap.size (trS f l h xs k).1 (trS f l h xs k).2.1 (trS f l h xs k).2.2 ∧ Own3 wr (w.heap.size + 1) 0 0 0) (fun i _ => n - (intOf i).toNat)
    case atStart =>
      refine ⟨0, Nat.zero_le _, rfl, by (repeat' (first | (with_reducible exact Below.refl _ _) | (with_reducible assumption) | (with_reducible exact bundrew (by assumption)) | (with_reducible refine balloc ?_ _) | (with_reducible refine bset ?_ _ ?_ _) | (with_reducible refine Below.drew ?_) | (with_reducible refine bdrewN ?_ _) | (with_reducible refine bvia (by assumption) ?_) | (with_reducible refine Below.trans ?_ (by assumption)) | omega | (simp; omega) | (simp; done))), ?_, ?_⟩
      · refine ⟨?_, ⟨?_, ?_, ?_⟩, ?_, ?_, ?_⟩ <;> first | (simp only [trS]; go_simp; done) | (go_simp; done) | omega
      · refine ⟨?_, ⟨?_, ?_, ?_⟩, ?_, ?_, ?_⟩ <;> first | (go_simp; done) | omega
    case round =>
      obtain ⟨k, hk, rfl, B1, ⟨z1, ⟨c10, c11, c12⟩, f10, f11, f12⟩, ⟨z2, ⟨c20, c21, c22⟩, f20, f21, f22⟩⟩ := hrel
      obtain ⟨y1, x1, v1, u1, t1⟩ := far_facts z1
      obtain ⟨y2, x2, v2, u2, t2⟩ := far_facts z2
      by_cases hlt : k < n
      · obtain ⟨b, off, rfl, hb, hcc⟩ := HC.out (by omega)
        obtain ⟨d0, d1⟩ := hcc k hlt
        have e0 : wr.cell? ⟨b, off + k * 2, none⟩ = some (.int .i64 (px xs k)) := (B1.cell (p := ⟨b, off + k * 2, none⟩) hb).trans d0
        have e1 : wr.cell? ⟨b, off + k * 2 + 1, none⟩ = some (.int .i64 (py xs k)) := (B1.cell (p := ⟨b, off + k * 2 + 1, none⟩) hb).trans d1
        clear hcc d0 d1
        have hlt' : (k : Int) < (n : Int) := by omega
        go_wp2_with (first | (go_at_call 22; go_must (refine (tdo_impl _ _ _ _ _ _).mono ?_; rintro e w1 ⟨rfl, hbw1⟩; obtain ⟨hcw1, hfw1, -, -, -, hsw1⟩ := bfacts5 hbw1; (try simp only [World.size_drew] at hcw1 hfw1); (try simp at hsw1); have qw10 : w.heap.size < w1.heap.size := (by omega); have rw10 : ∀ m : Nat, w.heap.size < w1.heap.size + m := fun m => (by omega); have qw11 : w.heap.size + 1 < w1.heap.size := (by omega); have rw11 : ∀ m : Nat, w.heap.size + 1 < w1.heap.size + m := fun m => (by omega); have qw12 : wr.heap.size < w1.heap.size := (by omega); have rw12 : ∀ m : Nat, wr.heap.size < w1.heap.size + m := fun m => (by omega))))
        refine ⟨⟨k + 1, by omega, by go_num, by (repeat' (first | (with_reducible exact Below.refl _ _) | (with_reducible assumption) | (with_reducible exact bundrew (by assumption)) | (with_reducible refine balloc ?_ _) | (with_reducible refine bset ?_ _ ?_ _) | (with_reducible refine Below.drew ?_) | (with_reducible refine bdrewN ?_ _) | (with_reducible refine bvia (by assumption) ?_) | (with_reducible refine Below.trans ?_ (by assumption)) | omega | (simp; omega) | (simp; done))), ?_, ?_⟩, by simp [intOf]; omega⟩
        · rw [trS_succ]
          refine ⟨?_, ⟨?_, ?_, ?_⟩, ?_, ?_, ?_⟩ <;> first | (go_simp; done) | (simp; omega)
        · refine ⟨?_, ⟨?_, ?_, ?_⟩, ?_, ?_, ?_⟩ <;> first | (go_simp; done) | (simp; omega)
      · obtain rfl : k = n := by omega
        go_wp2
        refine bodyPost_ret (by simp [results, Try.results32, go_sem, *]; try rfl) rfl ?_
        exact ⟨rfl, by (repeat' (first | (with_reducible exact Below.refl _ _) | (with_reducible assumption) | (with_reducible exact bundrew (by assumption)) | (with_reducible refine balloc ?_ _) | (with_reducible refine bset ?_ _ ?_ _) | (with_reducible refine Below.drew ?_) | (with_reducible refine bdrewN ?_ _) | (with_reducible refine bvia (by assumption) ?_) | (with_reducible refine Below.trans ?_ (by assumption)) | omega | (simp; omega) | (simp; done)))⟩
  · rw [trunT_no hv]
    have hv' := bfalse hv
    go_enter Try.func32, Try.ntmps32
    go_wp2_with (first | (go_at_call 17; go_must (refine (tv_impl _ _ _ _).mono ?_; rintro e w1 ⟨rfl, hbw1⟩; obtain ⟨hcw1, hfw1, -, -, -, hsw1⟩ := bfacts5 hbw1; (try simp only [World.size_drew] at hcw1 hfw1); (try simp at hsw1); have qw10 : w.heap.size < w1.heap.size := (by omega); have rw10 : ∀ m : Nat, w.heap.size < w1.heap.size + m := fun m => (by omega); have qw11 : w.heap.size + 1 < w1.heap.size := (by omega); have rw11 : ∀ m : Nat, w.heap.size + 1 < w1.heap.size + m := fun m => (by omega))))
    refine bodyPost_ret (by simp [results, Try.results32, go_sem, *]; try rfl) rfl ?_
    exact ⟨rfl, by (repeat' (first | (with_reducible exact Below.refl _ _) | (with_reducible assumption) | (with_reducible exact bundrew (by assumption)) | (with_reducible refine balloc ?_ _) | (with_reducible refine bset ?_ _ ?_ _) | (with_reducible refine Below.drew ?_) | (with_reducible refine bdrewN ?_ _) | (with_reducible refine bvia (by assumption) ?_) | (with_reducible refine Below.trans ?_ (by assumption)) | omega | (simp; omega) | (simp; done)))⟩
set_option maxHeartbeats 2000000 in
theorem trun_spec (f l h : Int) (A : Option Addr) (n c : Nat) (xs : List (Int × Int)) (w : World) (hP : Pairs w A n xs) :
    Calls Try.prog 30 #[.agg #[.int .i64 f, .int .i64 l, .int .i64 h], .slice A n c] w fun e w' => e = .returned (.agg #[.int .i64 (trunT f l h xs).1, .int .i64 (trunT f l h xs).2.1, .int .i64 (trunT f l h xs).2.2]) ∧ Below w.heap.size w w' := by
  obtain ⟨hl, hm, hc⟩ := hP
  have HL := Lib.hid hl
  have HC := Lib.hid hc
  clear hl hc
  by_cases hv : tvB f l h = true
  · rw [trunT_yes hv HL.out]
    go_enter Try.func30, Try.ntmps30
    go_wp2_with (first | (go_at_call 15; go_must (refine (tv_spec _ _ _ _).mono ?_; rintro e w1 ⟨rfl, hbw1⟩; obtain ⟨hcw1, hfw1, -, -, -, hsw1⟩ := bfacts5 hbw1; (try simp only [World.size_drew] at hcw1 hfw1); (try simp at hsw1); have qw10 : w.heap.size < w1.heap.size := (by omega); have rw10 : ∀ m : Nat, w.heap.size < w1.heap.size + m := fun m => (by omega); have qw11 : w.heap.size + 1 < w1.heap.size := (by omega); have rw11 : ∀ m : Nat, w.heap.size + 1 < w1.heap.size + m := fun m => (by omega))))
    go_loopw [5] (fun i wr => ∃ k : Nat, k ≤ n ∧ i = .int .i64 k ∧ Below w.heap.size w wr ∧ Own3 wr w.heap.size (trS f l h xs k).1 (trS f l h xs k).2.1 (trS f l h xs k).2.2 ∧ Own3 wr (w.heap.size + 1) 0 0 0) (fun i _ => n - (intOf i).toNat)
    case atStart =>
      refine ⟨0, Nat.zero_le _, rfl, by (repeat' (first | (with_reducible exact Below.refl _ _) | (with_reducible assumption) | (with_reducible exact bundrew (by assumption)) | (with_reducible refine balloc ?_ _) | (with_reducible refine bset ?_ _ ?_ _) | (with_reducible refine Below.drew ?_) | (with_reducible refine bdrewN ?_ _) | (with_reducible refine bvia (by assumption) ?_) | (with_reducible refine Below.trans ?_ (by assumption)) | omega | (simp; omega) | (simp; done))), ?_, ?_⟩
      · refine ⟨?_, ⟨?_, ?_, ?_⟩, ?_, ?_, ?_⟩ <;> first | (simp only [trS]; go_simp; done) | (go_simp; done) | omega
      · refine ⟨?_, ⟨?_, ?_, ?_⟩, ?_, ?_, ?_⟩ <;> first | (go_simp; done) | omega
    case round =>
      obtain ⟨k, hk, rfl, B1, ⟨z1, ⟨c10, c11, c12⟩, f10, f11, f12⟩, ⟨z2, ⟨c20, c21, c22⟩, f20, f21, f22⟩⟩ := hrel
      obtain ⟨y1, x1, v1, u1, t1⟩ := far_facts z1
      obtain ⟨y2, x2, v2, u2, t2⟩ := far_facts z2
      by_cases hlt : k < n
      · obtain ⟨b, off, rfl, hb, hcc⟩ := HC.out (by omega)
        obtain ⟨d0, d1⟩ := hcc k hlt
        have e0 : wr.cell? ⟨b, off + k * 2, none⟩ = some (.int .i64 (px xs k)) := (B1.cell (p := ⟨b, off + k * 2, none⟩) hb).trans d0
        have e1 : wr.cell? ⟨b, off + k * 2 + 1, none⟩ = some (.int .i64 (py xs k)) := (B1.cell (p := ⟨b, off + k * 2 + 1, none⟩) hb).trans d1
        clear hcc d0 d1
        have hlt' : (k : Int) < (n : Int) := by omega
        have hb2 : b < wr.heap.size := by omega
        obtain ⟨y3, x3, v3, u3, t3⟩ := far_facts hb2
        go_wp2_with fail
        go_region_held3 (fun w' => w'.cell? ⟨w.heap.size, 0, none⟩ = some (.int .i64 (trS f l h xs k).1) ∧ w'.cell? ⟨w.heap.size, 1, none⟩ = some (.int .i64 (trS f l h xs k).2.1) ∧ w'.cell? ⟨w.heap.size, 2, none⟩ = some (.int .i64 (trS f l h xs k).2.2) ∧
            w'.frozen? ⟨w.heap.size, 0, none⟩ = false ∧ w'.frozen? ⟨w.heap.size, 1, none⟩ = false ∧ w'.frozen? ⟨w.heap.size, 2, none⟩ = false ∧
            w'.cell? ⟨w.heap.size + 1, 0, none⟩ = some (.int .i64 0) ∧ w'.cell? ⟨w.heap.size + 1, 1, none⟩ = some (.int .i64 0) ∧ w'.cell? ⟨w.heap.size + 1, 2, none⟩ = some (.int .i64 0) ∧
            w'.frozen? ⟨w.heap.size + 1, 0, none⟩ = false ∧ w'.frozen? ⟨w.heap.size + 1, 1, none⟩ = false ∧ w'.frozen? ⟨w.heap.size + 1, 2, none⟩ = false ∧
            w'.cell? ⟨b, off + k * 2, none⟩ = some (.int .i64 (px xs k)) ∧ w'.cell? ⟨b, off + k * 2 + 1, none⟩ = some (.int .i64 (py xs k)) ∧ Below w.heap.size w w' ∧ w.heap.size + 1 < w'.heap.size ∧ wr.heap.size ≤ w'.heap.size)
          (first | (refine ⟨?_, ?_, ?_, ?_, ?_, ?_, ?_, ?_, ?_, ?_, ?_, ?_, ?_, ?_, ?_, ?_, ?_⟩ <;> first | (go_simp; done) | (simp; omega) | (repeat' (first | (with_reducible exact Below.refl _ _) | (with_reducible assumption) | (with_reducible exact bundrew (by assumption)) | (with_reducible refine balloc ?_ _) | (with_reducible refine bset ?_ _ ?_ _) | (with_reducible refine Below.drew ?_) | (with_reducible refine bdrewN ?_ _) | (with_reducible refine bvia (by assumption) ?_) | (with_reducible refine Below.trans ?_ (by assumption)) | omega | (simp; omega) | (simp; done)))))
          (first | (go_at_call 20; go_must (refine (tdo_spec _ _ _ _ _ _).mono ?_; rintro e w1 ⟨rfl, hbw1⟩; obtain ⟨hcw1, hfw1, -, -, -, hsw1⟩ := bfacts5 hbw1; (try simp only [World.size_drew] at hcw1 hfw1); (try simp at hsw1); have qw10 : w.heap.size < w1.heap.size := (by omega); have rw10 : ∀ m : Nat, w.heap.size < w1.heap.size + m := fun m => (by omega); have qw11 : w.heap.size + 1 < w1.heap.size := (by omega); have rw11 : ∀ m : Nat, w.heap.size + 1 < w1.heap.size + m := fun m => (by omega); have qw12 : b < w1.heap.size := (by omega); have rw12 : ∀ m : Nat, b < w1.heap.size + m := fun m => (by omega); (try have qw13 : wr.heap.size < w1.heap.size := (by omega)); (try have rw13 : ∀ m : Nat, wr.heap.size < w1.heap.size + m := fun m => (by omega)))))
        all_goals go_wp2
        all_goals
          refine ⟨⟨k + 1, by omega, by go_num, by (repeat' (first | (with_reducible exact Below.refl _ _) | (with_reducible assumption) | (with_reducible exact bundrew (by assumption)) | (with_reducible refine balloc ?_ _) | (with_reducible refine bset ?_ _ ?_ _) | (with_reducible refine Below.drew ?_) | (with_reducible refine bdrewN ?_ _) | (with_reducible refine bvia (by assumption) ?_) | (with_reducible refine Below.trans ?_ (by assumption)) | omega | (simp; omega) | (simp; done))), ?_, ?_⟩, by simp [intOf]; omega⟩
          · rw [trS_succ]
            refine ⟨?_, ⟨?_, ?_, ?_⟩, ?_, ?_, ?_⟩ <;> first | (go_simp; done) | (simp; omega)
          · refine ⟨?_, ⟨?_, ?_, ?_⟩, ?_, ?_, ?_⟩ <;> first | (go_simp; done) | (simp; omega)
      · obtain rfl : k = n := by omega
        go_wp2
        refine bodyPost_ret (by simp [results, Try.results30, go_sem, *]; try rfl) rfl ?_
        exact ⟨rfl, by (repeat' (first | (with_reducible exact Below.refl _ _) | (with_reducible assumption) | (with_reducible exact bundrew (by assumption)) | (with_reducible refine balloc ?_ _) | (with_reducible refine bset ?_ _ ?_ _) | (with_reducible refine Below.drew ?_) | (with_reducible refine bdrewN ?_ _) | (with_reducible refine bvia (by assumption) ?_) | (with_reducible refine Below.trans ?_ (by assumption)) | omega | (simp; omega) | (simp; done)))⟩
  · rw [trunT_no hv]
    have hv' := bfalse hv
    go_enter Try.func30, Try.ntmps30
    go_wp2_with (first | (go_at_call 15; go_must (refine (tv_spec _ _ _ _).mono ?_; rintro e w1 ⟨rfl, hbw1⟩; obtain ⟨hcw1, hfw1, -, -, -, hsw1⟩ := bfacts5 hbw1; (try simp only [World.size_drew] at hcw1 hfw1); (try simp at hsw1); have qw10 : w.heap.size < w1.heap.size := (by omega); have rw10 : ∀ m : Nat, w.heap.size < w1.heap.size + m := fun m => (by omega); have qw11 : w.heap.size + 1 < w1.heap.size := (by omega); have rw11 : ∀ m : Nat, w.heap.size + 1 < w1.heap.size + m := fun m => (by omega))))
    refine bodyPost_ret (by simp [results, Try.results30, go_sem, *]; try rfl) rfl ?_
    exact ⟨rfl, by (repeat' (first | (with_reducible exact Below.refl _ _) | (with_reducible assumption) | (with_reducible exact bundrew (by assumption)) | (with_reducible refine balloc ?_ _) | (with_reducible refine bset ?_ _ ?_ _) | (with_reducible refine Below.drew ?_) | (with_reducible refine bdrewN ?_ _) | (with_reducible refine bvia (by assumption) ?_) | (with_reducible refine Below.trans ?_ (by assumption)) | omega | (simp; omega) | (simp; done)))⟩
end Go.Proofs.Ytpcdedigblijbaa
