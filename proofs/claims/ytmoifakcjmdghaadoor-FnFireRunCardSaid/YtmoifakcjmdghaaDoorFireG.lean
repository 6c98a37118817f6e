/- The walk of the law FnFireRun. -/
import Derived.Test.YtmoifakcjmdghaaDoorFireF
namespace Go.Proofs.YtmoifakcjmdghaaDoor
open Go.ChangeShapes Go.WideShapes Go.ChangeAt Go.RowKit

theorem frunK_take (m : Int) (xs : List Int) (k : Nat) (hk : k ≤ xs.length) : ∀ j, j ≤ k → frunK m (xs.take k) j = frunK m xs j
  | 0, _ => rfl
  | j + 1, h => by
    rw [frunK_succ, frunK_succ, frunK_take m xs k hk j (by omega), List.getElem?_take, if_pos (by omega)]
theorem frunK_drop (m : Int) (xs : List Int) (k : Nat) : ∀ j, frunK (frunK m xs k) (xs.drop k) j = frunK m xs (k + j)
  | 0 => rfl
  | j + 1 => by
    rw [← Nat.add_assoc, frunK_succ, frunK_succ, frunK_drop m xs k j, List.getElem?_drop]
theorem frunK_ge {m : Int} {xs : List Int} {n : Nat} (h : 0 ≤ frunK m xs n) {k : Nat} (hk : k < n) : 0 ≤ frunK m xs (k + 1) := by
  by_cases hn : frunK m xs (k + 1) < 0
  · have := frunK_neg hn hk; omega
  · omega
theorem frunK_le {m : Int} {xs : List Int} (hm : m ≤ 3) : ∀ k, frunK m xs k ≤ 3
  | 0 => hm
  | k + 1 => by rw [frunK_succ]; exact (fstep_ge _ _).2
/-- What one event does to the pair of marks. -/
theorem home_over {s e : Int} : (s ≠ 2 → s ≠ 0 → fstep s e ≠ 0) ∧ (s ≠ 2 → e ≠ 1 → fstep s e ≠ 2) ∧ (s ≠ 0 → e ≠ 4 → fstep s e ≠ 0) := by
  unfold fstep
  repeat' split
  all_goals omega
/-- The two marks beside the mode: b is where the fire was over, a where the car was home. -/
def Marks (s a b : Int) : Prop := (b < 0 → s ≠ 0) ∧ (a < 0 → s ≠ 2)
theorem marks_next {s e a b a' b' : Int} (h : Marks s a b) (h1 : a' < 0 → a < 0 ∧ e ≠ 1) (h2 : b' < 0 → b < 0 ∧ (a' < 0 ∨ e ≠ 4)) : Marks (fstep s e) a' b' := by
  obtain ⟨k1, k2, k3⟩ := home_over (s := s) (e := e)
  obtain ⟨m1, m2⟩ := h
  refine ⟨fun hb => ?_, fun ha => ?_⟩
  · obtain ⟨p, q⟩ := h2 hb
    rcases q with q | q
    · obtain ⟨r, _⟩ := h1 q
      exact k1 (m2 r) (m1 p)
    · exact k3 (m1 p) q
  · obtain ⟨p, q⟩ := h1 ha
    exact k2 (m2 p) q
theorem frun_neg {m : Int} {xs : List Int} (h : frun m xs < 0) : frun m xs = -1 := by
  by_cases hm : m < 0 ∨ 3 < m
  · exact frun_no hm
  · rw [frun_yes hm rfl] at h ⊢
    cases hl : xs.length with
    | zero => rw [hl] at h; have : frunK m xs 0 = m := rfl; omega
    | succ k => rw [hl] at h; exact frunK_neg (k := k) h (by omega)
theorem Ints.take {w : World} {A : Option Addr} {xs : List Int} (h : Ints w A xs.length xs) (k : Nat) (hk : k ≤ xs.length) : Ints w A k (xs.take k) := by
  obtain ⟨h1, h2, h3⟩ := h
  refine ⟨by simp; omega, by omega, fun h0 => ?_⟩
  obtain ⟨b, off, hA, hb, hc⟩ := h3 (by omega)
  refine ⟨b, off, hA, hb, fun j hj => ?_⟩
  rw [hc j (by omega), List.getElem?_take, if_pos hj]
theorem Ints.drop {w : World} {A : Option Addr} {xs : List Int} (h : Ints w A xs.length xs) (k : Nat) (hk : k ≤ xs.length) : Ints w (Option.map (fun x => x.add k) A) (xs.length - k) (xs.drop k) := by
  obtain ⟨h1, h2, h3⟩ := h
  refine ⟨by simp, by omega, fun h0 => ?_⟩
  obtain ⟨b, off, rfl, hb, hc⟩ := h3 (by omega)
  refine ⟨b, off + k, by simp [Addr.add], hb, fun j hj => ?_⟩
  rw [Nat.add_assoc, hc (k + j) (by omega), List.getElem?_drop]
theorem Ints.none' {w : World} {A : Option Addr} {xs : List Int} {k : Nat} (hk : xs.length ≤ k) : Ints w A (xs.length - k) (xs.drop k) :=
  ⟨by simp, by omega, fun h0 => by omega⟩
theorem frun_take {m : Int} {xs : List Int} (hm : ¬ (m < 0 ∨ 3 < m)) {k : Nat} (hk : k ≤ xs.length) : frun m (xs.take k) = frunK m xs k := by
  rw [frun_yes hm (n := k) (by simp; omega), frunK_take m xs k hk k (Nat.le_refl _)]
theorem frunK_pos {m : Int} {xs : List Int} (hm : ¬ (m < 0 ∨ 3 < m)) (h : 0 ≤ frun m xs) {k : Nat} (hk : k ≤ xs.length) : 0 ≤ frunK m xs k := by
  rw [frun_yes hm rfl] at h
  cases k with
  | zero => show 0 ≤ m; omega
  | succ k => exact frunK_ge h (by omega)
theorem frun_split {m : Int} {xs : List Int} (hm : ¬ (m < 0 ∨ 3 < m)) (h : 0 ≤ frun m xs) {k : Nat} (hk : k ≤ xs.length) : frun (frunK m xs k) (xs.drop k) = frun m xs := by
  have h1 := frunK_pos hm h hk
  have h2 := frunK_le (xs := xs) (show m ≤ 3 by omega) k
  rw [frun_yes (by omega) (n := xs.length - k) (by simp), frunK_drop, show k + (xs.length - k) = xs.length by omega, frun_yes hm rfl]

set_option maxRecDepth 100000 in
set_option maxHeartbeats 2000000 in
theorem walk_FnFireRun (A : Option Addr) (n c : Nat) (g : Nat → Int) (w : World) (hT : Tab w) (hB : Bytes w A n c g) : Calls Tryd.prog 7 #[.slice A n c] w fun e w' => e = .returned (.bool true) ∧ Below w.heap.size w w' := by
  by_cases hn : 1048576 < n
  · have hn' : (1048576 : Int) < (n : Int) := by omega
    clear hT
    go_enter Tryd.func7, Tryd.ntmps7
    go_wp2
    go_ret
    exact ⟨rfl, by (repeat' (first | (with_reducible exact Below.refl _ _) | (with_reducible assumption) | (with_reducible exact bundrew (by assumption)) | (with_reducible refine balloc ?_ _) | (with_reducible refine bset ?_ _ ?_ _) | (with_reducible refine Below.drew ?_) | (with_reducible refine bdrewN ?_ _) | (with_reducible refine bvia (by assumption) ?_) | (with_reducible refine Below.trans ?_ (by assumption)) | omega | (simp; omega) | (simp; done)))⟩
  · have hn' : (n : Int) ≤ 1048576 := by omega
    have HT := Lib.hid hT
    clear hT
    go_enter Tryd.func7, Tryd.ntmps7
    go_wp2_with fail
    refine (drawFireRun_any A n c g _ hB).mono ?_
    rintro x wd ⟨m, v, xs, rfl, ⟨A1, c1, rfl, hc1, hc2, I1⟩, h14, hbd⟩
    have h14' : (xs.length : Int) ≤ 14 := by omega
    have TD := Lib.hid (HT.out.below hbd HT.out.1)
    go_wp2_with fail
    refine (frun_impl _ _ _ _ xs _ TD.out I1).mono ?_
    rintro x w' ⟨rfl, rfl⟩
    go_wp2_with fail
    refine (frun_spec _ _ _ _ xs _ I1).mono ?_
    rintro x w' ⟨rfl, rfl⟩
    by_cases hx : frun m xs < 0
    · have hx1 : frun m xs = -1 := frun_neg hx
      have hx2 : (frun m xs == -1) = true := by simp [hx1]
      clear hx1
      go_wp2_with (go_at_call 15; refine (alive_any _).mono ?_; rintro x w1 ⟨rfl, hb1⟩)
      go_ret
      exact ⟨rfl, by (repeat' (first | (with_reducible exact Below.refl _ _) | (with_reducible assumption) | (with_reducible exact bundrew (by assumption)) | (with_reducible refine balloc ?_ _) | (with_reducible refine bset ?_ _ ?_ _) | (with_reducible refine Below.drew ?_) | (with_reducible refine bdrewN ?_ _) | (with_reducible refine bvia (by assumption) ?_) | (with_reducible refine Below.trans ?_ (by assumption)) | omega | (simp; omega) | (simp; done)))⟩
    · have hm : ¬ (m < 0 ∨ 3 < m) := fun h => hx (by rw [frun_no h]; omega)
      have hx0 : 0 ≤ frun m xs := by omega
      go_wp2_with fail
      go_loop [6] (fun i => ∃ k : Nat, k ≤ xs.length + 1 ∧ i = .int .i64 k) (fun i => xs.length + 1 - (intOf i).toNat)
      case atStart => exact ⟨0, Nat.zero_le _, rfl⟩
      case round =>
        obtain ⟨k, hk, rfl⟩ := hrel
        by_cases hlt : k ≤ xs.length
        · have hlt' : (k : Int) ≤ (xs.length : Int) := by omega
          go_wp2_with fail
          have cc := frun_impl m A1 k c1 (xs.take k) wd TD.out (I1.take k hlt)
          rw [frun_take hm hlt] at cc
          have c2 := fun c => frun_impl (frunK m xs k) _ (xs.length - k) c (xs.drop k) wd TD.out (I1.drop k hlt)
          have c3 := fun A c (h : xs.length ≤ k) => frun_impl (frunK m xs k) A (xs.length - k) c (xs.drop k) wd TD.out (Ints.none' h)
          rw [frun_split hm hx0 hlt] at c2 c3
          have C2 := Lib.hid c2
          have C3 := Lib.hid c3
          clear c2 c3
          refine cc.mono ?_
          rintro x w' ⟨rfl, rfl⟩
          clear cc
          go_wp2_with fail
          (refine (C3.out _ _ (by omega)).mono ?_
           rintro x w' ⟨rfl, rfl⟩
           rotate_left
           refine (C2.out _).mono ?_
           rintro x w' ⟨rfl, rfl⟩
           rotate_left)
          all_goals
            try (have hck : k = c1 := (show c1 = k by assumption).symm; subst hck)
            go_wp2_with fail
            · have E1 : frunK m xs k = 1 := by assumption
              have E2 : frun m xs = 0 := by
                have : (frun m xs == 0) = true := by assumption
                simpa using this
              have E3 : frunK m xs xs.length = 0 := by rw [← frun_yes hm rfl]; exact E2
              have hM : Marks (frunK m xs k) (-1) (-1) := by rw [E1]; exact ⟨fun _ => by omega, fun _ => by omega⟩
              have HM := Lib.hid hM
              have HE3 := Lib.hid E3
              have HC1 := Lib.hid I1.2.2
              clear hM E1 E2 E3
              go_loop [8, 9, 10] (fun ho ov jj => ∃ (j : Nat) (a b : Int), k ≤ j ∧ j ≤ xs.length ∧ jj = .int .i64 j ∧ ho = .int .i64 a ∧ ov = .int .i64 b ∧ Marks (frunK m xs j) a b) (fun _ _ jj => xs.length - (intOf jj).toNat)
              case atStart => exact ⟨k, -1, -1, Nat.le_refl _, hlt, rfl, rfl, rfl, HM.out⟩
              case round =>
                obtain ⟨j, a, b, hkj, hj, rfl, rfl, rfl, hms⟩ := hrel
                have HMS := Lib.hid hms
                clear hms
                by_cases hjl : j < xs.length
                · obtain ⟨q, off, rfl, hq, hcc⟩ := HC1.out (by omega)
                  obtain ⟨y, hy⟩ : ∃ y, xs[j]?.getD 0 = y := ⟨_, rfl⟩
                  have e0 := hcc j hjl
                  rw [hy] at e0
                  have HY := Lib.hid hy
                  clear hcc hy
                  have hjl' : (j : Int) < (xs.length : Int) := by omega
                  rcases beq_or y 1 with ⟨y1, g1⟩ | ⟨y1, g1⟩ <;> rcases beq_or y 4 with ⟨y4, g4⟩ | ⟨y4, g4⟩ <;> try omega
                  all_goals
                    have G1 := Lib.hid g1
                    have G4 := Lib.hid g4
                    clear g1 g4
                    by_cases ha : a < 0
                    all_goals
                      by_cases hb : b < 0
                      all_goals
                        go_wp2
                        go_round
                        case rel =>
                          have g1 := G1.out
                          have g4 := G4.out
                          have hs : frunK m xs (j + 1) = fstep (frunK m xs j) y := by rw [frunK_succ, HY.out]
                          first
                            | (refine ⟨_, _, _, ⟨j + 1, ?_, ?_, rfl, _, rfl, _, rfl, ?_⟩, rfl, rfl, ?_⟩
                               · omega
                               · omega
                               · rw [hs]; exact marks_next HMS.out (by omega) (by omega)
                               · go_num)
                            | (refine ⟨j + 1, _, _, ?_, ?_, ?_, rfl, rfl, ?_⟩
                               · omega
                               · omega
                               · go_num
                               · rw [hs]; exact marks_next HMS.out (by omega) (by omega))
                        case measure => simp [intOf]; omega
                · obtain rfl : j = xs.length := by omega
                  have hb : ¬ b < 0 := fun hb => HMS.out.1 hb HE3.out
                  go_wp2
                  go_round
                  case rel => first | exact ⟨k + 1, by omega, by go_num⟩
                  case measure => simp [intOf]; omega
            all_goals
              go_round
              case rel => first | exact ⟨k + 1, by omega, by go_num⟩
              case measure => simp [intOf]; omega
        · obtain rfl : k = xs.length + 1 := by omega
          go_wp2
          go_ret
          exact ⟨rfl, by (repeat' (first | (with_reducible exact Below.refl _ _) | (with_reducible assumption) | (with_reducible exact bundrew (by assumption)) | (with_reducible refine balloc ?_ _) | (with_reducible refine bset ?_ _ ?_ _) | (with_reducible refine Below.drew ?_) | (with_reducible refine bdrewN ?_ _) | (with_reducible refine bvia (by assumption) ?_) | (with_reducible refine Below.trans ?_ (by assumption)) | omega | (simp; omega) | (simp; done)))⟩
end Go.Proofs.YtmoifakcjmdghaaDoor
