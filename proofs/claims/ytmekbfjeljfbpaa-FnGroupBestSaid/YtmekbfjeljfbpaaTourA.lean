/- VisitsOk and TourWay of both, for valid arguments: contracts. -/
import Derived.Test.YtmekbfjeljfbpaaWay
import Derived.Test.YtmekbfjeljfbpaaNums
import Derived.Test.YtmekbfjeljfbpaaTourP
namespace Go.Proofs.Ytmekbfjeljfbpaa
open Go.ChangeShapes Go.WideShapes Go.ChangeAt Go.RowKit

set_option maxHeartbeats 1000000 in
theorem visits_spec (A : Option Addr) (n c : Nat) (xs : List Int) (A' : Option Addr) (n' c' : Nat) (ys : List Int) (w : World) (h : Ints w A n xs) (h' : Ints w A' n' ys) (hv : fvB xs = true) (hr : ∀ k, k < n' → 0 ≤ ys[k]?.getD 0 ∧ ys[k]?.getD 0 ≤ (n : Int) - 1) (ha : ∀ k, k + 1 < n' → ys[k]?.getD 0 < ys[k + 1]?.getD 0) :
    Calls Try.prog 51 #[.slice A n c, .slice A' n' c'] w (Qt w (.bool true)) := by
  have F := fun w hx => fvs_any A n c xs w hx
  rw [hv] at F
  have HF := Lib.hid F
  have H := Lib.hid h
  have H' := Lib.hid h'
  have HR := Lib.hid hr
  have HA := Lib.hid ha
  have hm : (n : Int) ≤ 9223372036854775807 := by have := h.2.1; omega
  have hm' : (n' : Int) ≤ 9223372036854775807 := by have := h'.2.1; omega
  have n0 : 0 ≤ (n : Int) := by omega
  clear F h h' hr ha hv
  go_enter Try.func51, Try.ntmps51
  go_wp2
  go_loopw [5] (fun i wr => (∃ m, wr = w.drewN m) ∧ ∃ k : Nat, i = .int .i64 k ∧ k ≤ n') (fun i _ => n' - (intOf i).toNat)
  case atStart => exact ⟨⟨0, rfl⟩, 0, rfl, Nat.zero_le _⟩
  case round =>
    obtain ⟨⟨m, hw⟩, k, rfl, hk⟩ := hrel
    have HI : Hid (Ints wr A' n' ys) := Lib.hid (by rw [hw]; exact H'.out.drewN m)
    have HX : Hid (Ints wr A n xs) := Lib.hid (by rw [hw]; exact H.out.drewN m)
    have HM := Lib.hid hw
    clear hw
    by_cases hlt : k < n'
    · obtain ⟨b, off, rfl, hb, hcc⟩ := HI.out.2.2 (by omega)
      have e0 := hcc k hlt
      have hr0 := HR.out k hlt
      have hlt' : (k : Int) < (n' : Int) := by omega
      cases k with
      | zero =>
        have e0 : wr.cell? ⟨b, off, none⟩ = some (.int .i64 (ys[0]?.getD 0)) := e0
        have hlt' : (0 : Int) < (n' : Int) := by omega
        obtain ⟨y, hy⟩ : ∃ y, ys[0]?.getD 0 = y := ⟨_, rfl⟩
        rw [hy] at e0 hr0
        have hin := inB_yes hr0
        clear hcc hy hr0
        go_wp2_with fail
        go_quiet ((go_at_call 50; exact Calls.quiet_of_same (flipW (l1In_any _ _ _ _))))
        go_wp2
        exact ⟨⟨⟨_, by rw [HM.out]; exact World.drewN_drewN _ _ _⟩, 1, rfl, by omega⟩, by simp [intOf]; omega⟩
      | succ k =>
        have e1 := hcc k (by omega)
        have hlt2 := HA.out k hlt
        obtain ⟨y, hy⟩ : ∃ y, ys[k + 1]?.getD 0 = y := ⟨_, rfl⟩
        obtain ⟨z, hz⟩ : ∃ z, ys[k]?.getD 0 = z := ⟨_, rfl⟩
        rw [hy] at e0 hr0 hlt2
        rw [hz] at e1 hlt2
        have hin := inB_yes hr0
        have hk' : (k : Int) < (n' : Int) := by omega
        have ew : IntKind.i64.wrap ((k : Int) + 1 - 1) = (k : Int) := by rw [IntWalk.i64_in _ ⟨by omega, by omega⟩]; omega
        clear hcc hy hz hr0
        go_wp2_with fail
        go_quiet ((go_at_call 50; exact Calls.quiet_of_same (flipW (l1In_any _ _ _ _))))
        go_wp2
        exact ⟨⟨⟨_, by rw [HM.out]; exact World.drewN_drewN _ _ _⟩, k + 1 + 1, by first | go_num | (congr 1; omega), by omega⟩, by simp [intOf]; omega⟩
    · obtain rfl : k = n' := by omega
      go_wp2_with (go_at_call 43; refine (HF.out _ HX.out).mono ?_; rintro e w' ⟨rfl, m2, rfl⟩)
      go_ret
      exact ⟨rfl, _, by rw [HM.out]; exact World.drewN_drewN _ _ _⟩

set_option maxHeartbeats 1000000 in
theorem visits_impl (A : Option Addr) (n c : Nat) (xs : List Int) (A' : Option Addr) (n' c' : Nat) (ys : List Int) (w : World) (h : Ints w A n xs) (h' : Ints w A' n' ys) (hv : fvB xs = true) (hr : ∀ k, k < n' → 0 ≤ ys[k]?.getD 0 ∧ ys[k]?.getD 0 ≤ (n : Int) - 1) (ha : ∀ k, k + 1 < n' → ys[k]?.getD 0 < ys[k + 1]?.getD 0) :
    Calls Try.prog 56 #[.slice A n c, .slice A' n' c'] w (Qt w (.bool true)) := by
  have F := fun w hx => fv_any A n c xs w hx
  rw [hv] at F
  have HF := Lib.hid F
  have H := Lib.hid h
  have H' := Lib.hid h'
  have HR := Lib.hid hr
  have HA := Lib.hid ha
  have hm : (n : Int) ≤ 9223372036854775807 := by have := h.2.1; omega
  have hm' : (n' : Int) ≤ 9223372036854775807 := by have := h'.2.1; omega
  have n0 : 0 ≤ (n : Int) := by omega
  clear F h h' hr ha hv
  go_enter Try.func56, Try.ntmps56
  go_wp2_with (go_at_call 46; refine (HF.out _ H.out).mono ?_; rintro e w' ⟨rfl, m0, rfl⟩)
  go_loopw [12] (fun i wr => (∃ m, wr = (w.drewN m0).drewN m) ∧ ∃ k : Nat, i = .int .i64 k ∧ k ≤ n') (fun i _ => n' - (intOf i).toNat)
  case atStart => exact ⟨⟨0, rfl⟩, 0, rfl, Nat.zero_le _⟩
  case round =>
    obtain ⟨⟨m, hw⟩, k, rfl, hk⟩ := hrel
    have HI : Hid (Ints wr A' n' ys) := Lib.hid (by rw [hw]; exact (H'.out.drewN m0).drewN m)
    have HM := Lib.hid hw
    clear hw
    by_cases hlt : k < n'
    · obtain ⟨b, off, rfl, hb, hcc⟩ := HI.out.2.2 (by omega)
      have e0 := hcc k hlt
      have hr0 := HR.out k hlt
      have hlt' : (k : Int) < (n' : Int) := by omega
      cases k with
      | zero =>
        have e0 : wr.cell? ⟨b, off, none⟩ = some (.int .i64 (ys[0]?.getD 0)) := e0
        have hlt' : (0 : Int) < (n' : Int) := by omega
        obtain ⟨y, hy⟩ : ∃ y, ys[0]?.getD 0 = y := ⟨_, rfl⟩
        rw [hy] at e0 hr0
        have hin := inB_yes hr0
        clear hcc hy hr0
        go_wp2_with (go_at_call 47; refine (isFloor_any _ _ _).mono ?_; rintro e w' ⟨rfl, rfl⟩)
        exact ⟨⟨⟨_, HM.out⟩, 1, rfl, by omega⟩, by simp [intOf]; omega⟩
      | succ k =>
        have e1 := hcc k (by omega)
        have hlt2 := HA.out k hlt
        obtain ⟨y, hy⟩ : ∃ y, ys[k + 1]?.getD 0 = y := ⟨_, rfl⟩
        obtain ⟨z, hz⟩ : ∃ z, ys[k]?.getD 0 = z := ⟨_, rfl⟩
        rw [hy] at e0 hr0 hlt2
        rw [hz] at e1 hlt2
        have hin := inB_yes hr0
        have hk' : (k : Int) < (n' : Int) := by omega
        have ew : IntKind.i64.wrap ((k : Int) + 1 - 1) = (k : Int) := by rw [IntWalk.i64_in _ ⟨by omega, by omega⟩]; omega
        clear hcc hy hz hr0
        go_wp2_with (go_at_call 47; refine (isFloor_any _ _ _).mono ?_; rintro e w' ⟨rfl, rfl⟩)
        exact ⟨⟨⟨_, HM.out⟩, k + 1 + 1, by first | go_num | (congr 1; omega), by omega⟩, by simp [intOf]; omega⟩
    · obtain rfl : k = n' := by omega
      go_wp2
      go_ret
      exact ⟨rfl, _, by rw [HM.out]; exact World.drewN_drewN _ _ _⟩

/-- The heights. -/
def xa (xs : List Int) (i : Nat) : Int := xs[i]?.getD 0
theorem wayI_dist {xs : List Int} {a b n : Nat} (hv : fvB xs = true) (hn : xs.length = n) (ha : a < n) (hb : b < n) : wayI xs a b = TP.dist (xa xs) a b := wayI_yes hv hn ha hb
theorem dist_le {xs : List Int} {a b n : Nat} (hv : fvB xs = true) (hn : xs.length = n) (ha : a < n) (hb : b < n) : 0 ≤ TP.dist (xa xs) a b ∧ TP.dist (xa xs) a b ≤ 60 := by
  rw [← wayI_dist hv hn ha hb]; exact wayI_in hv hn ha hb
/-- Where the car is behind k floors. -/
def atN (a : Nat) (os : List Nat) : Nat → Nat
  | 0 => a
  | k + 1 => os[k]?.getD 0
theorem path_take (x : Nat → Int) : ∀ (os : List Nat) (a k : Nat), k < os.length → TP.path x a (os.take (k + 1)) = TP.path x a (os.take k) + TP.dist x (atN a os k) (os[k]?.getD 0)
  | [], _, k, h => by simp at h
  | v :: l, a, 0, _ => by simp [TP.path, atN]
  | v :: l, a, k + 1, h => by
    have h' : k < l.length := by simpa using h
    have := path_take x l v k h'
    simp only [List.take_succ_cons, TP.path]
    rw [this]
    have e : atN a (v :: l) (k + 1) = atN v l k := by
      cases k with
      | zero => rfl
      | succ k => rfl
    rw [e]
    simp only [List.getElem?_cons_succ]
    omega
theorem path_le {xs : List Int} {n : Nat} (hv : fvB xs = true) (hn : xs.length = n) : ∀ (os : List Nat) (a : Nat), a < n → (∀ k, k < os.length → os[k]?.getD 0 < n) → 0 ≤ TP.path (xa xs) a os ∧ TP.path (xa xs) a os ≤ 60 * (os.length : Int)
  | [], _, _, _ => by simp [TP.path]
  | v :: l, a, ha, ho => by
    have hv0 : v < n := ho 0 (by simp)
    have h1 := path_le hv hn l v hv0 (fun k hk => ho (k + 1) (by simp; omega))
    have h2 := dist_le hv hn ha hv0
    simp only [TP.path, List.length_cons]
    omega
theorem atN_lt {a n n' : Nat} {os : List Nat} (ha : a < n) (ho : ∀ k, k < n' → os[k]?.getD 0 < n) : ∀ k, k ≤ n' → atN a os k < n
  | 0, _ => ha
  | k + 1, h => ho k (by omega)

set_option maxHeartbeats 1000000 in
theorem tour_spec (A : Option Addr) (n c : Nat) (xs : List Int) (a : Nat) (A' : Option Addr) (n' c' : Nat) (os : List Nat) (w : World) (h : Ints w A n xs) (h' : Ints w A' n' (nums os)) (hv : fvB xs = true) (ha : a < n) (ho : ∀ k, k < n' → os[k]?.getD 0 < n) (hn' : n' ≤ 1000) :
    Calls Try.prog 52 #[.slice A n c, .int .i64 a, .slice A' n' c'] w (Qt w (.int .i64 (TP.path (xa xs) a os))) := by
  have hos : os.length = n' := by rw [← nums_length]; exact h'.1
  have hn1 := h.1
  have W : ∀ (p q : Nat) (w : World), Ints w A n xs → p < n → q < n → Calls Try.prog 45 #[.slice A n c, .int .i64 p, .int .i64 q] w (Qt w (.int .i64 (TP.dist (xa xs) p q))) := fun p q w hx hp hq => by
    have := way_spec A n c xs p q w hx
    rwa [wayI_dist hv hn1 hp hq] at this
  have H := Lib.hid h
  have H' := Lib.hid h'
  have HO := Lib.hid ho
  have HW := Lib.hid W
  have d0 := (dist_le hv hn1 ha ha).1
  have HD : Hid (∀ p q, p < n → q < n → 0 ≤ TP.dist (xa xs) p q ∧ TP.dist (xa xs) p q ≤ 60) := Lib.hid fun p q hp hq => dist_le hv hn1 hp hq
  have HP : Hid (∀ k, k ≤ n' → 0 ≤ TP.path (xa xs) a (os.take k) ∧ TP.path (xa xs) a (os.take k) ≤ 60000) := Lib.hid fun k hk => by
    have := path_le hv hn1 (os.take k) a ha (fun j hj => by
      rw [List.length_take] at hj
      rw [List.getElem?_take, if_pos (by omega)]; exact ho j (by omega))
    rw [List.length_take] at this
    omega
  have HS : Hid (∀ k, k < n' → TP.path (xa xs) a (os.take (k + 1)) = TP.path (xa xs) a (os.take k) + TP.dist (xa xs) (atN a os k) (os[k]?.getD 0)) := Lib.hid fun k hk => path_take _ os a k (by omega)
  have HE : Hid (os.take n' = os) := Lib.hid (by rw [← hos]; exact List.take_length)
  have HAT := Lib.hid (fun k hk => atN_lt (os := os) ha ho k hk : ∀ k, k ≤ n' → atN a os k < n)
  have hna : (n' : Int) ≤ 1000 := by omega
  have HA := Lib.hid ha
  obtain ⟨d, hd⟩ : ∃ d, TP.dist (xa xs) a a = d := ⟨_, rfl⟩
  have W0 := fun w hx => W a a w hx ha ha
  rw [hd] at W0 d0
  have HW0 := Lib.hid W0
  clear W W0 hd h h' ho hos hn1 hv ha hn'
  go_enter Try.func52, Try.ntmps52
  go_wp2_with (go_at_call 45; refine (HW0.out _ H.out).mono ?_; rintro e w' ⟨rfl, m0, rfl⟩)
  go_loopw [1, 7, 8] (fun f s i wr => (∃ m, wr = (w.drewN m0).drewN m) ∧ ∃ k : Nat, k ≤ n' ∧ i = .int .i64 k ∧ s = .int .i64 (TP.path (xa xs) a (os.take k)) ∧ f = .int .i64 (atN a os k : Nat)) (fun _ _ i _ => n' - (intOf i).toNat)
  case atStart => exact ⟨⟨0, rfl⟩, 0, Nat.zero_le _, rfl, rfl, rfl⟩
  case round =>
    obtain ⟨⟨m, hw⟩, k, hk, rfl, rfl, rfl⟩ := hrel
    have HI : Hid (Ints wr A' n' (nums os)) := Lib.hid (by rw [hw]; exact (H'.out.drewN m0).drewN m)
    have HX : Hid (Ints wr A n xs) := Lib.hid (by rw [hw]; exact (H.out.drewN m0).drewN m)
    have HM := Lib.hid hw
    clear hw
    by_cases hlt : k < n'
    · obtain ⟨b, off, rfl, hb, hcc⟩ := HI.out.2.2 (by omega)
      have e0 := hcc k hlt
      rw [nums_get] at e0
      have hlt' : (k : Int) < (n' : Int) := by omega
      have h1 := HS.out k hlt
      have h2 := HAT.out k (by omega)
      have h3 := HO.out k hlt
      obtain ⟨p, hp⟩ : ∃ p, atN a os k = p := ⟨_, rfl⟩
      obtain ⟨q, hq⟩ : ∃ q, os[k]?.getD 0 = q := ⟨_, rfl⟩
      rw [hp] at h1 h2 ⊢
      rw [hq] at e0 h1 h3
      obtain ⟨d1, d2⟩ := HD.out p q h2 h3
      obtain ⟨s0, s1⟩ := HP.out k hk
      obtain ⟨s, hs⟩ : ∃ s, TP.path (xa xs) a (os.take k) = s := ⟨_, rfl⟩
      rw [hs] at h1 s0 s1 ⊢
      have W1 := fun w hx => HW.out p q w hx h2 h3
      obtain ⟨e, he⟩ : ∃ e, TP.dist (xa xs) p q = e := ⟨_, rfl⟩
      rw [he] at h1 d1 d2 W1
      have HW1 := Lib.hid W1
      have HN := Lib.hid h1
      have HQ : Hid (atN a os (k + 1) = q) := Lib.hid hq
      clear hcc hp hq hs he W1 h1
      go_wp2_with (go_at_call 45; refine (HW1.out _ HX.out).mono ?_; rintro e w' ⟨rfl, m3, rfl⟩)
      exact ⟨⟨⟨_, by rw [HM.out]; exact World.drewN_drewN _ _ _⟩, k + 1, by omega, by go_num, by rw [HN.out], by rw [HQ.out]⟩, by simp [intOf]; omega⟩
    · obtain rfl : k = n' := by omega
      rw [HE.out]
      go_wp2
      go_ret
      exact ⟨rfl, _, by rw [HM.out]; exact World.drewN_drewN _ _ _⟩

set_option maxHeartbeats 1000000 in
theorem tour_impl (A : Option Addr) (n c : Nat) (xs : List Int) (a : Nat) (A' : Option Addr) (n' c' : Nat) (os : List Nat) (w : World) (h : Ints w A n xs) (h' : Ints w A' n' (nums os)) (hv : fvB xs = true) (ha : a < n) (ho : ∀ k, k < n' → os[k]?.getD 0 < n) (hn' : n' ≤ 1000) :
    Calls Try.prog 57 #[.slice A n c, .int .i64 a, .slice A' n' c'] w (Qt w (.int .i64 (TP.path (xa xs) a os))) := by
  have hos : os.length = n' := by rw [← nums_length]; exact h'.1
  have hn1 := h.1
  have F := fun w hx => fv_any A n c xs w hx
  rw [hv] at F
  have HFV := Lib.hid F
  have W : ∀ (p q : Nat) (w : World), Ints w A n xs → p < n → q < n → Calls Try.prog 26 #[.slice A n c, .int .i64 p, .int .i64 q] w (Qt w (.int .i64 (TP.dist (xa xs) p q))) := fun p q w hx hp hq => by
    have := way_impl A n c xs p q w hx
    rwa [wayI_dist hv hn1 hp hq] at this
  have H := Lib.hid h
  have H' := Lib.hid h'
  have HO := Lib.hid ho
  have HW := Lib.hid W
  have HD : Hid (∀ p q, p < n → q < n → 0 ≤ TP.dist (xa xs) p q ∧ TP.dist (xa xs) p q ≤ 60) := Lib.hid fun p q hp hq => dist_le hv hn1 hp hq
  have HP : Hid (∀ k, k ≤ n' → 0 ≤ TP.path (xa xs) a (os.take k) ∧ TP.path (xa xs) a (os.take k) ≤ 60000) := Lib.hid fun k hk => by
    have := path_le hv hn1 (os.take k) a ha (fun j hj => by
      rw [List.length_take] at hj
      rw [List.getElem?_take, if_pos (by omega)]; exact ho j (by omega))
    rw [List.length_take] at this
    omega
  have HS : Hid (∀ k, k < n' → TP.path (xa xs) a (os.take (k + 1)) = TP.path (xa xs) a (os.take k) + TP.dist (xa xs) (atN a os k) (os[k]?.getD 0)) := Lib.hid fun k hk => path_take _ os a k (by omega)
  have HE : Hid (os.take n' = os) := Lib.hid (by rw [← hos]; exact List.take_length)
  have HAT := Lib.hid (fun k hk => atN_lt (os := os) ha ho k hk : ∀ k, k ≤ n' → atN a os k < n)
  have hna : (n' : Int) ≤ 1000 := by omega
  have hin : inB (a : Int) 0 ((n : Int) - 1) = true := inB_yes (by omega)
  have hm : (n : Int) ≤ 9223372036854775807 := by have := h.2.1; omega
  have n0 : 0 ≤ (n : Int) := by omega
  clear W F h h' ho hos hn1 hv ha hn'
  go_enter Try.func57, Try.ntmps57
  go_wp2_with (first | (go_at_call 46; refine (HFV.out _ H.out).mono ?_; rintro e w' ⟨rfl, m0, rfl⟩) | (go_at_call 47; refine (isFloor_any _ _ _).mono ?_; rintro e w' ⟨rfl, rfl⟩))
  go_loopw [7, 8, 25] (fun s f i wr => (∃ m, wr = (w.drewN m0).drewN m) ∧ ∃ k : Nat, k ≤ n' ∧ i = .int .i64 k ∧ s = .int .i64 (TP.path (xa xs) a (os.take k)) ∧ f = .int .i64 (atN a os k : Nat)) (fun _ _ i _ => n' - (intOf i).toNat)
  case atStart => exact ⟨⟨0, rfl⟩, 0, Nat.zero_le _, rfl, rfl, rfl⟩
  case round =>
    obtain ⟨⟨m, hw⟩, k, hk, rfl, rfl, rfl⟩ := hrel
    have HI : Hid (Ints wr A' n' (nums os)) := Lib.hid (by rw [hw]; exact (H'.out.drewN m0).drewN m)
    have HX : Hid (Ints wr A n xs) := Lib.hid (by rw [hw]; exact (H.out.drewN m0).drewN m)
    have HM := Lib.hid hw
    clear hw
    by_cases hlt : k < n'
    · obtain ⟨b, off, rfl, hb, hcc⟩ := HI.out.2.2 (by omega)
      have e0 := hcc k hlt
      rw [nums_get] at e0
      have hlt' : (k : Int) < (n' : Int) := by omega
      have h1 := HS.out k hlt
      have h2 := HAT.out k (by omega)
      have h3 := HO.out k hlt
      obtain ⟨p, hp⟩ : ∃ p, atN a os k = p := ⟨_, rfl⟩
      obtain ⟨q, hq⟩ : ∃ q, os[k]?.getD 0 = q := ⟨_, rfl⟩
      rw [hp] at h1 h2 ⊢
      rw [hq] at e0 h1 h3
      obtain ⟨d1, d2⟩ := HD.out p q h2 h3
      obtain ⟨s0, s1⟩ := HP.out k hk
      obtain ⟨s, hs⟩ : ∃ s, TP.path (xa xs) a (os.take k) = s := ⟨_, rfl⟩
      rw [hs] at h1 s0 s1 ⊢
      have W1 := fun w hx => HW.out p q w hx h2 h3
      obtain ⟨e, he⟩ : ∃ e, TP.dist (xa xs) p q = e := ⟨_, rfl⟩
      rw [he] at h1 d1 d2 W1
      have HW1 := Lib.hid W1
      have HN := Lib.hid h1
      have HQ : Hid (atN a os (k + 1) = q) := Lib.hid hq
      clear hcc hp hq hs he W1 h1
      go_wp2_with (go_at_call 26; refine (HW1.out _ HX.out).mono ?_; rintro e w' ⟨rfl, m3, rfl⟩)
      exact ⟨⟨⟨_, by rw [HM.out]; exact World.drewN_drewN _ _ _⟩, k + 1, by omega, by go_num, by rw [HN.out], by rw [HQ.out]⟩, by simp [intOf]; omega⟩
    · obtain rfl : k = n' := by omega
      rw [HE.out]
      go_wp2
      go_ret
      exact ⟨rfl, _, by rw [HM.out]; exact World.drewN_drewN _ _ _⟩
end Go.Proofs.Ytmekbfjeljfbpaa
