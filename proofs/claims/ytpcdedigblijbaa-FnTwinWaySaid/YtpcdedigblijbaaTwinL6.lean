/- The walk of the law FnTwinWay. -/
import Derived.Test.YtpcdedigblijbaaTwinL5
namespace Go.Proofs.Ytpcdedigblijbaa
open Go.ChangeShapes Go.WideShapes Go.ChangeAt Go.RowKit

set_option maxRecDepth 100000 in
set_option maxHeartbeats 8000000 in
theorem walk_FnTwinWay (A : Option Addr) (n c : Nat) (g : Nat → Int) (w : World) (hB : Bytes w A n c g) : Calls Try.prog 13 #[.slice A n c] w fun e w' => e = .returned (.bool true) ∧ Below w.heap.size w w' := by
  by_cases hn : 1048576 < n
  · have hn' : (1048576 : Int) < (n : Int) := by omega
    go_enter Try.func13, Try.ntmps13
    go_wp2
    go_ret
    exact ⟨rfl, by (repeat' (first | (with_reducible exact Below.refl _ _) | (with_reducible assumption) | (with_reducible exact bundrew (by assumption)) | (with_reducible refine balloc ?_ _) | (with_reducible refine bset ?_ _ ?_ _) | (with_reducible refine Below.drew ?_) | (with_reducible refine bdrewN ?_ _) | (with_reducible refine bvia (by assumption) ?_) | (with_reducible refine Below.trans ?_ (by assumption)) | omega | (simp; omega) | (simp; done)))⟩
  · have hn' : (n : Int) ≤ 1048576 := by omega
    go_enter Try.func13, Try.ntmps13
    go_wp2_with fail
    refine (drawTwinWay_any A n c g _ hB).mono ?_
    rintro x wd ⟨f, l, h, car, d, rfl, hbd⟩
    obtain ⟨xs, hxs⟩ : ∃ xs, (wayT f l h car d).1 = xs := ⟨_, rfl⟩
    obtain ⟨b, hbt⟩ : ∃ b, (wayT f l h car d).2 = b := ⟨_, rfl⟩
    have WI := fun w => way_impl f l h car d w
    have WS := fun w => way_spec f l h car d w
    rw [hxs, hbt] at WI WS
    have HI := Lib.hid WI
    have HS := Lib.hid WS
    have hw : wayT f l h car d = (xs, b) := Prod.ext hxs hbt
    obtain ⟨r, hr⟩ : ∃ r, tdoT f l h car d = r := ⟨_, rfl⟩
    have TD := fun w => tdo_impl f l h car d w
    rw [hr] at TD
    have HTD := Lib.hid TD
    clear WI WS hxs hbt TD
    go_wp2_with fail
    refine (HI.out _).mono ?_
    rintro e w1 ⟨v1, rfl, o1, hb1⟩
    obtain ⟨hcw1, hfw1, -, -, -, hsw1⟩ := bfacts5 hb1
    simp at hsw1
    have q1 : wd.heap.size < w1.heap.size := by omega
    have k0 : w1.cell? ⟨wd.heap.size, 0, none⟩ = some (.int .i64 f) := by rw [hcw1 _ _ (by simp)]; go_simp
    have k1 : w1.cell? ⟨wd.heap.size, 1, none⟩ = some (.int .i64 l) := by rw [hcw1 _ _ (by simp)]; go_simp
    have k2 : w1.cell? ⟨wd.heap.size, 2, none⟩ = some (.int .i64 h) := by rw [hcw1 _ _ (by simp)]; go_simp
    have B1 : Below w.heap.size w w1 := by (repeat' (first | (with_reducible exact Below.refl _ _) | (with_reducible assumption) | (with_reducible exact bundrew (by assumption)) | (with_reducible refine balloc ?_ _) | (with_reducible refine bset ?_ _ ?_ _) | (with_reducible refine Below.drew ?_) | (with_reducible refine bdrewN ?_ _) | (with_reducible refine bvia (by assumption) ?_) | (with_reducible refine Below.trans ?_ (by assumption)) | omega | (simp; omega) | (simp; done)))
    obtain ⟨A1, c1, rfl⟩ := o1.shape
    clear hcw1 hfw1
    go_wp2_with fail
    refine (HS.out _).mono ?_
    rintro e w2 ⟨v2, rfl, o2, hb2⟩
    have hbs := hb2.size
    have q2 : wd.heap.size < w2.heap.size := by omega
    have B2 : Below w.heap.size w w2 := bvia hb2 B1
    have P1 := (o1.below hb2).pairs.2
    have j0 : w2.cell? ⟨wd.heap.size, 0, none⟩ = some (.int .i64 f) := (hb2.cell (p := ⟨wd.heap.size, 0, none⟩) q1).trans k0
    have j1 : w2.cell? ⟨wd.heap.size, 1, none⟩ = some (.int .i64 l) := (hb2.cell (p := ⟨wd.heap.size, 1, none⟩) q1).trans k1
    have j2 : w2.cell? ⟨wd.heap.size, 2, none⟩ = some (.int .i64 h) := (hb2.cell (p := ⟨wd.heap.size, 2, none⟩) q1).trans k2
    obtain ⟨A2, c2, rfl⟩ := o2.shape
    have P2 := o2.pairs.2
    clear o1 o2 k0 k1 k2 HI HS
    cases b
    · obtain ⟨rfl, hnot⟩ := way_not hw
      clear hw
      go_wp2_with fail
      go_loop [10] (fun i => i = .int .i64 0) (fun _ => 0)
      case atStart => rfl
      case round =>
        subst hrel
        obtain ⟨r1, r2, r3, r4⟩ := r
        by_cases hv : tvB f l h = true
        · by_cases hlo : d < 0
          · clear hnot hr
            go_wp2_with (first
              | (go_at_call 15; go_must (refine (tv_spec _ _ _ _).mono ?_; rintro e w1 ⟨rfl, hbw1⟩; obtain ⟨hcw1, hfw1, -, -, -, hsw1⟩ := bfacts5 hbw1; (try simp only [World.size_drew] at hcw1 hfw1); (try simp at hsw1); have qw10 : wd.heap.size < w1.heap.size := (by omega); have rw10 : ∀ m : Nat, wd.heap.size < w1.heap.size + m := fun m => (by omega)))
              | (go_at_call 22; go_must (refine (HTD.out _).mono ?_; rintro e w1 ⟨rfl, hbw1⟩; obtain ⟨hcw1, hfw1, -, -, -, hsw1⟩ := bfacts5 hbw1; (try simp only [World.size_drew] at hcw1 hfw1); (try simp at hsw1); have qw10 : wd.heap.size < w1.heap.size := (by omega); have rw10 : ∀ m : Nat, wd.heap.size < w1.heap.size + m := fun m => (by omega)))
              | (go_at_call 36; refine (alive_any _).mono ?_; rintro x w5 ⟨rfl, hb5⟩))
            go_ret
            exact ⟨rfl, by (repeat' (first | (with_reducible exact Below.refl _ _) | (with_reducible assumption) | (with_reducible exact bundrew (by assumption)) | (with_reducible refine balloc ?_ _) | (with_reducible refine bset ?_ _ ?_ _) | (with_reducible refine Below.drew ?_) | (with_reducible refine bdrewN ?_ _) | (with_reducible refine bvia (by assumption) ?_) | (with_reducible refine Below.trans ?_ (by assumption)) | omega | (simp; omega) | (simp; done)))⟩
          · by_cases hhi : f ≤ d
            · clear hnot hr
              go_wp2_with (first
                | (go_at_call 15; go_must (refine (tv_spec _ _ _ _).mono ?_; rintro e w1 ⟨rfl, hbw1⟩; obtain ⟨hcw1, hfw1, -, -, -, hsw1⟩ := bfacts5 hbw1; (try simp only [World.size_drew] at hcw1 hfw1); (try simp at hsw1); have qw10 : wd.heap.size < w1.heap.size := (by omega); have rw10 : ∀ m : Nat, wd.heap.size < w1.heap.size + m := fun m => (by omega)))
                | (go_at_call 22; go_must (refine (HTD.out _).mono ?_; rintro e w1 ⟨rfl, hbw1⟩; obtain ⟨hcw1, hfw1, -, -, -, hsw1⟩ := bfacts5 hbw1; (try simp only [World.size_drew] at hcw1 hfw1); (try simp at hsw1); have qw10 : wd.heap.size < w1.heap.size := (by omega); have rw10 : ∀ m : Nat, wd.heap.size < w1.heap.size + m := fun m => (by omega)))
                | (go_at_call 36; refine (alive_any _).mono ?_; rintro x w5 ⟨rfl, hb5⟩))
              go_ret
              exact ⟨rfl, by (repeat' (first | (with_reducible exact Below.refl _ _) | (with_reducible assumption) | (with_reducible exact bundrew (by assumption)) | (with_reducible refine balloc ?_ _) | (with_reducible refine bset ?_ _ ?_ _) | (with_reducible refine Below.drew ?_) | (with_reducible refine bdrewN ?_ _) | (with_reducible refine bvia (by assumption) ?_) | (with_reducible refine Below.trans ?_ (by assumption)) | omega | (simp; omega) | (simp; done)))⟩
            · have hhi' : d < f := by omega
              by_cases hc0 : car < 0
              · clear hnot hr
                go_wp2_with (first
                  | (go_at_call 15; go_must (refine (tv_spec _ _ _ _).mono ?_; rintro e w1 ⟨rfl, hbw1⟩; obtain ⟨hcw1, hfw1, -, -, -, hsw1⟩ := bfacts5 hbw1; (try simp only [World.size_drew] at hcw1 hfw1); (try simp at hsw1); have qw10 : wd.heap.size < w1.heap.size := (by omega); have rw10 : ∀ m : Nat, wd.heap.size < w1.heap.size + m := fun m => (by omega)))
                  | (go_at_call 22; go_must (refine (HTD.out _).mono ?_; rintro e w1 ⟨rfl, hbw1⟩; obtain ⟨hcw1, hfw1, -, -, -, hsw1⟩ := bfacts5 hbw1; (try simp only [World.size_drew] at hcw1 hfw1); (try simp at hsw1); have qw10 : wd.heap.size < w1.heap.size := (by omega); have rw10 : ∀ m : Nat, wd.heap.size < w1.heap.size + m := fun m => (by omega)))
                  | (go_at_call 36; refine (alive_any _).mono ?_; rintro x w5 ⟨rfl, hb5⟩))
                go_ret
                exact ⟨rfl, by (repeat' (first | (with_reducible exact Below.refl _ _) | (with_reducible assumption) | (with_reducible exact bundrew (by assumption)) | (with_reducible refine balloc ?_ _) | (with_reducible refine bset ?_ _ ?_ _) | (with_reducible refine Below.drew ?_) | (with_reducible refine bdrewN ?_ _) | (with_reducible refine bvia (by assumption) ?_) | (with_reducible refine Below.trans ?_ (by assumption)) | omega | (simp; omega) | (simp; done)))⟩
              · by_cases hc1 : 1 < car
                · clear hnot hr
                  go_wp2_with (first
                    | (go_at_call 15; go_must (refine (tv_spec _ _ _ _).mono ?_; rintro e w1 ⟨rfl, hbw1⟩; obtain ⟨hcw1, hfw1, -, -, -, hsw1⟩ := bfacts5 hbw1; (try simp only [World.size_drew] at hcw1 hfw1); (try simp at hsw1); have qw10 : wd.heap.size < w1.heap.size := (by omega); have rw10 : ∀ m : Nat, wd.heap.size < w1.heap.size + m := fun m => (by omega)))
                    | (go_at_call 22; go_must (refine (HTD.out _).mono ?_; rintro e w1 ⟨rfl, hbw1⟩; obtain ⟨hcw1, hfw1, -, -, -, hsw1⟩ := bfacts5 hbw1; (try simp only [World.size_drew] at hcw1 hfw1); (try simp at hsw1); have qw10 : wd.heap.size < w1.heap.size := (by omega); have rw10 : ∀ m : Nat, wd.heap.size < w1.heap.size + m := fun m => (by omega)))
                    | (go_at_call 36; refine (alive_any _).mono ?_; rintro x w5 ⟨rfl, hb5⟩))
                  go_ret
                  exact ⟨rfl, by (repeat' (first | (with_reducible exact Below.refl _ _) | (with_reducible assumption) | (with_reducible exact bundrew (by assumption)) | (with_reducible refine balloc ?_ _) | (with_reducible refine bset ?_ _ ?_ _) | (with_reducible refine Below.drew ?_) | (with_reducible refine bdrewN ?_ _) | (with_reducible refine bvia (by assumption) ?_) | (with_reducible refine Below.trans ?_ (by assumption)) | omega | (simp; omega) | (simp; done)))⟩
                · have hi : inB d 0 (f - 1) = true := by simp only [inB, decide_eq_true_eq]; omega
                  have hn4 := hnot hv hi
                  clear hnot hr
                  rcases (show car = 0 ∧ d = f - 1 ∨ car = 1 ∧ d = 0 by omega) with ⟨rfl, hd⟩ | ⟨rfl, rfl⟩
                  · have h5 : f - 1 = d := by omega
                    have hlo' : 0 ≤ d := by omega
                    obtain ⟨p1, p2, p3, p4, p5⟩ := tv_open hv
                    clear hn4 hi hd hhi hlo hc0 hc1
                    go_wp2_with (first
                      | (go_at_call 15; go_must (refine (tv_spec _ _ _ _).mono ?_; rintro e w1 ⟨rfl, hbw1⟩; obtain ⟨hcw1, hfw1, -, -, -, hsw1⟩ := bfacts5 hbw1; (try simp only [World.size_drew] at hcw1 hfw1); (try simp at hsw1); have qw10 : wd.heap.size < w1.heap.size := (by omega); have rw10 : ∀ m : Nat, wd.heap.size < w1.heap.size + m := fun m => (by omega)))
                      | (go_at_call 22; go_must (refine (HTD.out _).mono ?_; rintro e w1 ⟨rfl, hbw1⟩; obtain ⟨hcw1, hfw1, -, -, -, hsw1⟩ := bfacts5 hbw1; (try simp only [World.size_drew] at hcw1 hfw1); (try simp at hsw1); have qw10 : wd.heap.size < w1.heap.size := (by omega); have rw10 : ∀ m : Nat, wd.heap.size < w1.heap.size + m := fun m => (by omega)))
                      | (go_at_call 36; refine (alive_any _).mono ?_; rintro x w5 ⟨rfl, hb5⟩))
                    go_loop [12] (fun i => i = .int .i64 0) (fun _ => 0)
                    case atStart => rfl
                    case round =>
                      subst hrel
                      go_wp2_with (first
                        | (go_at_call 15; go_must (refine (tv_spec _ _ _ _).mono ?_; rintro e w1 ⟨rfl, hbw1⟩; obtain ⟨hcw1, hfw1, -, -, -, hsw1⟩ := bfacts5 hbw1; (try simp only [World.size_drew] at hcw1 hfw1); (try simp at hsw1); have qw10 : wd.heap.size < w1.heap.size := (by omega); have rw10 : ∀ m : Nat, wd.heap.size < w1.heap.size + m := fun m => (by omega)))
                        | (go_at_call 22; go_must (refine (HTD.out _).mono ?_; rintro e w1 ⟨rfl, hbw1⟩; obtain ⟨hcw1, hfw1, -, -, -, hsw1⟩ := bfacts5 hbw1; (try simp only [World.size_drew] at hcw1 hfw1); (try simp at hsw1); have qw10 : wd.heap.size < w1.heap.size := (by omega); have rw10 : ∀ m : Nat, wd.heap.size < w1.heap.size + m := fun m => (by omega)))
                        | (go_at_call 36; refine (alive_any _).mono ?_; rintro x w5 ⟨rfl, hb5⟩))
                      go_ret
                      exact ⟨rfl, by (repeat' (first | (with_reducible exact Below.refl _ _) | (with_reducible assumption) | (with_reducible exact bundrew (by assumption)) | (with_reducible refine balloc ?_ _) | (with_reducible refine bset ?_ _ ?_ _) | (with_reducible refine Below.drew ?_) | (with_reducible refine bdrewN ?_ _) | (with_reducible refine bvia (by assumption) ?_) | (with_reducible refine Below.trans ?_ (by assumption)) | omega | (simp; omega) | (simp; done)))⟩
                  · clear hn4 hi
                    go_wp2_with (first
                      | (go_at_call 15; go_must (refine (tv_spec _ _ _ _).mono ?_; rintro e w1 ⟨rfl, hbw1⟩; obtain ⟨hcw1, hfw1, -, -, -, hsw1⟩ := bfacts5 hbw1; (try simp only [World.size_drew] at hcw1 hfw1); (try simp at hsw1); have qw10 : wd.heap.size < w1.heap.size := (by omega); have rw10 : ∀ m : Nat, wd.heap.size < w1.heap.size + m := fun m => (by omega)))
                      | (go_at_call 22; go_must (refine (HTD.out _).mono ?_; rintro e w1 ⟨rfl, hbw1⟩; obtain ⟨hcw1, hfw1, -, -, -, hsw1⟩ := bfacts5 hbw1; (try simp only [World.size_drew] at hcw1 hfw1); (try simp at hsw1); have qw10 : wd.heap.size < w1.heap.size := (by omega); have rw10 : ∀ m : Nat, wd.heap.size < w1.heap.size + m := fun m => (by omega)))
                      | (go_at_call 36; refine (alive_any _).mono ?_; rintro x w5 ⟨rfl, hb5⟩))
                    go_loop [12] (fun i => i = .int .i64 0) (fun _ => 0)
                    case atStart => rfl
                    case round =>
                      subst hrel
                      go_wp2_with (first
                        | (go_at_call 15; go_must (refine (tv_spec _ _ _ _).mono ?_; rintro e w1 ⟨rfl, hbw1⟩; obtain ⟨hcw1, hfw1, -, -, -, hsw1⟩ := bfacts5 hbw1; (try simp only [World.size_drew] at hcw1 hfw1); (try simp at hsw1); have qw10 : wd.heap.size < w1.heap.size := (by omega); have rw10 : ∀ m : Nat, wd.heap.size < w1.heap.size + m := fun m => (by omega)))
                        | (go_at_call 22; go_must (refine (HTD.out _).mono ?_; rintro e w1 ⟨rfl, hbw1⟩; obtain ⟨hcw1, hfw1, -, -, -, hsw1⟩ := bfacts5 hbw1; (try simp only [World.size_drew] at hcw1 hfw1); (try simp at hsw1); have qw10 : wd.heap.size < w1.heap.size := (by omega); have rw10 : ∀ m : Nat, wd.heap.size < w1.heap.size + m := fun m => (by omega)))
                        | (go_at_call 36; refine (alive_any _).mono ?_; rintro x w5 ⟨rfl, hb5⟩))
                      go_ret
                      exact ⟨rfl, by (repeat' (first | (with_reducible exact Below.refl _ _) | (with_reducible assumption) | (with_reducible exact bundrew (by assumption)) | (with_reducible refine balloc ?_ _) | (with_reducible refine bset ?_ _ ?_ _) | (with_reducible refine Below.drew ?_) | (with_reducible refine bdrewN ?_ _) | (with_reducible refine bvia (by assumption) ?_) | (with_reducible refine Below.trans ?_ (by assumption)) | omega | (simp; omega) | (simp; done)))⟩
        · have hv' := bfalse hv
          clear hnot hr
          go_wp2_with (first
            | (go_at_call 15; go_must (refine (tv_spec _ _ _ _).mono ?_; rintro e w1 ⟨rfl, hbw1⟩; obtain ⟨hcw1, hfw1, -, -, -, hsw1⟩ := bfacts5 hbw1; (try simp only [World.size_drew] at hcw1 hfw1); (try simp at hsw1); have qw10 : wd.heap.size < w1.heap.size := (by omega); have rw10 : ∀ m : Nat, wd.heap.size < w1.heap.size + m := fun m => (by omega)))
            | (go_at_call 22; go_must (refine (HTD.out _).mono ?_; rintro e w1 ⟨rfl, hbw1⟩; obtain ⟨hcw1, hfw1, -, -, -, hsw1⟩ := bfacts5 hbw1; (try simp only [World.size_drew] at hcw1 hfw1); (try simp at hsw1); have qw10 : wd.heap.size < w1.heap.size := (by omega); have rw10 : ∀ m : Nat, wd.heap.size < w1.heap.size + m := fun m => (by omega)))
            | (go_at_call 36; refine (alive_any _).mono ?_; rintro x w5 ⟨rfl, hb5⟩))
          go_ret
          exact ⟨rfl, by (repeat' (first | (with_reducible exact Below.refl _ _) | (with_reducible assumption) | (with_reducible exact bundrew (by assumption)) | (with_reducible refine balloc ?_ _) | (with_reducible refine bset ?_ _ ?_ _) | (with_reducible refine Below.drew ?_) | (with_reducible refine bdrewN ?_ _) | (with_reducible refine bvia (by assumption) ?_) | (with_reducible refine Below.trans ?_ (by assumption)) | omega | (simp; omega) | (simp; done)))⟩
    · have D := way_done hw
      have hlen := way_len hw
      obtain ⟨n1, hn1⟩ : ∃ n1, xs.length = n1 := ⟨_, rfl⟩
      have hv := D.valid
      have hlo := D.lo
      have hhi := D.hi
      have hat := D.at0
      have hcan := D.can
      have hthere := D.there
      have hdirect := D.direct
      rw [hr] at hdirect
      obtain ⟨r1, r2, r3, r4⟩ := r
      simp only at hdirect
      rw [hn1] at hlen hcan hthere hdirect P1 P2 ⊢
      have hlen' : (n1 : Int) ≤ 2 := by omega
      have HX := Lib.hid hn1
      have HCAN := Lib.hid hcan
      have HTH := Lib.hid hthere
      have HPP := Lib.hid P1
      obtain ⟨g1, hg1, hp1⟩ := P1
      obtain ⟨g2, hg2, hp2⟩ := P2
      have HP1 := Lib.hid hp1
      have HP2 := Lib.hid hp2
      clear D hw hcan hthere hr hp1 hp2 g1 g2 hn1
      go_wp2_with fail
      go_loopw [10] (fun i wr => ∃ k : Nat, k ≤ n1 ∧ i = .int .i64 k ∧ ∃ m, wr = w2.drewN m) (fun i _ => n1 - (intOf i).toNat)
      case atStart => exact ⟨0, Nat.zero_le _, rfl, 0, rfl⟩
      case round =>
        obtain ⟨k, hk, rfl, m, rfl⟩ := hrel
        by_cases hlt : k < n1
        · obtain ⟨b, off, rfl, hb, hcc⟩ := HP1.out (by omega)
          obtain ⟨b', off', rfl, hb', hcc'⟩ := HP2.out (by omega)
          obtain ⟨e0, e1⟩ := hcc k hlt
          obtain ⟨e2, e3⟩ := hcc' k hlt
          have hlt' : (k : Int) < (n1 : Int) := by omega
          clear hcc hcc' hat hdirect
          go_wp2
          try go_quiet (fail)
          all_goals try go_wp2
          all_goals exact ⟨⟨k + 1, by omega, by go_num, _, rfl⟩, by simp [intOf]; omega⟩
        · obtain rfl : k = n1 := by omega
          obtain ⟨W, hW⟩ : ∃ W : World, W = w2.drewN m := ⟨_, rfl⟩
          have J0 : W.cell? ⟨wd.heap.size, 0, none⟩ = some (.int .i64 f) := by rw [hW]; exact j0
          have J1 : W.cell? ⟨wd.heap.size, 1, none⟩ = some (.int .i64 l) := by rw [hW]; exact j1
          have J2 : W.cell? ⟨wd.heap.size, 2, none⟩ = some (.int .i64 h) := by rw [hW]; exact j2
          have PW : Pairs W A1 k xs := by rw [hW]; exact HPP.out
          have BW : Below w.heap.size w W := by rw [hW]; exact bdrewN B2 m
          have qW : wd.heap.size < W.heap.size := by rw [hW, size_drewN]; exact q2
          rw [← hW]
          have hcase : (car = 0 ∧ d < f - 1 ∧ (trS f l h xs k).2.1 = d) ∨ (car = 1 ∧ 0 < d ∧ (trS f l h xs k).2.2 = d) := by
            rcases hat with ⟨a1, a2⟩ | ⟨a1, a2⟩ <;> rcases HTH.out with ⟨a3, a4⟩ | ⟨a3, a4⟩ <;> omega
          have HC := Lib.hid hcase
          clear hW j0 j1 j2 HPP HP1 HP2 B2 hat hcase HTH q2 hbs hb2
          rcases HC.out with ⟨rfl, hat, hth⟩ | ⟨rfl, hat, hth⟩
          · clear HC
            go_wp2_with fail
            refine (tv_spec _ _ _ _).mono ?_
            rintro e w3 ⟨rfl, hbw3⟩
            obtain ⟨hcw3, hfw3, -, -, -, hsw3⟩ := bfacts5 hbw3
            try simp only [World.size_drew] at hcw3 hfw3
            try simp at hsw3
            have qw30 : wd.heap.size < w3.heap.size := (by omega)
            have rw30 : ∀ m : Nat, wd.heap.size < w3.heap.size + m := fun m => (by omega)
            rw [hv]
            have Q0 : w3.cell? ⟨wd.heap.size, 0, none⟩ = some (.int .i64 f) := (hbw3.cell (p := ⟨wd.heap.size, 0, none⟩) qW).trans J0
            have Q1 : w3.cell? ⟨wd.heap.size, 1, none⟩ = some (.int .i64 l) := (hbw3.cell (p := ⟨wd.heap.size, 1, none⟩) qW).trans J1
            have Q2 : w3.cell? ⟨wd.heap.size, 2, none⟩ = some (.int .i64 h) := (hbw3.cell (p := ⟨wd.heap.size, 2, none⟩) qW).trans J2
            have P3 := Lib.hid (PW.below hbw3)
            have B3 : Below w.heap.size w w3 := bvia hbw3 BW
            have q3 : wd.heap.size < w3.heap.size := by omega
            obtain ⟨p1, p2, p3, p4, p5⟩ := tv_open hv
            clear BW qW J0 J1 J2
            go_wp2_with fail
            have g1 : decide (d < 0) = false := by simp; omega
            have g2 : decide (f ≤ d) = false := by simp; omega
            have g3 : (d == f - 1) = false := by simp; omega
            simp only [g1, g2, g3, Bool.or_self]
            clear g1 g2 g3
            go_loopw [12] (fun i wr => ∃ j : Nat, j ≤ k ∧ i = .int .i64 j ∧ Below w3.heap.size w3 wr ∧ Own3 wr w3.heap.size (trS f l h xs j).1 (trS f l h xs j).2.1 (trS f l h xs j).2.2) (fun i _ => k - (intOf i).toNat)
            case atStart =>
              refine ⟨0, Nat.zero_le _, rfl, (Below.refl _ w3).alloc (Nat.le_refl _) _, ?_⟩
              refine ⟨?_, ⟨?_, ?_, ?_⟩, ?_, ?_, ?_⟩ <;> first | (simp only [trS]; go_simp; done) | (go_simp; done) | omega
            case round =>
              obtain ⟨j, hj, rfl, B4, ⟨z1, ⟨c10, c11, c12⟩, f10, f11, f12⟩⟩ := hrel
              obtain ⟨y1, x1, v1, u1, t1⟩ := far_facts z1
              have Q0' : wr.cell? ⟨wd.heap.size, 0, none⟩ = some (.int .i64 f) := (B4.cell (p := ⟨wd.heap.size, 0, none⟩) q3).trans Q0
              have Q1' : wr.cell? ⟨wd.heap.size, 1, none⟩ = some (.int .i64 l) := (B4.cell (p := ⟨wd.heap.size, 1, none⟩) q3).trans Q1
              have Q2' : wr.cell? ⟨wd.heap.size, 2, none⟩ = some (.int .i64 h) := (B4.cell (p := ⟨wd.heap.size, 2, none⟩) q3).trans Q2
              have B5 : Below w.heap.size w wr := bvia B4 B3
              by_cases hlt2 : j < k
              · obtain ⟨g3, -, hp3⟩ := P3.out.below B4
                obtain ⟨b, off, rfl, hb, hcc⟩ := hp3 (by omega)
                obtain ⟨e0, e1⟩ := hcc j hlt2
                have ecan := HCAN.out j hlt2
                have hlt2' : (j : Int) < (k : Int) := by omega
                obtain ⟨y3, x3, v3, u3, t3⟩ := far_facts hb
                have hsucc := trS_succ f l h xs j
                obtain ⟨s, hs⟩ : ∃ s, trS f l h xs j = s := ⟨_, rfl⟩
                obtain ⟨p, hp⟩ : ∃ p, px xs j = p := ⟨_, rfl⟩
                obtain ⟨q, hq⟩ : ∃ q, py xs j = q := ⟨_, rfl⟩
                rw [hs] at hsucc ecan c10 c11 c12
                rw [hp] at hsucc ecan e0
                rw [hq] at hsucc ecan e1
                obtain ⟨s1, s2, s3⟩ := s
                simp only at hsucc ecan c10 c11 c12
                have TDJ := fun w => tdo_impl s1 s2 s3 p q w
                obtain ⟨y, hy⟩ : ∃ y, tdoT s1 s2 s3 p q = y := ⟨_, rfl⟩
                rw [hy] at hsucc ecan TDJ
                obtain ⟨b1, b2, b3, b4⟩ := y
                simp only at hsucc ecan TDJ
                subst ecan
                have HTDJ := Lib.hid TDJ
                have HSU := Lib.hid hsucc
                have hwb : w3.heap.size ≤ wr.heap.size := B4.size
                clear hcc hs hp hq hy TDJ hsucc g3 hp3
                go_wp2_with fail
                go_region_held3 (fun w' => w'.cell? ⟨w3.heap.size, 0, none⟩ = some (.int .i64 s1) ∧ w'.cell? ⟨w3.heap.size, 1, none⟩ = some (.int .i64 s2) ∧ w'.cell? ⟨w3.heap.size, 2, none⟩ = some (.int .i64 s3) ∧
                    w'.frozen? ⟨w3.heap.size, 0, none⟩ = false ∧ w'.frozen? ⟨w3.heap.size, 1, none⟩ = false ∧ w'.frozen? ⟨w3.heap.size, 2, none⟩ = false ∧
                    w'.cell? ⟨b, off + j * 2, none⟩ = some (.int .i64 p) ∧ w'.cell? ⟨b, off + j * 2 + 1, none⟩ = some (.int .i64 q) ∧ Below w3.heap.size w3 w' ∧ w3.heap.size < w'.heap.size ∧ wr.heap.size ≤ w'.heap.size)
                  (first | (refine ⟨?_, ?_, ?_, ?_, ?_, ?_, ?_, ?_, ?_, ?_, ?_⟩ <;> first | (go_simp; done) | (simp; omega) | (repeat' (first | (with_reducible exact Below.refl _ _) | (with_reducible assumption) | (with_reducible exact bundrew (by assumption)) | (with_reducible refine balloc ?_ _) | (with_reducible refine bset ?_ _ ?_ _) | (with_reducible refine Below.drew ?_) | (with_reducible refine bdrewN ?_ _) | (with_reducible refine bvia (by assumption) ?_) | (with_reducible refine Below.trans ?_ (by assumption)) | omega | (simp; omega) | (simp; done)))))
                  (first | (go_at_call 22; go_must (refine (HTDJ.out _).mono ?_; rintro e w1 ⟨rfl, hbw1⟩; obtain ⟨hcw1, hfw1, -, -, -, hsw1⟩ := bfacts5 hbw1; (try simp only [World.size_drew] at hcw1 hfw1); (try simp at hsw1); have qw10 : w3.heap.size < w1.heap.size := (by omega); have rw10 : ∀ m : Nat, w3.heap.size < w1.heap.size + m := fun m => (by omega); have qw11 : b < w1.heap.size := (by omega); have rw11 : ∀ m : Nat, b < w1.heap.size + m := fun m => (by omega); (try have qw12 : wr.heap.size < w1.heap.size := (by omega)); (try have rw12 : ∀ m : Nat, wr.heap.size < w1.heap.size + m := fun m => (by omega)))))
                all_goals go_wp2
                all_goals
                  refine ⟨⟨j + 1, by omega, by go_num, by (repeat' (first | (with_reducible exact Below.refl _ _) | (with_reducible assumption) | (with_reducible exact bundrew (by assumption)) | (with_reducible refine balloc ?_ _) | (with_reducible refine bset ?_ _ ?_ _) | (with_reducible refine Below.drew ?_) | (with_reducible refine bdrewN ?_ _) | (with_reducible refine bvia (by assumption) ?_) | (with_reducible refine Below.trans ?_ (by assumption)) | omega | (simp; omega) | (simp; done))), ?_⟩, by simp [intOf]; omega⟩
                  rw [HSU.out]
                  refine ⟨?_, ⟨?_, ?_, ?_⟩, ?_, ?_, ?_⟩ <;> first | (go_simp; done) | (simp; omega)
              · obtain rfl : j = k := by omega
                have hwb : w3.heap.size ≤ wr.heap.size := B4.size
                have qt : wd.heap.size < wr.heap.size := by omega
                have e9 : wr.cell? ⟨w3.heap.size, 1, none⟩ = some (.int .i64 d) := by rw [← hth]; exact c11
                clear c10 c11 c12 f10 f11 f12 hth
                by_cases h1 : j = 1
                · have hr4 : r4 = true := by rw [hdirect]; simp [h1]
                  clear hdirect
                  subst hr4
                  have h1' : (j : Int) = 1 := by omega
                  go_wp2_with (first | (go_at_call 22; go_must (refine (HTD.out _).mono ?_; rintro e w1 ⟨rfl, hbw1⟩; obtain ⟨hcw1, hfw1, -, -, -, hsw1⟩ := bfacts5 hbw1; (try simp only [World.size_drew] at hcw1 hfw1); (try simp at hsw1); have qw10 : wd.heap.size < w1.heap.size := (by omega); have rw10 : ∀ m : Nat, wd.heap.size < w1.heap.size + m := fun m => (by omega); have qw11 : w3.heap.size < w1.heap.size := (by omega); have rw11 : ∀ m : Nat, w3.heap.size < w1.heap.size + m := fun m => (by omega))))
                  go_ret
                  exact ⟨rfl, by (repeat' (first | (with_reducible exact Below.refl _ _) | (with_reducible assumption) | (with_reducible exact bundrew (by assumption)) | (with_reducible refine balloc ?_ _) | (with_reducible refine bset ?_ _ ?_ _) | (with_reducible refine Below.drew ?_) | (with_reducible refine bdrewN ?_ _) | (with_reducible refine bvia (by assumption) ?_) | (with_reducible refine Below.trans ?_ (by assumption)) | omega | (simp; omega) | (simp; done)))⟩
                · have hr4 : r4 = false := by rw [hdirect]; simp [h1]
                  clear hdirect
                  subst hr4
                  have h1' : ((j : Int) == 1) = false := by simp; omega
                  have h1'' : ¬ (j : Int) = 1 := by omega
                  go_wp2_with (first | (go_at_call 22; go_must (refine (HTD.out _).mono ?_; rintro e w1 ⟨rfl, hbw1⟩; obtain ⟨hcw1, hfw1, -, -, -, hsw1⟩ := bfacts5 hbw1; (try simp only [World.size_drew] at hcw1 hfw1); (try simp at hsw1); have qw10 : wd.heap.size < w1.heap.size := (by omega); have rw10 : ∀ m : Nat, wd.heap.size < w1.heap.size + m := fun m => (by omega); have qw11 : w3.heap.size < w1.heap.size := (by omega); have rw11 : ∀ m : Nat, w3.heap.size < w1.heap.size + m := fun m => (by omega))))
                  go_ret
                  exact ⟨rfl, by (repeat' (first | (with_reducible exact Below.refl _ _) | (with_reducible assumption) | (with_reducible exact bundrew (by assumption)) | (with_reducible refine balloc ?_ _) | (with_reducible refine bset ?_ _ ?_ _) | (with_reducible refine Below.drew ?_) | (with_reducible refine bdrewN ?_ _) | (with_reducible refine bvia (by assumption) ?_) | (with_reducible refine Below.trans ?_ (by assumption)) | omega | (simp; omega) | (simp; done)))⟩
          · clear HC
            go_wp2_with fail
            refine (tv_spec _ _ _ _).mono ?_
            rintro e w3 ⟨rfl, hbw3⟩
            obtain ⟨hcw3, hfw3, -, -, -, hsw3⟩ := bfacts5 hbw3
            try simp only [World.size_drew] at hcw3 hfw3
            try simp at hsw3
            have qw30 : wd.heap.size < w3.heap.size := (by omega)
            have rw30 : ∀ m : Nat, wd.heap.size < w3.heap.size + m := fun m => (by omega)
            rw [hv]
            have Q0 : w3.cell? ⟨wd.heap.size, 0, none⟩ = some (.int .i64 f) := (hbw3.cell (p := ⟨wd.heap.size, 0, none⟩) qW).trans J0
            have Q1 : w3.cell? ⟨wd.heap.size, 1, none⟩ = some (.int .i64 l) := (hbw3.cell (p := ⟨wd.heap.size, 1, none⟩) qW).trans J1
            have Q2 : w3.cell? ⟨wd.heap.size, 2, none⟩ = some (.int .i64 h) := (hbw3.cell (p := ⟨wd.heap.size, 2, none⟩) qW).trans J2
            have P3 := Lib.hid (PW.below hbw3)
            have B3 : Below w.heap.size w w3 := bvia hbw3 BW
            have q3 : wd.heap.size < w3.heap.size := by omega
            obtain ⟨p1, p2, p3, p4, p5⟩ := tv_open hv
            clear BW qW J0 J1 J2
            go_wp2_with fail
            have g1 : decide (d < 0) = false := by simp; omega
            have g2 : decide (f ≤ d) = false := by simp; omega
            have g3 : (d == 0) = false := by simp; omega
            simp only [g1, g2, g3, Bool.or_self]
            clear g1 g2 g3
            go_loopw [12] (fun i wr => ∃ j : Nat, j ≤ k ∧ i = .int .i64 j ∧ Below w3.heap.size w3 wr ∧ Own3 wr w3.heap.size (trS f l h xs j).1 (trS f l h xs j).2.1 (trS f l h xs j).2.2) (fun i _ => k - (intOf i).toNat)
            case atStart =>
              refine ⟨0, Nat.zero_le _, rfl, (Below.refl _ w3).alloc (Nat.le_refl _) _, ?_⟩
              refine ⟨?_, ⟨?_, ?_, ?_⟩, ?_, ?_, ?_⟩ <;> first | (simp only [trS]; go_simp; done) | (go_simp; done) | omega
            case round =>
              obtain ⟨j, hj, rfl, B4, ⟨z1, ⟨c10, c11, c12⟩, f10, f11, f12⟩⟩ := hrel
              obtain ⟨y1, x1, v1, u1, t1⟩ := far_facts z1
              have Q0' : wr.cell? ⟨wd.heap.size, 0, none⟩ = some (.int .i64 f) := (B4.cell (p := ⟨wd.heap.size, 0, none⟩) q3).trans Q0
              have Q1' : wr.cell? ⟨wd.heap.size, 1, none⟩ = some (.int .i64 l) := (B4.cell (p := ⟨wd.heap.size, 1, none⟩) q3).trans Q1
              have Q2' : wr.cell? ⟨wd.heap.size, 2, none⟩ = some (.int .i64 h) := (B4.cell (p := ⟨wd.heap.size, 2, none⟩) q3).trans Q2
              have B5 : Below w.heap.size w wr := bvia B4 B3
              by_cases hlt2 : j < k
              · obtain ⟨g3, -, hp3⟩ := P3.out.below B4
                obtain ⟨b, off, rfl, hb, hcc⟩ := hp3 (by omega)
                obtain ⟨e0, e1⟩ := hcc j hlt2
                have ecan := HCAN.out j hlt2
                have hlt2' : (j : Int) < (k : Int) := by omega
                obtain ⟨y3, x3, v3, u3, t3⟩ := far_facts hb
                have hsucc := trS_succ f l h xs j
                obtain ⟨s, hs⟩ : ∃ s, trS f l h xs j = s := ⟨_, rfl⟩
                obtain ⟨p, hp⟩ : ∃ p, px xs j = p := ⟨_, rfl⟩
                obtain ⟨q, hq⟩ : ∃ q, py xs j = q := ⟨_, rfl⟩
                rw [hs] at hsucc ecan c10 c11 c12
                rw [hp] at hsucc ecan e0
                rw [hq] at hsucc ecan e1
                obtain ⟨s1, s2, s3⟩ := s
                simp only at hsucc ecan c10 c11 c12
                have TDJ := fun w => tdo_impl s1 s2 s3 p q w
                obtain ⟨y, hy⟩ : ∃ y, tdoT s1 s2 s3 p q = y := ⟨_, rfl⟩
                rw [hy] at hsucc ecan TDJ
                obtain ⟨b1, b2, b3, b4⟩ := y
                simp only at hsucc ecan TDJ
                subst ecan
                have HTDJ := Lib.hid TDJ
                have HSU := Lib.hid hsucc
                have hwb : w3.heap.size ≤ wr.heap.size := B4.size
                clear hcc hs hp hq hy TDJ hsucc g3 hp3
                go_wp2_with fail
                go_region_held3 (fun w' => w'.cell? ⟨w3.heap.size, 0, none⟩ = some (.int .i64 s1) ∧ w'.cell? ⟨w3.heap.size, 1, none⟩ = some (.int .i64 s2) ∧ w'.cell? ⟨w3.heap.size, 2, none⟩ = some (.int .i64 s3) ∧
                    w'.frozen? ⟨w3.heap.size, 0, none⟩ = false ∧ w'.frozen? ⟨w3.heap.size, 1, none⟩ = false ∧ w'.frozen? ⟨w3.heap.size, 2, none⟩ = false ∧
                    w'.cell? ⟨b, off + j * 2, none⟩ = some (.int .i64 p) ∧ w'.cell? ⟨b, off + j * 2 + 1, none⟩ = some (.int .i64 q) ∧ Below w3.heap.size w3 w' ∧ w3.heap.size < w'.heap.size ∧ wr.heap.size ≤ w'.heap.size)
                  (first | (refine ⟨?_, ?_, ?_, ?_, ?_, ?_, ?_, ?_, ?_, ?_, ?_⟩ <;> first | (go_simp; done) | (simp; omega) | (repeat' (first | (with_reducible exact Below.refl _ _) | (with_reducible assumption) | (with_reducible exact bundrew (by assumption)) | (with_reducible refine balloc ?_ _) | (with_reducible refine bset ?_ _ ?_ _) | (with_reducible refine Below.drew ?_) | (with_reducible refine bdrewN ?_ _) | (with_reducible refine bvia (by assumption) ?_) | (with_reducible refine Below.trans ?_ (by assumption)) | omega | (simp; omega) | (simp; done)))))
                  (first | (go_at_call 22; go_must (refine (HTDJ.out _).mono ?_; rintro e w1 ⟨rfl, hbw1⟩; obtain ⟨hcw1, hfw1, -, -, -, hsw1⟩ := bfacts5 hbw1; (try simp only [World.size_drew] at hcw1 hfw1); (try simp at hsw1); have qw10 : w3.heap.size < w1.heap.size := (by omega); have rw10 : ∀ m : Nat, w3.heap.size < w1.heap.size + m := fun m => (by omega); have qw11 : b < w1.heap.size := (by omega); have rw11 : ∀ m : Nat, b < w1.heap.size + m := fun m => (by omega); (try have qw12 : wr.heap.size < w1.heap.size := (by omega)); (try have rw12 : ∀ m : Nat, wr.heap.size < w1.heap.size + m := fun m => (by omega)))))
                all_goals go_wp2
                all_goals
                  refine ⟨⟨j + 1, by omega, by go_num, by (repeat' (first | (with_reducible exact Below.refl _ _) | (with_reducible assumption) | (with_reducible exact bundrew (by assumption)) | (with_reducible refine balloc ?_ _) | (with_reducible refine bset ?_ _ ?_ _) | (with_reducible refine Below.drew ?_) | (with_reducible refine bdrewN ?_ _) | (with_reducible refine bvia (by assumption) ?_) | (with_reducible refine Below.trans ?_ (by assumption)) | omega | (simp; omega) | (simp; done))), ?_⟩, by simp [intOf]; omega⟩
                  rw [HSU.out]
                  refine ⟨?_, ⟨?_, ?_, ?_⟩, ?_, ?_, ?_⟩ <;> first | (go_simp; done) | (simp; omega)
              · obtain rfl : j = k := by omega
                have hwb : w3.heap.size ≤ wr.heap.size := B4.size
                have qt : wd.heap.size < wr.heap.size := by omega
                have e9 : wr.cell? ⟨w3.heap.size, 2, none⟩ = some (.int .i64 d) := by rw [← hth]; exact c12
                clear c10 c11 c12 f10 f11 f12 hth
                by_cases h1 : j = 1
                · have hr4 : r4 = true := by rw [hdirect]; simp [h1]
                  clear hdirect
                  subst hr4
                  have h1' : (j : Int) = 1 := by omega
                  go_wp2_with (first | (go_at_call 22; go_must (refine (HTD.out _).mono ?_; rintro e w1 ⟨rfl, hbw1⟩; obtain ⟨hcw1, hfw1, -, -, -, hsw1⟩ := bfacts5 hbw1; (try simp only [World.size_drew] at hcw1 hfw1); (try simp at hsw1); have qw10 : wd.heap.size < w1.heap.size := (by omega); have rw10 : ∀ m : Nat, wd.heap.size < w1.heap.size + m := fun m => (by omega); have qw11 : w3.heap.size < w1.heap.size := (by omega); have rw11 : ∀ m : Nat, w3.heap.size < w1.heap.size + m := fun m => (by omega))))
                  go_ret
                  exact ⟨rfl, by (repeat' (first | (with_reducible exact Below.refl _ _) | (with_reducible assumption) | (with_reducible exact bundrew (by assumption)) | (with_reducible refine balloc ?_ _) | (with_reducible refine bset ?_ _ ?_ _) | (with_reducible refine Below.drew ?_) | (with_reducible refine bdrewN ?_ _) | (with_reducible refine bvia (by assumption) ?_) | (with_reducible refine Below.trans ?_ (by assumption)) | omega | (simp; omega) | (simp; done)))⟩
                · have hr4 : r4 = false := by rw [hdirect]; simp [h1]
                  clear hdirect
                  subst hr4
                  have h1' : ((j : Int) == 1) = false := by simp; omega
                  have h1'' : ¬ (j : Int) = 1 := by omega
                  go_wp2_with (first | (go_at_call 22; go_must (refine (HTD.out _).mono ?_; rintro e w1 ⟨rfl, hbw1⟩; obtain ⟨hcw1, hfw1, -, -, -, hsw1⟩ := bfacts5 hbw1; (try simp only [World.size_drew] at hcw1 hfw1); (try simp at hsw1); have qw10 : wd.heap.size < w1.heap.size := (by omega); have rw10 : ∀ m : Nat, wd.heap.size < w1.heap.size + m := fun m => (by omega); have qw11 : w3.heap.size < w1.heap.size := (by omega); have rw11 : ∀ m : Nat, w3.heap.size < w1.heap.size + m := fun m => (by omega))))
                  go_ret
                  exact ⟨rfl, by (repeat' (first | (with_reducible exact Below.refl _ _) | (with_reducible assumption) | (with_reducible exact bundrew (by assumption)) | (with_reducible refine balloc ?_ _) | (with_reducible refine bset ?_ _ ?_ _) | (with_reducible refine Below.drew ?_) | (with_reducible refine bdrewN ?_ _) | (with_reducible refine bvia (by assumption) ?_) | (with_reducible refine Below.trans ?_ (by assumption)) | omega | (simp; omega) | (simp; done)))⟩
end Go.Proofs.Ytpcdedigblijbaa
