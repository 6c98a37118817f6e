/- The walk of the law FnOftenOk. -/
import Derived.Test.YtbjnkjookokjaaaDWait
import Derived.Test.YtbjnkjookokjaaaWaitA
namespace Go.Proofs.Ytbjnkjookokjaaa
open Go.ChangeShapes Go.WideShapes Go.ChangeAt Go.RowKit

/-- A guarded operation that is wanted goes as one without a guard. -/
theorem wpList_wanted {P : Program} {ops : Array Oper} {Q : Exit → Act → World → Prop} {a : Act} {w : World} {rest : List Oper} {o : Oper} (hw : Region.wanted o (yielded ops a.tmps) = true)
    (h : wpList P ops Q ({ o with guard := none } :: rest) a w) : wpList P ops Q (o :: rest) a w := by
  simp only [wpList] at h ⊢
  rw [if_pos hw]
  rw [if_pos (show Region.wanted { o with guard := none } (yielded ops a.tmps) = true from rfl)] at h
  exact h

set_option maxRecDepth 100000 in
set_option maxHeartbeats 4000000 in
theorem walk_FnOftenOk (A : Option Addr) (n c : Nat) (g : Nat → Int) (w : World) (hB : Bytes w A n c g) : Calls Try.prog 7 #[.slice A n c] w fun e w' => e = .returned (.bool true) ∧ Below w.heap.size w w' := by
  by_cases hn : 1048576 < n
  · have hn' : (1048576 : Int) < (n : Int) := by omega
    go_enter Try.func7, Try.ntmps7
    go_wp2
    go_ret
    exact ⟨rfl, by (repeat' (first | (with_reducible exact Below.refl _ _) | (with_reducible assumption) | (with_reducible exact bundrew (by assumption)) | (with_reducible refine balloc ?_ _) | (with_reducible refine bset ?_ _ ?_ _) | (with_reducible refine Below.drew ?_) | (with_reducible refine bdrewN ?_ _) | (with_reducible refine bvia (by assumption) ?_) | (with_reducible refine Below.trans ?_ (by assumption)) | omega | (simp; omega) | (simp; done)))⟩
  · have hn' : (n : Int) ≤ 1048576 := by omega
    go_enter Try.func7, Try.ntmps7
    go_wp2_with fail
    refine (drawOftenOk_any A n c g _ hB).mono ?_
    rintro x wd ⟨v, u, xs, os, rfl, ⟨A1, c1, rfl, ⟨hc1, -⟩, hc1', I1⟩, ⟨A2, c2, rfl, ⟨hc2, hA2⟩, -, I2⟩, l1, l2, hbd⟩
    obtain ⟨n1, hn1⟩ : ∃ n1, xs.length = n1 := ⟨_, rfl⟩
    obtain ⟨n2, hn2⟩ : ∃ n2, os.length = n2 := ⟨_, rfl⟩
    rw [hn1] at I1 l1 hc1 ⊢
    rw [hn2] at I2 l2 hc2 ⊢
    have HN1 := Lib.hid hn1
    have HN2 := Lib.hid hn2
    clear hn1 hn2
    have OI := fun w h h' => oft_impl A1 n1 c1 xs A2 n2 c2 os w h h'
    have OS := fun w h h' => oft_spec A1 n1 c1 xs A2 n2 c2 os w h h'
    have hno : oftB xs os = true → fvB xs = true ∧ oftB xs (os ++ [0]) = false := fun h => ⟨(oftB_iff.1 h).1, oftB_no fun hh => by
      have h1 := hh.2.1
      have h2 := (oftB_iff.1 h).2.1
      simp at h1
      omega⟩
    cases ho : oftB xs os
    · rw [ho] at OI OS
      have HOI := Lib.hid OI
      have HOS := Lib.hid OS
      clear OI OS hno
      go_wp2_with (first
        | (go_at_call 13; refine (HOI.out _ I1 I2).mono ?_; rintro x w' ⟨rfl, m1, rfl⟩)
        | (go_at_call 11; refine (HOS.out _ (I1.drewN _) (I2.drewN _)).mono ?_; rintro x w' ⟨rfl, m2, rfl⟩)
        | (go_at_call 25; refine (alive_any _).mono ?_; rintro x w3 ⟨rfl, hb3⟩))
      go_ret
      exact ⟨rfl, by (repeat' (first | (with_reducible exact Below.refl _ _) | (with_reducible assumption) | (with_reducible exact bundrew (by assumption)) | (with_reducible refine balloc ?_ _) | (with_reducible refine bset ?_ _ ?_ _) | (with_reducible refine Below.drew ?_) | (with_reducible refine bdrewN ?_ _) | (with_reducible refine bvia (by assumption) ?_) | (with_reducible refine Below.trans ?_ (by assumption)) | omega | (simp; omega) | (simp; done)))⟩
    · rw [ho] at OI OS
      obtain ⟨hfv, hof⟩ := hno ho
      have FV1 := fun w h => fv_any A1 n1 c1 xs w h
      have OX := fun A n c w h h' => oft_impl A1 n1 c1 xs A n c (os ++ [0]) w h h'
      rw [hfv] at FV1
      rw [hof] at OX
      have HOI := Lib.hid OI
      have HOS := Lib.hid OS
      have HFV := Lib.hid FV1
      have HOX := Lib.hid OX
      clear OI OS hno FV1 OX
      go_wp2_with (first
        | (go_at_call 13; refine (HOI.out _ I1 I2).mono ?_; rintro x w' ⟨rfl, m1, rfl⟩)
        | (go_at_call 11; refine (HOS.out _ (I1.drewN _) (I2.drewN _)).mono ?_; rintro x w' ⟨rfl, m2, rfl⟩)
        | (go_at_call 24; fail))
      obtain ⟨W, hW⟩ : ∃ W : World, W = (wd.drewN m1).drewN m2 := ⟨_, rfl⟩
      have J1 : Ints W A1 n1 xs := by rw [hW]; exact (I1.drewN m1).drewN m2
      have J2 : Ints W A2 n2 os := by rw [hW]; exact (I2.drewN m1).drewN m2
      have BW : Below w.heap.size w W := by rw [hW]; exact bdrewN (bdrewN hbd m1) m2
      rw [World.drewN_drewN] at hW
      try rw [World.drewN_drewN]
      rw [← hW]
      clear hW I1 I2 hbd
      refine (HFV.out _ J1).mono ?_
      rintro x wq ⟨rfl, m3, hm3⟩
      have K1 : Ints wq A1 n1 xs := by rw [hm3]; exact J1.drewN m3
      have K2 : Ints wq A2 n2 os := by rw [hm3]; exact J2.drewN m3
      have BQ : Below w.heap.size w wq := by rw [hm3]; exact bdrewN BW m3
      clear hm3 J1 J2 BW
      have Hz0 := OwnI.made (w := wq.alloc (.cells #[] 3)) (base := wq.heap.size) (g := wq.heap.size) (xs := []) (Nat.le_refl _) (heap_alloc_new wq _) (by unfold maxLen; decide)
      have BA : Below wq.heap.size wq (wq.alloc (.cells #[] 3)) := (Below.refl _ wq).alloc (Nat.le_refl _) _
      have lo : os.length ≤ 9 := by rw [HN2.out]; omega
      go_wp2_with (first
        | (at_builtin; have _t := h1; refine wpList_wanted ?_ ?_; (focus (first | rfl | (simp [Region.wanted, yielded]; done) | (go_simp; done))); refine app_intG rfl _ _ rfl wq.heap.size w1.heap.size _ ([] ++ os) 0 rfl rfl (h1.alloc _) ?_ ?_ ?_ ?_; (focus (first | (go_simp; done) | (simp; done) | omega | (simp; omega))); (focus (first | (go_simp; done) | (simp; done) | omega | (simp; omega))); (focus (first | (go_simp; done) | (simp; done) | omega | (simp; omega))); intro v4 w4 h4 g4; have b4 : Below wq.heap.size wq w4 := b1.trans ((((Below.refl _ w1).alloc z1 _)).trans (grown_below (h1.alloc _) (by simp; omega) g4)); have z4 := b4.size)
        | (at_builtin; refine wpList_wanted ?_ ?_; (focus (first | rfl | (simp [Region.wanted, yielded]; done) | (go_simp; done))); refine app_ints rfl _ _ rfl wq.heap.size _ [] A2 n2 c2 os rfl rfl Hz0 (K2.below BA) hA2 ?_ ?_ ?_; (focus (first | (go_simp; done) | (simp; done) | omega | (simp; omega))); (focus (first | (go_simp; done) | (simp; done) | omega | (simp; omega))); intro v1 w1 h1 g1; have b1 : Below wq.heap.size wq w1 := BA.trans (grown_below Hz0 (by simp) g1); have z1 := b1.size))
      have h4' : OwnI w4 wq.heap.size v4 (os ++ [0]) := by simpa using h4
      have K14 := K1.below b4
      obtain ⟨A4, c4, rfl⟩ := h4'.shape
      have B4 : Below w.heap.size w w4 := bvia b4 BQ
      clear h4 h1 g1 g4 Hz0 BA
      go_wp2_with (first
        | (go_at_call 13; refine (HOX.out _ _ _ _ K14 h4'.ints.2).mono ?_; rintro x w' ⟨rfl, m5, rfl⟩)
        | (go_at_call 25; refine (alive_any _).mono ?_; rintro x w6 ⟨rfl, hb6⟩))
      go_ret
      exact ⟨rfl, bvia hb6 (bdrewN B4 _)⟩
end Go.Proofs.Ytbjnkjookokjaaa
