/- The walk of the law FnTwinServe. -/
import Derived.Test.YtpcdedigblijbaaTwinL5
import Derived.Test.YtpcdedigblijbaaTwinL7
namespace Go.Proofs.Ytpcdedigblijbaa
open Go.ChangeShapes Go.WideShapes Go.ChangeAt Go.RowKit

theorem tdoT_valid {f l h c t : Int} (hv : tvB f l h = true) : (tdoT f l h c t).1 = f ∧ tvB (tdoT f l h c t).1 (tdoT f l h c t).2.1 (tdoT f l h c t).2.2.1 = true := by
  unfold tdoT
  rw [if_pos hv]
  split
  · rename_i h1; exact ⟨rfl, h1.2⟩
  · split
    · rename_i h1; exact ⟨rfl, h1.2⟩
    · exact ⟨rfl, hv⟩
theorem trS_valid {f l h : Int} (xs : List (Int × Int)) (hv : tvB f l h = true) : ∀ k, (trS f l h xs k).1 = f ∧ tvB (trS f l h xs k).1 (trS f l h xs k).2.1 (trS f l h xs k).2.2 = true
  | 0 => ⟨rfl, hv⟩
  | k + 1 => by
    obtain ⟨h1, h2⟩ := trS_valid xs hv k
    obtain ⟨h3, h4⟩ := tdoT_valid (c := px xs k) (t := py xs k) h2
    rw [trS_succ]
    exact ⟨h3.trans h1, h4⟩
theorem way_same {f l h l' h' car b : Int} (hv : tvB f l h = true) (hv' : tvB f l' h' = true) (hb : inB b 0 (f - 1) = true) (hw : (wayT f l h car b).2 = true) : (wayT f l' h' car b).2 = true := by
  rw [wayT_yes hv hb] at hw
  rw [wayT_yes hv' hb]
  by_cases g0 : car = 0
  · rw [if_pos g0] at hw ⊢
    by_cases g1 : b = f - 1
    · rw [if_pos g1] at hw; cases hw
    · rw [if_neg g1]; split <;> rfl
  · rw [if_neg g0] at hw ⊢
    by_cases g9 : car = 1
    · rw [if_pos g9] at hw ⊢
      by_cases g1 : b = 0
      · rw [if_pos g1] at hw; cases hw
      · rw [if_neg g1]; split <;> rfl
    · rw [if_neg g9] at hw; cases hw
theorem tfor_vals (f l h a b : Int) : tforI f l h a b = -1 ∨ tforI f l h a b = 0 ∨ tforI f l h a b = 1 := by
  unfold tforI
  repeat' split
  all_goals simp
theorem serve_facts {f l h a b t1 t2 t3 : Int} {ok : Bool} (hs : serveT f l h a b = (t1, t2, t3, ok)) :
    (ok = false ∧ tforI f l h a b = -1 ∧ (tvB f l h = false ∨ tvB f l h = true ∧ t1 = f ∧ t2 = l ∧ t3 = h)) ∨
    (ok = true ∧ tvB t1 t2 t3 = true ∧ (tforI f l h a b = 0 ∧ t2 = b ∨ tforI f l h a b = 1 ∧ t3 = b)) := by
  by_cases hv : tvB f l h = true
  · by_cases hc : tforI f l h a b < 0
    · rw [serveT_stay hv hc] at hs
      left
      injection hs with e1 e2
      injection e2 with e2 e3
      injection e3 with e3 e4
      refine ⟨e4.symm, ?_, .inr ⟨hv, e1.symm, e2.symm, e3.symm⟩⟩
      rcases tfor_vals f l h a b with h1 | h1 | h1 <;> omega
    · right
      have hr : ¬ (¬ tvB f l h = true ∨ a < 0 ∨ f ≤ a ∨ b < 0 ∨ f ≤ b ∨ a = b) := fun h0 => by rw [tfor_no h0] at hc; omega
      have h1 : 0 ≤ a ∧ a < f ∧ 0 ≤ b ∧ b < f ∧ a ≠ b := by omega
      obtain ⟨ha0, ha1, hb0, hb1, hab⟩ := h1
      have he : ¬ endsP f a b := fun he => by rw [tfor_ends hv ha0 ha1 hb0 hb1 hab he] at hc; omega
      obtain ⟨g1, g2, g3⟩ := tfor_facts hv ha0 ha1 hb0 hb1 hab he
      obtain ⟨car, hcar⟩ : ∃ car, tforI f l h a b = car := ⟨_, rfl⟩
      rw [hcar] at g1 g2 g3 hc ⊢
      obtain ⟨xs, hxs⟩ : ∃ xs, (wayT f l h car a).1 = xs := ⟨_, rfl⟩
      obtain ⟨k1, k2⟩ := trS_valid xs hv xs.length
      obtain ⟨s, hs1⟩ : ∃ s, trS f l h xs xs.length = s := ⟨_, rfl⟩
      rw [hs1] at k1 k2
      have hst : trunT f l h xs = s := by rw [trunT_yes hv rfl, hs1]
      obtain ⟨ys, hys⟩ : ∃ ys, (wayT s.1 s.2.1 s.2.2 car b).1 = ys := ⟨_, rfl⟩
      obtain ⟨t, ht⟩ : ∃ t, trunT s.1 s.2.1 s.2.2 ys = t := ⟨_, rfl⟩
      rw [serveT_yes hv hcar (by omega) hxs hst hys ht] at hs
      have hbi : inB b 0 (f - 1) = true := inB_yes (by omega)
      have w2 : (wayT s.1 s.2.1 s.2.2 car b).2 = true := by
        rw [k1] at k2 ⊢
        exact way_same hv k2 hbi g3
      have hd := way_done (show wayT s.1 s.2.1 s.2.2 car b = (ys, true) from Prod.ext hys w2)
      obtain ⟨j1, j2⟩ := trS_valid ys k2 ys.length
      rw [trunT_yes k2 rfl] at ht
      have hth := hd.there
      rw [ht] at j1 j2 hth
      injection hs with e1 e2
      injection e2 with e2 e3
      injection e3 with e3 e4
      refine ⟨e4.symm, by rw [← e1, ← e2, ← e3]; exact j2, ?_⟩
      rw [← e2, ← e3]
      exact hth
  · rw [serveT_no hv] at hs
    left
    injection hs with e1 e2
    injection e2 with e2 e3
    injection e3 with e3 e4
    exact ⟨e4.symm, tfor_no (.inl hv), .inl (bfalse hv)⟩

set_option maxHeartbeats 1000000 in
theorem drawTwinServe_any (A : Option Addr) (n c : Nat) (g : Nat → Int) (w : World) (h : Bytes w A n c g) : Calls Try.prog 41 #[.slice A n c] w (TwinTwoDrawn w) := by
  go_enter Try.func41, Try.ntmps41
  go_wp2_with fail
  refine (drawTwinFor_any A n c g _ (h.alloc _)).mono ?_
  rintro e w1 ⟨f, l, h', a, b, rfl, hb1⟩
  obtain ⟨c1, f1, z1, y1, x1, s1⟩ := bfacts5 hb1
  simp at s1
  have q0 : w.heap.size < w1.heap.size := by omega
  have k0 : w1.cell? ⟨w.heap.size, 0, none⟩ = some (.int .i64 0) := by rw [c1 _ _ (by simp)]; go_simp
  have k1 : w1.cell? ⟨w.heap.size, 1, none⟩ = some (.int .i64 0) := by rw [c1 _ _ (by simp)]; go_simp
  have k2 : w1.cell? ⟨w.heap.size, 2, none⟩ = some (.int .i64 0) := by rw [c1 _ _ (by simp)]; go_simp
  have n0 : ∀ o, w1.frozen? ⟨w.heap.size, o, none⟩ = false := fun o => by rw [f1 _ _ (by simp)]; go_simp
  clear c1 f1
  go_wp2
  refine bodyPost_ret (by simp [results, Try.results41, go_sem, *]; try rfl) rfl ?_
  exact ⟨_, _, _, _, _, rfl, by (repeat' (first | (with_reducible exact Below.refl _ _) | (with_reducible assumption) | (with_reducible exact bundrew (by assumption)) | (with_reducible refine balloc ?_ _) | (with_reducible refine bset ?_ _ ?_ _) | (with_reducible refine Below.drew ?_) | (with_reducible refine bdrewN ?_ _) | (with_reducible refine bvia (by assumption) ?_) | (with_reducible refine Below.trans ?_ (by assumption)) | omega | (simp; omega) | (simp; done)))⟩

set_option maxRecDepth 100000 in
set_option maxHeartbeats 4000000 in
theorem walk_FnTwinServe (A : Option Addr) (n c : Nat) (g : Nat → Int) (w : World) (hB : Bytes w A n c g) : Calls Try.prog 14 #[.slice A n c] w fun e w' => e = .returned (.bool true) ∧ Below w.heap.size w w' := by
  by_cases hn : 1048576 < n
  · have hn' : (1048576 : Int) < (n : Int) := by omega
    go_enter Try.func14, Try.ntmps14
    go_wp2
    go_ret
    exact ⟨rfl, by (repeat' (first | (with_reducible exact Below.refl _ _) | (with_reducible assumption) | (with_reducible exact bundrew (by assumption)) | (with_reducible refine balloc ?_ _) | (with_reducible refine bset ?_ _ ?_ _) | (with_reducible refine Below.drew ?_) | (with_reducible refine bdrewN ?_ _) | (with_reducible refine bvia (by assumption) ?_) | (with_reducible refine Below.trans ?_ (by assumption)) | omega | (simp; omega) | (simp; done)))⟩
  · have hn' : (n : Int) ≤ 1048576 := by omega
    go_enter Try.func14, Try.ntmps14
    go_wp2_with fail
    refine (drawTwinServe_any A n c g _ hB).mono ?_
    rintro x wd ⟨f, l, h, a, b, rfl, hbd⟩
    obtain ⟨r, hr⟩ : ∃ r, serveT f l h a b = r := ⟨_, rfl⟩
    have SI := fun w => serve_impl f l h a b w
    have SS := fun w => serve_spec f l h a b w
    rw [hr] at SI SS
    obtain ⟨t1, t2, t3, ok⟩ := r
    have hfacts := serve_facts hr
    have FI := fun w => tfor_impl f l h a b w
    obtain ⟨x, hx⟩ : ∃ x, tforI f l h a b = x := ⟨_, rfl⟩
    rw [hx] at FI hfacts
    have HSI := Lib.hid SI
    have HSS := Lib.hid SS
    have HFI := Lib.hid FI
    clear SI SS FI hr hx
    go_wp2_with fail
    refine (HSI.out _).mono ?_
    rintro e w1 ⟨rfl, hb1⟩
    have B1 : Below w.heap.size w w1 := by (repeat' (first | (with_reducible exact Below.refl _ _) | (with_reducible assumption) | (with_reducible exact bundrew (by assumption)) | (with_reducible refine balloc ?_ _) | (with_reducible refine bset ?_ _ ?_ _) | (with_reducible refine Below.drew ?_) | (with_reducible refine bdrewN ?_ _) | (with_reducible refine bvia (by assumption) ?_) | (with_reducible refine Below.trans ?_ (by assumption)) | omega | (simp; omega) | (simp; done)))
    have J1 : Hold3 w1 wd.heap.size f l h := Hold3.keep ⟨by simp, by go_simp, by go_simp, by go_simp⟩ hb1
    obtain ⟨q1, k10, k11, k12⟩ := J1
    have q10 : ¬ w1.heap.size = wd.heap.size := by omega
    have q11 : ¬ wd.heap.size = w1.heap.size := by omega
    clear hb1
    go_wp2_with fail
    refine (HSS.out _).mono ?_
    rintro e w2 ⟨rfl, hb2⟩
    have B2 : Below w.heap.size w w2 := by (repeat' (first | (with_reducible exact Below.refl _ _) | (with_reducible assumption) | (with_reducible exact bundrew (by assumption)) | (with_reducible refine balloc ?_ _) | (with_reducible refine bset ?_ _ ?_ _) | (with_reducible refine Below.drew ?_) | (with_reducible refine bdrewN ?_ _) | (with_reducible refine bvia (by assumption) ?_) | (with_reducible refine Below.trans ?_ (by assumption)) | omega | (simp; omega) | (simp; done)))
    have J2 : Hold3 w2 wd.heap.size f l h := Hold3.keep ⟨by simp; omega, by go_simp, by go_simp, by go_simp⟩ hb2
    have X2 : Hold3 w2 w1.heap.size t1 t2 t3 := Hold3.keep ⟨by simp, by go_simp, by go_simp, by go_simp⟩ hb2
    obtain ⟨q2, k20, k21, k22⟩ := J2
    obtain ⟨p2, x20, x21, x22⟩ := X2
    have q20 : ¬ w2.heap.size = wd.heap.size := by omega
    have q21 : ¬ wd.heap.size = w2.heap.size := by omega
    have q22 : ¬ w2.heap.size = w1.heap.size := by omega
    have q23 : ¬ w1.heap.size = w2.heap.size := by omega
    have q24 : wd.heap.size < w2.heap.size + 1 := by omega
    have q25 : w1.heap.size < w2.heap.size + 1 := by omega
    clear hb2 k10 k11 k12 q1
    rcases hfacts with ⟨rfl, rfl, hcase⟩ | ⟨rfl, hv, hcase⟩
    · go_wp2_with fail
      refine (HFI.out _).mono ?_
      rintro e w3 ⟨rfl, hb3⟩
      have B3 : Below w.heap.size w w3 := by (repeat' (first | (with_reducible exact Below.refl _ _) | (with_reducible assumption) | (with_reducible exact bundrew (by assumption)) | (with_reducible refine balloc ?_ _) | (with_reducible refine bset ?_ _ ?_ _) | (with_reducible refine Below.drew ?_) | (with_reducible refine bdrewN ?_ _) | (with_reducible refine bvia (by assumption) ?_) | (with_reducible refine Below.trans ?_ (by assumption)) | omega | (simp; omega) | (simp; done)))
      have J3 : Hold3 w3 wd.heap.size f l h := Hold3.keep ⟨by simp; omega, by go_simp, by go_simp, by go_simp⟩ hb3
      have X3 : Hold3 w3 w1.heap.size t1 t2 t3 := Hold3.keep ⟨by simp; omega, by go_simp, by go_simp, by go_simp⟩ hb3
      obtain ⟨q3, k30, k31, k32⟩ := J3
      obtain ⟨p3, x30, x31, x32⟩ := X3
      clear hb3 k20 k21 k22 x20 x21 x22 HSI HSS HFI
      rcases hcase with hv | ⟨hv, rfl, rfl, rfl⟩
      · have TV := fun w => tv_impl f l h w
        rw [hv] at TV
        have HTV := Lib.hid TV
        clear TV
        rcases beq_or t1 f with ⟨e1, e2⟩ | ⟨e1, e2⟩
        · rcases beq_or t2 l with ⟨e3, e4⟩ | ⟨e3, e4⟩
          · rcases beq_or t3 h with ⟨e5, e6⟩ | ⟨e5, e6⟩
            · subst e2 e4 e6
              clear e1 e3 e5
              go_wp2_with (go_at_call 36; refine (alive_any _).mono ?_; rintro x w5 ⟨rfl, b5⟩)
              go_ret
              exact ⟨rfl, bvia b5 B3⟩
            · have hne : ¬ t3 = h := by omega
              have hne' : ¬ h = t3 := by omega
              go_wp2_with (first | (go_at_call 17; refine (HTV.out _).mono ?_; rintro x w4 ⟨rfl, b4⟩) | (go_at_call 36; refine (alive_any _).mono ?_; rintro x w5 ⟨rfl, b5⟩))
              go_ret
              exact ⟨rfl, bvia b5 (bvia b4 B3)⟩
          · have hne : ¬ t2 = l := by omega
            have hne' : ¬ l = t2 := by omega
            go_wp2_with (first | (go_at_call 17; refine (HTV.out _).mono ?_; rintro x w4 ⟨rfl, b4⟩) | (go_at_call 36; refine (alive_any _).mono ?_; rintro x w5 ⟨rfl, b5⟩))
            go_ret
            exact ⟨rfl, bvia b5 (bvia b4 B3)⟩
        · have hne : ¬ t1 = f := by omega
          have hne' : ¬ f = t1 := by omega
          go_wp2_with (first | (go_at_call 17; refine (HTV.out _).mono ?_; rintro x w4 ⟨rfl, b4⟩) | (go_at_call 36; refine (alive_any _).mono ?_; rintro x w5 ⟨rfl, b5⟩))
          go_ret
          exact ⟨rfl, bvia b5 (bvia b4 B3)⟩
      · clear hv
        go_wp2_with (go_at_call 36; refine (alive_any _).mono ?_; rintro x w5 ⟨rfl, b5⟩)
        go_ret
        exact ⟨rfl, bvia b5 B3⟩
    · go_wp2_with fail
      refine (HFI.out _).mono ?_
      rintro e w3 ⟨rfl, hb3⟩
      have B3 : Below w.heap.size w w3 := by (repeat' (first | (with_reducible exact Below.refl _ _) | (with_reducible assumption) | (with_reducible exact bundrew (by assumption)) | (with_reducible refine balloc ?_ _) | (with_reducible refine bset ?_ _ ?_ _) | (with_reducible refine Below.drew ?_) | (with_reducible refine bdrewN ?_ _) | (with_reducible refine bvia (by assumption) ?_) | (with_reducible refine Below.trans ?_ (by assumption)) | omega | (simp; omega) | (simp; done)))
      have X3 : Hold3 w3 w1.heap.size t1 t2 t3 := Hold3.keep ⟨by simp; omega, by go_simp, by go_simp, by go_simp⟩ hb3
      obtain ⟨p3, x30, x31, x32⟩ := X3
      clear hb3 k20 k21 k22 x20 x21 x22 HSI HSS HFI
      have TV := fun w => tv_impl t1 t2 t3 w
      rw [hv] at TV
      have HTV := Lib.hid TV
      clear TV hv
      rcases hcase with ⟨rfl, rfl⟩ | ⟨rfl, rfl⟩
      · go_wp2_with (go_at_call 17; refine (HTV.out _).mono ?_; rintro x w4 ⟨rfl, b4⟩; have X4 : Hold3 w4 w1.heap.size t1 t2 t3 := Hold3.keep ⟨p3, x30, x31, x32⟩ b4; obtain ⟨p4, x40, x41, x42⟩ := X4)
        go_ret
        exact ⟨rfl, bvia b4 B3⟩
      · go_wp2_with (go_at_call 17; refine (HTV.out _).mono ?_; rintro x w4 ⟨rfl, b4⟩; have X4 : Hold3 w4 w1.heap.size t1 t2 t3 := Hold3.keep ⟨p3, x30, x31, x32⟩ b4; obtain ⟨p4, x40, x41, x42⟩ := X4)
        go_ret
        exact ⟨rfl, bvia b4 B3⟩
end Go.Proofs.Ytpcdedigblijbaa
