/- ShortTour of the reference, for valid arguments: contract. -/
import Derived.Test.YtmekbfjeljfbpaaTourA
import Derived.Test.YtmekbfjeljfbpaaOwnX
namespace Go.Proofs.Ytmekbfjeljfbpaa
open Go.ChangeShapes Go.WideShapes Go.ChangeAt Go.RowKit

/-- What a change of one list of the call's own leaves of another one. -/
theorem OwnI.grown {w w' : World} {base : Nat} {v u : Value} {xs : List Int} (h : OwnI w base v xs) (hg : w.grownBy w' u.ownBlock) (hd : ∀ g, v.ownBlock = some g → u.ownBlock ≠ some g) : OwnI w' base v xs :=
  h.keep fun g hv hlt => hg.block g hlt fun e => hd g hv e.symm
theorem apart_sym {v u : Value} (h : ∀ g, v.ownBlock = some g → u.ownBlock ≠ some g) : ∀ g, u.ownBlock = some g → v.ownBlock ≠ some g := fun g h1 h2 => h g h2 h1
theorem OwnI.none0 {w : World} {base : Nat} {A : Option Addr} {n c : Nat} {xs : List Int} (h : OwnI w base (.slice A n c) xs) : A = none → c = 0 := by
  obtain ⟨A', c', e', ⟨_, q⟩, _⟩ := h.sl
  injection e' with e1 e2 e3
  rw [e1, e3]; exact q
theorem own_app0 {w : World} {base : Nat} {v : Value} {xs : List Int} (h : OwnI w base v ([] ++ xs)) : OwnI w base v xs := h

/-- Of the first k floors: those that are visited upward, and those that are visited downward. -/
def upK (a : Nat) (b : Bool) (vs : List Nat) (k : Nat) : List Nat := (vs.take k).filter fun v => !TP.isDown a b v
def dnK (a : Nat) (b : Bool) (vs : List Nat) (k : Nat) : List Nat := ((vs.take k).filter (TP.isDown a b)).reverse
theorem take_next {vs : List Nat} {k v : Nat} (hk : k < vs.length) (hv : vs[k]?.getD 0 = v) : vs.take (k + 1) = vs.take k ++ [v] := by
  rw [List.take_add_one, List.getElem?_eq_getElem hk] at *
  simp at hv
  simp [hv]
theorem upK_up {a : Nat} {b : Bool} {vs : List Nat} {k v : Nat} (hk : k < vs.length) (hv : vs[k]?.getD 0 = v) (h : TP.isDown a b v = false) : nums (upK a b vs (k + 1)) = nums (upK a b vs k) ++ [(v : Int)] ∧ dnK a b vs (k + 1) = dnK a b vs k := by
  unfold upK dnK
  rw [take_next hk hv, List.filter_append, List.filter_append, nums_append]
  simp [h, nums]
theorem upK_dn {a : Nat} {b : Bool} {vs : List Nat} {k v : Nat} (hk : k < vs.length) (hv : vs[k]?.getD 0 = v) (h : TP.isDown a b v = true) : upK a b vs (k + 1) = upK a b vs k ∧ nums (dnK a b vs (k + 1)) = [(v : Int)] ++ nums (dnK a b vs k) := by
  unfold upK dnK
  rw [take_next hk hv, List.filter_append, List.filter_append]
  simp [h, nums]
theorem up_len (a : Nat) (b : Bool) (vs : List Nat) (k : Nat) : (nums (upK a b vs k)).length ≤ vs.length := by
  rw [nums_length]; unfold upK
  exact Nat.le_trans (List.length_filter_le _ _) (by rw [List.length_take]; omega)
theorem dn_len (a : Nat) (b : Bool) (vs : List Nat) (k : Nat) : (nums (dnK a b vs k)).length ≤ vs.length := by
  rw [nums_length]; unfold dnK
  rw [List.length_reverse]
  exact Nat.le_trans (List.length_filter_le _ _) (by rw [List.length_take]; omega)
theorem tour_true {x : Nat → Int} {a : Nat} {vs : List Nat} (h : TP.lowFirst x a vs = true) : nums (TP.tour x a vs) = nums (dnK a true vs vs.length) ++ nums (upK a true vs vs.length) := by
  unfold TP.tour upK dnK
  rw [if_pos h, List.take_length, nums_append]
theorem tour_false {x : Nat → Int} {a : Nat} {vs : List Nat} (h : TP.lowFirst x a vs = false) : nums (TP.tour x a vs) = nums (upK a false vs vs.length) ++ nums (dnK a false vs vs.length) := by
  unfold TP.tour upK dnK
  rw [if_neg (by simp [h]), List.take_length, nums_append]

set_option maxRecDepth 100000 in
set_option maxHeartbeats 4000000 in
theorem st_spec (A : Option Addr) (n c : Nat) (xs : List Int) (a : Nat) (A' : Option Addr) (n' c' : Nat) (vs : List Nat) (w : World) (h : Ints w A n xs) (h' : Ints w A' n' (nums vs)) (hv : fvB xs = true) (ha : a < n) (hr : ∀ k, k < n' → vs[k]?.getD 0 < n) (hasc : TP.Asc vs) (hn' : n' ≤ 1000) :
    Calls Try.prog 53 #[.slice A n c, .int .i64 a, .slice A' n' c'] w (NumsOut w (TP.tour (xa xs) a vs)) := by
  have hos : vs.length = n' := by rw [← nums_length]; exact h'.1
  have hn1 := h.1
  have V := fun w hx hy => visits_spec A n c xs A' n' c' (nums vs) w hx hy hv (fun k hk => by rw [nums_get]; have := hr k hk; omega) (fun k hk => by
    rw [nums_get, nums_get]; have := hasc k (k + 1) (by omega) (by omega); omega)
  have hin : inB (a : Int) 0 ((n : Int) - 1) = true := inB_yes (by omega)
  have hm : (n : Int) ≤ 9223372036854775807 := by have := h.2.1; omega
  have n0 : 0 ≤ (n : Int) := by omega
  have hna : (n' : Int) ≤ 1000 := by omega
  obtain ⟨w0, hw0⟩ : ∃ w0 : World, w0 = (w.alloc (.cells #[] 3)).alloc (.cells #[] 3) := ⟨_, rfl⟩
  have B0 : Below w.heap.size w w0 := by rw [hw0]; exact ((Below.refl _ w).alloc (Nat.le_refl _) _).alloc (by simp) _
  have U0 : OwnI w0 w.heap.size (.slice (some ⟨w.heap.size, 0, none⟩) 0 0) [] := by
    rw [hw0]
    exact (OwnI.made (w := w.alloc (.cells #[] 3)) (base := w.heap.size) (g := w.heap.size) (xs := []) (Nat.le_refl _) (heap_alloc_new w _) (by unfold maxLen; decide)).alloc _
  have D0 : OwnI w0 w.heap.size (.slice (some ⟨w.heap.size + 1, 0, none⟩) 0 0) [] := by
    rw [hw0]
    exact OwnI.made (base := w.heap.size) (g := w.heap.size + 1) (xs := []) (by omega) (by have := heap_alloc_new (w.alloc (.cells #[] 3)) (.cells #[] 3); simpa using this) (by unfold maxLen; decide)
  have H0' := Lib.hid h'
  have H := Lib.hid (h.below B0)
  have H' := Lib.hid (h'.below B0)
  have HVS := Lib.hid V
  have HW0 := Lib.hid hw0
  by_cases hz : n' = 0
  · subst hz
    have hvs : vs = [] := List.eq_nil_of_length_eq_zero hos
    subst hvs
    rw [TP.tour_nil]
    clear V h h' hv ha hr hasc hos hn1 hw0
    go_enter Try.func53, Try.ntmps53
    go_wp2_with fail
    rw [← HW0.out]
    refine (HVS.out _ H.out H'.out).mono ?_
    rintro e w1 ⟨rfl, m1, rfl⟩
    go_wp2_with (go_at_call 50; refine (l1In_any _ _ _ _).mono ?_; rintro e w' ⟨rfl, rfl⟩)
    go_ret
    exact ⟨_, rfl, U0.drewN _, bdrewN B0 _⟩
  · obtain ⟨b, off, rfl, hb, hcc⟩ := H'.out.2.2 (by omega)
    obtain ⟨L, hL⟩ : ∃ L, n' = L + 1 := ⟨n' - 1, by omega⟩
    have e0 : w0.cell? ⟨b, off, none⟩ = some (.int .i64 (vs[0]?.getD 0 : Nat)) := by have := hcc 0 (by omega); rw [nums_get] at this; exact this
    have eL : w0.cell? ⟨b, off + L, none⟩ = some (.int .i64 (vs[L]?.getD 0 : Nat)) := by have := hcc L (by omega); rw [nums_get] at this; exact this
    have hL1 : IntKind.i64.wrap ((n' : Int) - 1) = (L : Int) := by rw [IntWalk.i64_in _ ⟨by omega, by omega⟩]; omega
    have hL2 : (L : Int) < (n' : Int) := by omega
    have hL0 : (0 : Int) < (n' : Int) := by omega
    have hne : ((n' : Int) == 0) = false := by simp; omega
    have hlow := hr 0 (by omega)
    have hhigh := hr L (by omega)
    have hF : TP.lowFirst (xa xs) a vs = decide (vs[0]?.getD 0 < a ∧ (vs[L]?.getD 0 ≤ a ∨ TP.dist (xa xs) a (vs[0]?.getD 0) ≤ TP.dist (xa xs) a (vs[L]?.getD 0))) := by
      unfold TP.lowFirst; rw [hos, hL, Nat.add_sub_cancel]
    obtain ⟨p, hp⟩ : ∃ p, vs[0]?.getD 0 = p := ⟨_, rfl⟩
    obtain ⟨q, hq⟩ : ∃ q, vs[L]?.getD 0 = q := ⟨_, rfl⟩
    rw [hp] at e0 hF hlow
    rw [hq] at eL hF hhigh
    have W : ∀ (q : Nat) (w : World), Ints w A n xs → q < n → Calls Try.prog 45 #[.slice A n c, .int .i64 a, .int .i64 q] w (Qt w (.int .i64 (TP.dist (xa xs) a q))) := fun q w hx hq => by
      have := way_spec A n c xs a q w hx
      rwa [wayI_dist hv hn1 ha hq] at this
    have HW := Lib.hid W
    have HLen := Lib.hid hos
    have HB0 := Lib.hid B0
    have HLo := Lib.hid hlow
    have HHi := Lib.hid hhigh
    clear V W h h' hv hr hasc hos hn1 hw0 hcc hp hq hlow hhigh hL
    by_cases c1 : p < a
    · have c1' : (p : Int) < (a : Int) := by omega
      by_cases c2 : q ≤ a
      · have c2' : (q : Int) ≤ (a : Int) := by omega
        have HF : Hid (TP.lowFirst (xa xs) a vs = true) := Lib.hid (by rw [hF]; simp [c1, c2])
        clear hF
        go_enter Try.func53, Try.ntmps53
        go_wp2_with fail
        rw [← HW0.out]
        refine (HVS.out _ H.out H'.out).mono ?_
        rintro e w1 ⟨rfl, m1, hm1⟩
        have U1 : OwnI w1 w.heap.size (.slice (some ⟨w.heap.size, 0, none⟩) 0 0) [] := by rw [hm1]; exact U0.drewN _
        have D1 : OwnI w1 w.heap.size (.slice (some ⟨w.heap.size + 1, 0, none⟩) 0 0) [] := by rw [hm1]; exact D0.drewN _
        have B1 : Below w.heap.size w w1 := by rw [hm1]; exact bdrewN B0 _
        have c0 : w1.cell? ⟨b, off, none⟩ = some (.int .i64 p) := by rw [hm1]; exact e0
        have cL : w1.cell? ⟨b, off + L, none⟩ = some (.int .i64 q) := by rw [hm1]; exact eL
        have HX : Ints w1 A n xs := by rw [hm1]; exact H.out.drewN _
        clear hm1 U0 D0 e0 eL B0
        go_wp2_with (go_at_call 50; refine (l1In_any _ _ _ _).mono ?_; rintro e w' ⟨rfl, rfl⟩)
        have HL : Hid (∀ k, k < n' → ∀ v : Nat, vs[k]?.getD 0 = v → (TP.isDown a true v = false → nums (upK a true vs (k + 1)) = nums (upK a true vs k) ++ [(v : Int)] ∧ dnK a true vs (k + 1) = dnK a true vs k) ∧ (TP.isDown a true v = true → upK a true vs (k + 1) = upK a true vs k ∧ nums (dnK a true vs (k + 1)) = [(v : Int)] ++ nums (dnK a true vs k))) := Lib.hid fun k hk v hv => ⟨upK_up (by rw [HLen.out]; exact hk) hv, upK_dn (by rw [HLen.out]; exact hk) hv⟩
        go_loopw [7, 8, 12] (fun u' d' i wr => ∃ (u d : Value) (k : Nat), u = u' ∧ d = d' ∧ i = .int .i64 k ∧ k ≤ n' ∧ OwnI wr w.heap.size u (nums (upK a true vs k)) ∧ OwnI wr w.heap.size d (nums (dnK a true vs k)) ∧ (∀ g, u.ownBlock = some g → d.ownBlock ≠ some g) ∧ Below w.heap.size w wr) (fun _ _ i _ => n' - (intOf i).toNat)
        case atStart => exact ⟨_, _, 0, rfl, rfl, rfl, Nat.zero_le _, U1, D1, fun g h1 h2 => by simp [Value.ownBlock] at h1 h2; omega, B1⟩
        case round =>
          clear U1 D1 B1 c0 cL hb
          obtain ⟨u, d, k, rfl, rfl, rfl, hk, hu, hd, hap, hbl⟩ := hrel
          have hbs := hbl.size
          by_cases hlt : k < n'
          · have hlt' : (k : Int) < (n' : Int) := by omega
            obtain ⟨_, _, u2, hb, hcc⟩ := (H0'.out.below hbl).2.2 (by omega)
            cases u2
            have e0 := hcc k hlt
            rw [nums_get] at e0
            obtain ⟨v, hv⟩ : ∃ v, vs[k]?.getD 0 = v := ⟨_, rfl⟩
            rw [hv] at e0
            obtain ⟨l1, l2⟩ := HL.out k hlt v hv
            have ul := up_len a true vs k
            have dl := dn_len a true vs k
            rw [HLen.out] at ul dl
            obtain ⟨us, hus⟩ : ∃ us, nums (upK a true vs k) = us := ⟨_, rfl⟩
            obtain ⟨ds, hds⟩ : ∃ ds, nums (dnK a true vs k) = ds := ⟨_, rfl⟩
            rw [hus] at hu ul l1
            rw [hds] at hd dl l2
            have HUS := Lib.hid hus
            have HDS := Lib.hid hds
            have ul' : us.length ≤ 1000 := by omega
            have dl' : ds.length ≤ 1000 := by omega
            clear hcc hv hus hds
            by_cases hva : v < a
            · have hva' : (v : Int) < (a : Int) := by omega
              obtain ⟨q1, q2⟩ := l2 (by simp [TP.isDown]; omega)
              have HQ1 := Lib.hid q1
              have HQ2 := Lib.hid q2
              clear l1 l2 q1 q2
              obtain ⟨A2, c2, rfl⟩ := hd.shape
              have hA2 := hd.none0
              have BA : Below wr.heap.size wr (wr.alloc (.cells #[.int .i64 (v : Int)] 3)) := (Below.refl _ wr).alloc (Nat.le_refl _) _
              have Hlit := OwnI.made (w := wr.alloc (.cells #[.int .i64 (v : Int)] 3)) (base := wr.heap.size) (g := wr.heap.size) (xs := [(v : Int)]) (Nat.le_refl _) (heap_alloc_new wr _) (by simp [maxLen])
              have dI := (hd.ints.2).below BA
              go_wp2_with (at_builtin; refine app_ints rfl _ _ rfl wr.heap.size _ [(v : Int)] A2 ds.length c2 ds rfl rfl Hlit dI hA2 ?_ ?_ ?_; (focus (first | (go_simp; done) | (simp; done) | omega | (simp; omega))); (focus (first | (go_simp; done) | (simp; done) | omega | (simp; omega))); intro v5 w5 h5 g5; have b5 : Below wr.heap.size wr w5 := BA.trans (grown_below Hlit (by simp) g5))
              exact ⟨⟨u, v5, k + 1, rfl, rfl, by first | go_num | (congr 1; omega), by omega, by rw [HQ1.out, HUS.out]; exact hu.below b5, by rw [HQ2.out]; exact h5.lower hbs, fun g h1 h2 => by have := h5.block g h2; have := hu.up.2 g h1; omega, hbl.trans (below_le hbs b5)⟩, by simp [intOf]; omega⟩
            · have hva' : (a : Int) ≤ (v : Int) := by omega
              rcases beq_or (v : Int) (a : Int) with ⟨t1, t2⟩ | ⟨t1, t2⟩
              · have hve : v = a := by omega
                clear t2 hva'
                subst hve
                obtain ⟨q1, q2⟩ := l2 (by simp [TP.isDown])
                have HQ1 := Lib.hid q1
                have HQ2 := Lib.hid q2
                clear l1 l2 q1 q2
                obtain ⟨A2, c2, rfl⟩ := hd.shape
                have hA2 := hd.none0
                have BA : Below wr.heap.size wr (wr.alloc (.cells #[.int .i64 (v : Int)] 3)) := (Below.refl _ wr).alloc (Nat.le_refl _) _
                have Hlit := OwnI.made (w := wr.alloc (.cells #[.int .i64 (v : Int)] 3)) (base := wr.heap.size) (g := wr.heap.size) (xs := [(v : Int)]) (Nat.le_refl _) (heap_alloc_new wr _) (by simp [maxLen])
                have dI := (hd.ints.2).below BA
                go_wp2_with (at_builtin; refine app_ints rfl _ _ rfl wr.heap.size _ [(v : Int)] A2 ds.length c2 ds rfl rfl Hlit dI hA2 ?_ ?_ ?_; (focus (first | (go_simp; done) | (simp; done) | omega | (simp; omega))); (focus (first | (go_simp; done) | (simp; done) | omega | (simp; omega))); intro v5 w5 h5 g5; have b5 : Below wr.heap.size wr w5 := BA.trans (grown_below Hlit (by simp) g5))
                exact ⟨⟨u, v5, k + 1, rfl, rfl, by first | go_num | (congr 1; omega), by omega, by rw [HQ1.out, HUS.out]; exact hu.below b5, by rw [HQ2.out]; exact h5.lower hbs, fun g h1 h2 => by have := h5.block g h2; have := hu.up.2 g h1; omega, hbl.trans (below_le hbs b5)⟩, by simp [intOf]; omega⟩
              · have hve : ¬ v = a := by omega
                obtain ⟨q1, q2⟩ := l1 (by simp [TP.isDown, hva, hve])
                have HQ1 := Lib.hid q1
                have HQ2 := Lib.hid q2
                clear l1 l2 q1 q2
                go_wp2_with (at_builtin; refine app_intX rfl _ _ rfl w.heap.size wr.heap.size _ us (v : Int) rfl rfl (hu.alloc _) ?_ ?_ ?_ ?_; (focus (first | (go_simp; done) | (simp; done) | omega | (simp; omega))); (focus (first | (go_simp; done) | (simp; done) | omega | (simp; omega))); (focus (first | (go_simp; done) | (simp; done) | omega | (simp; omega))); intro v5 w5 h5 g5 x5)
                have gb : Below w.heap.size wr w5 := ((Below.refl _ wr).alloc hbs _).trans (grown_below (hu.alloc _) (by simp; omega) g5)
                have hd5 : OwnI w5 w.heap.size d ds := OwnI.grown (hd.alloc (.cells #[.int .i64 (v : Int)] 3)) g5 (apart_sym hap)
                exact ⟨⟨v5, d, k + 1, rfl, rfl, by first | go_num | (congr 1; omega), by omega, by rw [HQ1.out]; exact h5, by rw [HQ2.out, HDS.out]; exact hd5, fun g h1 h2 => by
                  rcases x5 g h1 with h3 | h3
                  · exact hap g h3 h2
                  · have := hd.up.2 g h2; simp at h3; omega, hbl.trans gb⟩, by simp [intOf]; omega⟩
          · obtain rfl : k = n' := by omega
            have ul := up_len a true vs k
            have dl := dn_len a true vs k
            rw [HLen.out] at ul dl
            obtain ⟨us, hus⟩ : ∃ us, nums (upK a true vs k) = us := ⟨_, rfl⟩
            obtain ⟨ds, hds⟩ : ∃ ds, nums (dnK a true vs k) = ds := ⟨_, rfl⟩
            rw [hus] at hu ul
            rw [hds] at hd dl
            have hT : nums (TP.tour (xa xs) a vs) = ds ++ us := by rw [tour_true HF.out, HLen.out, hus, hds]
            have HT := Lib.hid hT
            obtain ⟨Au, cu, rfl⟩ := hu.shape
            obtain ⟨Ad, cd, rfl⟩ := hd.shape
            have hAu := hu.none0
            have hAd := hd.none0
            clear hT hus hds
            go_wp2_with (at_builtin; refine app_ints rfl _ _ rfl w.heap.size _ ds Au us.length cu us rfl rfl hd hu.ints.2 hAu ?_ ?_ ?_; (focus (first | (go_simp; done) | (simp; done) | omega | (simp; omega))); (focus (first | (go_simp; done) | (simp; done) | omega | (simp; omega))); intro v5 w5 h5 g5)
            go_ret
            exact ⟨_, rfl, by rw [HT.out]; exact h5, hbl.trans (grown_below hd hbs g5)⟩
      · have c2' : (a : Int) < (q : Int) := by omega
        by_cases c3 : TP.dist (xa xs) a p ≤ TP.dist (xa xs) a q
        · have HF : Hid (TP.lowFirst (xa xs) a vs = true) := Lib.hid (by rw [hF]; simp [c1, c3])
          clear hF
          go_enter Try.func53, Try.ntmps53
          go_wp2_with fail
          rw [← HW0.out]
          refine (HVS.out _ H.out H'.out).mono ?_
          rintro e w1 ⟨rfl, m1, hm1⟩
          have U1 : OwnI w1 w.heap.size (.slice (some ⟨w.heap.size, 0, none⟩) 0 0) [] := by rw [hm1]; exact U0.drewN _
          have D1 : OwnI w1 w.heap.size (.slice (some ⟨w.heap.size + 1, 0, none⟩) 0 0) [] := by rw [hm1]; exact D0.drewN _
          have B1 : Below w.heap.size w w1 := by rw [hm1]; exact bdrewN B0 _
          have c0 : w1.cell? ⟨b, off, none⟩ = some (.int .i64 p) := by rw [hm1]; exact e0
          have cL : w1.cell? ⟨b, off + L, none⟩ = some (.int .i64 q) := by rw [hm1]; exact eL
          have HX : Ints w1 A n xs := by rw [hm1]; exact H.out.drewN _
          clear hm1 U0 D0 e0 eL B0
          go_wp2_with (go_at_call 50; refine (l1In_any _ _ _ _).mono ?_; rintro e w' ⟨rfl, rfl⟩)
          refine (HW.out _ _ HX HLo.out).mono ?_
          rintro e w2 ⟨rfl, m2, hm2⟩
          have HX2 : Ints w2 A n xs := by rw [hm2]; exact HX.drewN _
          have U2 : OwnI w2 w.heap.size (.slice (some ⟨w.heap.size, 0, none⟩) 0 0) [] := by rw [hm2]; exact U1.drewN _
          have D2 : OwnI w2 w.heap.size (.slice (some ⟨w.heap.size + 1, 0, none⟩) 0 0) [] := by rw [hm2]; exact D1.drewN _
          have B2 : Below w.heap.size w w2 := by rw [hm2]; exact bdrewN B1 _
          clear hm2 U1 D1 B1 c0 cL
          go_wp2_with fail
          refine (HW.out _ _ HX2 HHi.out).mono ?_
          rintro e w3 ⟨rfl, m3, hm3⟩
          have U1 : OwnI w3 w.heap.size (.slice (some ⟨w.heap.size, 0, none⟩) 0 0) [] := by rw [hm3]; exact U2.drewN _
          have D1 : OwnI w3 w.heap.size (.slice (some ⟨w.heap.size + 1, 0, none⟩) 0 0) [] := by rw [hm3]; exact D2.drewN _
          have B1 : Below w.heap.size w w3 := by rw [hm3]; exact bdrewN B2 _
          have c0 := trivial
          have cL := trivial
          clear hm3 U2 D2 B2
          go_wp2
          have HL : Hid (∀ k, k < n' → ∀ v : Nat, vs[k]?.getD 0 = v → (TP.isDown a true v = false → nums (upK a true vs (k + 1)) = nums (upK a true vs k) ++ [(v : Int)] ∧ dnK a true vs (k + 1) = dnK a true vs k) ∧ (TP.isDown a true v = true → upK a true vs (k + 1) = upK a true vs k ∧ nums (dnK a true vs (k + 1)) = [(v : Int)] ++ nums (dnK a true vs k))) := Lib.hid fun k hk v hv => ⟨upK_up (by rw [HLen.out]; exact hk) hv, upK_dn (by rw [HLen.out]; exact hk) hv⟩
          go_loopw [7, 8, 12] (fun u' d' i wr => ∃ (u d : Value) (k : Nat), u = u' ∧ d = d' ∧ i = .int .i64 k ∧ k ≤ n' ∧ OwnI wr w.heap.size u (nums (upK a true vs k)) ∧ OwnI wr w.heap.size d (nums (dnK a true vs k)) ∧ (∀ g, u.ownBlock = some g → d.ownBlock ≠ some g) ∧ Below w.heap.size w wr) (fun _ _ i _ => n' - (intOf i).toNat)
          case atStart => exact ⟨_, _, 0, rfl, rfl, rfl, Nat.zero_le _, U1, D1, fun g h1 h2 => by simp [Value.ownBlock] at h1 h2; omega, B1⟩
          case round =>
            clear U1 D1 B1 c0 cL hb
            obtain ⟨u, d, k, rfl, rfl, rfl, hk, hu, hd, hap, hbl⟩ := hrel
            have hbs := hbl.size
            by_cases hlt : k < n'
            · have hlt' : (k : Int) < (n' : Int) := by omega
              obtain ⟨_, _, u2, hb, hcc⟩ := (H0'.out.below hbl).2.2 (by omega)
              cases u2
              have e0 := hcc k hlt
              rw [nums_get] at e0
              obtain ⟨v, hv⟩ : ∃ v, vs[k]?.getD 0 = v := ⟨_, rfl⟩
              rw [hv] at e0
              obtain ⟨l1, l2⟩ := HL.out k hlt v hv
              have ul := up_len a true vs k
              have dl := dn_len a true vs k
              rw [HLen.out] at ul dl
              obtain ⟨us, hus⟩ : ∃ us, nums (upK a true vs k) = us := ⟨_, rfl⟩
              obtain ⟨ds, hds⟩ : ∃ ds, nums (dnK a true vs k) = ds := ⟨_, rfl⟩
              rw [hus] at hu ul l1
              rw [hds] at hd dl l2
              have HUS := Lib.hid hus
              have HDS := Lib.hid hds
              have ul' : us.length ≤ 1000 := by omega
              have dl' : ds.length ≤ 1000 := by omega
              clear hcc hv hus hds
              by_cases hva : v < a
              · have hva' : (v : Int) < (a : Int) := by omega
                obtain ⟨q1, q2⟩ := l2 (by simp [TP.isDown]; omega)
                have HQ1 := Lib.hid q1
                have HQ2 := Lib.hid q2
                clear l1 l2 q1 q2
                obtain ⟨A2, c2, rfl⟩ := hd.shape
                have hA2 := hd.none0
                have BA : Below wr.heap.size wr (wr.alloc (.cells #[.int .i64 (v : Int)] 3)) := (Below.refl _ wr).alloc (Nat.le_refl _) _
                have Hlit := OwnI.made (w := wr.alloc (.cells #[.int .i64 (v : Int)] 3)) (base := wr.heap.size) (g := wr.heap.size) (xs := [(v : Int)]) (Nat.le_refl _) (heap_alloc_new wr _) (by simp [maxLen])
                have dI := (hd.ints.2).below BA
                go_wp2_with (at_builtin; refine app_ints rfl _ _ rfl wr.heap.size _ [(v : Int)] A2 ds.length c2 ds rfl rfl Hlit dI hA2 ?_ ?_ ?_; (focus (first | (go_simp; done) | (simp; done) | omega | (simp; omega))); (focus (first | (go_simp; done) | (simp; done) | omega | (simp; omega))); intro v5 w5 h5 g5; have b5 : Below wr.heap.size wr w5 := BA.trans (grown_below Hlit (by simp) g5))
                exact ⟨⟨u, v5, k + 1, rfl, rfl, by first | go_num | (congr 1; omega), by omega, by rw [HQ1.out, HUS.out]; exact hu.below b5, by rw [HQ2.out]; exact h5.lower hbs, fun g h1 h2 => by have := h5.block g h2; have := hu.up.2 g h1; omega, hbl.trans (below_le hbs b5)⟩, by simp [intOf]; omega⟩
              · have hva' : (a : Int) ≤ (v : Int) := by omega
                rcases beq_or (v : Int) (a : Int) with ⟨t1, t2⟩ | ⟨t1, t2⟩
                · have hve : v = a := by omega
                  clear t2 hva'
                  subst hve
                  obtain ⟨q1, q2⟩ := l2 (by simp [TP.isDown])
                  have HQ1 := Lib.hid q1
                  have HQ2 := Lib.hid q2
                  clear l1 l2 q1 q2
                  obtain ⟨A2, c2, rfl⟩ := hd.shape
                  have hA2 := hd.none0
                  have BA : Below wr.heap.size wr (wr.alloc (.cells #[.int .i64 (v : Int)] 3)) := (Below.refl _ wr).alloc (Nat.le_refl _) _
                  have Hlit := OwnI.made (w := wr.alloc (.cells #[.int .i64 (v : Int)] 3)) (base := wr.heap.size) (g := wr.heap.size) (xs := [(v : Int)]) (Nat.le_refl _) (heap_alloc_new wr _) (by simp [maxLen])
                  have dI := (hd.ints.2).below BA
                  go_wp2_with (at_builtin; refine app_ints rfl _ _ rfl wr.heap.size _ [(v : Int)] A2 ds.length c2 ds rfl rfl Hlit dI hA2 ?_ ?_ ?_; (focus (first | (go_simp; done) | (simp; done) | omega | (simp; omega))); (focus (first | (go_simp; done) | (simp; done) | omega | (simp; omega))); intro v5 w5 h5 g5; have b5 : Below wr.heap.size wr w5 := BA.trans (grown_below Hlit (by simp) g5))
                  exact ⟨⟨u, v5, k + 1, rfl, rfl, by first | go_num | (congr 1; omega), by omega, by rw [HQ1.out, HUS.out]; exact hu.below b5, by rw [HQ2.out]; exact h5.lower hbs, fun g h1 h2 => by have := h5.block g h2; have := hu.up.2 g h1; omega, hbl.trans (below_le hbs b5)⟩, by simp [intOf]; omega⟩
                · have hve : ¬ v = a := by omega
                  obtain ⟨q1, q2⟩ := l1 (by simp [TP.isDown, hva, hve])
                  have HQ1 := Lib.hid q1
                  have HQ2 := Lib.hid q2
                  clear l1 l2 q1 q2
                  go_wp2_with (at_builtin; refine app_intX rfl _ _ rfl w.heap.size wr.heap.size _ us (v : Int) rfl rfl (hu.alloc _) ?_ ?_ ?_ ?_; (focus (first | (go_simp; done) | (simp; done) | omega | (simp; omega))); (focus (first | (go_simp; done) | (simp; done) | omega | (simp; omega))); (focus (first | (go_simp; done) | (simp; done) | omega | (simp; omega))); intro v5 w5 h5 g5 x5)
                  have gb : Below w.heap.size wr w5 := ((Below.refl _ wr).alloc hbs _).trans (grown_below (hu.alloc _) (by simp; omega) g5)
                  have hd5 : OwnI w5 w.heap.size d ds := OwnI.grown (hd.alloc (.cells #[.int .i64 (v : Int)] 3)) g5 (apart_sym hap)
                  exact ⟨⟨v5, d, k + 1, rfl, rfl, by first | go_num | (congr 1; omega), by omega, by rw [HQ1.out]; exact h5, by rw [HQ2.out, HDS.out]; exact hd5, fun g h1 h2 => by
                    rcases x5 g h1 with h3 | h3
                    · exact hap g h3 h2
                    · have := hd.up.2 g h2; simp at h3; omega, hbl.trans gb⟩, by simp [intOf]; omega⟩
            · obtain rfl : k = n' := by omega
              have ul := up_len a true vs k
              have dl := dn_len a true vs k
              rw [HLen.out] at ul dl
              obtain ⟨us, hus⟩ : ∃ us, nums (upK a true vs k) = us := ⟨_, rfl⟩
              obtain ⟨ds, hds⟩ : ∃ ds, nums (dnK a true vs k) = ds := ⟨_, rfl⟩
              rw [hus] at hu ul
              rw [hds] at hd dl
              have hT : nums (TP.tour (xa xs) a vs) = ds ++ us := by rw [tour_true HF.out, HLen.out, hus, hds]
              have HT := Lib.hid hT
              obtain ⟨Au, cu, rfl⟩ := hu.shape
              obtain ⟨Ad, cd, rfl⟩ := hd.shape
              have hAu := hu.none0
              have hAd := hd.none0
              clear hT hus hds
              go_wp2_with (at_builtin; refine app_ints rfl _ _ rfl w.heap.size _ ds Au us.length cu us rfl rfl hd hu.ints.2 hAu ?_ ?_ ?_; (focus (first | (go_simp; done) | (simp; done) | omega | (simp; omega))); (focus (first | (go_simp; done) | (simp; done) | omega | (simp; omega))); intro v5 w5 h5 g5)
              go_ret
              exact ⟨_, rfl, by rw [HT.out]; exact h5, hbl.trans (grown_below hd hbs g5)⟩
        · have c3' : TP.dist (xa xs) a q < TP.dist (xa xs) a p := by omega
          have HF : Hid (TP.lowFirst (xa xs) a vs = false) := Lib.hid (by rw [hF]; simp [c3]; omega)
          clear hF
          go_enter Try.func53, Try.ntmps53
          go_wp2_with fail
          rw [← HW0.out]
          refine (HVS.out _ H.out H'.out).mono ?_
          rintro e w1 ⟨rfl, m1, hm1⟩
          have U1 : OwnI w1 w.heap.size (.slice (some ⟨w.heap.size, 0, none⟩) 0 0) [] := by rw [hm1]; exact U0.drewN _
          have D1 : OwnI w1 w.heap.size (.slice (some ⟨w.heap.size + 1, 0, none⟩) 0 0) [] := by rw [hm1]; exact D0.drewN _
          have B1 : Below w.heap.size w w1 := by rw [hm1]; exact bdrewN B0 _
          have c0 : w1.cell? ⟨b, off, none⟩ = some (.int .i64 p) := by rw [hm1]; exact e0
          have cL : w1.cell? ⟨b, off + L, none⟩ = some (.int .i64 q) := by rw [hm1]; exact eL
          have HX : Ints w1 A n xs := by rw [hm1]; exact H.out.drewN _
          clear hm1 U0 D0 e0 eL B0
          go_wp2_with (go_at_call 50; refine (l1In_any _ _ _ _).mono ?_; rintro e w' ⟨rfl, rfl⟩)
          refine (HW.out _ _ HX HLo.out).mono ?_
          rintro e w2 ⟨rfl, m2, hm2⟩
          have HX2 : Ints w2 A n xs := by rw [hm2]; exact HX.drewN _
          have U2 : OwnI w2 w.heap.size (.slice (some ⟨w.heap.size, 0, none⟩) 0 0) [] := by rw [hm2]; exact U1.drewN _
          have D2 : OwnI w2 w.heap.size (.slice (some ⟨w.heap.size + 1, 0, none⟩) 0 0) [] := by rw [hm2]; exact D1.drewN _
          have B2 : Below w.heap.size w w2 := by rw [hm2]; exact bdrewN B1 _
          clear hm2 U1 D1 B1 c0 cL
          go_wp2_with fail
          refine (HW.out _ _ HX2 HHi.out).mono ?_
          rintro e w3 ⟨rfl, m3, hm3⟩
          have U1 : OwnI w3 w.heap.size (.slice (some ⟨w.heap.size, 0, none⟩) 0 0) [] := by rw [hm3]; exact U2.drewN _
          have D1 : OwnI w3 w.heap.size (.slice (some ⟨w.heap.size + 1, 0, none⟩) 0 0) [] := by rw [hm3]; exact D2.drewN _
          have B1 : Below w.heap.size w w3 := by rw [hm3]; exact bdrewN B2 _
          have c0 := trivial
          have cL := trivial
          clear hm3 U2 D2 B2
          go_wp2
          have HL : Hid (∀ k, k < n' → ∀ v : Nat, vs[k]?.getD 0 = v → (TP.isDown a false v = false → nums (upK a false vs (k + 1)) = nums (upK a false vs k) ++ [(v : Int)] ∧ dnK a false vs (k + 1) = dnK a false vs k) ∧ (TP.isDown a false v = true → upK a false vs (k + 1) = upK a false vs k ∧ nums (dnK a false vs (k + 1)) = [(v : Int)] ++ nums (dnK a false vs k))) := Lib.hid fun k hk v hv => ⟨upK_up (by rw [HLen.out]; exact hk) hv, upK_dn (by rw [HLen.out]; exact hk) hv⟩
          go_loopw [7, 8, 12] (fun u' d' i wr => ∃ (u d : Value) (k : Nat), u = u' ∧ d = d' ∧ i = .int .i64 k ∧ k ≤ n' ∧ OwnI wr w.heap.size u (nums (upK a false vs k)) ∧ OwnI wr w.heap.size d (nums (dnK a false vs k)) ∧ (∀ g, u.ownBlock = some g → d.ownBlock ≠ some g) ∧ Below w.heap.size w wr) (fun _ _ i _ => n' - (intOf i).toNat)
          case atStart => exact ⟨_, _, 0, rfl, rfl, rfl, Nat.zero_le _, U1, D1, fun g h1 h2 => by simp [Value.ownBlock] at h1 h2; omega, B1⟩
          case round =>
            clear U1 D1 B1 c0 cL hb
            obtain ⟨u, d, k, rfl, rfl, rfl, hk, hu, hd, hap, hbl⟩ := hrel
            have hbs := hbl.size
            by_cases hlt : k < n'
            · have hlt' : (k : Int) < (n' : Int) := by omega
              obtain ⟨_, _, u2, hb, hcc⟩ := (H0'.out.below hbl).2.2 (by omega)
              cases u2
              have e0 := hcc k hlt
              rw [nums_get] at e0
              obtain ⟨v, hv⟩ : ∃ v, vs[k]?.getD 0 = v := ⟨_, rfl⟩
              rw [hv] at e0
              obtain ⟨l1, l2⟩ := HL.out k hlt v hv
              have ul := up_len a false vs k
              have dl := dn_len a false vs k
              rw [HLen.out] at ul dl
              obtain ⟨us, hus⟩ : ∃ us, nums (upK a false vs k) = us := ⟨_, rfl⟩
              obtain ⟨ds, hds⟩ : ∃ ds, nums (dnK a false vs k) = ds := ⟨_, rfl⟩
              rw [hus] at hu ul l1
              rw [hds] at hd dl l2
              have HUS := Lib.hid hus
              have HDS := Lib.hid hds
              have ul' : us.length ≤ 1000 := by omega
              have dl' : ds.length ≤ 1000 := by omega
              clear hcc hv hus hds
              by_cases hva : v < a
              · have hva' : (v : Int) < (a : Int) := by omega
                obtain ⟨q1, q2⟩ := l2 (by simp [TP.isDown]; omega)
                have HQ1 := Lib.hid q1
                have HQ2 := Lib.hid q2
                clear l1 l2 q1 q2
                obtain ⟨A2, c2, rfl⟩ := hd.shape
                have hA2 := hd.none0
                have BA : Below wr.heap.size wr (wr.alloc (.cells #[.int .i64 (v : Int)] 3)) := (Below.refl _ wr).alloc (Nat.le_refl _) _
                have Hlit := OwnI.made (w := wr.alloc (.cells #[.int .i64 (v : Int)] 3)) (base := wr.heap.size) (g := wr.heap.size) (xs := [(v : Int)]) (Nat.le_refl _) (heap_alloc_new wr _) (by simp [maxLen])
                have dI := (hd.ints.2).below BA
                go_wp2_with (at_builtin; refine app_ints rfl _ _ rfl wr.heap.size _ [(v : Int)] A2 ds.length c2 ds rfl rfl Hlit dI hA2 ?_ ?_ ?_; (focus (first | (go_simp; done) | (simp; done) | omega | (simp; omega))); (focus (first | (go_simp; done) | (simp; done) | omega | (simp; omega))); intro v5 w5 h5 g5; have b5 : Below wr.heap.size wr w5 := BA.trans (grown_below Hlit (by simp) g5))
                exact ⟨⟨u, v5, k + 1, rfl, rfl, by first | go_num | (congr 1; omega), by omega, by rw [HQ1.out, HUS.out]; exact hu.below b5, by rw [HQ2.out]; exact h5.lower hbs, fun g h1 h2 => by have := h5.block g h2; have := hu.up.2 g h1; omega, hbl.trans (below_le hbs b5)⟩, by simp [intOf]; omega⟩
              · have hva' : (a : Int) ≤ (v : Int) := by omega
                rcases beq_or (v : Int) (a : Int) with ⟨t1, t2⟩ | ⟨t1, t2⟩
                · have hve : v = a := by omega
                  clear t2 hva'
                  subst hve
                  obtain ⟨q1, q2⟩ := l1 (by simp [TP.isDown, hva])
                  have HQ1 := Lib.hid q1
                  have HQ2 := Lib.hid q2
                  clear l1 l2 q1 q2
                  go_wp2_with (at_builtin; refine app_intX rfl _ _ rfl w.heap.size wr.heap.size _ us (v : Int) rfl rfl (hu.alloc _) ?_ ?_ ?_ ?_; (focus (first | (go_simp; done) | (simp; done) | omega | (simp; omega))); (focus (first | (go_simp; done) | (simp; done) | omega | (simp; omega))); (focus (first | (go_simp; done) | (simp; done) | omega | (simp; omega))); intro v5 w5 h5 g5 x5)
                  have gb : Below w.heap.size wr w5 := ((Below.refl _ wr).alloc hbs _).trans (grown_below (hu.alloc _) (by simp; omega) g5)
                  have hd5 : OwnI w5 w.heap.size d ds := OwnI.grown (hd.alloc (.cells #[.int .i64 (v : Int)] 3)) g5 (apart_sym hap)
                  exact ⟨⟨v5, d, k + 1, rfl, rfl, by first | go_num | (congr 1; omega), by omega, by rw [HQ1.out]; exact h5, by rw [HQ2.out, HDS.out]; exact hd5, fun g h1 h2 => by
                    rcases x5 g h1 with h3 | h3
                    · exact hap g h3 h2
                    · have := hd.up.2 g h2; simp at h3; omega, hbl.trans gb⟩, by simp [intOf]; omega⟩
                · have hve : ¬ v = a := by omega
                  obtain ⟨q1, q2⟩ := l1 (by simp [TP.isDown, hva])
                  have HQ1 := Lib.hid q1
                  have HQ2 := Lib.hid q2
                  clear l1 l2 q1 q2
                  go_wp2_with (at_builtin; refine app_intX rfl _ _ rfl w.heap.size wr.heap.size _ us (v : Int) rfl rfl (hu.alloc _) ?_ ?_ ?_ ?_; (focus (first | (go_simp; done) | (simp; done) | omega | (simp; omega))); (focus (first | (go_simp; done) | (simp; done) | omega | (simp; omega))); (focus (first | (go_simp; done) | (simp; done) | omega | (simp; omega))); intro v5 w5 h5 g5 x5)
                  have gb : Below w.heap.size wr w5 := ((Below.refl _ wr).alloc hbs _).trans (grown_below (hu.alloc _) (by simp; omega) g5)
                  have hd5 : OwnI w5 w.heap.size d ds := OwnI.grown (hd.alloc (.cells #[.int .i64 (v : Int)] 3)) g5 (apart_sym hap)
                  exact ⟨⟨v5, d, k + 1, rfl, rfl, by first | go_num | (congr 1; omega), by omega, by rw [HQ1.out]; exact h5, by rw [HQ2.out, HDS.out]; exact hd5, fun g h1 h2 => by
                    rcases x5 g h1 with h3 | h3
                    · exact hap g h3 h2
                    · have := hd.up.2 g h2; simp at h3; omega, hbl.trans gb⟩, by simp [intOf]; omega⟩
            · obtain rfl : k = n' := by omega
              have ul := up_len a false vs k
              have dl := dn_len a false vs k
              rw [HLen.out] at ul dl
              obtain ⟨us, hus⟩ : ∃ us, nums (upK a false vs k) = us := ⟨_, rfl⟩
              obtain ⟨ds, hds⟩ : ∃ ds, nums (dnK a false vs k) = ds := ⟨_, rfl⟩
              rw [hus] at hu ul
              rw [hds] at hd dl
              have hT : nums (TP.tour (xa xs) a vs) = us ++ ds := by rw [tour_false HF.out, HLen.out, hus, hds]
              have HT := Lib.hid hT
              obtain ⟨Au, cu, rfl⟩ := hu.shape
              obtain ⟨Ad, cd, rfl⟩ := hd.shape
              have hAu := hu.none0
              have hAd := hd.none0
              clear hT hus hds
              go_wp2_with (at_builtin; refine app_ints rfl _ _ rfl w.heap.size _ us Ad ds.length cd ds rfl rfl hu hd.ints.2 hAd ?_ ?_ ?_; (focus (first | (go_simp; done) | (simp; done) | omega | (simp; omega))); (focus (first | (go_simp; done) | (simp; done) | omega | (simp; omega))); intro v5 w5 h5 g5)
              go_ret
              exact ⟨_, rfl, by rw [HT.out]; exact h5, hbl.trans (grown_below hu hbs g5)⟩
    · have c1' : (a : Int) ≤ (p : Int) := by omega
      have HF : Hid (TP.lowFirst (xa xs) a vs = false) := Lib.hid (by rw [hF]; simp; omega)
      clear hF
      go_enter Try.func53, Try.ntmps53
      go_wp2_with fail
      rw [← HW0.out]
      refine (HVS.out _ H.out H'.out).mono ?_
      rintro e w1 ⟨rfl, m1, hm1⟩
      have U1 : OwnI w1 w.heap.size (.slice (some ⟨w.heap.size, 0, none⟩) 0 0) [] := by rw [hm1]; exact U0.drewN _
      have D1 : OwnI w1 w.heap.size (.slice (some ⟨w.heap.size + 1, 0, none⟩) 0 0) [] := by rw [hm1]; exact D0.drewN _
      have B1 : Below w.heap.size w w1 := by rw [hm1]; exact bdrewN B0 _
      have c0 : w1.cell? ⟨b, off, none⟩ = some (.int .i64 p) := by rw [hm1]; exact e0
      have cL : w1.cell? ⟨b, off + L, none⟩ = some (.int .i64 q) := by rw [hm1]; exact eL
      have HX : Ints w1 A n xs := by rw [hm1]; exact H.out.drewN _
      clear hm1 U0 D0 e0 eL B0
      go_wp2_with (go_at_call 50; refine (l1In_any _ _ _ _).mono ?_; rintro e w' ⟨rfl, rfl⟩)
      have HL : Hid (∀ k, k < n' → ∀ v : Nat, vs[k]?.getD 0 = v → (TP.isDown a false v = false → nums (upK a false vs (k + 1)) = nums (upK a false vs k) ++ [(v : Int)] ∧ dnK a false vs (k + 1) = dnK a false vs k) ∧ (TP.isDown a false v = true → upK a false vs (k + 1) = upK a false vs k ∧ nums (dnK a false vs (k + 1)) = [(v : Int)] ++ nums (dnK a false vs k))) := Lib.hid fun k hk v hv => ⟨upK_up (by rw [HLen.out]; exact hk) hv, upK_dn (by rw [HLen.out]; exact hk) hv⟩
      go_loopw [7, 8, 12] (fun u' d' i wr => ∃ (u d : Value) (k : Nat), u = u' ∧ d = d' ∧ i = .int .i64 k ∧ k ≤ n' ∧ OwnI wr w.heap.size u (nums (upK a false vs k)) ∧ OwnI wr w.heap.size d (nums (dnK a false vs k)) ∧ (∀ g, u.ownBlock = some g → d.ownBlock ≠ some g) ∧ Below w.heap.size w wr) (fun _ _ i _ => n' - (intOf i).toNat)
      case atStart => exact ⟨_, _, 0, rfl, rfl, rfl, Nat.zero_le _, U1, D1, fun g h1 h2 => by simp [Value.ownBlock] at h1 h2; omega, B1⟩
      case round =>
        clear U1 D1 B1 c0 cL hb
        obtain ⟨u, d, k, rfl, rfl, rfl, hk, hu, hd, hap, hbl⟩ := hrel
        have hbs := hbl.size
        by_cases hlt : k < n'
        · have hlt' : (k : Int) < (n' : Int) := by omega
          obtain ⟨_, _, u2, hb, hcc⟩ := (H0'.out.below hbl).2.2 (by omega)
          cases u2
          have e0 := hcc k hlt
          rw [nums_get] at e0
          obtain ⟨v, hv⟩ : ∃ v, vs[k]?.getD 0 = v := ⟨_, rfl⟩
          rw [hv] at e0
          obtain ⟨l1, l2⟩ := HL.out k hlt v hv
          have ul := up_len a false vs k
          have dl := dn_len a false vs k
          rw [HLen.out] at ul dl
          obtain ⟨us, hus⟩ : ∃ us, nums (upK a false vs k) = us := ⟨_, rfl⟩
          obtain ⟨ds, hds⟩ : ∃ ds, nums (dnK a false vs k) = ds := ⟨_, rfl⟩
          rw [hus] at hu ul l1
          rw [hds] at hd dl l2
          have HUS := Lib.hid hus
          have HDS := Lib.hid hds
          have ul' : us.length ≤ 1000 := by omega
          have dl' : ds.length ≤ 1000 := by omega
          clear hcc hv hus hds
          by_cases hva : v < a
          · have hva' : (v : Int) < (a : Int) := by omega
            obtain ⟨q1, q2⟩ := l2 (by simp [TP.isDown]; omega)
            have HQ1 := Lib.hid q1
            have HQ2 := Lib.hid q2
            clear l1 l2 q1 q2
            obtain ⟨A2, c2, rfl⟩ := hd.shape
            have hA2 := hd.none0
            have BA : Below wr.heap.size wr (wr.alloc (.cells #[.int .i64 (v : Int)] 3)) := (Below.refl _ wr).alloc (Nat.le_refl _) _
            have Hlit := OwnI.made (w := wr.alloc (.cells #[.int .i64 (v : Int)] 3)) (base := wr.heap.size) (g := wr.heap.size) (xs := [(v : Int)]) (Nat.le_refl _) (heap_alloc_new wr _) (by simp [maxLen])
            have dI := (hd.ints.2).below BA
            go_wp2_with (at_builtin; refine app_ints rfl _ _ rfl wr.heap.size _ [(v : Int)] A2 ds.length c2 ds rfl rfl Hlit dI hA2 ?_ ?_ ?_; (focus (first | (go_simp; done) | (simp; done) | omega | (simp; omega))); (focus (first | (go_simp; done) | (simp; done) | omega | (simp; omega))); intro v5 w5 h5 g5; have b5 : Below wr.heap.size wr w5 := BA.trans (grown_below Hlit (by simp) g5))
            exact ⟨⟨u, v5, k + 1, rfl, rfl, by first | go_num | (congr 1; omega), by omega, by rw [HQ1.out, HUS.out]; exact hu.below b5, by rw [HQ2.out]; exact h5.lower hbs, fun g h1 h2 => by have := h5.block g h2; have := hu.up.2 g h1; omega, hbl.trans (below_le hbs b5)⟩, by simp [intOf]; omega⟩
          · have hva' : (a : Int) ≤ (v : Int) := by omega
            rcases beq_or (v : Int) (a : Int) with ⟨t1, t2⟩ | ⟨t1, t2⟩
            · have hve : v = a := by omega
              clear t2 hva'
              subst hve
              obtain ⟨q1, q2⟩ := l1 (by simp [TP.isDown, hva])
              have HQ1 := Lib.hid q1
              have HQ2 := Lib.hid q2
              clear l1 l2 q1 q2
              go_wp2_with (at_builtin; refine app_intX rfl _ _ rfl w.heap.size wr.heap.size _ us (v : Int) rfl rfl (hu.alloc _) ?_ ?_ ?_ ?_; (focus (first | (go_simp; done) | (simp; done) | omega | (simp; omega))); (focus (first | (go_simp; done) | (simp; done) | omega | (simp; omega))); (focus (first | (go_simp; done) | (simp; done) | omega | (simp; omega))); intro v5 w5 h5 g5 x5)
              have gb : Below w.heap.size wr w5 := ((Below.refl _ wr).alloc hbs _).trans (grown_below (hu.alloc _) (by simp; omega) g5)
              have hd5 : OwnI w5 w.heap.size d ds := OwnI.grown (hd.alloc (.cells #[.int .i64 (v : Int)] 3)) g5 (apart_sym hap)
              exact ⟨⟨v5, d, k + 1, rfl, rfl, by first | go_num | (congr 1; omega), by omega, by rw [HQ1.out]; exact h5, by rw [HQ2.out, HDS.out]; exact hd5, fun g h1 h2 => by
                rcases x5 g h1 with h3 | h3
                · exact hap g h3 h2
                · have := hd.up.2 g h2; simp at h3; omega, hbl.trans gb⟩, by simp [intOf]; omega⟩
            · have hve : ¬ v = a := by omega
              obtain ⟨q1, q2⟩ := l1 (by simp [TP.isDown, hva])
              have HQ1 := Lib.hid q1
              have HQ2 := Lib.hid q2
              clear l1 l2 q1 q2
              go_wp2_with (at_builtin; refine app_intX rfl _ _ rfl w.heap.size wr.heap.size _ us (v : Int) rfl rfl (hu.alloc _) ?_ ?_ ?_ ?_; (focus (first | (go_simp; done) | (simp; done) | omega | (simp; omega))); (focus (first | (go_simp; done) | (simp; done) | omega | (simp; omega))); (focus (first | (go_simp; done) | (simp; done) | omega | (simp; omega))); intro v5 w5 h5 g5 x5)
              have gb : Below w.heap.size wr w5 := ((Below.refl _ wr).alloc hbs _).trans (grown_below (hu.alloc _) (by simp; omega) g5)
              have hd5 : OwnI w5 w.heap.size d ds := OwnI.grown (hd.alloc (.cells #[.int .i64 (v : Int)] 3)) g5 (apart_sym hap)
              exact ⟨⟨v5, d, k + 1, rfl, rfl, by first | go_num | (congr 1; omega), by omega, by rw [HQ1.out]; exact h5, by rw [HQ2.out, HDS.out]; exact hd5, fun g h1 h2 => by
                rcases x5 g h1 with h3 | h3
                · exact hap g h3 h2
                · have := hd.up.2 g h2; simp at h3; omega, hbl.trans gb⟩, by simp [intOf]; omega⟩
        · obtain rfl : k = n' := by omega
          have ul := up_len a false vs k
          have dl := dn_len a false vs k
          rw [HLen.out] at ul dl
          obtain ⟨us, hus⟩ : ∃ us, nums (upK a false vs k) = us := ⟨_, rfl⟩
          obtain ⟨ds, hds⟩ : ∃ ds, nums (dnK a false vs k) = ds := ⟨_, rfl⟩
          rw [hus] at hu ul
          rw [hds] at hd dl
          have hT : nums (TP.tour (xa xs) a vs) = us ++ ds := by rw [tour_false HF.out, HLen.out, hus, hds]
          have HT := Lib.hid hT
          obtain ⟨Au, cu, rfl⟩ := hu.shape
          obtain ⟨Ad, cd, rfl⟩ := hd.shape
          have hAu := hu.none0
          have hAd := hd.none0
          clear hT hus hds
          go_wp2_with (at_builtin; refine app_ints rfl _ _ rfl w.heap.size _ us Ad ds.length cd ds rfl rfl hu hd.ints.2 hAd ?_ ?_ ?_; (focus (first | (go_simp; done) | (simp; done) | omega | (simp; omega))); (focus (first | (go_simp; done) | (simp; done) | omega | (simp; omega))); intro v5 w5 h5 g5)
          go_ret
          exact ⟨_, rfl, by rw [HT.out]; exact h5, hbl.trans (grown_below hu hbs g5)⟩
end Go.Proofs.Ytmekbfjeljfbpaa
