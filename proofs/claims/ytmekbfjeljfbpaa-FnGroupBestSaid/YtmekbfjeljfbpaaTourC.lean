/- ShortTour of the program, for valid arguments: contract. -/
import Derived.Test.YtmekbfjeljfbpaaTourB
import Derived.Test.YtmekbfjeljfbpaaSortI
import Derived.Deep.RegionWith
import Derived.Deep.Slices
import Derived.Deep.RegionLaw
import Derived.Deep.AppendLies
namespace Go.Proofs.Ytmekbfjeljfbpaa
open Go.ChangeShapes Go.WideShapes Go.ChangeAt Go.RowKit

theorem Ints.take {w : World} {A : Option Addr} {n : Nat} {xs : List Int} (h : Ints w A n xs) (k : Nat) (hk : k ≤ n) : Ints w A k (xs.take k) := by
  obtain ⟨h1, h2, h3⟩ := h
  refine ⟨by rw [List.length_take]; omega, by omega, fun hn => ?_⟩
  obtain ⟨b, off, hA, hb, hc⟩ := h3 (by omega)
  exact ⟨b, off, hA, hb, fun j hj => by rw [hc j (by omega), List.getElem?_take, if_pos hj]⟩
theorem Ints.drop {w : World} {b off n : Nat} {xs : List Int} (h : Ints w (some ⟨b, off, none⟩) n xs) (k : Nat) (hk : k ≤ n) : Ints w (some ⟨b, off + k, none⟩) (n - k) (xs.drop k) := by
  obtain ⟨h1, h2, h3⟩ := h
  refine ⟨by rw [List.length_drop]; omega, by omega, fun hn => ?_⟩
  obtain ⟨b', off', hA, hb, hc⟩ := h3 (by omega)
  cases hA
  exact ⟨b, off + k, rfl, hb, fun j hj => by
    have := hc (k + j) (by omega)
    rw [List.getElem?_drop, ← this, Nat.add_assoc]⟩
theorem nums_take (l : List Nat) (k : Nat) : (nums l).take k = nums (l.take k) := by simp [nums]
theorem nums_drop (l : List Nat) (k : Nat) : (nums l).drop k = nums (l.drop k) := by simp [nums]
theorem nums_rev (l : List Nat) : (nums l).reverse = nums l.reverse := by simp [nums]

theorem OwnI.intsM {w : World} {base : Nat} {A : Option Addr} {n m c : Nat} {xs : List Int} (h : OwnI w base (.slice A n c) xs) (hn : xs.length = m) : Ints w A m xs := by
  have := h.ints.2
  rwa [hn] at this
/-- 'append(v, ys...)' where v is the call's own, as a step of a region that draws its order. -/
theorem step_app_ints {ops : Array Oper} {o : Oper} {a : Act} {K : Act → World → Prop} {Q : Exit → Act → World → Prop} {E : Prop} {w : World} (hgd : o.guard = none) (s x : Operand)
    (ho : o.op = .call { callee := .builtin .append, args := #[s, x], argTypes := #[22, 22] }) (base : Nat) (v : Value) (xs : List Int) (A : Option Addr) (m c : Nat) (ys : List Int) (hs : a.eval s = v) (hx : a.eval x = .slice A m c)
    (hown : OwnI w base v xs) (hI : Ints w A m ys) (hm : 0 < m) (hn : xs.length + m ≤ 1000000000) (hbase : base ≤ w.heap.size)
    (h : ∀ v' w', OwnI w' base v' (xs ++ ys) → w.grownBy w' v.ownBlock → K (a.put o.dst v') w') : if Region.wanted o (yielded ops a.tmps) = true then Oper.wp Try.prog o a w K Q else E := by
  obtain ⟨i0, hi, hz0, hz1, hz2⟩ := info_parts infoInt
  obtain ⟨h1, h2, h3⟩ := hI
  obtain ⟨b, off, rfl, hb, hc⟩ := h3 hm
  refine step_append_lies _ hgd s x 22 ho base 3 i0 (.int .i64 0) 1 8 Try.underlying22 hi hz0 hz1 hz2 rfl (by decide) v xs.length (xs.map (Value.int .i64)) hs hown ⟨b, off, none⟩ m c (ys.map (Value.int .i64)) hx (by simp [h1]) (fun j u hu => ?_) (fun u hu => ?_) hm ?_ ?_ hbase _ rfl fun g cap w' k1 k2 _ _ => ?_
  · rw [List.getElem?_map] at hu
    have hj : j < m := by
      rcases Nat.lt_or_ge j ys.length with hl | hl
      · omega
      · rw [List.getElem?_eq_none hl] at hu; cases hu
    have e1 : (⟨b, off, none⟩ : Addr).add j = ⟨b, off + j, none⟩ := by
      unfold Addr.add
      by_cases h : j = 0
      · subst h; rfl
      · simp [h]
    rw [e1, hc j hj]
    rw [List.getElem?_eq_getElem (by omega)] at hu ⊢
    simpa using hu
  · obtain ⟨y, _, rfl⟩ := List.mem_map.1 hu
    rfl
  · unfold maxLen; omega
  · omega
  · refine h _ w' ?_ k2
    unfold OwnI
    simpa [h1] using k1

set_option maxRecDepth 100000 in
set_option maxHeartbeats 4000000 in
theorem st_impl (A : Option Addr) (n c : Nat) (xs : List Int) (a : Nat) (A' : Option Addr) (n' c' : Nat) (vs : List Nat) (w : World) (h : Ints w A n xs) (h' : Ints w A' n' (nums vs)) (hv : fvB xs = true) (ha : a < n) (hr : ∀ k, k < n' → vs[k]?.getD 0 < n) (hasc : TP.Asc vs) (hn' : n' ≤ 1000) (hc1 : n' ≤ c') (hc2 : c' ≤ maxLen) :
    Calls Try.prog 58 #[.slice A n c, .int .i64 a, .slice A' n' c'] w (NumsOut w (TP.tour (xa xs) a vs)) := by
  have hos : vs.length = n' := by rw [← nums_length]; exact h'.1
  have hn1 := h.1
  have V := fun w hx hy => visits_impl A n c xs A' n' c' (nums vs) w hx hy hv (fun k hk => by rw [nums_get]; have := hr k hk; omega) (fun k hk => by
    rw [nums_get, nums_get]; have := hasc k (k + 1) (by omega) (by omega); omega)
  have hin : inB (a : Int) 0 ((n : Int) - 1) = true := inB_yes (by omega)
  have hm : (n : Int) ≤ 9223372036854775807 := by have := h.2.1; omega
  have n0 : 0 ≤ (n : Int) := by omega
  have hna : (n' : Int) ≤ 1000 := by omega
  have H := Lib.hid h
  have H' := Lib.hid h'
  have HVS := Lib.hid V
  unfold maxLen at hc2
  by_cases hz : n' = 0
  · subst hz
    have hvs : vs = [] := List.eq_nil_of_length_eq_zero hos
    subst hvs
    rw [TP.tour_nil]
    clear V h h' hv ha hr hasc hos hn1
    go_enter Try.func58, Try.ntmps58
    go_wp2_with (first | (go_at_call 56; refine (HVS.out _ H.out H'.out).mono ?_; rintro e w1 ⟨rfl, m1, rfl⟩) | (go_at_call 47; refine (isFloor_any _ _ _).mono ?_; rintro e w' ⟨rfl, rfl⟩))
    go_ret
    exact ⟨_, rfl, OwnI.nil _ _, bdrewN (Below.refl _ _) _⟩
  · obtain ⟨b, off, rfl, hb, hcc⟩ := H'.out.2.2 (by omega)
    obtain ⟨L, hL⟩ : ∃ L, n' = L + 1 := ⟨n' - 1, by omega⟩
    have e0 : w.cell? ⟨b, off, none⟩ = some (.int .i64 (vs[0]?.getD 0 : Nat)) := by have := hcc 0 (by omega); rw [nums_get] at this; exact this
    have eL : w.cell? ⟨b, off + L, none⟩ = some (.int .i64 (vs[L]?.getD 0 : Nat)) := by have := hcc L (by omega); rw [nums_get] at this; exact this
    have hL1 : IntKind.i64.wrap ((n' : Int) - 1) = (L : Int) := by rw [IntWalk.i64_in _ ⟨by omega, by omega⟩]; omega
    have hL2 : (L : Int) < (n' : Int) := by omega
    have hL0 : (0 : Int) < (n' : Int) := by omega
    have hne : ((n' : Int) == 0) = false := by simp; omega
    have hlow := hr 0 (by omega)
    have hhigh := hr L (by omega)
    have hLn : vs.length - 1 = L := by omega
    have T1 := TP.tour_up (xa xs) (a := a) hasc
    have T2 := TP.tour_down (xa xs) (a := a) hasc
    have T3 := fun (h0 : vs[0]?.getD 0 < a) hd (k : Nat) hk => TP.tour_low (xa xs) (a := a) hasc h0 hd (k := k) hk
    have T4 := fun hd hq (k : Nat) hk => TP.tour_high (xa xs) (a := a) hasc hd hq (k := k) hk
    rw [hLn] at T2 T3 T4
    obtain ⟨p, hp⟩ : ∃ p, vs[0]?.getD 0 = p := ⟨_, rfl⟩
    obtain ⟨q, hq⟩ : ∃ q, vs[L]?.getD 0 = q := ⟨_, rfl⟩
    rw [hp] at e0 hlow T1 T2 T3 T4
    rw [hq] at eL hhigh T2 T3 T4
    have HQ := Lib.hid hq
    have HP0 := Lib.hid hp
    have W : ∀ (q : Nat) (w : World), Ints w (some ⟨b, off, none⟩) n' (nums vs) → Ints w A n xs → q < n → Calls Try.prog 26 #[.slice A n c, .int .i64 a, .int .i64 q] w (Qt w (.int .i64 (TP.dist (xa xs) a q))) := fun q w _ hx hq => by
      have := way_impl A n c xs a q w hx
      rwa [wayI_dist hv hn1 ha hq] at this
    have HW := Lib.hid W
    have HLen := Lib.hid hos
    have HLo := Lib.hid hlow
    have HHi := Lib.hid hhigh
    have HT1 := Lib.hid T1
    have HT2 := Lib.hid T2
    have HT3 := Lib.hid T3
    have HT4 := Lib.hid T4
    have HNL := Lib.hid hL
    have hmd : (c' : Int) ≤ 9223372036854775807 := by omega
    clear V W h h' hv hr hasc hos hn1 hcc hp hq hlow hhigh hL hLn T1 T2 T3 T4
    by_cases c1 : p < a
    · have c1' : (p : Int) < (a : Int) := by omega
      by_cases c2 : q ≤ a
      · have c2' : (q : Int) ≤ (a : Int) := by omega
        have HT : Hid (TP.tour (xa xs) a vs = vs.reverse) := Lib.hid (HT2.out c1 c2)
        go_enter Try.func58, Try.ntmps58
        go_wp2_with (first | (go_at_call 56; refine (HVS.out _ H.out H'.out).mono ?_; rintro e w1 ⟨rfl, m1, rfl⟩) | (go_at_call 47; refine (isFloor_any _ _ _).mono ?_; rintro e w' ⟨rfl, rfl⟩))
        refine (turned_any _ _ _ (nums vs) _ (H'.out.drewN m1) (by omega)).mono ?_
        rintro e w2 ⟨v2, rfl, o2, b2⟩
        go_wp2
        go_ret
        exact ⟨_, rfl, by rw [HT.out, ← nums_rev]; exact o2, bdrewN (Below.refl _ _) m1 |>.trans b2⟩
      · have c2' : (a : Int) < (q : Int) := by omega
        by_cases c3 : TP.dist (xa xs) a p ≤ TP.dist (xa xs) a q
        · go_enter Try.func58, Try.ntmps58
          go_wp2_with (first | (go_at_call 56; refine (HVS.out _ H.out H'.out).mono ?_; rintro e w1 ⟨rfl, m1, hm1⟩; have c0 : w1.cell? ⟨b, off, none⟩ = some (.int .i64 p) := (by rw [hm1]; exact e0); have cL : w1.cell? ⟨b, off + L, none⟩ = some (.int .i64 q) := (by rw [hm1]; exact eL); have HX : Ints w1 A n xs := (by rw [hm1]; exact H.out.drewN _); have HY : Ints w1 (some ⟨b, off, none⟩) n' (nums vs) := (by rw [hm1]; exact H'.out.drewN _); have HM1 := Lib.hid hm1; clear hm1) | (go_at_call 47; refine (isFloor_any _ _ _).mono ?_; rintro e w' ⟨rfl, rfl⟩))
          refine (HW.out _ _ HY HX HLo.out).mono ?_
          rintro e w2 ⟨rfl, m2, hm2⟩
          have HX2 : Ints w2 A n xs := by rw [hm2]; exact HX.drewN _
          have HY2 : Ints w2 (some ⟨b, off, none⟩) n' (nums vs) := by rw [hm2]; exact HY.drewN _
          have HM2 := Lib.hid hm2
          clear hm2 c0 cL HX HY
          go_wp2_with fail
          refine (HW.out _ _ HY2 HX2 HHi.out).mono ?_
          rintro e w3 ⟨rfl, m3, hm3⟩
          have HY3 : Hid (Ints w3 (some ⟨b, off, none⟩) n' (nums vs)) := Lib.hid (by rw [hm3]; exact HY2.drewN _)
          have B3 : Below w.heap.size w w3 := by rw [hm3, HM2.out, HM1.out]; exact bdrewN (bdrewN (bdrewN (Below.refl _ _) _) _) _
          clear hm3 HX2 HY2 HM1 HM2
          go_wp2
          go_loopw [9] (fun i wr => w3 = wr ∧ ∃ k : Nat, i = .int .i64 k ∧ k ≤ L ∧ ∀ j, j < k → vs[j]?.getD 0 ≤ a) (fun i _ => n' - (intOf i).toNat)
          case atStart => exact ⟨rfl, 0, rfl, Nat.zero_le _, fun j hj => by omega⟩
          case round =>
            obtain ⟨rfl, k, rfl, hk, hall⟩ := hrel
            have HAll := Lib.hid hall
            obtain ⟨_, _, u3, hb3, hcc3⟩ := HY3.out.2.2 (by omega)
            cases u3
            have e3 := hcc3 k (by omega)
            rw [nums_get] at e3
            obtain ⟨z, hz'⟩ : ∃ z, vs[k]?.getD 0 = z := ⟨_, rfl⟩
            rw [hz'] at e3
            have HZ := Lib.hid hz'
            have hk1 : (k : Int) < (n' : Int) := by omega
            clear hcc3 hall hz'
            by_cases hza : z ≤ a
            · have hza' : (z : Int) ≤ (a : Int) := by omega
              have hkL : k ≠ L := fun e => by
                have h1 := HZ.out; rw [e, HQ.out] at h1; omega
              go_wp2
              exact ⟨⟨(by first | trivial | rfl), k + 1, by first | go_num | (congr 1; omega), by omega, fun j hj => by
                by_cases e : j = k
                · subst e; rw [HZ.out]; exact hza
                · exact HAll.out j (by omega)⟩, by simp [intOf]; omega⟩
            · have hza' : (a : Int) < (z : Int) := by omega
              have HT : Hid (nums (TP.tour (xa xs) a vs) = (nums (vs.take k)).reverse ++ nums (vs.drop k)) := Lib.hid (by
                rw [HT3.out c1 c3 k (by rw [HLen.out]; omega) HAll.out (fun _ => by rw [HZ.out]; omega), nums_append, nums_rev])
              have hkc : k ≤ c' := by omega
              have hkc' : ¬ c' = k := by omega
              have hkn : k ≤ n' := by omega
              have HTk : Hid (Ints w3 (some ⟨b, off, none⟩) k (nums (vs.take k))) := Lib.hid (by rw [← nums_take]; exact HY3.out.take k (by omega))
              have HDk : Hid (Ints w3 (some ⟨b, off + k, none⟩) (n' - k) (nums (vs.drop k))) := Lib.hid (by rw [← nums_drop]; exact HY3.out.drop k (by omega))
              have hlt : (nums (vs.take k)).reverse.length = k := by rw [List.length_reverse, nums_length, List.length_take, HLen.out]; omega
              go_wp2_with fail
              go_region_law (first
                | (refine step_app_ints rfl (.tmp 66) (.tmp 69) rfl w3.heap.size v4 (nums (vs.take k)).reverse (some ⟨b, off + k, none⟩) (n' - k) (c' - k) (nums (vs.drop k)) rfl rfl o4 (HDk.out.below b4') (by omega) (by rw [hlt]; omega) b4'.size fun v5 w5 h5 g5 => ?_; have b5 : Below w.heap.size w w5 := bvia (b4'.trans (grown_below o4 b4'.size g5)) B3)
                | (go_simp; go_at_call 74; refine (turned_any _ _ _ (nums (vs.take k)) _ ?_ (by omega)).mono ?_; (focus (exact HTk.out)); rintro e w4 ⟨v4, rfl, o4, b4⟩; have b4' : Below w3.heap.size w3 w4 := ⟨b4.os, b4.tape, b4.output, b4.size, b4.block⟩))
              all_goals go_wp2
              all_goals go_ret
              all_goals exact ⟨_, rfl, by rw [HT.out]; exact h5.lower B3.size, by first | exact b5 | exact bdrewN b5 1⟩
        · have c3' : TP.dist (xa xs) a q < TP.dist (xa xs) a p := by omega
          go_enter Try.func58, Try.ntmps58
          go_wp2_with (first | (go_at_call 56; refine (HVS.out _ H.out H'.out).mono ?_; rintro e w1 ⟨rfl, m1, hm1⟩; have c0 : w1.cell? ⟨b, off, none⟩ = some (.int .i64 p) := (by rw [hm1]; exact e0); have cL : w1.cell? ⟨b, off + L, none⟩ = some (.int .i64 q) := (by rw [hm1]; exact eL); have HX : Ints w1 A n xs := (by rw [hm1]; exact H.out.drewN _); have HY : Ints w1 (some ⟨b, off, none⟩) n' (nums vs) := (by rw [hm1]; exact H'.out.drewN _); have HM1 := Lib.hid hm1; clear hm1) | (go_at_call 47; refine (isFloor_any _ _ _).mono ?_; rintro e w' ⟨rfl, rfl⟩))
          refine (HW.out _ _ HY HX HLo.out).mono ?_
          rintro e w2 ⟨rfl, m2, hm2⟩
          have HX2 : Ints w2 A n xs := by rw [hm2]; exact HX.drewN _
          have HY2 : Ints w2 (some ⟨b, off, none⟩) n' (nums vs) := by rw [hm2]; exact HY.drewN _
          have HM2 := Lib.hid hm2
          clear hm2 c0 cL HX HY
          go_wp2_with fail
          refine (HW.out _ _ HY2 HX2 HHi.out).mono ?_
          rintro e w3 ⟨rfl, m3, hm3⟩
          have HY3 : Hid (Ints w3 (some ⟨b, off, none⟩) n' (nums vs)) := Lib.hid (by rw [hm3]; exact HY2.drewN _)
          have B3 : Below w.heap.size w w3 := by rw [hm3, HM2.out, HM1.out]; exact bdrewN (bdrewN (bdrewN (Below.refl _ _) _) _) _
          clear hm3 HX2 HY2 HM1 HM2
          go_wp2
          go_loopw [10] (fun i wr => w3 = wr ∧ ∃ k : Nat, i = .int .i64 k ∧ k ≤ L ∧ ∀ j, j < k → vs[j]?.getD 0 < a) (fun i _ => n' - (intOf i).toNat)
          case atStart => exact ⟨rfl, 0, rfl, Nat.zero_le _, fun j hj => by omega⟩
          case round =>
            obtain ⟨rfl, k, rfl, hk, hall⟩ := hrel
            have HAll := Lib.hid hall
            obtain ⟨_, _, u3, hb3, hcc3⟩ := HY3.out.2.2 (by omega)
            cases u3
            have e3 := hcc3 k (by omega)
            rw [nums_get] at e3
            obtain ⟨z, hz'⟩ : ∃ z, vs[k]?.getD 0 = z := ⟨_, rfl⟩
            rw [hz'] at e3
            have HZ := Lib.hid hz'
            have hk1 : (k : Int) < (n' : Int) := by omega
            clear hcc3 hall hz'
            by_cases hza : z < a
            · have hza' : (z : Int) < (a : Int) := by omega
              have hkL : k ≠ L := fun e => by
                have h1 := HZ.out; rw [e, HQ.out] at h1; omega
              go_wp2
              exact ⟨⟨(by first | trivial | rfl), k + 1, by first | go_num | (congr 1; omega), by omega, fun j hj => by
                by_cases e : j = k
                · subst e; rw [HZ.out]; exact hza
                · exact HAll.out j (by omega)⟩, by simp [intOf]; omega⟩
            · have hza' : (a : Int) ≤ (z : Int) := by omega
              have hk0 : 0 < k := by
                rcases Nat.eq_zero_or_pos k with e | e
                · exfalso
                  have h1 := HZ.out
                  rw [e, HP0.out] at h1
                  omega
                · exact e
              have HT : Hid (nums (TP.tour (xa xs) a vs) = nums (vs.drop k) ++ (nums (vs.take k)).reverse) := Lib.hid (by
                rw [HT4.out (by omega) (by omega) k (by rw [HLen.out]; omega) HAll.out (fun _ => by rw [HZ.out]; omega), nums_append, nums_rev])
              have hkc : k ≤ c' := by omega
              have hkc' : ¬ c' = k := by omega
              have hkn : k ≤ n' := by omega
              have HTk : Hid (Ints w3 (some ⟨b, off, none⟩) k (nums (vs.take k))) := Lib.hid (by rw [← nums_take]; exact HY3.out.take k (by omega))
              have HDk : Hid (Ints w3 (some ⟨b, off + k, none⟩) (n' - k) (nums (vs.drop k))) := Lib.hid (by rw [← nums_drop]; exact HY3.out.drop k (by omega))
              have hlt : (nums (vs.take k)).reverse.length = k := by rw [List.length_reverse, nums_length, List.length_take, HLen.out]; omega
              go_wp2_with fail
              have hld : (nums (vs.drop k)).length = n' - k := by rw [nums_length, List.length_drop, HLen.out]
              go_region_law (first
                | (go_simp; go_at_call 31; have _t := oT; refine (clone_any _ _ _ (nums (vs.drop k)) _ (HDk.out.below b4) (by omega)).mono ?_; rintro e w5 ⟨vC, rfl, oC, bC⟩; have FC := oC.lower b4.size; have FT := oT.below bC; have b5 := b4.trans (below_le b4.size bC))
                | (go_simp; go_at_call 31; refine (clone_any _ _ _ (nums (vs.drop k)) _ ?_ (by omega)).mono ?_; (focus (exact HDk.out)); rintro e w4 ⟨vC, rfl, oC, b4'⟩; have b4 : Below w3.heap.size w3 w4 := ⟨b4'.os, b4'.tape, b4'.output, b4'.size, b4'.block⟩)
                | (go_simp; go_at_call 74; have _t := oC; refine (turned_any _ _ _ (nums (vs.take k)) _ (HTk.out.below b4) (by omega)).mono ?_; rintro e w5 ⟨vT, rfl, oT, bT⟩; obtain ⟨AT, cT, rfl⟩ := oT.shape; have FT := oT.lower b4.size; have FC := oC.below bT; have b5 := b4.trans (below_le b4.size bT))
                | (go_simp; go_at_call 74; refine (turned_any _ _ _ (nums (vs.take k)) _ ?_ (by omega)).mono ?_; (focus (exact HTk.out)); rintro e w4 ⟨vT, rfl, oT, b4'⟩; obtain ⟨AT, cT, rfl⟩ := oT.shape; have b4 : Below w3.heap.size w3 w4 := ⟨b4'.os, b4'.tape, b4'.output, b4'.size, b4'.block⟩)
                | (refine step_app_ints rfl (.tmp 82) (.tmp 86) rfl w3.heap.size vC (nums (vs.drop k)) AT k cT (nums (vs.take k)).reverse rfl rfl FC (FT.intsM hlt) (by omega) (by rw [hld]; omega) b5.size fun v6 w6 h6 g6 => ?_; have b6 : Below w.heap.size w w6 := bvia (b5.trans (grown_below FC b5.size g6)) B3))
              all_goals go_wp2
              all_goals go_ret
              all_goals exact ⟨_, rfl, by rw [HT.out]; exact h6.lower B3.size, by first | exact b6 | exact bdrewN b6 1⟩
    · have c1' : (a : Int) ≤ (p : Int) := by omega
      have HT : Hid (TP.tour (xa xs) a vs = vs) := Lib.hid (HT1.out (by omega))
      go_enter Try.func58, Try.ntmps58
      go_wp2_with (first | (go_at_call 56; refine (HVS.out _ H.out H'.out).mono ?_; rintro e w1 ⟨rfl, m1, rfl⟩) | (go_at_call 47; refine (isFloor_any _ _ _).mono ?_; rintro e w' ⟨rfl, rfl⟩))
      refine (clone_any _ _ _ (nums vs) _ (H'.out.drewN m1) (by omega)).mono ?_
      rintro e w2 ⟨v2, rfl, o2, b2⟩
      go_wp2
      go_ret
      exact ⟨_, rfl, by rw [HT.out]; exact o2, (bdrewN (Below.refl _ _) m1).trans b2⟩
end Go.Proofs.Ytmekbfjeljfbpaa
