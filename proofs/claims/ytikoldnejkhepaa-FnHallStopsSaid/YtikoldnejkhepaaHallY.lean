/- The method place: contract by induction on the riders left. -/
import Derived.Test.YtikoldnejkhepaaHallX
namespace Go.Proofs.Ytikoldnejkhepaa
open Go.ChangeShapes Go.WideShapes Go.ChangeAt Go.RowKit

/-- The search at the first k cars. -/
def plK (gs : List Int) (n : Nat) (left put : List Nat) (s : List Nat × Nat) : Nat → List Nat × Nat
  | 0 => s
  | k + 1 => if left[k]?.getD 0 = 0 then plK gs n left put s k else HP.place gs n (left.set k (left[k]?.getD 0 - 1)) (put ++ [k]) (plK gs n left put s k)
theorem plK_zero (gs : List Int) (n : Nat) (left put : List Nat) (s : List Nat × Nat) {k : Nat} (h : left[k]?.getD 0 = 0) : plK gs n left put s (k + 1) = plK gs n left put s k := by rw [plK, if_pos h]
theorem plK_more (gs : List Int) (n : Nat) (left put : List Nat) (s : List Nat × Nat) {k x : Nat} (h : left[k]?.getD 0 = x + 1) : plK gs n left put s (k + 1) = HP.place gs n (left.set k x) (put ++ [k]) (plK gs n left put s k) := by
  rw [plK, if_neg (by omega), h]; rfl
theorem plK_fold (gs : List Int) (n : Nat) (left put : List Nat) (s : List Nat × Nat) : ∀ k, plK gs n left put s k = (List.range k).foldl (fun s c => if left[c]?.getD 0 = 0 then s else HP.place gs n (left.set c (left[c]?.getD 0 - 1)) (put ++ [c]) s) s
  | 0 => rfl
  | k + 1 => by rw [plK, plK_fold gs n left put s k, List.range_succ, List.foldl_append]; rfl
theorem place_no {gs : List Int} {n : Nat} {left put : List Nat} {s : List Nat × Nat} (h : s.2 ≤ HP.stops gs put) : HP.place gs n left put s = s := by
  cases n <;> simp [HP.place, h]
theorem place_end {gs : List Int} {left put : List Nat} {s : List Nat × Nat} (h : ¬ s.2 ≤ HP.stops gs put) : HP.place gs 0 left put s = (put, HP.stops gs put) := by simp [HP.place, h]
theorem place_go {gs : List Int} {n : Nat} {left put : List Nat} {s : List Nat × Nat} (h : ¬ s.2 ≤ HP.stops gs put) : HP.place gs (n + 1) left put s = plK gs n left put s left.length := by
  rw [plK_fold, HP.place, if_neg h]
theorem alr_nums (gs : List Int) (put : List Nat) (c : Nat) (g : Int) : alrK gs (nums put) (c : Int) g put.length = HP.already gs put c g := by
  rw [Bool.eq_iff_iff]
  simp only [HP.already, List.any_eq_true, List.mem_range, Bool.and_eq_true, beq_iff_eq]
  constructor
  · intro h
    cases hn : (List.range put.length).any fun i => put[i]?.getD 0 == c && gs[i]?.getD 0 == g with
    | true =>
      simp only [List.any_eq_true, List.mem_range, Bool.and_eq_true, beq_iff_eq] at hn
      exact hn
    | false =>
      rw [alrK_no gs (nums put) (fun i hi h1 h2 => by
        have := List.any_eq_false.1 hn i (by simpa using hi)
        rw [nums_get] at h1
        have h1' : put[i]?.getD 0 = c := by omega
        simp [h1', h2] at this)] at h
      cases h
  · rintro ⟨i, hi, h1, h2⟩
    exact alrK_yes gs (nums put) hi (by rw [nums_get, h1]) h2
theorem left_at {w : World} {B gl m cl : Nat} {left : List Nat} (h : OwnI w B (.slice (some ⟨gl, 0, none⟩) m cl) (nums left)) {k : Nat} (hk : k < left.length) : w.cell? ⟨gl, k, none⟩ = some (.int .i64 ((left[k]?.getD 0 : Nat) : Int)) ∧ w.frozen? ⟨gl, k, none⟩ = false := by
  have := h.at_ (i := k) (by rw [nums_length]; exact hk)
  rw [nums_get] at this
  exact ⟨this.1, this.2.1⟩
theorem set_back (left : List Nat) (k x y : Nat) (h : left[k]?.getD 0 = y) (hk : k < left.length) : (left.set k x).set k y = left := by
  rw [List.set_set, ← h, List.getElem?_eq_getElem hk]
  simp

/-- What place leaves: the state with the best list, nothing older changed. -/
def PlaceOut (B g gl base : Nat) (A : Option Addr) (ng cg m cl : Nat) (gs : List Int) (left put : List Nat) (s : List Nat × Nat) (w : World) (e : Ending) (w' : World) : Prop :=
  e = .returned (.tuple #[]) ∧ Below B w w' ∧ ∃ pv bv : Value, HSt w' B g gl base A ng cg m cl gs left put s.1 s.2 pv bv

set_option maxRecDepth 100000 in
set_option maxHeartbeats 8000000 in
theorem place_any (B g gl base : Nat) (A : Option Addr) (ng cg m cl : Nat) (gs : List Int) (hg6 : gs.length ≤ 6) (hm3 : m ≤ 3) (n : Nat) : ∀ (left put best : List Nat) (least : Nat) (pv bv : Value) (w : World), HSt w B g gl base A ng cg m cl gs left put best least pv bv → put.length + n = gs.length → (∀ k, k < left.length → left[k]?.getD 0 ≤ 8) →
    Calls Try.prog 42 #[.pointer (some ⟨g, 0, none⟩), .int .i64 ((HP.stops gs put : Nat) : Int)] w (PlaceOut B g gl base A ng cg m cl gs left put (HP.place gs n left put (best, least)) w) := by
  induction n with
  | zero =>
    intro left put best least pv bv w h hl h8
    obtain ⟨c0, c1, c2, c3, c4, f0, rfl⟩ := h.cells
    obtain ⟨st, hst⟩ : ∃ st, HP.stops gs put = st := ⟨_, rfl⟩
    have hst6 : st ≤ 6 := by have := HP.stops_le gs put; omega
    have hng : ng = gs.length := h.G.1.symm
    have hn6 : ng ≤ 6 := by omega
    have hpn : put.length + 0 = ng := by omega
    have HGL := Lib.hid hng
    clear hng hl
    by_cases hle : least ≤ st
    · rw [place_no (by rw [hst]; exact hle), hst]
      have hle' : (least : Int) ≤ (st : Int) := by omega
      have HH := Lib.hid h
      clear h hst
      go_enter Try.func42, Try.ntmps42
      go_wp2_with fail
      go_returns
      exact ⟨rfl, Below.refl _ _, pv, bv, HH.out⟩
    · rw [place_end (by rw [hst]; exact hle), hst]
      have hle' : (st : Int) < (least : Int) := by omega
      obtain ⟨Ap, cp, rfl⟩ := h.P.shape
      have hpl : (nums put).length = ng := by rw [nums_length]; omega
      rw [hpl] at c2
      have e1 : ((ng : Int) == (ng : Int)) = true := by simp
      have H4 := h.setG 4 (.int .i64 (st : Int)) (least' := st) rfl h.P h.V h.ap
      have IP := H4.P.ints.2
      rw [hpl] at IP
      have HH := Lib.hid h
      have B4 : Below B w (w.setCell ⟨g, 4, none⟩ (.int .i64 (st : Int))) := below_set _ h.b1 _
      have c42 : (w.setCell ⟨g, 4, none⟩ (.int .i64 (st : Int))).cell? ⟨g, 2, none⟩ = some (.slice Ap ng cp) := by rw [H4.H.cell 2]; simp [hpl]
      obtain ⟨W, hW⟩ : ∃ W : World, W = w.setCell ⟨g, 4, none⟩ (.int .i64 (st : Int)) := ⟨_, rfl⟩
      rw [← hW] at H4 IP B4 c42
      have hgl := h.H.lt
      clear h hst
      go_enter Try.func42, Try.ntmps42
      go_wp2_with fail
      rw [← hW]
      refine (clone_any Ap ng cp (nums put) W IP (by omega)).mono ?_
      rintro e w2 ⟨v, rfl, hv, hb⟩
      have H5 := H4.below hb
      have k3 := H5.cells.2.2.2.1
      have k3f := H5.cells.2.2.2.2.2.1 3
      have ap : ∀ q, (Value.slice Ap (nums put).length cp).ownBlock = some q → ¬ v.ownBlock = some q := fun q h1 h2 => by
        have := H4.P.up.2 q h1
        have := hv.block q h2
        omega
      have H6 := H5.setG 3 v (bv' := v) (best' := put) rfl H5.P (hv.lower H4.b6) ap
      obtain ⟨Av, cv, rfl⟩ := hv.shape
      go_wp2_with fail
      go_returns
      exact ⟨rfl, B4.trans ((below_le H4.G.2.2.1 hb).trans (below_set _ H5.b1 _)), _, _, by rw [hpl] at H6; exact H6⟩
  | succ n ih =>
    intro left put best least pv bv w h hl h8
    obtain ⟨c0, c1, c2, c3, c4, f0, rfl⟩ := h.cells
    obtain ⟨st, hst⟩ : ∃ st, HP.stops gs put = st := ⟨_, rfl⟩
    have hst6 : st ≤ 6 := by have := HP.stops_le gs put; omega
    have hng : ng = gs.length := h.G.1.symm
    have hn6 : ng ≤ 6 := by omega
    have hpn : put.length + (n + 1) = ng := by omega
    have HGL := Lib.hid hng
    clear hng hl
    by_cases hle : least ≤ st
    · rw [place_no (by rw [hst]; exact hle), hst]
      have hle' : (least : Int) ≤ (st : Int) := by omega
      have HH := Lib.hid h
      clear h hst
      go_enter Try.func42, Try.ntmps42
      go_wp2_with fail
      go_returns
      exact ⟨rfl, Below.refl _ _, pv, bv, HH.out⟩
    · rw [place_go (by rw [hst]; exact hle), hst]
      have hle' : (st : Int) < (least : Int) := by omega
      obtain ⟨Ap, cp, rfl⟩ := h.P.shape
      obtain ⟨r, hr⟩ : ∃ r, put.length = r := ⟨_, rfl⟩
      have hpl : (nums put).length = r := by rw [nums_length, hr]
      rw [hpl] at c2
      have e1 : ((r : Int) == (ng : Int)) = false := by rw [beq_eq_false_iff_ne]; omega
      have hrg : (r : Int) < (ng : Int) := by omega
      have HH := Lib.hid h
      have HST := Lib.hid hst
      clear h hst
      go_enter Try.func42, Try.ntmps42
      go_wp2_with fail
      go_loopw [42] (fun i wr => ∃ (k : Nat) (pv bv : Value), k ≤ left.length ∧ i = .int .i64 k ∧ Below B w wr ∧ HSt wr B g gl base A ng cg left.length cl gs left put (plK gs n left put (best, least) k).1 (plK gs n left put (best, least) k).2 pv bv) (fun i _ => left.length - (intOf i).toNat)
      case atStart => exact ⟨0, _, bv, Nat.zero_le _, rfl, Below.refl _ _, HH.out⟩
      case round =>
        obtain ⟨k, pv, bv, hk, rfl, hb, H⟩ := hrel
        by_cases hlt : k < left.length
        · have hlt' : (k : Int) < (left.length : Int) := by omega
          obtain ⟨d0, d1, d2, d3, d4, df, -⟩ := H.cells
          obtain ⟨l0, lf⟩ := left_at H.L hlt
          obtain ⟨s, hs⟩ : ∃ s, plK gs n left put (best, least) k = s := ⟨_, rfl⟩
          obtain ⟨x, hx⟩ : ∃ x, left[k]?.getD 0 = x := ⟨_, rfl⟩
          have hx8 := h8 k hlt
          rw [hx] at l0 hx8
          rw [hs] at H d4
          obtain ⟨s1, s2⟩ := s
          cases x with
          | zero =>
            have HN : Hid (plK gs n left put (best, least) (k + 1) = (s1, s2)) := Lib.hid (by rw [plK_zero _ _ _ _ _ hx, hs])
            have HR := Lib.hid H
            clear H hs hx
            go_wp2_with fail
            exact ⟨⟨k + 1, _, _, by omega, by go_num, hb, by rw [HN.out]; exact HR.out⟩, by simp [intOf]; omega⟩
          | succ x =>
            have HN : Hid (plK gs n left put (best, least) (k + 1) = HP.place gs n (left.set k x) (put ++ [k]) (s1, s2)) := Lib.hid (by rw [plK_more _ _ _ _ _ hx, hs])
            have e2 : (((x + 1 : Nat) : Int) == 0) = false := by rw [beq_eq_false_iff_ne]; omega
            obtain ⟨Ap, cp, rfl⟩ := H.P.shape
            rw [hpl] at d2 H
            have IG := H.G.ints
            have IP := H.P.ints.2
            rw [hpl] at IP
            obtain ⟨q, off, rfl, hqb, hqc⟩ := IG.2.2 (by omega)
            have cg0 := hqc r (by omega)
            obtain ⟨y, hy⟩ : ∃ y, gs[r]?.getD 0 = y := ⟨_, rfl⟩
            rw [hy] at cg0
            have hal := alr_nums gs put k y
            rw [hr] at hal
            have hsn : HP.stops gs (put ++ [k]) = st + if HP.already gs put k y = true then 0 else 1 := by rw [HP.stops_snoc, HST.out, hr, hy]
            have HX := Lib.hid hx
            have HIG := Lib.hid IG
            have HIP := Lib.hid IP
            have HR := Lib.hid H
            have hbg := H.b1
            have hglt := H.H.lt
            have hggl := H.b5
            have hggl' : ¬ gl = g := fun e => H.b5 e.symm
            have hgll : gl < wr.heap.size := Nat.lt_of_lt_of_le H.b4 H.b6
            have HA : Hid (∀ m, HSt (((wr.drewN m).setCell ⟨gl, k, none⟩ (.int .i64 (x : Int))).alloc (.cells #[.int .i64 (k : Int)] 3)) B g gl base (some ⟨q, off, none⟩) ng cg left.length cl gs (left.set k x) put s1 s2 (.slice Ap r cp) bv) := Lib.hid (fun m => ((H.drewN m).setLeft k x hlt).below ((Below.refl _ _).alloc (Nat.le_refl _) _))
            have HBA : Hid (∀ m, Below B w (((wr.drewN m).setCell ⟨gl, k, none⟩ (.int .i64 (x : Int))).alloc (.cells #[.int .i64 (k : Int)] 3))) := Lib.hid (fun m => ((bdrewN hb m).trans (below_set _ H.b2 _)).alloc (by have := H.G.2.2.1; simpa [World.setCell] using this) _)
            have hlen3 : (put ++ [k]).length + n = gs.length := by have := HGL.out; simp; omega
            have h83 : ∀ j, j < (left.set k x).length → (left.set k x)[j]?.getD 0 ≤ 8 := fun j hj => by
              rw [List.length_set] at hj
              by_cases e : k = j
              · subst e; rw [List.getElem?_set_self hlt]; simp; omega
              · rw [List.getElem?_set_ne e]; exact h8 j hj
            have HIH : Hid (∀ pv W, HSt W B g gl base (some ⟨q, off, none⟩) ng cg left.length cl gs (left.set k x) (put ++ [k]) s1 s2 pv bv → Calls Try.prog 42 #[.pointer (some ⟨g, 0, none⟩), .int .i64 ((HP.stops gs (put ++ [k]) : Nat) : Int)] W (PlaceOut B g gl base (some ⟨q, off, none⟩) ng cg left.length cl gs (left.set k x) (put ++ [k]) (HP.place gs n (left.set k x) (put ++ [k]) (s1, s2)) W)) := Lib.hid (fun pv W hW => ih (left.set k x) (put ++ [k]) s1 s2 pv bv W hW hlen3 h83)
            have HXX := Lib.hid (set_back left k x (x + 1) hx hlt)
            clear H hs hx hqc hy IG IP hlen3 h83
            cases ha : HP.already gs put k y
            all_goals
              rw [ha] at hal hsn
              simp only [Bool.false_eq_true, if_false, if_true, Nat.add_zero] at hsn
              have AL : Hid (∀ W : World, Ints W (some ⟨q, off, none⟩) ng gs → Ints W Ap r (nums put) → Calls Try.prog 39 #[.slice (some ⟨q, off, none⟩) ng cg, .slice Ap r cp, .int .i64 (k : Int), .int .i64 y] W fun e w' => e = .returned (.bool _) ∧ W = w') := Lib.hid (fun W h1 h2 => by have := already_any _ _ cg gs _ _ cp (nums put) (k : Int) y W h1 h2 (by omega); rw [hal] at this; exact this)
              rw [hsn] at HIH
              try rw [show ((st + 1 : Nat) : Int) = (st : Int) + 1 from rfl] at HIH
              clear ha hal hsn
              go_wp2_with fail
              go_quiet ((go_at_call 39; exact Calls.quiet_of_same (flipW (AL.out _ HIG.out HIP.out))))
              go_wp2_with (at_builtin; refine app_intX rfl _ _ rfl base wr.heap.size _ (nums put) (k : Int) rfl rfl (HA.out nq).P ?_ ?_ ?_ ?_; (focus (first | (go_simp; done) | (simp; done))); (focus (rw [hpl]; omega)); (focus (exact (HA.out nq).b6)); intro v' w' hv hg hn; rw [← nums_snoc] at hv; have HPU := (HA.out nq).push hg hv hn; have gc := (HA.out nq).grownCells hg 2; have g2 := gc.1.trans (HA.out nq).cells.2.2.1; have g3 := gc.2.trans ((HA.out nq).cells.2.2.2.2.2.1 2); have BB : Below B w (w'.setCell ⟨g, 2, none⟩ v') := (((HBA.out nq).grown hg (by have := (HA.out nq).G.2.2.1; exact this) (fun z hz => by have := (HA.out nq).P.block z hz; have := (HA.out nq).b3; omega))).trans (below_set _ hbg _); obtain ⟨Av, cv, rfl⟩ := hv.shape; clear gc hg hn hv)
              refine (HIH.out _ _ HPU).mono ?_
              rintro e w3 ⟨rfl, hb3, pv3, bv3, H3⟩
              have hl3 : (nums (put ++ [k])).length = r + 1 := by rw [nums_length]; simp; omega
              rcases H3.P.form with ⟨_, hz⟩ | ⟨g3, q3, cur, e3, -⟩
              · rw [hz] at hl3; simp at hl3
              · rw [hl3] at e3
                subst e3
                obtain ⟨i0, i1, i2, i3, i4, jf, -⟩ := H3.cells
                obtain ⟨l3, lf3⟩ := left_at H3.L (k := k) (by rw [List.length_set]; exact hlt)
                rw [List.getElem?_set_self hlt] at l3
                simp only [Option.getD_some] at l3
                have hq3 := H3.P.cap.1
                rw [hl3] at hq3
                have hq3' : (r : Int) ≤ (q3 : Int) := by omega
                have OC : OwnI w3 base (.slice (some ⟨g3, 0, none⟩) r q3) (nums put) := by
                  have := H3.P
                  rw [nums_snoc] at this
                  rcases this.cut with h1 | ⟨h1, _⟩
                  · rwa [hpl] at h1
                  · cases h1
                have H4 := H3.setG 2 (.slice (some ⟨g3, 0, none⟩) r q3) (put' := put) rfl OC H3.V H3.ap
                have H5 := H4.setLeft k (x + 1) (by simpa using hlt)
                rw [HXX.out, show (((x + 1 : Nat)) : Int) = (x : Int) + 1 from rfl] at H5
                have BZ : Below B w ((w3.setCell ⟨g, 2, none⟩ (.slice (some ⟨g3, 0, none⟩) r q3)).setCell ⟨gl, k, none⟩ (.int .i64 ((x : Int) + 1))) := ((BB.trans hb3).trans (below_set _ H3.b1 _)).trans (below_set _ H3.b2 _)
                have HZ := Lib.hid H5
                clear H3 H4 H5 BB hb3 OC HPU
                go_wp2_with fail
                exact ⟨⟨k + 1, _, _, by omega, by go_num, BZ, by rw [HN.out]; exact HZ.out⟩, by simp [intOf]; omega⟩
        · obtain rfl : k = left.length := by omega
          have HR := Lib.hid H
          clear H
          go_wp2_with fail
          go_returns
          exact ⟨rfl, hb, _, _, HR.out⟩
end Go.Proofs.Ytikoldnejkhepaa
