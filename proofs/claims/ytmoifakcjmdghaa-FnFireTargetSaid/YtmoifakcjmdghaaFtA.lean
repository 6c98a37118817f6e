/- Lists of truths; CallsValid of both, stopValid, l9Ok: contracts. -/
import Derived.Test.YtmoifakcjmdghaaFloors
import Derived.Test.YtmoifakcjmdghaaBlk
import Derived.Deep.Grids
namespace Go.Proofs.Ytmoifakcjmdghaa
open Go.ChangeShapes Go.WideShapes Go.ChangeAt Go.RowKit

/-- A slice of truths that reads as bs. -/
def Bools (w : World) (A : Option Addr) (n : Nat) (bs : List Bool) : Prop :=
  bs.length = n ∧ n ≤ 9223372036854775807 ∧ (0 < n → ∃ b off : Nat, A = some ⟨b, off, none⟩ ∧ b < w.heap.size ∧ ∀ j, j < n → w.cell? ⟨b, off + j, none⟩ = some (.bool (bs[j]?.getD false)))
theorem Bools.keep {w w' : World} {A : Option Addr} {n : Nat} {bs : List Bool} (h : Bools w A n bs) (hs : w.heap.size ≤ w'.heap.size) (hk : ∀ p : Addr, p.block < w.heap.size → w'.cell? p = w.cell? p) : Bools w' A n bs :=
  ⟨h.1, h.2.1, fun hn => by
    obtain ⟨b, off, hA, hb, hc⟩ := h.2.2 hn
    exact ⟨b, off, hA, by omega, fun j hj => (hk ⟨b, off + j, none⟩ hb).trans (hc j hj)⟩⟩
theorem Bools.below {w w' : World} {A : Option Addr} {n : Nat} {bs : List Bool} (h : Bools w A n bs) (hb : Below w.heap.size w w') : Bools w' A n bs := h.keep hb.size (fun _ hp => hb.cell hp)
theorem Bools.drewN {w : World} {A : Option Addr} {n : Nat} {bs : List Bool} (h : Bools w A n bs) (m : Nat) : Bools (w.drewN m) A n bs := h
theorem Bools.alloc {w : World} {A : Option Addr} {n : Nat} {bs : List Bool} (h : Bools w A n bs) (o : Obj) : Bools (w.alloc o) A n bs := h.below ((Below.refl _ _).alloc (Nat.le_refl _) _)

theorem bools_field {H : Type} {enc : TypeId × Value → H} {P : Program} {W : World} {t e : TypeId} {fuel : Nat} {v : Value} {y : DataW H × List MemPlace} (ht : P.underlying t = some (.slice e)) (he : P.underlying e = some .bool) (hc : P.cellsOf e = 1)
    (h : DataW.trod enc P W 0 (fun _ => true) true fuel t [v] = some y) : ∃ (A : Option Addr) (n c : Nat) (bs : List Bool), v = .slice A n c ∧ Bools W A n bs := by
  rcases Go.Deep.open_bools ht he hc h with ⟨hcs, _⟩ | ⟨a, len, cap, B, hcs, _, hl, hm, _, hcell⟩
  · simp at hcs
    exact ⟨none, 0, 0, [], hcs, rfl, by omega, fun h => by omega⟩
  · simp at hcs
    unfold maxLen at hm
    refine ⟨some a, len, cap, (List.range len).map B, hcs, by simp, by omega, fun hn => ?_⟩
    obtain ⟨b, off, spot⟩ := a
    have hc0 := hcell 0 (by omega)
    have hspot : spot = none := by simpa [Addr.add] using World.cell?_spot hc0
    subst hspot
    have hlt := World.block_lt_of_cell? _ _ hc0
    refine ⟨b, off, rfl, by simpa [Addr.add] using hlt, fun j hj => ?_⟩
    have hcj := hcell j (by omega)
    have hg : ((List.range len).map B)[j]?.getD false = B j := by simp [hj]
    rw [hg]
    by_cases hj0 : j = 0
    · subst hj0; simpa [Addr.add] using hcj
    · simpa [Addr.add, hj0] using hcj

/-- Three slices of truths. -/
structure BC (w : World) (A1 : Option Addr) (n1 : Nat) (us : List Bool) (A2 : Option Addr) (n2 : Nat) (ds : List Bool) (A3 : Option Addr) (n3 : Nat) (cs : List Bool) : Prop where
  u : Bools w A1 n1 us
  d : Bools w A2 n2 ds
  c : Bools w A3 n3 cs
theorem BC.below {w w' : World} {A1 A2 A3 : Option Addr} {n1 n2 n3 : Nat} {us ds cs : List Bool} (h : BC w A1 n1 us A2 n2 ds A3 n3 cs) (hb : Below w.heap.size w w') : BC w' A1 n1 us A2 n2 ds A3 n3 cs := ⟨h.u.below hb, h.d.below hb, h.c.below hb⟩

/-- Valid calls. -/
def cvB (us ds cs : List Bool) : Bool := decide (1 ≤ us.length ∧ us.length ≤ 8 ∧ ds.length = us.length ∧ cs.length = us.length ∧ us[us.length - 1]?.getD false = false ∧ ds[0]?.getD false = false)
theorem cvB_open {us ds cs : List Bool} (h : cvB us ds cs = true) : 1 ≤ us.length ∧ us.length ≤ 8 ∧ ds.length = us.length ∧ cs.length = us.length ∧ us[us.length - 1]?.getD false = false ∧ ds[0]?.getD false = false := by simpa [cvB] using h
theorem cvB_no {us ds cs : List Bool} (h : ¬ (1 ≤ us.length ∧ us.length ≤ 8 ∧ ds.length = us.length ∧ cs.length = us.length ∧ us[us.length - 1]?.getD false = false ∧ ds[0]?.getD false = false)) : cvB us ds cs = false := by simpa [cvB] using h
theorem cvB_yes {us ds cs : List Bool} (h : 1 ≤ us.length ∧ us.length ≤ 8 ∧ ds.length = us.length ∧ cs.length = us.length ∧ us[us.length - 1]?.getD false = false ∧ ds[0]?.getD false = false) : cvB us ds cs = true := by simpa [cvB] using h

set_option maxHeartbeats 1000000 in
theorem cv_impl (A1 : Option Addr) (n1 c1 : Nat) (us : List Bool) (A2 : Option Addr) (n2 c2 : Nat) (ds : List Bool) (A3 : Option Addr) (n3 c3 : Nat) (cs : List Bool) (w : World) (h : BC w A1 n1 us A2 n2 ds A3 n3 cs) :
    Calls Try.prog 27 #[.agg #[.slice A1 n1 c1, .slice A2 n2 c2, .slice A3 n3 c3]] w fun e w' => e = .returned (.bool (cvB us ds cs)) ∧ Below w.heap.size w w' := by
  obtain ⟨hu, hd, hc⟩ := h
  have LU := Lib.hid hu.1
  have LD := Lib.hid hd.1
  have LC := Lib.hid hc.1
  have n10 : 0 ≤ (n1 : Int) := by omega
  by_cases k1 : n1 < 1
  · have k1' : (n1 : Int) < 1 := by omega
    have HF : cvB us ds cs = false := cvB_no fun h => by have := LU.out; omega
    rw [HF]
    clear HF hu hd hc
    go_enter Try.func27, Try.ntmps27
    go_wp2
    go_ret
    exact ⟨rfl, by (repeat' (first | (with_reducible exact Below.refl _ _) | (with_reducible assumption) | (with_reducible exact bundrew (by assumption)) | (with_reducible refine balloc ?_ _) | (with_reducible refine bset ?_ _ ?_ _) | (with_reducible refine Below.drew ?_) | (with_reducible refine bdrewN ?_ _) | (with_reducible refine bvia (by assumption) ?_) | (with_reducible refine Below.trans ?_ (by assumption)) | omega | (simp; omega) | (simp; done)))⟩
  · have k1' : 1 ≤ (n1 : Int) := by omega
    by_cases k2 : 8 < n1
    · have k2' : (8 : Int) < n1 := by omega
      have HF : cvB us ds cs = false := cvB_no fun h => by have := LU.out; omega
      rw [HF]
      clear HF hu hd hc
      go_enter Try.func27, Try.ntmps27
      go_wp2
      go_ret
      exact ⟨rfl, by (repeat' (first | (with_reducible exact Below.refl _ _) | (with_reducible assumption) | (with_reducible exact bundrew (by assumption)) | (with_reducible refine balloc ?_ _) | (with_reducible refine bset ?_ _ ?_ _) | (with_reducible refine Below.drew ?_) | (with_reducible refine bdrewN ?_ _) | (with_reducible refine bvia (by assumption) ?_) | (with_reducible refine Below.trans ?_ (by assumption)) | omega | (simp; omega) | (simp; done)))⟩
    · have k2' : (n1 : Int) ≤ 8 := by omega
      rcases bne_or (n2 : Int) (n1 : Int) with ⟨t1, t2, t3⟩ | ⟨t1, t2, t3⟩
      · obtain rfl : n2 = n1 := by omega
        clear t1 t2 t3
        rcases bne_or (n3 : Int) (n2 : Int) with ⟨t1, t2, t3⟩ | ⟨t1, t2, t3⟩
        · obtain rfl : n3 = n2 := by omega
          clear t1 t2 t3
          obtain ⟨L, rfl⟩ : ∃ L, n3 = L + 1 := ⟨n3 - 1, by omega⟩
          obtain ⟨b1, o1, rfl, hb1, q1⟩ := hu.2.2 (by omega)
          obtain ⟨b2, o2, rfl, hb2, q2⟩ := hd.2.2 (by omega)
          have e1 := q1 L (by omega)
          have e2 : w.cell? ⟨b2, o2, none⟩ = some (.bool (ds[0]?.getD false)) := q2 0 (by omega)
          have HV : Hid (cvB us ds cs = (!(us[L]?.getD false) && !(ds[0]?.getD false))) := Lib.hid (by
            have hL : us.length - 1 = L := by rw [LU.out]; omega
            unfold cvB
            rw [hL, LU.out, LD.out, LC.out, Bool.eq_iff_iff]
            simp
            omega)
          obtain ⟨x, hx⟩ : ∃ x, us[L]?.getD false = x := ⟨_, rfl⟩
          obtain ⟨y, hy⟩ : ∃ y, ds[0]?.getD false = y := ⟨_, rfl⟩
          rw [hx] at e1 HV
          rw [hy] at e2 HV
          rw [HV.out]
          have hl1 : IntKind.i64.wrap (((L + 1 : Nat) : Int) - 1) = (L : Int) := by rw [IntWalk.i64_in _ ⟨by omega, by omega⟩]; omega
          have hl2 : (L : Int) < ((L + 1 : Nat) : Int) := by omega
          have hl3 : (0 : Int) < ((L + 1 : Nat) : Int) := by omega
          have hb1' : ¬ b1 = w.heap.size := by omega
          have hb2' : ¬ b2 = w.heap.size := by omega
          clear q1 q2 hx hy hu hd hc HV
          cases x <;> cases y
          all_goals (go_enter Try.func27, Try.ntmps27; go_wp2; go_ret; exact ⟨rfl, by (repeat' (first | (with_reducible exact Below.refl _ _) | (with_reducible assumption) | (with_reducible exact bundrew (by assumption)) | (with_reducible refine balloc ?_ _) | (with_reducible refine bset ?_ _ ?_ _) | (with_reducible refine Below.drew ?_) | (with_reducible refine bdrewN ?_ _) | (with_reducible refine bvia (by assumption) ?_) | (with_reducible refine Below.trans ?_ (by assumption)) | omega | (simp; omega) | (simp; done)))⟩)
        · have HF : cvB us ds cs = false := cvB_no fun h => by have := LU.out; have := LC.out; omega
          rw [HF]
          clear HF hu hd hc
          go_enter Try.func27, Try.ntmps27
          go_wp2
          go_ret
          exact ⟨rfl, by (repeat' (first | (with_reducible exact Below.refl _ _) | (with_reducible assumption) | (with_reducible exact bundrew (by assumption)) | (with_reducible refine balloc ?_ _) | (with_reducible refine bset ?_ _ ?_ _) | (with_reducible refine Below.drew ?_) | (with_reducible refine bdrewN ?_ _) | (with_reducible refine bvia (by assumption) ?_) | (with_reducible refine Below.trans ?_ (by assumption)) | omega | (simp; omega) | (simp; done)))⟩
      · have HF : cvB us ds cs = false := cvB_no fun h => by have := LU.out; have := LD.out; omega
        rw [HF]
        clear HF hu hd hc
        go_enter Try.func27, Try.ntmps27
        go_wp2
        go_ret
        exact ⟨rfl, by (repeat' (first | (with_reducible exact Below.refl _ _) | (with_reducible assumption) | (with_reducible exact bundrew (by assumption)) | (with_reducible refine balloc ?_ _) | (with_reducible refine bset ?_ _ ?_ _) | (with_reducible refine Below.drew ?_) | (with_reducible refine bdrewN ?_ _) | (with_reducible refine bvia (by assumption) ?_) | (with_reducible refine Below.trans ?_ (by assumption)) | omega | (simp; omega) | (simp; done)))⟩
end Go.Proofs.Ytmoifakcjmdghaa
