/- Marks laid into a list of the call's own, and looked for again: markIntS, heldIntS of the laws: contracts. -/
import Derived.Test.YtmekbfjeljfbpaaOwn
namespace Go.Proofs.Ytmekbfjeljfbpaa
open Go.ChangeShapes Go.WideShapes Go.ChangeAt Go.RowKit

/-- The marks. -/
def marksL (k : Int) (n : Nat) : List Int := (List.range n).map fun j : Nat => k + (j : Int)
theorem marksL_length (k : Int) (n : Nat) : (marksL k n).length = n := by simp [marksL]
theorem marksL_get (k : Int) (n j : Nat) (h : j < n) : (marksL k n)[j]?.getD 0 = k + j := by simp [marksL, h]
/-- The first i cells are marks. -/
def Marked (cs : Array Value) (cap i : Nat) (k : Int) : Prop := cs.size = cap ∧ ∀ j, j < i → cs[j]? = some (.int .i64 (k + (j : Int)))
theorem Marked.next {cs : Array Value} {cap i : Nat} {k : Int} (h : Marked cs cap i k) (hi : i < cap) : Marked (cs.setIfInBounds i (.int .i64 (k + i))) cap (i + 1) k := by
  refine ⟨by simpa using h.1, fun j hj => ?_⟩
  have hs := h.1
  by_cases e : j = i
  · subst e
    rw [Array.getElem?_setIfInBounds_self_of_lt (by omega)]
  · rw [Array.getElem?_setIfInBounds_ne (by omega)]; exact h.2 j (by omega)
theorem Marked.list {cs : Array Value} {cap n : Nat} {k : Int} (h : Marked cs cap n k) (_hn : n ≤ cap) : cs.toList.take n = (marksL k n).map (Value.int .i64) := by
  apply List.ext_getElem?
  intro j
  rw [List.getElem?_take]
  by_cases hj : j < n
  · rw [if_pos hj, Array.getElem?_toList, h.2 j hj]
    simp [marksL, hj]
  · rw [if_neg hj]
    simp [marksL, hj]

theorem grown_drew {w w' : World} {g : Option Nat} (h : w.grownBy w' g) : w.grownBy w'.drew g := ⟨h.os, h.tape, h.output, h.size, h.block⟩
theorem grown_set {w w' : World} {g : Nat} (h : w.grownBy w' (some g)) (i : Nat) (u : Value) : w.grownBy (w'.setCell ⟨g, i, none⟩ u) (some g) :=
  Only.set (r := g) h ⟨g, i, none⟩ (.inl rfl) u

/-- The list bears marks now; nothing else has changed. -/
def MarkPost (base : Nat) (v : Value) (n : Nat) (k : Int) (w : World) (e : Ending) (w' : World) : Prop :=
  e = .returned (.int .i64 (k + (n : Int))) ∧ OwnI w' base v (marksL k n) ∧ w.grownBy w' v.ownBlock

set_option maxHeartbeats 1000000 in
theorem mark_any (w : World) (base : Nat) (A : Option Addr) (n c : Nat) (xs : List Int) (k : Int) (h : OwnI w base (.slice A n c) xs) (hn : n ≤ 1000000000) (h0 : 0 ≤ k) (h1 : k ≤ 1000000000) :
    Calls Try.prog 13 #[.slice A n c, .int .i64 k] w (MarkPost base (.slice A n c) n k w) := by
  have hx : n = xs.length := h.ints.1
  have HX := Lib.hid hx
  clear hx
  rcases h.form with ⟨e1, e2⟩ | ⟨g, cap, cur, e1, hg, hh, hc1, hc2, hc3, hc4⟩
  · injection e1 with a1 a2 a3
    subst a1 a2 a3
    clear h e2 HX
    go_enter Try.func13, Try.ntmps13
    go_wp2
    go_loop [1, 5] (fun q i => q = .int .i64 k ∧ i = .int .i64 0) (fun _ _ => 0)
    case atStart => exact ⟨rfl, rfl⟩
    case round =>
      obtain ⟨rfl, rfl⟩ := hrel
      go_wp2
      go_ret
      exact ⟨by simp, by simpa [marksL] using OwnI.nil w base, World.grownBy.refl w _⟩
  · injection e1 with a1 a2 a3
    subst a1 a3
    clear a2 h hc4
    rw [← HX.out] at hc1
    clear HX
    have hn' : (n : Int) ≤ 1000000000 := by omega
    have hM : Marked cur c 0 k := ⟨hc3, fun j hj => by omega⟩
    have HH := Lib.hid hh
    clear hh hc3
    go_enter Try.func13, Try.ntmps13
    go_wp2
    go_loopw [1, 5] (fun q i wr => ∃ (j : Nat) (cs : Array Value), j ≤ n ∧ i = .int .i64 j ∧ q = .int .i64 (k + (j : Int)) ∧ Blk wr g 3 cs ∧ Marked cs c j k ∧ w.grownBy wr (some g)) (fun _ i _ => n - (intOf i).toNat)
    case atStart => exact ⟨0, cur, Nat.zero_le _, rfl, by simp, HH.out, hM, World.grownBy.refl w _⟩
    case round =>
      obtain ⟨j, cs, hj, rfl, rfl, hb, hF, hgr⟩ := hrel
      by_cases hlt : j < n
      · have hlt' : (j : Int) < (n : Int) := by omega
        have hs := hF.1
        have hgl := hb.lt
        obtain ⟨u2, e2⟩ : ∃ u, wr.cell? ⟨g, j, none⟩ = some u := ⟨_, by rw [hb.cell]; exact Array.getElem?_eq_getElem (by omega)⟩
        have e4 := hb.frozen j
        have HB := Lib.hid hb
        have HF := Lib.hid hF
        clear hs hb hF hM
        go_wp2
        try go_region
        all_goals try go_wp2
        all_goals refine ⟨⟨j + 1, _, by omega, by go_num, ?_, ?_, HF.out.next (by omega), ?_⟩, by simp [intOf]; omega⟩
        all_goals first | go_num | exact (HB.out.set_ j _) | exact (HB.out.set_ j _).drew | exact grown_drew (grown_set hgr _ _) | exact grown_set hgr _ _
      · obtain rfl : j = n := by omega
        go_wp2
        go_ret
        refine ⟨rfl, ?_, hgr⟩
        refine ⟨by simp [marksL], .inr ⟨g, c, cs, by rw [marksL_length], hg, hb, by rw [marksL_length]; omega, hc2, by simpa using hF.1, ?_⟩⟩
        rw [Nat.mul_one, marksL_length]
        exact hF.list hc1

/-- The marks are found again. -/
theorem held_any (w : World) (A : Option Addr) (n c : Nat) (k : Int) (h : Ints w A n (marksL k n)) (hn : n ≤ 1000000000) (h0 : 0 ≤ k) (h1 : k ≤ 1000000000) :
    Calls Try.prog 14 #[.slice A n c, .int .i64 k] w (Qt w (.int .i64 (k + (n : Int)))) := by
  obtain ⟨hl, hm, hc⟩ := h
  have HC := Lib.hid hc
  clear hl hc
  have hn' : (n : Int) ≤ 1000000000 := by omega
  go_enter Try.func14, Try.ntmps14
  go_wp2
  go_loopw [1, 5] (fun q i wr => ∃ j : Nat, j ≤ n ∧ i = .int .i64 j ∧ q = .int .i64 (k + (j : Int)) ∧ ∃ m, wr = w.drewN m) (fun _ i _ => n - (intOf i).toNat)
  case atStart => exact ⟨0, Nat.zero_le _, rfl, by simp, 0, rfl⟩
  case round =>
    obtain ⟨j, hj, rfl, rfl, m, rfl⟩ := hrel
    by_cases hlt : j < n
    · obtain ⟨b, off, rfl, hb, hcc⟩ := HC.out (by omega)
      have e0 := hcc j hlt
      rw [marksL_get _ _ _ hlt] at e0
      have hlt' : (j : Int) < (n : Int) := by omega
      clear hcc
      go_wp2
      try go_quiet (fail)
      all_goals try go_wp2
      all_goals exact ⟨⟨j + 1, by omega, by go_num, by go_num, _, rfl⟩, by simp [intOf]; omega⟩
    · obtain rfl : j = n := by omega
      go_wp2
      go_ret
      exact qt_drew _ _ _
end Go.Proofs.Ytmekbfjeljfbpaa
