/- The next list of numbers (nextGiven), copy of one list over another one: contracts. -/
import Derived.Test.YtmekbfjeljfbpaaGroupG
import Derived.Test.YtmekbfjeljfbpaaGroupP
import Derived.Laws.CopyOwn
namespace Go.Proofs.Ytmekbfjeljfbpaa
open Go.ChangeShapes Go.WideShapes Go.ChangeAt Go.RowKit

theorem nxt_pre (m : Nat) {s s' : List Nat} (h : GP.nxt m s = some s') : ∀ p : List Nat, GP.nxt m (p ++ s) = some (p ++ s')
  | [] => h
  | a :: p => by
    have := nxt_pre m h p
    simp only [List.cons_append, GP.nxt, this]
theorem nxt_head (m a : Nat) {s : List Nat} (h : GP.nxt m s = none) : GP.nxt m (a :: s) = if a + 1 < m then some ((a + 1) :: s.map fun _ => 0) else none := by
  simp only [GP.nxt, h]
/-- The list in the middle: the first k numbers are as they were, the others 0. -/
def midL (l : List Nat) (k : Nat) : List Nat := l.take k ++ List.replicate (l.length - k) 0
theorem midL_len (l : List Nat) {k : Nat} (hk : k ≤ l.length) : (midL l k).length = l.length := by simp [midL]; omega
theorem midL_all (l : List Nat) : midL l l.length = l := by simp [midL]
theorem midL_at (l : List Nat) {k : Nat} (hk : k < l.length) : (midL l (k + 1))[k]?.getD 0 = l[k]?.getD 0 := by
  unfold midL
  rw [List.getElem?_append_left (by rw [List.length_take]; omega), List.getElem?_take, if_pos (by omega)]
theorem midL_set (l : List Nat) {k x : Nat} (hk : k < l.length) : (midL l (k + 1)).set k x = l.take k ++ x :: List.replicate (l.length - (k + 1)) 0 := by
  unfold midL
  have e : l.take (k + 1) = l.take k ++ [l[k]] := by rw [List.take_add_one, List.getElem?_eq_getElem hk]; rfl
  have hlen : (l.take k).length = k := by rw [List.length_take]; omega
  rw [e, List.append_assoc, List.set_append, if_neg (by omega), hlen, Nat.sub_self]
  rfl
theorem midL_zero (l : List Nat) {k : Nat} (hk : k < l.length) : l.take k ++ 0 :: List.replicate (l.length - (k + 1)) 0 = midL l k := by
  unfold midL
  have : l.length - k = l.length - (k + 1) + 1 := by omega
  rw [this, List.replicate_succ]
theorem nums_set (l : List Nat) (k x : Nat) : (nums l).set k (x : Int) = nums (l.set k x) := by simp [nums, List.map_set]
theorem drop_head (l : List Nat) {k : Nat} (hk : k < l.length) : l.drop k = (l[k]?.getD 0) :: l.drop (k + 1) := by
  rw [List.drop_eq_getElem_cons hk, List.getElem?_eq_getElem hk]; rfl
theorem nxt_found (m : Nat) (l : List Nat) {k : Nat} (hk : k < l.length) (h : GP.nxt m (l.drop (k + 1)) = none) (hx : l[k]?.getD 0 + 1 < m) : GP.nxt m l = some (l.take k ++ (l[k]?.getD 0 + 1) :: List.replicate (l.length - (k + 1)) 0) := by
  have h1 := nxt_head m (l[k]?.getD 0) h
  rw [if_pos hx, ← drop_head l hk, List.map_const', List.length_drop] at h1
  have := nxt_pre m h1 (l.take k)
  rwa [List.take_append_drop] at this
theorem nxt_further (m : Nat) (l : List Nat) {k : Nat} (hk : k < l.length) (h : GP.nxt m (l.drop (k + 1)) = none) (hx : ¬ l[k]?.getD 0 + 1 < m) : GP.nxt m (l.drop k) = none := by
  rw [drop_head l hk, nxt_head m _ h, if_neg hx]

/-- The next list, if there is one; only the list has changed. -/
def NextOut (w : World) (base g n c m : Nat) (l : List Nat) (e : Ending) (w' : World) : Prop :=
  ∃ ys : List Nat, e = .returned (.bool (GP.nxt m l).isSome) ∧ OwnI w' base (.slice (some ⟨g, 0, none⟩) n c) (nums ys) ∧ (∀ l', GP.nxt m l = some l' → ys = l') ∧ ys.length = n ∧ Only g w w'

set_option maxHeartbeats 2000000 in
theorem next_any (base g n c m : Nat) (l : List Nat) (w : World) (h : OwnI w base (.slice (some ⟨g, 0, none⟩) n c) (nums l)) (hl : l.length = n) (hn : n ≤ 1000) (hm : m ≤ 1000) (hx : ∀ k, k < n → l[k]?.getD 0 ≤ 1000) :
    Calls Try.prog 32 #[.slice (some ⟨g, 0, none⟩) n c, .int .i64 m] w (NextOut w base g n c m l) := by
  have hm' : (m : Int) ≤ 1000 := by omega
  have hn' : (n : Int) ≤ 1000 := by omega
  have HL := Lib.hid hl
  have HX := Lib.hid hx
  have HN0 : Hid (GP.nxt m (l.drop n) = none) := Lib.hid (by rw [← hl, List.drop_length]; rfl)
  have h' : OwnI w base (.slice (some ⟨g, 0, none⟩) n c) (nums (midL l n)) := by rw [← hl, midL_all, hl]; exact h
  clear h hl hx hn
  go_enter Try.func32, Try.ntmps32
  go_wp2
  go_loopw [5] (fun i wr => ∃ k : Nat, k ≤ n ∧ i = .int .i64 ((k : Int) - 1) ∧ OwnI wr base (.slice (some ⟨g, 0, none⟩) n c) (nums (midL l k)) ∧ GP.nxt m (l.drop k) = none ∧ Only g w wr) (fun i _ => (intOf i + 1).toNat)
  case atStart => exact ⟨n, Nat.le_refl _, rfl, h', HN0.out, Only.refl _ _⟩
  case round =>
    clear h'
    obtain ⟨k, hk, rfl, ho, hnone, hon⟩ := hrel
    cases k with
    | zero =>
      have hres : GP.nxt m l = none := by simpa using hnone
      go_wp2
      go_ret
      exact ⟨_, by rw [hres]; rfl, ho, (fun l' h => by rw [hres] at h; cases h), (by rw [midL_len l (Nat.zero_le _)]; exact HL.out), hon⟩
    | succ k =>
      have hkl : k < l.length := by rw [HL.out]; omega
      have hsz := midL_len l (show k + 1 ≤ l.length by omega)
      obtain ⟨a1, a2, a3, a4⟩ := ho.at_ (i := k) (by rw [nums_length, hsz]; exact hkl)
      rw [nums_get, midL_at l hkl] at a1
      have hb := HX.out k (by omega)
      have hS := midL_set l (k := k) (x := l[k]?.getD 0 + 1) hkl
      have hZ := midL_zero l hkl
      have hF := nxt_found m l hkl hnone
      have hG := nxt_further m l hkl hnone
      obtain ⟨x, hx⟩ : ∃ x, l[k]?.getD 0 = x := ⟨_, rfl⟩
      rw [hx] at a1 hb hS hF hG
      have ek : IntKind.i64.wrap (((k + 1 : Nat) : Int) - 1) = (k : Int) := by rw [IntWalk.i64_in _ ⟨by omega, by omega⟩]; omega
      have ek2 : ((k + 1 : Nat) : Int) - 1 = (k : Int) := by omega
      have k0 : 0 ≤ (k : Int) := by omega
      have kn : (k : Int) < (n : Int) := by omega
      have hob : Only g w (wr.setCell ⟨g, k, none⟩ (.int .i64 ((x : Int) + 1))) := hon.set _ (.inl rfl) _
      have ho2 : OwnI (wr.setCell ⟨g, k, none⟩ (.int .i64 ((x : Int) + 1))) base (.slice (some ⟨g, 0, none⟩) n c) (nums (l.take k ++ (x + 1) :: List.replicate (l.length - (k + 1)) 0)) := by
        have := ho.put (i := k) ((x : Int) + 1) (by rw [nums_length, hsz]; exact hkl)
        rw [show ((x : Int) + 1) = ((x + 1 : Nat) : Int) by omega, nums_set, hS] at this
        exact this
      have HO := Lib.hid ho
      have HHO2 := Lib.hid ho2
      have HOB := Lib.hid hob
      have HZ := Lib.hid hZ
      have HSZ := Lib.hid hsz
      have HKL := Lib.hid hkl
      clear ho ho2 hob hx hS hZ hsz hkl
      rw [ek2]
      by_cases hlt : x + 1 < m
      · have hlt' : (x : Int) + 1 < (m : Int) := by omega
        have hres := hF hlt
        have HRes := Lib.hid hres
        clear hF hG hres hnone
        go_wp2
        go_ret
        exact ⟨_, by rw [HRes.out]; rfl, HHO2.out, (fun l' h => by rw [HRes.out] at h; exact Option.some.inj h), (by have := HKL.out; have := HL.out; simp; omega), HOB.out⟩
      · have hlt' : (m : Int) ≤ (x : Int) + 1 := by omega
        have HNone := Lib.hid (hG hlt)
        clear hF hG hnone
        go_wp2
        refine ⟨⟨k, by omega, by first | rfl | (congr 1; omega), ?_, HNone.out, ?_⟩, by first | (simp [intOf]; done) | (simp [intOf]; omega)⟩
        · have h3 := HHO2.out.put (i := k) 0 (by rw [nums_length]; have := HKL.out; simp; omega)
          rw [show (0 : Int) = ((0 : Nat) : Int) from rfl, nums_set] at h3
          have e : (l.take k ++ (x + 1) :: List.replicate (l.length - (k + 1)) 0).set k 0 = midL l k := by
            have hlen : (l.take k).length = k := by rw [List.length_take]; have := HKL.out; omega
            rw [← HZ.out, List.set_append, if_neg (by omega), hlen, Nat.sub_self]
            rfl
          rw [e] at h3
          exact h3
        · exact HOB.out.set _ (.inl rfl) _

/-- 'copy(v, ys)' where v is the call's own, as long as ys. -/
theorem copy_int {ops : Array Oper} {rest : List Oper} {o : Oper} {a : Act} {Q : Exit → Act → World → Prop} {w : World} (hgd : o.guard = none) (d s : Operand)
    (ho : o.op = .call { callee := .builtin .copy, args := #[d, s], argTypes := #[22, 22] }) (base : Nat) (v : Value) (xs : List Int) (A : Option Addr) (m c : Nat) (ys : List Int) (hd : a.eval d = v) (hs : a.eval s = .slice A m c)
    (hown : OwnI w base v xs) (hI : Ints w A m ys) (hm : xs.length = m)
    (h : ∀ w', OwnI w' base v ys → w.grownBy w' v.ownBlock → wpList Try.prog ops Q rest (a.put o.dst (.int .i64 (m : Int))) w') : wpList Try.prog ops Q (o :: rest) a w := by
  obtain ⟨i0, hi, hz0, hz1, hz2⟩ := info_parts infoInt
  have hsz : (Try.prog.info? 3).map (·.size) = some 1 := by rw [hi]; simp [hz1]
  obtain ⟨h1, h2, h3⟩ := hI
  rcases Nat.eq_zero_or_pos m with h0 | hpos
  · subst h0
    have hx : xs = [] := List.eq_nil_of_length_eq_zero hm
    have hy : ys = [] := List.eq_nil_of_length_eq_zero h1
    subst hx hy
    obtain ⟨Av, cv, rfl⟩ := hown.shape
    refine wpList_copy_nothing hgd d s 22 22 ho 3 Try.underlying22 hsz Av A _ _ _ _ hd hs (by simp) ?_
    exact h w hown (World.grownBy.refl w _)
  · obtain ⟨b, off, rfl, hb, hc⟩ := h3 hpos
    rcases hown.form with ⟨_, k2⟩ | ⟨g, cap, cur, rfl, k2, k3, k4, k5, k6, k7⟩
    · subst k2; simp at hm; omega
    · refine wpList_copy_own hgd d s 22 22 ho 3 Try.underlying22 hsz g 0 xs.length cap ⟨b, off, none⟩ m c hd hs cur _ k3 (ys.map (Value.int .i64)) (by simp [h1, hm]) (fun j u hu => ?_) (by simp [h1]; omega) (fun u hu => ?_) ?_
      · rw [List.getElem?_map] at hu
        have hj : j < m := by
          rcases Nat.lt_or_ge j ys.length with hl | hl
          · omega
          · rw [List.getElem?_eq_none hl] at hu; cases hu
        have e1 : (⟨b, off, none⟩ : Addr).add j = ⟨b, off + j, none⟩ := by
          unfold Addr.add
          by_cases h : j = 0
          · subst h; rfl
          · simp [h]
        rw [e1, hc j hj]
        rw [List.getElem?_eq_getElem (by omega)] at hu ⊢
        simpa using hu
      · obtain ⟨y, _, rfl⟩ := List.mem_map.1 hu
        rfl
      · have e : (ys.map (Value.int .i64)).length = m := by simp [h1]
        rw [e]
        refine h _ ⟨by simp, .inr ⟨g, cap, _, by rw [hm, h1], k2, setRow_heap w g _ _ _ _ k3, by omega, k5, ?_, ?_⟩⟩ ?_
        · simp [h1]; omega
        · rw [Nat.mul_one]
          simp [h1]
        · refine ⟨rfl, rfl, rfl, by simp [World.setRow], fun k hk hne => setRow_other w g k _ (fun e => hne (by rw [e]; rfl))⟩
end Go.Proofs.Ytmekbfjeljfbpaa
