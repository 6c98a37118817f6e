/- The reader of a drawn code (l20Open, pick, odd): contracts. A reader at block r has made at most N picks. -/
import Derived.Test.YtmoifakcjmdghaaBase
import Derived.Laws.AppendOwn
import Derived.Laws.BitsAllLaws
import Derived.Laws.BitsLemmas
namespace Go.Proofs.Ytmoifakcjmdghaa
open Go.ChangeShapes Go.WideShapes Go.ChangeAt Go.RowKit

/-- A slice of bytes that reads as f. -/
def Bytes (w : World) (A : Option Addr) (n c : Nat) (f : Nat → Int) : Prop :=
  n ≤ c ∧ n ≤ 9223372036854775807 ∧ (0 < n → ∃ b off : Nat, A = some ⟨b, off, none⟩ ∧ b < w.heap.size ∧ ∀ j, j < n → w.cell? ⟨b, off + j, none⟩ = some (.int .u8 (f j))) ∧ ∀ j : Nat, 0 ≤ f j ∧ f j ≤ 255

theorem Bytes.keep {w w' : World} {A : Option Addr} {n c : Nat} {f : Nat → Int} (h : Bytes w A n c f) (hs : w.heap.size ≤ w'.heap.size) (hk : ∀ p : Addr, p.block < w.heap.size → w'.cell? p = w.cell? p) : Bytes w' A n c f :=
  ⟨h.1, h.2.1, fun hn => by
    obtain ⟨b, off, hA, hb, hc⟩ := h.2.2.1 hn
    exact ⟨b, off, hA, by omega, fun j hj => (hk ⟨b, off + j, none⟩ hb).trans (hc j hj)⟩, h.2.2.2⟩

theorem bytes_form {H : Type} {enc : TypeId × Value → H} {P : Program} {W : World} {r : Reach} {base : Nat} {t e : TypeId} {v : Value} {d : DataW H} {p : List MemPlace} (ht : P.underlying t = some (.slice e)) (he : P.underlying e = some (.int .u8)) (hc : P.cellsOf e = 1)
    (hv : Value.okWide P W r base t v) (h : DataW.Trod enc P W 0 (fun _ => true) true t v d p) : ∃ (A : Option Addr) (n c : Nat) (f : Nat → Int), v = .slice A n c ∧ Bytes W A n c f := by
  obtain ⟨a0, len0, cap0, rfl⟩ := okWide_slice ht hv
  obtain ⟨fuel, hf⟩ := h
  rcases open_ints ht he hc hf with ⟨hcs, _⟩ | ⟨x, l, c, zs, hcs, _, hl, hm, hz, _, hcell, hwz⟩
  · simp [Value.cells] at hcs
    obtain ⟨rfl, rfl, rfl⟩ := hcs
    exact ⟨none, 0, 0, fun _ => 0, rfl, Nat.le_refl _, by omega, fun h => absurd h (by omega), fun _ => ⟨Int.le_refl _, by show (0 : Int) ≤ 255; omega⟩⟩
  · simp [Value.cells] at hcs
    obtain ⟨rfl, rfl, rfl⟩ := hcs
    have hz' : zs.length = cap0 := by simpa using hz
    unfold maxLen at hm
    refine ⟨some x, len0, cap0, fun j => zs.getD j 0, rfl, hl, by omega, fun hn => ?_, fun j => ?_⟩
    · obtain ⟨b, off, spot⟩ := x
      have hc0 := hcell 0 (by omega)
      have hspot : spot = none := by simpa [Addr.add] using World.cell?_spot hc0
      subst hspot
      have hlt := World.block_lt_of_cell? _ _ hc0
      refine ⟨b, off, rfl, by simpa [Addr.add] using hlt, fun j hj => ?_⟩
      have hcj := hcell j (by omega)
      by_cases hj0 : j = 0
      · subst hj0; simpa [Addr.add] using hcj
      · simpa [Addr.add, hj0] using hcj
    · by_cases hj : j < zs.length
      · have hm := hwz (zs.getD j 0) (by rw [List.getD_eq_getElem?_getD, List.getElem?_eq_getElem hj]; exact List.getElem_mem hj)
        simpa [Lit.wf, IntKind.min, IntKind.max, IntKind.signed, IntKind.bits] using hm
      · simp only [List.getD_eq_getElem?_getD, List.getElem?_eq_none (Nat.le_of_not_lt hj)]
        exact ⟨by simp, by simp⟩

/-- The reader at block r: its slice lies below it; it has made at most N picks. -/
def Rd (w : World) (r N : Nat) : Prop :=
  ∃ (A : Option Addr) (n c p : Nat) (f : Nat → Int), p ≤ N ∧ r < w.heap.size ∧ w.cell? ⟨r, 0, none⟩ = some (.slice A n c) ∧ w.cell? ⟨r, 1, none⟩ = some (.int .i64 p) ∧ w.frozen? ⟨r, 1, none⟩ = false ∧
    n ≤ 9223372036854775807 ∧ (0 < n → ∃ b off : Nat, A = some ⟨b, off, none⟩ ∧ b < r ∧ ∀ j, j < n → w.cell? ⟨b, off + j, none⟩ = some (.int .u8 (f j))) ∧ ∀ j : Nat, 0 ≤ f j ∧ f j ≤ 255

theorem Rd.mono {w : World} {r N M : Nat} (h : Rd w r N) (hm : N ≤ M) : Rd w r M := by
  obtain ⟨A, n, c, p, f, h1, h2⟩ := h
  exact ⟨A, n, c, p, f, by omega, h2⟩

/-- The reader stays while nothing at or below its block is written. -/
theorem Rd.keep {w w' : World} {r N : Nat} (h : Rd w r N) (hs : w.heap.size ≤ w'.heap.size) (hk : ∀ p : Addr, p.block ≤ r → w'.cell? p = w.cell? p) (hf : w'.frozen? ⟨r, 1, none⟩ = w.frozen? ⟨r, 1, none⟩) : Rd w' r N := by
  obtain ⟨A, n, c, p, f, h1, h2, h3, h4, h5, h6, h7, h8⟩ := h
  refine ⟨A, n, c, p, f, h1, by omega, (hk _ (Nat.le_refl _)).trans h3, (hk _ (Nat.le_refl _)).trans h4, hf.trans h5, h6, fun hn => ?_, h8⟩
  obtain ⟨b, off, hA, hb, hc⟩ := h7 hn
  exact ⟨b, off, hA, hb, fun j hj => (hk ⟨b, off + j, none⟩ (Nat.le_of_lt hb)).trans (hc j hj)⟩
theorem Rd.below {w w' : World} {r N : Nat} (h : Rd w r N) (hb : Below w.heap.size w w') : Rd w' r N := by
  have hr : r < w.heap.size := by obtain ⟨A, n, c, p, f, h1, h2, _⟩ := h; exact h2
  exact h.keep hb.size (fun p hp => hb.cell (by omega)) (hb.frozen (p := ⟨r, 1, none⟩) hr)
theorem Rd.lt {w : World} {r N : Nat} (h : Rd w r N) : r < w.heap.size := by obtain ⟨A, n, c, p, f, h1, h2, _⟩ := h; exact h2

/-- What a call with the reader leaves: only block r has changed. -/
def Only (r : Nat) (w w' : World) : Prop := w.grownBy w' (some r)
theorem Only.refl (r : Nat) (w : World) : Only r w w := World.grownBy.refl w _
theorem Only.trans {r : Nat} {a b c : World} (h : Only r a b) (k : Only r b c) : Only r a c :=
  ⟨k.os.trans h.os, k.tape.trans h.tape, k.output.trans h.output, Nat.le_trans h.size k.size, fun i hi hn => (k.block i (Nat.lt_of_lt_of_le hi h.size) hn).trans (h.block i hi hn)⟩
theorem Only.of_below {r : Nat} {a b : World} (h : Below a.heap.size a b) : Only r a b := ⟨h.os, h.tape, h.output, h.size, fun i hi _ => h.block i hi⟩
theorem Only.alloc {r : Nat} {a b : World} (h : Only r a b) (o : Obj) : Only r a (b.alloc o) :=
  h.trans (Only.of_below ((Below.refl _ _).alloc (Nat.le_refl _) _))
theorem Only.drew {r : Nat} {a b : World} (h : Only r a b) : Only r a b.drew := ⟨h.os, h.tape, h.output, h.size, h.block⟩
theorem Only.drewN {r : Nat} {a b : World} (h : Only r a b) (n : Nat) : Only r a (b.drewN n) := ⟨h.os, h.tape, h.output, h.size, h.block⟩
theorem Only.set {r : Nat} {a b : World} (h : Only r a b) (p : Addr) (hp : p.block = r ∨ a.heap.size ≤ p.block) (u : Value) : Only r a (b.setCell p u) :=
  ⟨h.os, h.tape, h.output, by simpa [World.setCell] using h.size, fun i hi hne => (Below.heap_setCell b p u i (by
    rintro rfl
    rcases hp with hp | hp
    · exact hne (by rw [hp])
    · omega)).trans (h.block i hi hne)⟩
theorem Only.below {r B : Nat} {a b : World} (h : Only r a b) (h1 : B ≤ r) (h2 : B ≤ a.heap.size) : Below B a b :=
  ⟨h.os, h.tape, h.output, h.size, fun k hk => h.block k (by omega) (fun e => by injection e; omega)⟩
theorem Only.cell {r : Nat} {a b : World} (h : Only r a b) : ∀ g o : Nat, g < a.heap.size → ¬ g = r → b.cell? ⟨g, o, none⟩ = a.cell? ⟨g, o, none⟩ :=
  fun g o hg hn => World.cell?_of_block (h.block g hg (fun e => hn (by injection e)))
theorem Only.frozen {r : Nat} {a b : World} (h : Only r a b) : ∀ g o : Nat, g < a.heap.size → ¬ g = r → b.frozen? ⟨g, o, none⟩ = a.frozen? ⟨g, o, none⟩ :=
  fun g o hg hn => World.frozen?_of_block (h.block g hg (fun e => hn (by injection e)))

theorem Only.via {r : Nat} {w W w' : World} (o : Only r W w') (h : Only r w W) : Only r w w' := h.trans o
/-- What a call with the reader leaves of another block, in the forms that the walk asks. -/
theorem only_facts {r : Nat} {W w' : World} (o : Only r W w') (g : Nat) (hg : g < W.heap.size) (hn : ¬ g = r) :
    (∀ off, w'.cell? ⟨g, off, none⟩ = W.cell? ⟨g, off, none⟩) ∧ (∀ off, w'.frozen? ⟨g, off, none⟩ = W.frozen? ⟨g, off, none⟩) ∧ g < w'.heap.size ∧ (∀ m : Nat, g < w'.heap.size + m) ∧ ¬ g = w'.heap.size ∧ ¬ w'.heap.size = g := by
  have h1 : g < w'.heap.size := Nat.lt_of_lt_of_le hg o.size
  exact ⟨fun off => o.cell g off hg hn, fun off => o.frozen g off hg hn, h1, fun m => Nat.lt_add_right m h1, by omega, by omega⟩
theorem only_size {r : Nat} {W w' : World} (o : Only r W w') : W.heap.size ≤ w'.heap.size := o.size
theorem Rd.above {w w' : World} {r N : Nat} (h : Rd w r N) (hb : Below (r + 1) w w') : Rd w' r N := by
  exact h.keep hb.size (fun p hp => hb.cell (by omega)) (hb.frozen (p := ⟨r, 1, none⟩) (by simp))

theorem bonly {r : Nat} {w W w' : World} (o : Only r W w') (h : Below w.heap.size w W) (hr : w.heap.size ≤ r) : Below w.heap.size w w' := h.trans (o.below hr h.size)

/-- A pick: a number below n (0 where there is none), the reader one pick further, nothing else changed. -/
def PickPost (w : World) (r N : Nat) (n : Int) (e : Ending) (w' : World) : Prop :=
  ∃ x : Int, e = .returned (.int .i64 x) ∧ 0 ≤ x ∧ (x < n ∨ x = 0) ∧ Only r w w' ∧ Rd w' r (N + 1)

theorem open_any (A : Option Addr) (n c : Nat) (f : Nat → Int) (w : World) (h : Bytes w A n c f) :
    Calls Try.prog 31 #[.slice A n c] w fun e w' => e = .returned (.pointer (some ⟨w.heap.size, 0, none⟩)) ∧ Below w.heap.size w w' ∧ Rd w' w.heap.size 0 := by
  obtain ⟨h1, h2, h3, h4⟩ := h
  by_cases hn : 2000 < n
  · obtain ⟨b, off, rfl, hb, hc⟩ := h3 (by omega)
    have HC := Lib.hid hc
    have H4 := Lib.hid h4
    clear hc h4 h3
    go_enter Try.func31, Try.ntmps31
    go_wp2
    go_ret
    refine ⟨rfl, by (repeat' (first | (with_reducible exact Below.refl _ _) | (with_reducible assumption) | (with_reducible exact bundrew (by assumption)) | (with_reducible refine balloc ?_ _) | (with_reducible refine bset ?_ _ ?_ _) | (with_reducible refine Below.drew ?_) | (with_reducible refine bdrewN ?_ _) | (with_reducible refine bvia (by assumption) ?_) | (with_reducible refine Below.trans ?_ (by assumption)) | omega | (simp; omega) | (simp; done))), ⟨_, 2000, c, 0, f, Nat.le_refl _, by simp, by go_simp, by go_simp, by go_simp, by omega, fun _ => ⟨b, off, rfl, hb, fun j hj => ?_⟩, H4.out⟩⟩
    rw [World.cell?_alloc_lt _ _ _ (by simpa using hb)]
    exact HC.out j (by omega)
  · have H4 := Lib.hid h4
    have H3 := Lib.hid h3
    clear h3 h4
    have hn' : (n : Int) ≤ 2000 := by omega
    go_enter Try.func31, Try.ntmps31
    go_wp2
    go_ret
    refine ⟨rfl, by (repeat' (first | (with_reducible exact Below.refl _ _) | (with_reducible assumption) | (with_reducible exact bundrew (by assumption)) | (with_reducible refine balloc ?_ _) | (with_reducible refine bset ?_ _ ?_ _) | (with_reducible refine Below.drew ?_) | (with_reducible refine bdrewN ?_ _) | (with_reducible refine bvia (by assumption) ?_) | (with_reducible refine Below.trans ?_ (by assumption)) | omega | (simp; omega) | (simp; done))), ⟨A, n, c, 0, f, Nat.le_refl _, by simp, by go_simp, by go_simp, by go_simp, by omega, fun hp => ?_, H4.out⟩⟩
    obtain ⟨b, off, rfl, hb, hc⟩ := H3.out hp
    refine ⟨b, off, rfl, hb, fun j hj => ?_⟩
    rw [World.cell?_alloc_lt _ _ _ (by simpa using hb)]
    exact hc j hj

theorem wr (x B : Int) (h0 : 0 ≤ x) (h1 : x ≤ B) (hB : B ≤ 1000000000000) : ∃ a : Int, IntKind.i64.wrap x = a ∧ 0 ≤ a ∧ a ≤ B :=
  ⟨x, IntWalk.i64_in _ ⟨by omega, by omega⟩, h0, h1⟩

theorem xor_pos (x : Int) (h0 : 0 ≤ x) (h1 : x ≤ 10000000) : ∃ y : Int, bits .xor .i64 x (x / 64) = y ∧ 0 ≤ y := by
  refine ⟨_, rfl, ?_⟩
  obtain ⟨a, rfl⟩ := Int.eq_ofNat_of_zero_le h0
  have hb : ((a : Int) / 64) = ((a / 64 : Nat) : Int) := by omega
  rw [hb]
  have hx : a ^^^ (a / 64) < 2 ^ 63 := Nat.xor_lt_two_pow (by omega) (by omega)
  have o1 : (BitVec.ofInt 64 (a : Int)).toNat = a := by rw [BitVec.ofInt_natCast, BitVec.toNat_ofNat]; exact Nat.mod_eq_of_lt (by omega)
  have o2 : (BitVec.ofInt 64 ((a / 64 : Nat) : Int)).toNat = a / 64 := by rw [BitVec.ofInt_natCast, BitVec.toNat_ofNat]; exact Nat.mod_eq_of_lt (by omega)
  show 0 ≤ IntKind.i64.wrap ((BitVec.ofInt 64 (a : Int) ^^^ BitVec.ofInt 64 ((a / 64 : Nat) : Int)).toNat : Int)
  rw [BitVec.toNat_xor, o1, o2, IntKind.wrap_i64]
  omega
theorem rd_drewN {w : World} {r N : Nat} (h : Rd w r N) (k : Nat) : Rd (w.drewN k) r N := h
theorem rd_next {w : World} {r N : Nat} {A : Option Addr} {n c p : Nat} {f : Nat → Int}
    (h : Hid (p ≤ N ∧ r < w.heap.size ∧ w.cell? ⟨r, 0, none⟩ = some (.slice A n c) ∧ w.cell? ⟨r, 1, none⟩ = some (.int .i64 p) ∧ w.frozen? ⟨r, 1, none⟩ = false ∧
    n ≤ 9223372036854775807 ∧ (0 < n → ∃ b off : Nat, A = some ⟨b, off, none⟩ ∧ b < r ∧ ∀ j, j < n → w.cell? ⟨b, off + j, none⟩ = some (.int .u8 (f j))) ∧ ∀ j : Nat, 0 ≤ f j ∧ f j ≤ 255)) :
    Rd (w.setCell ⟨r, 1, none⟩ (.int .i64 ((p : Int) + 1))) r (N + 1) := by
  obtain ⟨h1, h2, h3, h4, h5, h6, h7, h8⟩ := h.out
  refine ⟨A, n, c, p + 1, f, by omega, by simpa [World.setCell] using h2, ?_, ?_, ?_, h6, fun hn => ?_, h8⟩
  · rw [World.cell?_setCell_other _ _ _ _ (by simp)]; exact h3
  · rw [World.cell?_setCell_same _ _ _ h4]; simp
  · simpa using h5
  · obtain ⟨b, off, hA, hb, hc⟩ := h7 hn
    refine ⟨b, off, hA, hb, fun j hj => ?_⟩
    rw [World.cell?_setCell_other _ _ _ _ (by intro h; injection h; omega)]
    exact hc j hj

theorem pick_any (r N : Nat) (n : Int) (w : World) (h : Rd w r N) (hN : N ≤ 100000) (h1 : -1000000 ≤ n) (h2 : n ≤ 1000000) :
    Calls Try.prog 34 #[.pointer (some ⟨r, 0, none⟩), .int .i64 n] w (PickPost w r N n) := by
  obtain ⟨A, m, c, p, f, k1, k2, k3, k4, k5, k6, k7, k8⟩ := h
  have hmm : (m : Int) ≤ 9223372036854775807 := by omega
  have hpp : (p : Int) ≤ 100000 := by omega
  have K7 := Lib.hid k7
  have K8 := Lib.hid k8
  clear k7 k8
  by_cases hn : n < 1
  · go_enter Try.func34, Try.ntmps34
    go_wp2
    go_ret
    exact ⟨0, rfl, by omega, .inr rfl, (Only.refl _ _).set _ (.inl rfl) _, rd_next (Lib.hid ⟨k1, k2, k3, k4, k5, k6, K7.out, K8.out⟩)⟩
  · by_cases hm : m = 0
    · have hm0 : ((m : Int) == 0) = true := by simp [hm]
      have HM := Lib.hid hm
      clear hm
      go_enter Try.func34, Try.ntmps34
      go_wp2
      go_ret
      exact ⟨0, rfl, by omega, .inr rfl, (Only.refl _ _).set _ (.inl rfl) _, rd_next (Lib.hid ⟨k1, k2, k3, k4, k5, k6, K7.out, K8.out⟩)⟩
    · have hm0 : ((m : Int) == 0) = false := by simp [hm]
      obtain ⟨b, off, rfl, hb, hc⟩ := K7.out (by omega)
      have hne : ¬ b = r := by omega
      have hne' : ¬ r = b := by omega
      by_cases hpm : p < m
      · have hcp := hc p hpm
        obtain ⟨u0, u1⟩ := K8.out p
        have hpm' : (p : Int) < (m : Int) := by omega
        have HC := Lib.hid hc
        clear hc
        go_enter Try.func34, Try.ntmps34
        go_wp2
        go_ret
        exact ⟨_, rfl, Int.emod_nonneg _ (by omega), .inl (Int.emod_lt_of_pos _ (by omega)), (Only.refl _ _).set _ (.inl rfl) _, rd_next (Lib.hid ⟨k1, k2, k3, k4, k5, k6, K7.out, K8.out⟩)⟩
      · have hm1 : 1 ≤ (m : Int) := by omega
        obtain ⟨q1, e1, l1⟩ : ∃ q : Nat, (p : Int).tmod (m : Int) = (q : Int) ∧ q < m := ⟨p % m, by rw [Int.tmod_eq_emod_of_nonneg (by omega)]; exact (Int.natCast_emod _ _).symm, Nat.mod_lt _ (by omega)⟩
        obtain ⟨a1, e2, l2, l3⟩ := wr ((p : Int) * 7) 700000 (by omega) (by omega) (by omega)
        obtain ⟨a2, e3, l4, l5⟩ := wr (a1 + 3) 700003 (by omega) (by omega) (by omega)
        obtain ⟨q2, e4, l6⟩ : ∃ q : Nat, a2.tmod (m : Int) = (q : Int) ∧ q < m := by
          obtain ⟨z, rfl⟩ := Int.eq_ofNat_of_zero_le l4
          exact ⟨z % m, by rw [Int.tmod_eq_emod_of_nonneg (by omega)]; exact (Int.natCast_emod _ _).symm, Nat.mod_lt _ (by omega)⟩
        obtain ⟨b1, e5, l7, l8⟩ := wr (f q1) 255 (K8.out q1).1 (K8.out q1).2 (by omega)
        obtain ⟨b2, e6, l9, l10⟩ := wr (b1 * 131) 33405 (by omega) (by omega) (by omega)
        obtain ⟨b3, e7, l11, l12⟩ := wr (f q2) 255 (K8.out q2).1 (K8.out q2).2 (by omega)
        obtain ⟨b4, e8, l13, l14⟩ := wr (b3 * 1117) 284835 (by omega) (by omega) (by omega)
        obtain ⟨b5, e9, l15, l16⟩ := wr (b2 + b4) 1000000 (by omega) (by omega) (by omega)
        obtain ⟨b6, e10, l17, l18⟩ := wr ((p : Int) * 29) 2900000 (by omega) (by omega) (by omega)
        obtain ⟨b7, e11, l19, l20⟩ := wr (b5 + b6) 4000000 (by omega) (by omega) (by omega)
        obtain ⟨d1, e12, l21, l22⟩ : ∃ d : Int, (p : Int).tdiv (m : Int) = d ∧ 0 ≤ d ∧ d ≤ 100000 := by
          have hd := Nat.div_le_self p m
          refine ⟨((p / m : Nat) : Int), by rw [Int.tdiv_eq_ediv_of_nonneg (by omega)]; exact (Int.natCast_ediv _ _).symm, Int.natCast_nonneg _, ?_⟩
          omega
        obtain ⟨d2, e13, l23, l24⟩ := wr (d1 * 53) 5300000 (by omega) (by omega) (by omega)
        obtain ⟨x, e14, l25, l26⟩ := wr (b7 + d2) 10000000 (by omega) (by omega) (by omega)
        obtain ⟨y, e15, l27⟩ := xor_pos x l25 l26
        have hc1 := hc q1 l1
        have hc2 := hc q2 l6
        have m1 : (q1 : Int) < (m : Int) := by omega
        have m2 : (q2 : Int) < (m : Int) := by omega
        have HC := Lib.hid hc
        clear hc
        go_enter Try.func34, Try.ntmps34
        go_wp2
        go_quiet (fail)
        go_wp2
        go_ret
        exact ⟨_, rfl, Int.emod_nonneg _ (by omega), .inl (Int.emod_lt_of_pos _ (by omega)), ((Only.refl _ _).set _ (.inl rfl) _).drewN _, rd_drewN (rd_next (Lib.hid ⟨k1, k2, k3, k4, k5, k6, K7.out, K8.out⟩)) _⟩

/-- Once in n calls. -/
def OddPost (w : World) (r N : Nat) (e : Ending) (w' : World) : Prop := ∃ x : Bool, e = .returned (.bool x) ∧ Only r w w' ∧ Rd w' r (N + 1)

theorem odd_any (r N : Nat) (n : Int) (w : World) (h : Rd w r N) (hN : N ≤ 100000) (h1 : 1 ≤ n) (h2 : n ≤ 1000000) :
    Calls Try.prog 41 #[.pointer (some ⟨r, 0, none⟩), .int .i64 n] w (OddPost w r N) := by
  go_enter Try.func41, Try.ntmps41
  go_wp2_with fail
  refine (pick_any r N n _ h hN (by omega) h2).mono ?_
  rintro e w1 ⟨x, rfl, x0, x1, o1, rd1⟩
  go_wp2
  all_goals go_ret
  all_goals exact ⟨_, rfl, o1, rd1⟩
end Go.Proofs.Ytmoifakcjmdghaa
