/- Lists of the call's own, side by side: what a change of one leaves of another. -/
import Derived.Test.YtbjnkjookokjaaaLower
namespace Go.Proofs.Ytbjnkjookokjaaa
open Go.ChangeShapes Go.WideShapes Go.ChangeAt Go.RowKit

/-- What a change of one list of the call's own leaves of another one. -/
theorem OwnI.grown {w w' : World} {base : Nat} {v u : Value} {xs : List Int} (h : OwnI w base v xs) (hg : w.grownBy w' u.ownBlock) (hd : ∀ g, v.ownBlock = some g → u.ownBlock ≠ some g) : OwnI w' base v xs :=
  h.keep fun g hv hlt => hg.block g hlt fun e => hd g hv e.symm
theorem OwnI.apart {w w' : World} {b1 b2 : Nat} {v u : Value} {xs ys : List Int} (h : OwnI w b1 v xs) (k : OwnI w' b2 u ys) (hs : w.heap.size ≤ b2) : ∀ g, v.ownBlock = some g → u.ownBlock ≠ some g := fun g hv hu => by
  have h1 := k.block g hu
  have := h.up.2 g hv
  omega
theorem apart_sym {v u : Value} (h : ∀ g, v.ownBlock = some g → u.ownBlock ≠ some g) : ∀ g, u.ownBlock = some g → v.ownBlock ≠ some g := fun g h1 h2 => h g h2 h1
theorem below_grown {w W w' : World} {base : Nat} {v : Value} {xs : List Int} (h : Below w.heap.size w W) (o : OwnI W base v xs) (hb : w.heap.size ≤ base) (hg : W.grownBy w' v.ownBlock) : Below w.heap.size w w' :=
  h.trans ((Below.refl _ _).grown hg h.size fun k hk => Nat.le_trans hb (o.block k hk))
end Go.Proofs.Ytbjnkjookokjaaa
