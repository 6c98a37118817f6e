/- A list of the call's own lies also behind a lower number. -/
import Derived.Test.YtmekbfjeljfbpaaOwnU
namespace Go.Proofs.Ytmekbfjeljfbpaa
open Go.ChangeShapes Go.WideShapes Go.ChangeAt Go.RowKit

theorem OwnI.lower {w : World} {b b' : Nat} {v : Value} {xs : List Int} (h : OwnI w b v xs) (hb : b' ≤ b) : OwnI w b' v xs := by
  rcases h with ⟨h0, h1 | ⟨g, cap, cur, h2, h3, h4⟩⟩
  · exact ⟨h0, .inl h1⟩
  · exact ⟨h0, .inr ⟨g, cap, cur, h2, Nat.le_trans hb h3, h4⟩⟩
end Go.Proofs.Ytmekbfjeljfbpaa
