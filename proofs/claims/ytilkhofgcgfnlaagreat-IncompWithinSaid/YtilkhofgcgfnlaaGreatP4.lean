/- Terms of masks lie within the units. No program stands here. -/
import Derived.Test.YtilkhofgcgfnlaaGreatP2
namespace Go.Proofs.YtilkhofgcgfnlaaGreat
open Go Go.RowKit

theorem canon_range {ns : List Nat} (M : Nat → Nat) : ∀ t ∈ canon ns M, 0 ≤ t.unit ∧ t.unit < ns.length := fun t ht => by
  obtain ⟨u, hu, _, rfl⟩ := canon_mem.1 ht
  exact ⟨by dsimp only; omega, by dsimp only; omega⟩
end Go.Proofs.YtilkhofgcgfnlaaGreat
