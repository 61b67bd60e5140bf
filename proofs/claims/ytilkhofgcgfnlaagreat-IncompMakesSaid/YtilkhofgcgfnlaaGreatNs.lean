/- Counts of candidates, masks of all values. No program stands here. -/
import Derived.Test.YtilkhofgcgfnlaaGreatMem
import Derived.Outline
namespace Go.Proofs.YtilkhofgcgfnlaaGreat
open Go Go.RowKit

/-- What a made world's counts are. -/
structure NsOk (ns : List Nat) : Prop where
  lo : 2 ≤ ns.length
  hi : ns.length ≤ 11
  le : ∀ k, (h : k < ns.length) → ns[k] ≤ 4
/-- A power of two, as a number. -/
def pw (i : Nat) : Int := ((2 ^ i : Nat) : Int)
theorem pw_succ (i : Nat) : pw (i + 1) = pw i * 2 := by unfold pw; rw [Nat.pow_succ]; push_cast; rfl
theorem pw_bd {i : Nat} (h : i ≤ 17) : 1 ≤ pw i ∧ pw i ≤ 131072 := by
  unfold pw
  have h1 : 2 ^ i ≤ 2 ^ 17 := Nat.pow_le_pow_right (by decide) h
  have h2 : 0 < 2 ^ i := Nat.pow_pos (by decide)
  have h3 : 2 ^ 17 = 131072 := by decide
  omega
/-- How many values a unit has, as a mask: none where there is no such unit. -/
def fullF (ns : List Nat) (u : Int) : Int := if u < 0 ∨ (ns.length : Int) ≤ u then 0 else pw (ns[u.toNat]?.getD 0 + 1) - 1
/-- The units lie in a block that F tells of; each shows a slice of so many candidates. -/
def UniRd (w : World) (F : Nat → Prop) (v : Value) (ns : List Nat) : Prop :=
  ∃ g cap, v = .agg #[.slice (some ⟨g, 0, none⟩) ns.length cap] ∧ F g ∧ ∀ k, (hk : k < ns.length) → ∃ A c, w.cell? ⟨g, k * 3 + 2, none⟩ = some (.slice A ns[k] c)
theorem UniRd.keep {w w' : World} {F : Nat → Prop} {v : Value} {ns : List Nat} (hk : ∀ k, F k → w'.heap[k]? = w.heap[k]?) (h : UniRd w F v ns) : UniRd w' F v ns := by
  obtain ⟨g, cap, hv, hF, hc⟩ := h
  refine ⟨g, cap, hv, hF, fun k hk' => ?_⟩
  obtain ⟨A, c, h1⟩ := hc k hk'
  exact ⟨A, c, (World.cell?_of_block (hk g hF)).trans h1⟩
theorem UniRd.more {w : World} {F F' : Nat → Prop} {v : Value} {ns : List Nat} (h : UniRd w F v ns) (hF : ∀ k, F k → F' k) : UniRd w F' v ns := by
  obtain ⟨g, cap, hv, hf, hc⟩ := h
  exact ⟨g, cap, hv, hF _ hf, hc⟩
theorem UniRd.below {w w' : World} {B : Nat} {v : Value} {ns : List Nat} (h : UniRd w (Lt B) v ns) (hb : Below B w w') : UniRd w' (Lt B) v ns := h.keep fun k hk => hb.block k hk
end Go.Proofs.YtilkhofgcgfnlaaGreat
