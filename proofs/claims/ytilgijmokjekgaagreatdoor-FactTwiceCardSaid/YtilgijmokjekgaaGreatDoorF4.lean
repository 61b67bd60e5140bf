/- The copied world, none doubled; all doubled. No program stands here. -/
import Derived.Test.YtilgijmokjekgaaGreatDoorF3
import Derived.Outline
namespace Go.Proofs.YtilgijmokjekgaaGreatDoor
open Go Go.RowKit

section
variable {wS w : World} {us : List UnitW} {vu : Value} {xs : List Value} {B top : Nat} {lo hi : Nat → Nat} {vcs : Nat → Value} {yss : Nat → List Value} {nvs bvs : Nat → Nat → Value} {L H : Nat → Nat → Nat}
theorem ownI_cells {α : Type} {t : Ty α} {e : TypeId} {lo hi : Nat} {v : Value} {l : List α} {ys : List Value} (h : OwnI t e w lo hi v l ys) (h1 : 1 ≤ l.length) : ∃ g cap, v = .slice (some ⟨g, 0, none⟩) l.length cap ∧ v.ownBlock = some g ∧ (∀ o, w.frozen? ⟨g, o, none⟩ = false) ∧ ∀ i, i < l.length * t.size → w.cell? ⟨g, i, none⟩ = ys[i]? := by
  rcases h.own.2 with ⟨-, h0⟩ | ⟨g, cap, cur, hv, hb, hg, q1, q2, q3, q4⟩
  · omega
  · refine ⟨g, cap, hv, by rw [hv]; rfl, fun o => frozen_of_row w g o cur e hg, fun i hi => ?_⟩
    rw [cell_of_row w g i cur e (0, 0) hg, ← q4, List.getElem?_take_of_lt hi, Array.getElem?_toList]
theorem own_nonempty {α : Type} {t : Ty α} {e : TypeId} {lo hi : Nat} {v : Value} {l : List α} {ys : List Value} (h : OwnI t e w lo hi v l ys) {g : Nat} (hg : v.ownBlock = some g) (hj : 0 < l.length) : ∃ cap, v = .slice (some ⟨g, 0, none⟩) l.length cap ∧ (∀ o, w.frozen? ⟨g, o, none⟩ = false) ∧ ∀ i, i < l.length * t.size → w.cell? ⟨g, i, none⟩ = ys[i]? := by
  obtain ⟨g', cap, h1, h2, h3, h4⟩ := ownI_cells h hj
  obtain rfl : g' = g := Option.some.inj (h2.symm.trans hg)
  exact ⟨cap, h1, h3, h4⟩
theorem own_frozen {α : Type} {t : Ty α} {e : TypeId} {lo hi : Nat} {v : Value} {l : List α} {ys : List Value} (h : OwnI t e w lo hi v l ys) {g : Nat} (hg : v.ownBlock = some g) : ∀ o, w.frozen? ⟨g, o, none⟩ = false := by
  rcases h.own.2 with ⟨hv, -⟩ | ⟨g', cap, cur, hv, hb, hg', -⟩
  · rw [hv] at hg; cases hg
  · rw [hv] at hg
    obtain rfl : g' = g := Option.some.inj hg
    exact fun o => frozen_of_row w g' o cur e hg'
theorem TwSt.start (hU : Units wS us us.length vu xs B top lo hi vcs yss nvs bvs L H) : TwSt wS us vcs nvs bvs L H B (fun _ _ => False) wS := by
  refine ⟨Below.refl _ _, fun _ _ _ _ => rfl, fun u hu g hg => ⟨own_frozen (hU.arr u hu hu) hg, fun j hj => ?_⟩⟩
  obtain ⟨cap, -, -, hc⟩ := own_nonempty (hU.arr u hu hu) hg (by omega)
  refine ⟨nvs u j, bvs u j, fun r hr => ?_, fun _ => ⟨rfl, rfl⟩, fun h => h.elim⟩
  have h1 : (j + 1) * 8 ≤ us[u].cands.length * 8 := Nat.mul_le_mul_right _ hj
  rw [hc (j * 8 + r) (by show j * 8 + r < us[u].cands.length * 8; omega)]
  exact (hU.parts u hu hu).cells j hj hj r hr
/-- All doubled: the copy reads as the world with each need and bar twice. -/
theorem TwSt.finish (hO : OwnT tUnit 62 wS B vu us xs) (hU : Units wS us us.length vu xs B top lo hi vcs yss nvs bvs L H) (ht : top ≤ wS.heap.size) {done : Nat → Nat → Prop} (hst : TwSt wS us vcs nvs bvs L H B done w) (hd : ∀ u j, (hu : u < us.length) → j < us[u].cands.length → done u j) (h1 : 1 ≤ us.length) :
    ∃ g cap, vu = .slice (some ⟨g, 0, none⟩) us.length cap ∧ WorldRd w (Lt w.heap.size) (.agg #[vu]) (us.map dblU) := by
  obtain ⟨g, cap, hv, hob, -, hc⟩ := ownI_cells (OwnI.of hO) h1
  have hgl := hO.own.lt g hob
  have hs := hst.below.size
  have hgs : w.heap[g]? = wS.heap[g]? := by
    refine hst.same g hgl.2 (fun u g' hu hg' e => ?_) fun u j hu hj _ h2 h3 => ?_
    · have := (hU.arr u hu hu).lt g' hg'
      have := hU.out u g hu hob
      omega
    · have := (hU.parts u hu hu).bd j hj
      have := hU.out u g hu hob
      omega
  have hmv : ∀ c : CandW, (dblC c).v = c.v ∧ (dblC c).sh = c.sh := fun c => ⟨rfl, rfl⟩
  refine ⟨g, cap, hv, g, cap, by rw [hv, List.length_map], Nat.lt_of_lt_of_le hgl.2 hs, some ⟨g, 0, none⟩, cap, by rw [List.length_map], ?_, ?_, fun u hu => ?_⟩
  · rw [List.length_map]
    rcases hO.own.2 with ⟨hv', h0⟩ | ⟨g', cap', cur, hv', -, -, q1, -⟩
    · omega
    · rw [hv] at hv'; injection hv' with e1 e2 e3; rw [e3]; exact q1
  · rcases hO.own.2 with ⟨hv', h0⟩ | ⟨g', cap', cur, hv', -, -, -, q2, -⟩
    · omega
    · rw [hv] at hv'; injection hv' with e1 e2 e3; rw [e3]; exact q2
  · have hu' : u < us.length := by simpa using hu
    have hcu : ∀ r, r < 3 → w.cell? ⟨g, u * 3 + r, none⟩ = [Value.string us[u].nm, .string us[u].ft, vcs u][r]? := fun r hr => by
      have h8 : (u + 1) * 3 ≤ us.length * 3 := Nat.mul_le_mul_right _ hu'
      rw [World.cell?_of_block hgs, hc (u * 3 + r) (by show u * 3 + r < us.length * 3; omega)]
      exact hU.cell u hu' hu' r hr
    refine ⟨g, 0, [.string us[u].nm, .string us[u].ft, vcs u], rfl, Nat.lt_of_lt_of_le hgl.2 hs, rfl, fun j hj => ?_, vcs u, by rw [List.getElem_map]; rfl, ?_⟩
    · rw [Nat.zero_add]
      exact hcu j hj
    · rw [List.getElem_map]
      show Seen tCand w (Lt w.heap.size) (vcs u) (us[u].cands.map dblC)
      obtain ⟨A, c, hvc⟩ := own_form (hU.arr u hu' hu').own
      refine ⟨A, c, by rw [List.length_map]; exact hvc, fun k hk => ?_⟩
      have hk' : k < us[u].cands.length := by simpa using hk
      obtain ⟨g', cap', e1, e2, -, -⟩ := ownI_cells (hU.arr u hu' hu') (by omega)
      have hA : A = some ⟨g', 0, none⟩ := by
        rw [hvc] at e1
        injection e1
      have hgl' := (hU.arr u hu' hu').lt g' e2
      have hbu := hU.bd u hu'
      obtain ⟨nv, bv, a1, -, a3⟩ := (hst.arr u hu' g' e2).2 k hk'
      obtain ⟨r1, r2⟩ := a3 (hd u k hu' hk')
      have hbk := (hU.parts u hu' hu').bd k hk'
      refine ⟨g', 0, candL us[u].cands[k] nv bv, hA, by show g' < w.heap.size; omega, rfl, fun j hj => ?_, nv, bv, by rw [List.getElem_map]; rfl, ?_, ?_, ?_⟩
      · rw [Nat.zero_add]
        exact a1 j hj
      · rw [List.getElem_map]
        exact (hU.parts u hu' hu').ver k hk' hk'
      · rw [List.getElem_map]
        exact r1.more fun b hb => by show b < w.heap.size; omega
      · rw [List.getElem_map]
        exact r2.more fun b hb => by show b < w.heap.size; omega
end
end Go.Proofs.YtilgijmokjekgaaGreatDoor
