/- Plain: what a choice does not meet, a row says. No program stands here. -/
import Derived.Test.YtilgijmokjekgaaGreatDoorzZa
import Derived.Test.YtilgijmokjekgaaGreatDoorZm
import Derived.Outline
namespace Go.Proofs.YtilgijmokjekgaaGreatDoor
open Go Go.RowKit

section
variable {us : List UnitW} {c : List Int} {u p : Nat} {x : UnitW} {cd : CandW}
theorem met_bitF {y : WantD} (h : metC us c y = false) : (metN us y).testBit (c.getD y.u.toNat 0 + 1).toNat = false := by
  cases e : (metN us y).testBit (c.getD y.u.toNat 0 + 1).toNat with
  | false => rfl
  | true =>
    have h1 := (val_bit c y.u.toNat (metN us y)).2 e
    unfold metC at h
    rw [bne_eq_false_iff_eq] at h
    exact absurd h h1
theorem met_bitT {y : WantD} (h : metC us c y = true) : (metN us y).testBit (c.getD y.u.toNat 0 + 1).toNat = true := by
  unfold metC at h
  exact (val_bit c y.u.toNat (metN us y)).1 (bne_iff_ne.1 h)
theorem hold_clause {l : List WantD} {b : Bool} (ho : UnitsOk us) (hc : ChoiceOk (nsOf us) c) (hp : p < 60) (hcu : c.getD u 0 = (p : Int)) (hin : ∀ y ∈ l, 0 ≤ y.u ∧ y.u < us.length) (h : ∀ y ∈ l, metC us c y = b) : holdL c (clauseL us u p l b) = true := by
  rw [holdL_iff]
  intro t ht
  rcases List.mem_cons.1 ht with rfl | ht
  · show (nm ((2 ^ (p + 1) : Nat) : Int)).testBit (c.getD ((u : Nat) : Int).toNat 0 + 1).toNat = true
    rw [Int.toNat_natCast, hcu, nm_nat (by have := Nat.pow_le_pow_right (n := 2) (by omega) (show p + 1 ≤ 61 by omega); omega), Nat.testBit_two_pow]
    exact decide_eq_true (by omega)
  · obtain ⟨y, hy, rfl⟩ := List.mem_map.1 ht
    obtain ⟨h0, h1⟩ := hin y hy
    have hv : y.u.toNat < (nsOf us).length := by simp [nsOf]; omega
    have hml := metN_le us y
    have hf := fullN_le ho.ns y.u.toNat
    cases b with
    | true =>
      show (nm ((metN us y : Nat) : Int)).testBit _ = true
      rw [nm_nat (by omega)]
      exact met_bitT (h y hy)
    | false =>
      show (nm ((fullN (nsOf us) y.u.toNat - metN us y : Nat) : Int)).testBit _ = true
      rw [nm_nat (by omega), diff_bit hv rfl hml, Bool.and_eq_true]
      refine ⟨val_full hc hv, ?_⟩
      have := met_bitF (h y hy)
      show (!(metN us y).testBit (c.getD y.u.toNat 0 + 1).toNat) = true
      rw [this]
      rfl
theorem said_rows {kind : Int} (ho : UnitsOk us) (h0 : (nsOf us).head? = some 1) (hc : ChoiceOk (nsOf us) c) (h : saidN (nsOf us) (allN us) kind u c) : ((allN us).map (rowOf (nsOf us))).any (saidC kind u c) = true := by
  obtain ⟨r, hr, h1, h2, h3⟩ := h
  rw [List.any_eq_true]
  refine ⟨_, List.mem_map.2 ⟨r, hr, rfl⟩, ?_⟩
  have hok := (units_ok ho h0 us.length (Nat.le_refl _)).1 r hr
  show (decide (r.kind = kind) && (decide ((r.u : Int) = (u : Int)) && holdL c (canon (nsOf us) r.M))) = true
  rw [decide_eq_true h1, decide_eq_true (by omega), holdL_canon ho.ns hc hok.inc, h3]
  rfl
theorem cand_small (ho : UnitsOk us) (hx : us[u]? = some x) (hcd : x.cands[p]? = some cd) : u < us.length ∧ p < 60 := by
  have h1 := List.getElem?_eq_some_iff.1 hx
  have h2 := (List.getElem?_eq_some_iff.1 hcd).1
  have h3 := ho.ns.le u (by simpa [nsOf] using h1.1)
  have h4 : (nsOf us)[u]'(by simpa [nsOf] using h1.1) = x.cands.length := by simp [nsOf, h1.2]
  exact ⟨h1.1, by omega⟩
theorem says_need {l : List WantD} (ho : UnitsOk us) (h0 : (nsOf us).head? = some 1) (hc : ChoiceOk (nsOf us) c) (hx : us[u]? = some x) (hcd : x.cands[p]? = some cd) (hcu : c.getD u 0 = (p : Int)) (hl : l ∈ cd.needs) (hm : l.any (metC us c) = false) : ((allN us).map (rowOf (nsOf us))).any (saidC 2 u c) = true := by
  obtain ⟨hu, hp⟩ := cand_small ho hx hcd
  have hin := (ok_in ho hx hcd).1 l hl
  have hi := inR_clause (us := us) (u := u) (p := p) (l := l) (b := false) hu hin
  refine said_rows ho h0 hc (said_all (clause_need hx hcd hl) ?_ hi)
  rw [← holdL_make hc hi]
  exact hold_clause ho hc hp hcu hin fun y hy => by
    cases e : metC us c y with
    | false => rfl
    | true => rw [List.any_eq_true.2 ⟨y, hy, e⟩] at hm; cases hm
theorem says_bar {y : WantD} (ho : UnitsOk us) (h0 : (nsOf us).head? = some 1) (hc : ChoiceOk (nsOf us) c) (hx : us[u]? = some x) (hcd : x.cands[p]? = some cd) (hcu : c.getD u 0 = (p : Int)) (hl : y ∈ cd.bars) (hm : metC us c y = true) : ((allN us).map (rowOf (nsOf us))).any (saidC 3 u c) = true := by
  obtain ⟨hu, hp⟩ := cand_small ho hx hcd
  have hin : ∀ z ∈ [y], 0 ≤ z.u ∧ z.u < us.length := fun z hz => by rw [List.mem_singleton.1 hz]; exact (ok_in ho hx hcd).2 y hl
  have hi := inR_clause (us := us) (u := u) (p := p) (l := [y]) (b := true) hu hin
  refine said_rows ho h0 hc (said_all (clause_bar hx hcd hl) ?_ hi)
  rw [← holdL_make hc hi]
  exact hold_clause ho hc hp hcu hin fun z hz => by rw [List.mem_singleton.1 hz]; exact hm
end
end Go.Proofs.YtilgijmokjekgaaGreatDoor
