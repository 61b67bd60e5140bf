import Derived.Test.YtmghlakedaigpaaDoorRows
import Derived.Test.YtmghlakedaigpaaDoorMem
namespace Go.Proofs.YtmghlakedaigpaaDoor
open Go Go.RowKit

/-- May term number k of l be? -/
def termBad (l : List Term) (k : Nat) : Bool :=
  decide (l[k]!.unit < 0) || decide (48 ≤ l[k]!.unit) || decide (l[k]!.mask < 1) || decide (131072 ≤ l[k]!.mask) || (decide (0 < k) && decide (l[k]!.unit ≤ l[k-1]!.unit))
def termsMayF (l : List Term) : Bool := (List.range l.length).all fun k => !termBad l k
theorem termsMay_bad {l : List Term} {k : Nat} (hk : k < l.length) (h : termBad l k = true) : Ending.returned (.bool false) = .returned (.bool (termsMayF l)) := by
  have : termsMayF l = false := by
    unfold termsMayF
    rw [List.all_eq_false]
    exact ⟨k, List.mem_range.2 hk, by simp [h]⟩
  rw [this]
theorem termsMay_good {l : List Term} (h : ∀ k, k < l.length → termBad l k = false) : Ending.returned (.bool true) = .returned (.bool (termsMayF l)) := by
  have : termsMayF l = true := by
    unfold termsMayF
    rw [List.all_eq_true]
    intro k hk
    simp [h k (List.mem_range.1 hk)]
  rw [this]
theorem termBad_of {l : List Term} {k : Nat} (hk : k < l.length) (h : l[k].unit < 0 ∨ 48 ≤ l[k].unit ∨ l[k].mask < 1 ∨ 131072 ≤ l[k].mask ∨ (0 < k ∧ l[k].unit ≤ l[k-1].unit)) : termBad l k = true := by
  unfold termBad
  rw [getElem!_pos l k hk, getElem!_pos l (k-1) (by omega)]
  simp only [Bool.or_eq_true, decide_eq_true_eq, Bool.and_eq_true]
  omega
theorem termBad_not {l : List Term} {k : Nat} (hk : k < l.length) (h : ¬ (l[k].unit < 0 ∨ 48 ≤ l[k].unit ∨ l[k].mask < 1 ∨ 131072 ≤ l[k].mask ∨ (0 < k ∧ l[k].unit ≤ l[k-1].unit))) : termBad l k = false := by
  cases hb : termBad l k with
  | false => rfl
  | true =>
    unfold termBad at hb
    rw [getElem!_pos l k hk, getElem!_pos l (k-1) (by omega)] at hb
    simp only [Bool.or_eq_true, decide_eq_true_eq, Bool.and_eq_true] at hb
    omega

set_option maxHeartbeats 400000 in
theorem termsMay_any (v : Value) (l : List Term) (w : World) (h : SliceRd tTerm w (Lt w.heap.size) v l) :
    Calls Tryd.prog 38 #[v] w fun e w' => e = .returned (.bool (termsMayF l)) ∧ Below w.heap.size w w' := by
  obtain ⟨A, cap, rfl, hcap, hmax, hc⟩ := h.terms
  unfold maxLen at hmax
  have HC := hid hc
  clear hc h
  go_enter Tryd.func38, Tryd.ntmps38
  go_wp2
  go_loopw [3] (fun v wr => ∃ k : Nat, k ≤ l.length ∧ v = .int .i64 k ∧ Below w.heap.size w wr ∧ Hid (∀ i, i < k → termBad l i = false)) (fun v _ => l.length - (intOf v).toNat)
  case atStart => exact ⟨0, Nat.zero_le _, rfl, Below.refl _ _, hid (fun i h => absurd h (by omega))⟩
  case round =>
    obtain ⟨k, hk, rfl, hb, hgood⟩ := hrel
    by_cases hlt : k < l.length
    · obtain ⟨g, o, hA, hF, g0, g1, hi, hj⟩ := HC.out k hlt
      cases hA
      have hbb : g < wr.heap.size := Nat.lt_of_lt_of_le hF hb.size
      have g0' := cell_below hb hF g0
      have g1' := cell_below hb hF g1
      clear g0 g1
      by_cases hk0 : 0 < k
      · obtain ⟨g2, o2, hA2, hF2, g2c, g3c, hi2, hj2⟩ := HC.out (k-1) (by omega)
        cases hA2
        have g2' := cell_below hb hF2 g2c
        clear g2c g3c
        go_wp2
        by_cases c1 : l[k].unit < 0
        · go_quiet (fail)
          go_wp2
          go_ret
          exact ⟨termsMay_bad hlt (termBad_of hlt (by omega)), below_drewN (hb.alloc hb.size _) _⟩
        · by_cases c2 : 48 ≤ l[k].unit
          · go_quiet (fail)
            go_wp2
            go_ret
            exact ⟨termsMay_bad hlt (termBad_of hlt (by omega)), below_drewN (hb.alloc hb.size _) _⟩
          · by_cases c3 : l[k].mask < 1
            · go_quiet (fail)
              go_wp2
              go_ret
              exact ⟨termsMay_bad hlt (termBad_of hlt (by omega)), below_drewN (hb.alloc hb.size _) _⟩
            · by_cases c4 : 131072 ≤ l[k].mask
              · go_quiet (fail)
                go_wp2
                go_ret
                exact ⟨termsMay_bad hlt (termBad_of hlt (by omega)), below_drewN (hb.alloc hb.size _) _⟩
              · by_cases c5 : l[k].unit ≤ l[k-1].unit
                · go_quiet (fail)
                  go_wp2
                  go_ret
                  exact ⟨termsMay_bad hlt (termBad_of hlt (by omega)), below_drewN (hb.alloc hb.size _) _⟩
                · go_quiet (fail)
                  go_wp2
                  go_roundw
                  case rel => exact ⟨k + 1, by omega, by go_num, below_drewN (hb.alloc hb.size _) _, hid (fun i hi => if e : i = k then by subst e; exact termBad_not hlt (by omega) else hgood.out i (by omega))⟩
                  case measure => simp [intOf]; omega
      · go_wp2
        by_cases c1 : l[k].unit < 0
        · go_quiet (fail)
          go_wp2
          go_ret
          exact ⟨termsMay_bad hlt (termBad_of hlt (by omega)), below_drewN (hb.alloc hb.size _) _⟩
        · by_cases c2 : 48 ≤ l[k].unit
          · go_quiet (fail)
            go_wp2
            go_ret
            exact ⟨termsMay_bad hlt (termBad_of hlt (by omega)), below_drewN (hb.alloc hb.size _) _⟩
          · by_cases c3 : l[k].mask < 1
            · go_quiet (fail)
              go_wp2
              go_ret
              exact ⟨termsMay_bad hlt (termBad_of hlt (by omega)), below_drewN (hb.alloc hb.size _) _⟩
            · by_cases c4 : 131072 ≤ l[k].mask
              · go_quiet (fail)
                go_wp2
                go_ret
                exact ⟨termsMay_bad hlt (termBad_of hlt (by omega)), below_drewN (hb.alloc hb.size _) _⟩
              · go_quiet (fail)
                go_wp2
                go_roundw
                case rel => exact ⟨k + 1, by omega, by go_num, below_drewN (hb.alloc hb.size _) _, hid (fun i hi => if e : i = k then by subst e; exact termBad_not hlt (by omega) else hgood.out i (by omega))⟩
                case measure => simp [intOf]; omega
    · go_wp2
      go_ret
      exact ⟨termsMay_good (fun i hi => hgood.out i (by omega)), hb⟩
end Go.Proofs.YtmghlakedaigpaaDoor
