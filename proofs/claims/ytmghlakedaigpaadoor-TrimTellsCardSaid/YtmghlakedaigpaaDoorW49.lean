/- Contracts: proof.terms. -/
import Derived.Test.YtmghlakedaigpaaDoorW50
namespace Go.Proofs.YtmghlakedaigpaaDoor
open Go Go.RowKit

set_option maxHeartbeats 400000 in
theorem terms_any (v : Value) (l : List Term) (w : World) (h : SliceRd tTerm w (Lt w.heap.size) v l) :
    Calls Tryd.prog 37 #[v] w fun e w' => e = .returned (.bool (termsMayF l)) ∧ Below w.heap.size w w' := by
  obtain ⟨A, cap, rfl, hcap, hmax, hc⟩ := h.terms
  unfold maxLen at hmax
  have HC := hid hc
  clear hc h
  go_enter Tryd.func37, Tryd.ntmps37
  go_wp2
  go_loopw [7] (fun v wr => ∃ k : Nat, k ≤ l.length ∧ v = .int .i64 k ∧ Below w.heap.size w wr ∧ Hid (∀ i, i < k → termBad l i = false)) (fun v _ => l.length - (intOf v).toNat)
  case atStart => exact ⟨0, Nat.zero_le _, rfl, Below.refl _ _, hid (fun i h => absurd h (by omega))⟩
  case round =>
    obtain ⟨k, hk, rfl, hb, hgood⟩ := hrel
    by_cases hlt : k < l.length
    · obtain ⟨g, o, hA, hF, g0, g1, hi, hj⟩ := HC.out k hlt
      cases hA
      have hbb : g < wr.heap.size := Nat.lt_of_lt_of_le hF hb.size
      have g0' := cell_below hb hF g0
      have g1' := cell_below hb hF g1
      clear g0 g1
      by_cases hk0 : 0 < k
      · obtain ⟨g2, o2, hA2, hF2, g2c, g3c, hi2, hj2⟩ := HC.out (k-1) (by omega)
        cases hA2
        have g2' := cell_below hb hF2 g2c
        clear g2c g3c
        go_wp2
        by_cases c1 : l[k].unit < 0
        · go_quiet (fail)
          go_wp2
          go_ret
          exact ⟨termsMay_bad hlt (termBad_of hlt (by omega)), below_drewN (hb.alloc hb.size _) _⟩
        · by_cases c2 : 48 ≤ l[k].unit
          · go_quiet (fail)
            go_wp2
            go_ret
            exact ⟨termsMay_bad hlt (termBad_of hlt (by omega)), below_drewN (hb.alloc hb.size _) _⟩
          · by_cases c3 : l[k].mask < 1
            · go_quiet (fail)
              go_wp2
              go_ret
              exact ⟨termsMay_bad hlt (termBad_of hlt (by omega)), below_drewN (hb.alloc hb.size _) _⟩
            · by_cases c4 : 131072 ≤ l[k].mask
              · go_quiet (fail)
                go_wp2
                go_ret
                exact ⟨termsMay_bad hlt (termBad_of hlt (by omega)), below_drewN (hb.alloc hb.size _) _⟩
              · by_cases c5 : l[k].unit ≤ l[k-1].unit
                · go_quiet (fail)
                  go_wp2
                  go_ret
                  exact ⟨termsMay_bad hlt (termBad_of hlt (by omega)), below_drewN (hb.alloc hb.size _) _⟩
                · go_quiet (fail)
                  go_wp2
                  go_roundw
                  case rel => exact ⟨k + 1, by omega, by go_num, below_drewN (hb.alloc hb.size _) _, hid (fun i hi => if e : i = k then by subst e; exact termBad_not hlt (by omega) else hgood.out i (by omega))⟩
                  case measure => simp [intOf]; omega
      · go_wp2
        by_cases c1 : l[k].unit < 0
        · go_quiet (fail)
          go_wp2
          go_ret
          exact ⟨termsMay_bad hlt (termBad_of hlt (by omega)), below_drewN (hb.alloc hb.size _) _⟩
        · by_cases c2 : 48 ≤ l[k].unit
          · go_quiet (fail)
            go_wp2
            go_ret
            exact ⟨termsMay_bad hlt (termBad_of hlt (by omega)), below_drewN (hb.alloc hb.size _) _⟩
          · by_cases c3 : l[k].mask < 1
            · go_quiet (fail)
              go_wp2
              go_ret
              exact ⟨termsMay_bad hlt (termBad_of hlt (by omega)), below_drewN (hb.alloc hb.size _) _⟩
            · by_cases c4 : 131072 ≤ l[k].mask
              · go_quiet (fail)
                go_wp2
                go_ret
                exact ⟨termsMay_bad hlt (termBad_of hlt (by omega)), below_drewN (hb.alloc hb.size _) _⟩
              · go_quiet (fail)
                go_wp2
                go_roundw
                case rel => exact ⟨k + 1, by omega, by go_num, below_drewN (hb.alloc hb.size _) _, hid (fun i hi => if e : i = k then by subst e; exact termBad_not hlt (by omega) else hgood.out i (by omega))⟩
                case measure => simp [intOf]; omega
    · go_wp2
      go_ret
      exact ⟨termsMay_good (fun i hi => hgood.out i (by omega)), hb⟩
end Go.Proofs.YtmghlakedaigpaaDoor
