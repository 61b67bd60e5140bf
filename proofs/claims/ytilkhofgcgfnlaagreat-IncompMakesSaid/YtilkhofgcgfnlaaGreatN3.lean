/- Contracts: term.has, term.bit, term.Full. -/
import Derived.Test.YtilkhofgcgfnlaaGreatN2
import Derived.Outline
namespace Go.Proofs.YtilkhofgcgfnlaaGreat
open Go Go.RowKit

def hasF (ns : List Nat) (u : Int) : Bool := decide (0 ≤ u) && decide (u < ns.length)
set_option maxHeartbeats 400000 in
theorem has_any (v : Value) (ns : List Nat) (u : Int) (w : World) (F : Nat → Prop) (h : UniRd w F v ns) :
    Calls Tryz.prog 60 #[v, .int .i64 u] w fun e w' => e = .returned (.bool (hasF ns u)) ∧ Below w.heap.size w w' := by
  obtain ⟨g, cap, rfl, hg, hc⟩ := h
  clear hc
  go_enter Tryz.func60, Tryz.ntmps60
  by_cases h0 : 0 ≤ u
  · by_cases h1 : u < ns.length
    · go_wp2
      all_goals go_ret
      exact ⟨ret_bool (by simp [hasF, h0, h1]), balloc (b0 w) _⟩
    · go_wp2
      all_goals go_ret
      exact ⟨ret_bool (by simp [hasF, h0, h1]), balloc (b0 w) _⟩
  · go_wp2
    all_goals go_ret
    exact ⟨ret_bool (by simp [hasF]; omega), balloc (b0 w) _⟩
set_option maxHeartbeats 400000 in
theorem bit_any (i : Nat) (w : World) (hi : i ≤ 16) :
    Calls Tryz.prog 61 #[.int .i64 (i - 1)] w fun e w' => e = .returned (.int .i64 (pw i)) ∧ w' = w := by
  go_enter Tryz.func61, Tryz.ntmps61
  have e : (i : Int) - 1 + 1 = i := by omega
  have p := pw_bd (i := i) (by omega)
  go_wp2
  go_ret
  exact ⟨ret_int (by
    have h2 : (2 : Int) ^ i = pw i := by unfold pw; push_cast; rfl
    rw [h2]
    exact IntWalk.wrap64_in (pw i) (by omega)), rfl⟩
set_option maxHeartbeats 400000 in
theorem full_any (v : Value) (ns : List Nat) (u : Int) (w : World) (F : Nat → Prop) (h : UniRd w F v ns) (ho : NsOk ns) (hF : ∀ k, F k → k < w.heap.size) :
    Calls Tryz.prog 34 #[v, .int .i64 u] w fun e w' => e = .returned (.int .i64 (fullF ns u)) ∧ Below w.heap.size w w' := by
  have HU := hid h
  obtain ⟨g, cap, rfl, hg, hc⟩ := h
  have hgl := hF g hg
  have hal : ∀ o, UniRd (w.alloc o) F (.agg #[.slice (some ⟨g, 0, none⟩) ns.length cap]) ns := fun o => HU.out.keep fun j hj => Below.heap_alloc w o j (hF j hj)
  have hbx : ∀ xs t, (w.alloc (.cells xs t)).cell? ⟨w.heap.size, 0, none⟩ = xs[0]? := fun xs t => World.cell?_alloc_new w xs t 0
  go_enter Tryz.func34, Tryz.ntmps34
  by_cases h0 : 0 ≤ u ∧ u < ns.length
  · obtain ⟨k, rfl⟩ : ∃ k : Nat, u = ↑k := ⟨u.toNat, by omega⟩
    have hk : k < ns.length := by omega
    have hn := ho.le k hk
    have he : fullF ns ↑k = pw (ns[k] + 1) - 1 := by
      unfold fullF
      rw [if_neg (by omega), Int.toNat_natCast, List.getElem?_eq_getElem hk]
      rfl
    obtain ⟨Ak, ck, hck⟩ := hc k hk
    have hhas : hasF ns ↑k = true := by simp [hasF, hk]
    have hck' : ∀ o, (w.alloc o).cell? ⟨g, k * 3 + 2, none⟩ = some (.slice Ak ns[k] ck) := fun o => cell_below (balloc (b0 w) o) hgl hck
    generalize ns[k] = n at *
    have k1 : (0 : Int) ≤ ↑k := by omega
    have k2 : (↑k : Int) < ↑ns.length := by omega
    have p := pw_bd (i := n + 1) (by omega)
    have hb := fun wx => bit_any (n + 1) wx (by omega)
    simp only [show ((n + 1 : Nat) : Int) - 1 = n by omega] at hb
    clear hc h0
    go_wp2_with (first
      | (go_at_call 60; refine (has_any _ ns _ _ F (hal _)).mono ?_; rintro e w1 ⟨rfl, hb1⟩; rw [hhas]; have hc1 := cell_below hb1 (by simp; omega) (hck' _); have hc2 := cell_below hb1 (by simp) (hbx _ _); have HB1 := hid hb1; clear hb1)
      | (go_at_call 61; refine (hb _).mono ?_; rintro e w2 ⟨rfl, rfl⟩))
    go_ret
    exact ⟨ret_int (by rw [he]), (balloc (b0 w) _).trans (HB1.out.mono (by simp))⟩
  · have hhas : hasF ns u = false := by simp [hasF]; omega
    have he : fullF ns u = 0 := by unfold fullF; rw [if_pos (by omega)]
    clear hc
    go_wp2_with (go_at_call 60; refine (has_any _ ns _ _ F (hal _)).mono ?_; rintro e w1 ⟨rfl, hb1⟩; rw [hhas])
    go_ret
    exact ⟨ret_int he.symm, (balloc (b0 w) _).trans (hb1.mono (by simp))⟩
end Go.Proofs.YtilkhofgcgfnlaaGreat
