/- Contract: law23.rest. -/
import Derived.Test.YtilgijmokjekgaaGreatDoorzN9
import Derived.Outline
namespace Go.Proofs.YtilgijmokjekgaaGreatDoor
open Go Go.RowKit

set_option maxHeartbeats 1000000 in
theorem rest23_any (lv : Value) (l : List Term) (u : Int) (w : World) (hl : SliceRd tTerm w (Lt w.heap.size) lv l) (hll : l.length ≤ 1000) :
    Calls Tryz.prog 30 #[lv, .int .i64 u] w fun e w' => ∃ v, e = .returned v ∧ OwnF fTerm 55 w.heap.size w' v (butL l u) ∧ Below w.heap.size w w' := by
  obtain ⟨it, hit⟩ := info_parts term_info
  have HIT := hid hit
  obtain ⟨A, cap, rfl, hcap, hmax, hc⟩ := hl.terms
  have HC := hid hc
  clear hc hl hit
  go_enter Tryz.func30, Tryz.ntmps30
  go_wp2_with fail
  go_loopw [5, 6] (fun ov iv wr => ∃ k : Nat, k ≤ l.length ∧ iv = .int .i64 k ∧ Hid (OwnF fTerm 55 w.heap.size wr ov (butL (l.take k) u)) ∧ Hid (Below w.heap.size w wr)) (fun _ iv _ => l.length - (intOf iv).toNat)
  case atStart => exact ⟨0, Nat.zero_le _, rfl, hid (OwnF.nil _ _ _ _), hid (b0 _)⟩
  case round =>
    obtain ⟨k, hk, rfl, ho, hb⟩ := hrel
    obtain ⟨Ao, co, hov⟩ := ho.out.form
    have hlen : (butL (l.take k) u).length ≤ 1000 := Nat.le_trans (List.length_filter_le _ _) (by rw [List.length_take]; omega)
    by_cases hlt : k < l.length
    · obtain ⟨gg, o, hA, hF, g0, g1, i64a, i64b⟩ := HC.out k hlt
      subst hA
      have c0 := cell_below hb.out hF g0
      have c1 := cell_below hb.out hF g1
      have i1 : (0 : Int) ≤ ↑k := by omega
      have i2 : (↑k : Int) < ↑l.length := by omega
      have HSU := hid (butL_succ (u := u) hlt)
      have HOK := hid (show fTerm.ok l[k] from ⟨i64a, i64b⟩)
      clear g0 g1 i64a i64b
      obtain ⟨t, ht⟩ : ∃ t, l[k] = t := ⟨_, rfl⟩
      rw [ht] at c0 c1 HSU HOK
      obtain ⟨a, m⟩ := t
      dsimp only at c0 c1
      generalize hL : butL (l.take k) u = L at HSU ho hov hlen
      subst hov
      clear ht
      by_cases he : a = u
      · have HE := hid (show butL (l.take (k + 1)) u = L by rw [HSU.out, if_pos he, List.append_nil])
        have hz : (a == u) = true := by simpa using he
        clear he HSU
        go_wp2
        exact ⟨⟨k + 1, by omega, by go_num, hid (by rw [HE.out]; exact ho.out), hb⟩, by simp [intOf]; omega⟩
      · have HE := hid (show butL (l.take (k + 1)) u = L ++ [⟨a, m⟩] by rw [HSU.out, if_neg he])
        have hz : (a == u) = false := by simpa using he
        have hsr := hb.out.size
        clear he HSU
        go_wp2_with (at_builtin; go_must (refine wpList_append_src _ rfl (.tmp 20) (.tmp 25) _ rfl w.heap.size 55 it _ 2 16 Tryz.underlying34 HIT.out.1 HIT.out.2.1 HIT.out.2.2.1 HIT.out.2.2.2 rfl (by omega) (.slice Ao L.length co) L.length (fTerm.all L) (by rfl) (by exact ho.out.1.alloc _) (some ⟨wr.heap.size, 0, none⟩) 1 1 (fTerm.cells ⟨a, m⟩) (by rfl) (by exact src_one (f := fTerm) rfl) (by simp [fTerm, Value.oneCell']) (by unfold maxLen; omega) (by omega) (by simp; omega) ?_; intro v2 w2 hown2 hg2 hat2; have HB2 := hid (own_app (v2 := v2) (hb.out.alloc hsr _) (ho.out.alloc _) (by simp; omega) hg2 rfl); have HO2 := hid (ho.out.snoc HOK.out hown2); clear hown2 hg2 hat2))
        exact ⟨⟨k + 1, by omega, by go_num, hid (by rw [HE.out]; exact HO2.out), HB2⟩, by simp [intOf]; omega⟩
    · have e : l.take k = l := List.take_of_length_le (by omega)
      rw [e] at ho
      go_wp2
      go_ret
      exact ⟨_, rfl, ho.out, hb.out⟩
end Go.Proofs.YtilgijmokjekgaaGreatDoor
