/- Contract: linchpinref4.cuts. -/
import Derived.Test.YtilkhofgcgfnlaaGreatV12
namespace Go.Proofs.YtilkhofgcgfnlaaGreat
open Go Go.RowKit

def CutsPost (n : Nat) (w : World) (e : Ending) (w' : World) : Prop := ∃ A c l', e = .returned (.slice A l'.length c) ∧ SliceRd fCut.ty w' (Lt w'.heap.size) (.slice A l'.length c) l' ∧ 1 ≤ l'.length ∧ l'.length ≤ 2 + 2 * n ∧ Below w.heap.size w w'
def endCut (n : Int) : Cut := ⟨n, ⟨0, 0, 0, ⟨#[]⟩, ⟨#[]⟩⟩, false⟩
theorem endCut_B {n : Int} (h : n = -1 ∨ n = 1) : (endCut n).B := by
  refine ⟨by simp only [endCut]; omega, ?_⟩
  exact vb_zero
theorem ends_rd (w : World) : SliceRd fCut.ty (w.alloc (.cells #[.int .i64 (-1), .int .i64 0, .int .i64 0, .int .i64 0, .string ⟨#[]⟩, .string ⟨#[]⟩, .bool false, .int .i64 1, .int .i64 0, .int .i64 0, .int .i64 0, .string ⟨#[]⟩, .string ⟨#[]⟩, .bool false] 93)) (Lt (w.heap.size + 1)) (.slice (some ⟨w.heap.size, 0, none⟩) 2 2) [endCut (-1), endCut 1] := by
  have hown : (w.alloc (.cells #[.int .i64 (-1), .int .i64 0, .int .i64 0, .int .i64 0, .string ⟨#[]⟩, .string ⟨#[]⟩, .bool false, .int .i64 1, .int .i64 0, .int .i64 0, .int .i64 0, .string ⟨#[]⟩, .string ⟨#[]⟩, .bool false] 93)).ownsRow 0 93 7 (.slice (some ⟨w.heap.size, 0, none⟩) 2 2) 2 (fCut.all [endCut (-1), endCut 1]) :=
    ⟨rfl, .inr ⟨w.heap.size, 2, _, rfl, by omega, heap_alloc_new w _, Nat.le_refl _, by unfold maxLen; omega, by decide, rfl⟩⟩
  refine rd_of_ownF (f := fCut) hown (fun x hx => ?_) (fun g hg => ?_)
  · rcases List.mem_cons.1 hx with rfl | hx
    · exact endCut_B (.inl rfl)
    · rcases List.mem_cons.1 hx with rfl | hx
      · exact endCut_B (.inr rfl)
      · cases hx
  · injection hg with hg
    have hg' : w.heap.size = g := hg
    show g < w.heap.size + 1
    omega

set_option maxRecDepth 100000 in
set_option maxHeartbeats 2000000 in
theorem cuts_any (lv : Value) (l : List Span) (w : World) (h : SliceRd fSpan.ty w (Lt w.heap.size) lv l) (hl : l.length ≤ 10000) :
    Calls Tryz.prog 107 #[lv] w (CutsPost l.length w) := by
  obtain ⟨A, cap, rfl, hcap, hmax, hc⟩ := h.spans
  have HC := hid hc
  unfold maxLen at hmax
  clear h hc
  go_enter Tryz.func107, Tryz.ntmps107
  go_wp2_with (first
    | (go_at_call 74; refine (first_any _).mono ?_; rintro e w1 ⟨rfl, hb1⟩)
    | (go_at_call 76; refine (last_any _).mono ?_; rintro e w2 ⟨rfl, hb2⟩; have HB0 := hid (bstep hb1 hb2)))
  have HE := hid (ends_rd w2)
  have HB3 := hid (balloc HB0.out (.cells #[.int .i64 (-1), .int .i64 0, .int .i64 0, .int .i64 0, .string ⟨#[]⟩, .string ⟨#[]⟩, .bool false, .int .i64 1, .int .i64 0, .int .i64 0, .int .i64 0, .string ⟨#[]⟩, .string ⟨#[]⟩, .bool false] 93))
  go_loopw [3, 4] (fun ov iv wr => ∃ k : Nat, k ≤ l.length ∧ iv = .int .i64 k ∧ Hid (∃ l', SliceRd fCut.ty wr (Lt wr.heap.size) ov l' ∧ 1 ≤ l'.length ∧ l'.length ≤ 2 + 2 * k) ∧ Hid (Below w.heap.size w wr)) (fun _ iv _ => l.length - (intOf iv).toNat)
  case atStart => exact ⟨0, Nat.zero_le _, rfl, hid ⟨_, by simpa using HE.out, by decide, by decide⟩, HB3⟩
  case round =>
    obtain ⟨k, hk, rfl, hout, hb⟩ := hrel
    obtain ⟨l', hrd, hl1, hl2⟩ := hout.out
    by_cases hlt : k < l.length
    · obtain ⟨g, o, hA, hF, hB, hat⟩ := HC.out k hlt
      cases hA
      obtain ⟨s, hs⟩ : ∃ s, s = l[k] := ⟨_, rfl⟩
      rw [← hs] at hB hat
      clear hs
      have HLO := hid hB.1
      have HHI := hid hB.2
      have HRD := hid hrd
      have hgw : g < wr.heap.size := Nat.lt_of_lt_of_le hF hb.out.size
      have HAT := hid (hat.below hb.out hF)
      obtain ⟨c0, c1, c2, c3, c4, c5, c6, c7, c8, c9, c10, c11, c12, c13⟩ := HAT.out
      clear hat hB hrd
      have i1 : (0 : Int) ≤ ↑k := by omega
      have i2 : (↑k : Int) < ↑l.length := by omega
      go_wp2
      first
        | go_must (go_region_held3 (fun w' => w'.cell? ⟨g, o + k * 14, none⟩ = some (.int .i64 s.lo.en) ∧ w'.cell? ⟨g, o + k * 14 + 1, none⟩ = some (.int .i64 s.lo.v.major) ∧ w'.cell? ⟨g, o + k * 14 + 2, none⟩ = some (.int .i64 s.lo.v.minor) ∧ w'.cell? ⟨g, o + k * 14 + 3, none⟩ = some (.int .i64 s.lo.v.patch) ∧ w'.cell? ⟨g, o + k * 14 + 4, none⟩ = some (.string s.lo.v.pre) ∧ w'.cell? ⟨g, o + k * 14 + 5, none⟩ = some (.string s.lo.v.build) ∧ w'.cell? ⟨g, o + k * 14 + 6, none⟩ = some (.bool s.lo.after) ∧ w'.cell? ⟨g, o + k * 14 + 7, none⟩ = some (.int .i64 s.hi.en) ∧ w'.cell? ⟨g, o + k * 14 + 8, none⟩ = some (.int .i64 s.hi.v.major) ∧ w'.cell? ⟨g, o + k * 14 + 9, none⟩ = some (.int .i64 s.hi.v.minor) ∧ w'.cell? ⟨g, o + k * 14 + 10, none⟩ = some (.int .i64 s.hi.v.patch) ∧ w'.cell? ⟨g, o + k * 14 + 11, none⟩ = some (.string s.hi.v.pre) ∧ w'.cell? ⟨g, o + k * 14 + 12, none⟩ = some (.string s.hi.v.build) ∧ w'.cell? ⟨g, o + k * 14 + 13, none⟩ = some (.bool s.hi.after)) (first | exact ⟨by assumption, by assumption, by assumption, by assumption, by assumption, by assumption, by assumption, by assumption, by assumption, by assumption, by assumption, by assumption, by assumption, by assumption⟩ | go_keep)
            ((first
              | (go_at_call_of 118 (s.lo.en); go_must (refine (put_any _ l' s.lo _ (HRD.out.lift (b0 _).drew (Nat.le_refl _)) HLO.out hl1 (by omega)).mono ?_; rintro e w3 ⟨v3, l3, rfl, hrd3, hl31, hl32, hb3⟩; replace hb3 : Below wr.heap.size wr w3 := ((b0 wr).drew).trans hb3; have HR3 := hid hrd3; have HB4 := hid hb3; clear hrd3 hb3; obtain ⟨d0, d1, d2, d3, d4, d5, d6, d7, d8, d9, d10, d11, d12, d13⟩ := HAT.out.below HB4.out hgw))
              | (go_at_call_of 118 (s.hi.en); go_must (refine (put_any _ l3 s.hi _ HR3.out HHI.out hl31 (by omega)).mono ?_; rintro e w4 ⟨v4, l4, rfl, hrd4, hl41, hl42, hb4⟩; have HR4 := hid hrd4; have HB5 := hid (bstep HB4.out hb4); clear hrd4 hb4; obtain ⟨e0, e1, e2, e3, e4, e5, e6, e7, e8, e9, e10, e11, e12, e13⟩ := HAT.out.below HB5.out hgw)))))
        | fail
      all_goals go_wp2
      all_goals exact ⟨⟨k + 1, by omega, by go_num, hid ⟨l4, HR4.out, hl41, by omega⟩, hid (bstep hb.out HB5.out)⟩, by simp [intOf]; omega⟩
    · obtain ⟨A5, c5, rfl, -, -, -⟩ := hrd.cuts
      have HRD := hid hrd
      clear hrd
      go_wp2
      go_ret
      exact ⟨A5, c5, l', rfl, HRD.out, hl1, by omega, hb.out⟩
end Go.Proofs.YtilkhofgcgfnlaaGreat
