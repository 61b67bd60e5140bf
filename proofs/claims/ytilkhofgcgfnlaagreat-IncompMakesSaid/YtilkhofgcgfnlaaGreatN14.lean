/- Contract: incomp.Join. -/
import Derived.Test.YtilkhofgcgfnlaaGreatN11
import Derived.Test.YtilkhofgcgfnlaaGreatN12
import Derived.Test.YtilkhofgcgfnlaaGreatN13
import Derived.Outline
namespace Go.Proofs.YtilkhofgcgfnlaaGreat
open Go Go.RowKit

theorem filter_take {l : List Term} {k : Nat} (hk : k < l.length) (p : Term → Bool) : (l.take (k + 1)).filter p = if p l[k] then (l.take k).filter p ++ [l[k]] else (l.take k).filter p := by
  rw [List.take_succ_eq_append_getElem hk, List.filter_append]
  cases hp : p l[k] <;> simp [hp]
theorem two_slices {w : World} {x y : Value} {t : TypeId} : (w.alloc (.cells #[x, y] t)).cell? ⟨w.heap.size, 0, none⟩ = some x ∧ (w.alloc (.cells #[x, y] t)).cell? ⟨w.heap.size, 1, none⟩ = some y :=
  ⟨(alloc_cell w _ _ 0).trans rfl, (alloc_cell w _ _ 1).trans rfl⟩
set_option maxRecDepth 100000 in
set_option maxHeartbeats 4000000 in
theorem join_any (v lv bv : Value) (ns : List Nat) (Ma Mb : Nat → Nat) (unit : Int) (w : World) (h : UniRd w (Lt w.heap.size) v ns) (ho : NsOk ns) (hl : SliceRd tTerm w (Lt w.heap.size) lv (canon ns Ma)) (hbv : SliceRd tTerm w (Lt w.heap.size) bv (canon ns Mb)) (ha : IncOk ns Ma) (hM : IncOk ns Mb) :
    Calls Tryz.prog 22 #[v, lv, bv, .int .i64 unit] w (TermsPost (joinR ns Ma Mb unit) w) := by
  have HH := hid h
  have HO := hid ho
  have HL := hid hl
  have HBV := hid hbv
  have HA := hid ha
  have HM := hid hM
  have hla := canon_len (ns := ns) Ma
  have hlb := canon_len (ns := ns) Mb
  obtain ⟨g, cap0, rfl, hg, -⟩ := h
  obtain ⟨A, cap, hae, -⟩ := hl.terms
  have HAN := hid (show (canon ns Ma).length ≤ ns.length from hla)
  have HBN := hid (show (canon ns Mb).length ≤ ns.length from hlb)
  generalize (canon ns Ma).length = an at hae
  subst hae
  obtain ⟨B, bcap, hbe, -⟩ := hbv.terms
  generalize (canon ns Mb).length = bn at hbe
  subst hbe
  have h11 := ho.hi
  have h2 := ho.lo
  clear hl hbv ha hM ho hla hlb
  by_cases hun : 0 ≤ unit ∧ unit < ns.length
  · obtain ⟨un, rfl⟩ : ∃ un : Nat, unit = un := ⟨unit.toNat, by omega⟩
    have hunl : un < ns.length := by omega
    have HJ : Hid (joinR ns Ma Mb un = madeN ns (joinN Ma Mb un)) := hid (by unfold joinR; rw [if_neg (by omega)]; simp)
    have HMK := hid (join_make HO.out HA.out HM.out hunl)
    have u1 : ¬ ((un : Int) < 0) := by omega
    have u2 : ¬ ((ns.length : Int) ≤ un) := by omega
    obtain ⟨it, hit⟩ := info_parts term_info
    have HIT := hid hit
    clear hun hit
    go_enter Tryz.func22, Tryz.ntmps22
    go_wp2_with fail
    obtain ⟨w0, hw0⟩ : ∃ w0 : World, w0 = (w.alloc (.cells #[.slice (some ⟨g, 0, none⟩) ns.length cap0] 27)).alloc (.cells #[.slice A an cap, .slice B bn bcap] 23) := ⟨_, rfl⟩
    have hb0 : Below w.heap.size w w0 := by rw [hw0]; exact balloc (balloc (b0 w) _) _
    have hs0 : w0.heap.size = w.heap.size + 2 := by rw [hw0]; simp
    have hl0 : w.heap.size < w0.heap.size := by omega
    have q0 : w0.cell? ⟨w.heap.size, 0, none⟩ = some (.slice (some ⟨g, 0, none⟩) ns.length cap0) := by
      rw [hw0]
      exact cell_below (balloc (b0 (w.alloc _)) _) (by simp) ((alloc_cell w _ _ 0).trans rfl)
    have q12 := two_slices (w := w.alloc (.cells #[.slice (some ⟨g, 0, none⟩) ns.length cap0] 27)) (x := .slice A an cap) (y := .slice B bn bcap) (t := 23)
    rw [← hw0, World.size_alloc] at q12
    have HB0 := hid hb0
    have HQ := hid q0
    have HU0 := hid (uni_later HH.out hb0)
    have HL0 := hid (HL.out.lift hb0 hb0.size)
    have HBV0 := hid (HBV.out.lift hb0 hb0.size)
    rw [← hw0]
    clear hw0 hb0 q0
    refine (concat_any (w.heap.size + 1) _ _ (canon ns Ma) (canon ns Mb) w0 (by omega) q12.1 q12.2 HL0.out HBV0.out (by have := HAN.out; have := HBN.out; omega)).mono ?_
    rintro e w1 ⟨cv, rfl, hown1, hb1⟩
    obtain ⟨Ac, cc, rfl⟩ := hown1.form
    have hll : (canon ns Ma ++ canon ns Mb).length ≤ 22 := by rw [List.length_append]; have := HAN.out; have := HBN.out; omega
    have HRD := hid hown1.rd
    have HB1 := hid hb1
    have HLL := hid hll
    have HJL : Hid ((canon ns Ma ++ canon ns Mb).filter (fun t => t.unit != (un : Int)) ++ [⟨(un : Int), ((Ma un ||| Mb un : Nat) : Int)⟩] = joinL ns Ma Mb un) := hid rfl
    clear hown1 hb1 q12
    generalize canon ns Ma ++ canon ns Mb = l at *
    obtain ⟨A', cap', hcv, -, -, hc⟩ := HRD.out.terms
    have HC := hid hc
    have e1 : Ac = A' := by injection hcv
    subst e1
    clear hc hcv
    go_wp2_with fail
    go_loopw [10, 12, 27] (fun ov _ iv wr => ∃ k : Nat, k ≤ l.length ∧ iv = .int .i64 k ∧ Hid (OwnF fTerm 31 w1.heap.size wr ov ((l.take k).filter fun t => t.unit != (un : Int))) ∧ Hid (Below w1.heap.size w1 wr)) (fun _ _ iv _ => l.length - (intOf iv).toNat)
    case atStart => exact ⟨0, Nat.zero_le _, rfl, hid (OwnF.nil _ _ _ _), hid (b0 w1)⟩
    case round =>
      obtain ⟨k, hk, rfl, hown, hb⟩ := hrel
      obtain ⟨Ao, co, rfl⟩ := hown.out.form
      by_cases hlt : k < l.length
      · obtain ⟨gg, o, hA, hF, g0, g1, i64u, i64m⟩ := HC.out k hlt
        subst hA
        have c0 := cell_below hb.out hF g0
        have c1 := cell_below hb.out hF g1
        have i1 : (0 : Int) ≤ ↑k := by omega
        have i2 : (↑k : Int) < ↑l.length := by omega
        have hfl : ((l.take k).filter fun t => t.unit != (un : Int)).length ≤ 22 := Nat.le_trans (List.length_filter_le _ _) (by rw [List.length_take]; omega)
        have hft := filter_take hlt (fun t => t.unit != (un : Int))
        have hmk : l[k] = ⟨l[k].unit, l[k].mask⟩ := rfl
        rw [hmk] at hft
        obtain ⟨a, hae⟩ : ∃ a, l[k].unit = a := ⟨_, rfl⟩
        obtain ⟨m, hme⟩ : ∃ m, l[k].mask = m := ⟨_, rfl⟩
        rw [hae] at c0 hft i64u
        rw [hme] at c1 hft i64m
        have HI := hid (And.intro i64u i64m)
        clear g0 g1 hae hme hmk i64u i64m
        by_cases he : a = un
        · subst he
          have HFT := hid (show (l.take (k + 1)).filter (fun t => t.unit != (un : Int)) = (l.take k).filter (fun t => t.unit != (un : Int)) by rw [hft]; simp)
          have z1 : ((un : Int) != (un : Int)) = false := by simp
          clear hft
          go_wp2_with fail
          exact ⟨⟨k + 1, by omega, by go_num, hid (by rw [HFT.out]; exact hown.out.below (balloc (b0 wr) _) (Nat.le_refl _)), hid (balloc hb.out _)⟩, by simp [intOf]; omega⟩
        · have HFT := hid (show (l.take (k + 1)).filter (fun t => t.unit != (un : Int)) = (l.take k).filter (fun t => t.unit != (un : Int)) ++ [⟨a, m⟩] by rw [hft, if_pos (by simpa using he)])
          have z1 : (a != (un : Int)) = true := by simpa using he
          generalize (l.take k).filter (fun t => t.unit != (un : Int)) = L at hown hfl HFT
          clear hft he
          go_wp2_with (at_builtin; go_must (refine wpList_append_src _ rfl (.tmp 35) (.tmp 37) _ rfl w1.heap.size 31 it _ 2 16 Tryz.underlying23 HIT.out.1 HIT.out.2.1 HIT.out.2.2.1 HIT.out.2.2.2 rfl (by omega) (.slice Ao L.length co) L.length (fTerm.all L) (by rfl) (by exact (hown.out.1.alloc _).alloc _) _ 1 1 (fTerm.cells ⟨a, m⟩) (by rfl) (by exact src_new _ _ (by simp) 2 _ rfl rfl) (by simp [fTerm, Value.oneCell']) (by unfold maxLen; omega) (by omega) (by have := hb.out.size; simp; omega) ?_; intro v5 w5 hown5 hg5 hat5; have HO5 := hid (hown.out.snoc (e := 31) (B := w1.heap.size) (v' := v5) (show fTerm.ok ⟨a, m⟩ from HI.out) hown5); have HB5 := hid (own_app (v2 := v5) (balloc (balloc hb.out _) _) ((hown.out.alloc _).alloc _) (by have := hb.out.size; simp; omega) hg5 rfl); clear hown5 hg5 hat5))
          exact ⟨⟨k + 1, by omega, by go_num, hid (by rw [HFT.out]; exact HO5.out), HB5⟩, by simp [intOf]; omega⟩
      · have hkl : k = l.length := by omega
        have hfin : (l.take k).filter (fun t => t.unit != (un : Int)) = l.filter (fun t => t.unit != (un : Int)) := by rw [List.take_of_length_le (by omega)]
        rw [hfin] at hown ⊢
        have hfl : (l.filter fun t => t.unit != (un : Int)).length ≤ 22 := Nat.le_trans (List.length_filter_le _ _) hll
        have HUNI64 : Hid (I64 (un : Int) ∧ I64 (((Ma un ||| Mb un : Nat)) : Int)) := hid ⟨⟨by omega, by omega⟩, i64_small (or_le31 (HA.out.le HO.out un hunl) (HM.out.le HO.out un hunl))⟩
        have hor := or_fact (Ma un) (Mb un) (HA.out.le HO.out un hunl) (HM.out.le HO.out un hunl)
        have e1 : maskF ns (canon ns Ma) un = (Ma un : Nat) := by rw [mask_canon, maskN_nat _ hunl]
        have e2 : maskF ns (canon ns Mb) un = (Mb un : Nat) := by rw [mask_canon, maskN_nat _ hunl]
        have hbr := bstep HB1.out hb.out
        have hdr : Below wr.heap.size wr wr.drew := (b0 wr).drew
        have hbd := bstep hbr hdr
        have hld : w.heap.size < wr.heap.size := Nat.lt_of_lt_of_le hl0 hbr.size
        have hd := cell_below hbr hl0 HQ.out
        have hd1 := cell_below HB1.out hl0 HQ.out
        have hmA := mask_any _ _ ns (canon ns Ma) un wr.drew (uni_later HU0.out hbd) HO.out (HL0.out.lift hbd hbd.size)
        rw [e1] at hmA
        have HMA := hid hmA
        have HMB := hid (fun w2 (hb2 : Below wr.drew.heap.size wr.drew w2) => e2 ▸ mask_any _ _ ns (canon ns Mb) un w2 (uni_later (uni_later HU0.out hbd) hb2) HO.out ((HBV0.out.lift hbd hbd.size).lift hb2 hb2.size))
        generalize Ma un ||| Mb un = ro at hor HUNI64 HJL
        generalize Ma un = ma at hor HMA
        generalize Mb un = mb at hor HMB
        generalize (l.filter fun t => t.unit != (un : Int)) = L at hown hfl HJL ⊢
        clear hfin hmA e1 e2
        go_wp2_with fail
        go_region_law ((first
          | (refine step_guard (.tmp 41) (.tmp 53) 23 rfl ?_; refine step_append_src _ rfl (.tmp 41) (.tmp 53) 23 rfl w1.heap.size 31 it _ 2 16 Tryz.underlying23 HIT.out.1 HIT.out.2.1 HIT.out.2.2.1 HIT.out.2.2.2 rfl (by omega) (.slice Ao L.length co) L.length (fTerm.all L) (by rfl) (by exact HO3.out.1.alloc _) _ 1 1 (fTerm.cells ⟨(un : Int), (ro : Int)⟩) (by rfl) (by exact src_new _ _ rfl 2 _ rfl rfl) (by simp [fTerm, Value.oneCell']) (by unfold maxLen; omega) (by omega) (by have := HB3.out.size; simp; omega) ?_; intro v5 w5 hown5 hg5 hat5; have HO5 := hid (HO3.out.snoc (e := 31) (B := w1.heap.size) (v' := v5) (show fTerm.ok ⟨(un : Int), (ro : Int)⟩ from HUNI64.out) hown5); have HB5 := hid (own_app (v2 := v5) (balloc HB3.out _) (HO3.out.alloc _) (by have := HB3.out.size; simp; omega) hg5 rfl); have d5 := cell_below HB5.out (Nat.lt_of_lt_of_le hl0 HB1.out.size) hd1; clear hown5 hg5 hat5)
          | (go_simp; go_at_call_of 45 cap; refine HMA.out.mono ?_; rintro e w2 ⟨rfl, hb2⟩; have d2 := cell_below (bstep hdr hb2) hld hd; have HB2 := hid hb2; clear hb2)
          | (go_simp; go_at_call_of 45 bcap; refine (HMB.out _ HB2.out).mono ?_; rintro e w3 ⟨rfl, hb3⟩; have HW3 := hid (bstep hdr (bstep HB2.out hb3)); have d3 := cell_below HW3.out hld hd; have HB3 := hid (bstep hb.out HW3.out); have hlt3 : w.heap.size < w3.heap.size := Nat.lt_of_lt_of_le hld HW3.out.size; have HO3 := hid (hown.out.below HW3.out (Nat.le_refl _)); clear hb3)
          | (go_simp; go_at_call 13; refine (make_any _ _ ns (joinL ns Ma Mb un) _ (uni_later HU0.out (bstep HB1.out HB5.out)) HO.out (by rw [← HJL.out]; exact HO5.out.rd) (by rw [← HJL.out]; simp; omega)).mono ?_; rintro e w6 ⟨sv, rfl, hrd, hb6⟩)))
        all_goals go_wp2_with fail
        all_goals go_ret2
        all_goals exact ⟨_, by rw [HJ.out, ← HMK.out]; rfl, by rw [HJ.out, ← HMK.out]; exact hrd, bstep HB0.out (bstep HB1.out (bstep HB5.out hb6))⟩
  · have HJ : Hid (joinR ns Ma Mb unit = none) := hid (by unfold joinR; rw [if_pos (by omega)])
    by_cases hneg : unit < 0
    · clear hun
      go_enter Tryz.func22, Tryz.ntmps22
      go_wp2_with fail
      go_ret2
      exact ⟨_, by rw [HJ.out]; rfl, by rw [HJ.out]; exact SliceRd.nil _ _ _, balloc (b0 w) _⟩
    · have hbig : (ns.length : Int) ≤ unit := by omega
      clear hun
      go_enter Tryz.func22, Tryz.ntmps22
      go_wp2_with fail
      go_ret2
      exact ⟨_, by rw [HJ.out]; rfl, by rw [HJ.out]; exact SliceRd.nil _ _ _, balloc (b0 w) _⟩
end Go.Proofs.YtilkhofgcgfnlaaGreat
