import Derived.Test.YtmbjeppnamhgiaaGreatzT15
import Derived.Outline
import Derived.Test.YtmbjeppnamhgiaaGreatN10
import Derived.Test.YtmbjeppnamhgiaaGreatzT1
section
/- Contract: ref24.before. -/
namespace Go.Proofs.YtmbjeppnamhgiaaGreat
open Go Go.RowKit

theorem leftOk_take {ns : List Nat} {db : Nat → Nat → Nat} {D : Nat} {l : List StepN} {s : StepN} (ho : NsOk ns) (h : TrOk ns db D (l ++ [s])) (k : Nat) : LeftOk ns (l.take k ++ [s]) := by
  intro u hu
  have h1 := h.left ho u hu
  have h2 := (h.init.1.take k).left ho u hu
  rw [left_snoc] at h1 ⊢
  by_cases e : s.u = u
  · rw [if_pos e] at h1 ⊢
    exact h1.2
  · rw [if_neg e]
    exact h2.2
set_option maxRecDepth 100000 in
set_option maxHeartbeats 8000000 in
theorem rbefore_any (v lv iv : Value) (ns : List Nat) (db : Nat → Nat → Nat) (D : Nat) (l : List StepN) (s : StepN) (M : Nat → Nat) (w : World) (h : UniRd w (Lt w.heap.size) v ns) (ho : NsOk ns) (hl : SliceRd fStep.ty w (Lt w.heap.size) lv l) (hll : l.length ≤ 900) (ht : TrOk ns db D (l ++ [s])) (hsok : fStep.ok s) (hi : SliceRd tTerm w (Lt w.heap.size) iv (canon ns M)) (hM : IncOk ns M) (hsu : Sure ns (l ++ [s]) M) :
    Calls Tryz.prog 48 #[v, lv, .agg #[.int .i64 s.u, .int .i64 s.m, .int .i64 s.lv, .int .i64 s.c], iv] w fun e w' => e = .returned (.int .i64 (befN ns l s M)) ∧ Below w.heap.size w w' := by
  obtain ⟨it, hit⟩ := info_parts step_info
  have HIT := hid hit
  have HH := hid h
  have HO := hid ho
  have HM := hid hM
  have HI := hid hi
  have HL := hid hl
  have HT := hid ht
  have HSOK := hid hsok
  have HSU := hid hsu
  have h11 := ho.hi
  obtain ⟨g, cap0, rfl, hg, -⟩ := h
  obtain ⟨A, cap, rfl, hca, hcm, -⟩ := hl.steps
  obtain ⟨Ai, ci, rfl, -⟩ := hi.terms
  generalize (canon ns M).length = li at *
  unfold maxLen at hcm
  have hsrc := hl.srcF
  have HOKL := hid hsrc.2.2
  obtain ⟨ln, hln⟩ : ∃ ln, l.length = ln := ⟨_, rfl⟩
  have HLN := hid hln
  rw [hln] at hll hca HL ⊢
  have hex : befN ns l s M = levelN (l.take (befK ns l s M)) := rfl
  have HEX := hid hex
  have HSU2 := hid (fun (h : l.take ln = l) => h)
  obtain ⟨su, sm, sl, sc⟩ := s
  clear hit ho hl ht hsrc hM hsok hsu hex
  go_enter Tryz.func48, Tryz.ntmps48
  go_wp2_with fail
  obtain ⟨w0, hw0⟩ : ∃ w0 : World, w0 = (w.alloc (.cells #[.slice (some ⟨g, 0, none⟩) ns.length cap0] 26)).alloc (.cells #[.int .i64 su, .int .i64 sm, .int .i64 sl, .int .i64 sc] 98) := ⟨_, rfl⟩
  have hb0 : Below w.heap.size w w0 := hw0 ▸ balloc (balloc (b0 w) _) _
  have hz1 : w.heap.size + 1 < w0.heap.size := by rw [hw0]; simp
  have q0 : w0.cell? ⟨w.heap.size, 0, none⟩ = some (.slice (some ⟨g, 0, none⟩) ns.length cap0) := by rw [hw0]; exact alloc2_old rfl
  have s0 : w0.cell? ⟨w.heap.size + 1, 0, none⟩ = some (.int .i64 su) := by rw [hw0]; exact alloc2_new rfl
  have s1 : w0.cell? ⟨w.heap.size + 1, 1, none⟩ = some (.int .i64 sm) := by rw [hw0]; exact alloc2_new rfl
  have s2 : w0.cell? ⟨w.heap.size + 1, 2, none⟩ = some (.int .i64 sl) := by rw [hw0]; exact alloc2_new rfl
  have s3 : w0.cell? ⟨w.heap.size + 1, 3, none⟩ = some (.int .i64 sc) := by rw [hw0]; exact alloc2_new rfl
  have HB0 := hid hb0
  rw [← hw0]
  clear hw0 hb0
  go_loopw [9] (fun iv wr => ∃ k : Nat, k ≤ ln ∧ iv = .int .i64 k ∧ Hid (Below w0.heap.size w0 wr) ∧ Hid (∀ j, j < k → ¬ Sure ns (l.take j ++ [⟨su, sm, sl, sc⟩]) M)) (fun iv _ => ln + 1 - (intOf iv).toNat)
  case atStart => exact ⟨0, Nat.zero_le _, rfl, hid (b0 w0), hid (fun j hj => absurd hj (by omega))⟩
  case round =>
    obtain ⟨k, hk, rfl, hb, hn⟩ := hrel
    have i1 : (↑k : Int) ≤ ↑ln := by omega
    have i0 : (0 : Int) ≤ ↑k := by omega
    have i2 : (↑k : Int) ≤ ↑cap := by omega
    have hbr := HB0.out.trans (hb.out.mono HB0.out.size)
    have HBR := hid hbr
    have HBW := hid (b0 wr)
    have hzr : w.heap.size + 1 < wr.heap.size := Nat.lt_of_lt_of_le hz1 hb.out.size
    have q1 := cell_below hb.out (by omega) q0
    have r0 := cell_below hb.out hz1 s0
    have r1 := cell_below hb.out hz1 s1
    have r2 := cell_below hb.out hz1 s2
    have r3 := cell_below hb.out hz1 s3
    have HK := hid hk
    have hlt : (l.take k).length = k := by rw [List.length_take, HLN.out]; exact Nat.min_eq_left hk
    have HLT := hid hlt
    have HTK := hid (fun (W : World) (hb : Below w.heap.size w W) => (HL.out.lift hb hb.size).takeN (k := k) (by rw [HLN.out]; exact hk))
    have hst := fun (W : World) (hb : Below w.heap.size w W) => (HTK.out W hb).srcF.2.1
    rw [hlt] at hst
    have HS1 := hid (fun (W : World) (hb2 : Below wr.heap.size wr W) => hst W (hbr.trans (hb2.mono hbr.size)))
    have HBX := hid (b0 wr)
    have HOKT := hid (fun x (hx : x ∈ l.take k) => HOKL.out x (List.mem_of_mem_take hx))
    clear hst hbr hlt
    have hlv0 := (HT.out.init.1.take k).level_le
    have HLV := hid (fun (W : World) (hb : Below w.heap.size w W) => rlevel_any _ (l.take k) W (HTK.out W hb))
    have HBEF := hid (fun (h : sureB ns (l.take k ++ [⟨su, sm, sl, sc⟩]) M = true) => show befN ns l ⟨su, sm, sl, sc⟩ M = levelN (l.take k) by rw [HEX.out, Bef.eq (k := k) ⟨by rw [HLN.out]; exact hk, sureB_iff.1 h, hn.out⟩])
    have HNOT := hid (fun (h : sureB ns (l.take k ++ [⟨su, sm, sl, sc⟩]) M = false) => show ¬ Sure ns (l.take k ++ [⟨su, sm, sl, sc⟩]) M ∧ k + 1 ≤ ln by
      have h1 : ¬ Sure ns (l.take k ++ [⟨su, sm, sl, sc⟩]) M := fun hs => by rw [sureB_iff.2 hs] at h; cases h
      refine ⟨h1, ?_⟩
      by_cases e : k = ln
      · exfalso
        apply h1
        rw [e, ← HLN.out, List.take_length]
        exact HSU.out
      · omega)
    clear hlv0
    generalize hsb : sureB ns (l.take k ++ [⟨su, sm, sl, sc⟩]) M = sb at *
    have HSB := hid hsb
    clear hsb
    go_wp2_with fail
    go_region_law ((first | (refine step_guard (.const (.slice none 0 0)) (.tmp 19) 31 rfl ?_; refine step_append_src _ rfl (.const (.slice none 0 0)) (.tmp 19) 31 rfl wr.heap.size 98 it _ 4 32 Tryz.underlying31 HIT.out.1 HIT.out.2.1 HIT.out.2.2.1 HIT.out.2.2.2 rfl (by omega) (.slice none 0 0) (0) ([]) (by rfl) (own_noneF _ _ _ _) (A) (k) (cap) (fStep.all (l.take k)) (by rfl) (HS1.out _ (by repeat (first | (with_reducible exact HBW.out) | (with_reducible exact HW1.out) | (with_reducible exact HW2.out) | (with_reducible exact b0 _) | (with_reducible refine balloc ?_ _) | (with_reducible refine bdrew ?_)))) (fStep.all_one _) (by unfold maxLen; omega) (by omega) (Below.size (B := wr.heap.size) (w := wr) (by repeat (first | (with_reducible exact HBW.out) | (with_reducible exact HW1.out) | (with_reducible exact HW2.out) | (with_reducible exact b0 _) | (with_reducible refine balloc ?_ _) | (with_reducible refine bdrew ?_)))) ?_; intro v1 w1 hown1 hg1 hat1; have HW1 := hid (own_below (w := wr) HBW.out (by repeat (first | (with_reducible exact HBW.out) | (with_reducible exact HW1.out) | (with_reducible exact HW2.out) | (with_reducible exact b0 _) | (with_reducible refine balloc ?_ _) | (with_reducible refine bdrew ?_))) hg1); have hbc1 := own_cells (b := wr.heap.size) hg1 (by simp); simp only [Nat.zero_add, List.nil_append] at hown1; obtain ⟨A1, c1, rfl⟩ := own_form hown1; have HO1 := hid hown1; have HG1 := hid hg1; clear hown1 hg1 hat1) | (refine step_guard (.tmp 20) (.tmp 22) 31 rfl ?_; refine step_append_src _ rfl (.tmp 20) (.tmp 22) 31 rfl wr.heap.size 98 it _ 4 32 Tryz.underlying31 HIT.out.1 HIT.out.2.1 HIT.out.2.2.1 HIT.out.2.2.2 rfl (by omega) (.slice A1 (k) c1) (k) (fStep.all (l.take k)) (by rfl) (by first | exact HO1.out | exact own_alloc_drew HO1.out _ | exact HO1.out.alloc _) (some ⟨w1.heap.size, 0, none⟩) (1) (1) (fStep.cells ⟨su, sm, sl, sc⟩) (by rfl) (by first | exact src_new _ _ rfl 4 _ rfl rfl | exact src_new_drew _ _ rfl 4 _ rfl rfl) (by simp [fStep, Value.oneCell']) (by unfold maxLen; omega) (by omega) (Below.size (B := wr.heap.size) (w := wr) (by repeat (first | (with_reducible exact HBW.out) | (with_reducible exact HW1.out) | (with_reducible exact HW2.out) | (with_reducible exact b0 _) | (with_reducible refine balloc ?_ _) | (with_reducible refine bdrew ?_)))) ?_; intro v2 w2 hown2 hg2 hat2; have HW2 := hid (own_below2 HO1.out HW1.out (by repeat (first | (with_reducible exact HBW.out) | (with_reducible exact HW1.out) | (with_reducible exact HW2.out) | (with_reducible exact b0 _) | (with_reducible refine balloc ?_ _) | (with_reducible refine bdrew ?_))) hg2); obtain ⟨A2, c2, rfl⟩ := own_form hown2; have HO2 := hid hown2; clear hown2 hg2 hat2) | (refine step_guard (.tmp 20) (.tmp 22) 31 rfl ?_; refine step_append_src _ rfl (.tmp 20) (.tmp 22) 31 rfl wr.heap.size 98 it _ 4 32 Tryz.underlying31 HIT.out.1 HIT.out.2.1 HIT.out.2.2.1 HIT.out.2.2.2 rfl (by omega) (.slice A1 (k) c1) (k) (fStep.all (l.take k)) (by rfl) (by first | exact HO1.out | exact own_alloc_drew HO1.out _ | exact HO1.out.alloc _) (some ⟨wr.heap.size, 0, none⟩) (1) (1) (fStep.cells ⟨su, sm, sl, sc⟩) (by rfl) (by first | exact src_grown (src_new _ _ rfl 4 _ rfl rfl) HG1.out (by simp) | exact src_grown (src_new_drew _ _ rfl 4 _ rfl rfl) HG1.out (by simp)) (by simp [fStep, Value.oneCell']) (by unfold maxLen; omega) (by omega) (Below.size (B := wr.heap.size) (w := wr) (by repeat (first | (with_reducible exact HBW.out) | (with_reducible exact HW1.out) | (with_reducible exact HW2.out) | (with_reducible exact b0 _) | (with_reducible refine balloc ?_ _) | (with_reducible refine bdrew ?_)))) ?_; intro v2 w2 hown2 hg2 hat2; have HW2 := hid (own_below2 HO1.out HW1.out (by repeat (first | (with_reducible exact HBW.out) | (with_reducible exact HW1.out) | (with_reducible exact HW2.out) | (with_reducible exact b0 _) | (with_reducible refine balloc ?_ _) | (with_reducible refine bdrew ?_))) hg2); obtain ⟨A2, c2, rfl⟩ := own_form hown2; have HO2 := hid hown2; clear hown2 hg2 hat2)))
    all_goals
      have hnw := own_snocF HLT.out HOKT.out HSOK.out HO2.out
      have HB2 := hid (bstep hb.out HW2.out)
      have hb2 := HBR.out.trans (HW2.out.mono HBR.out.size)
      have HBW2 := hid hb2
      have y0 := cell_below HW2.out (by omega) q1
      have hnr := hnw.rd
      have HSR := hid (rsure_any _ _ _ ns (l.take k ++ [⟨su, sm, sl, sc⟩]) M w2 (uni_later HH.out hb2) HO.out hnr (leftOk_take HO.out HT.out k) (HI.out.lift hb2 hb2.size) HM.out)
      rw [HSB.out] at HSR
      clear hnw hb2 hnr
      go_wp2_with fail
      refine HSR.out.mono ?_
      rintro e w3 ⟨rfl, hb3⟩
      have HB3 := hid (bstep HB2.out hb3)
      have HBW3 := hid (bstep HBW2.out hb3)
      have hb33 := hb3
      clear hb3
      cases sb with
      | true =>
        have HRES := hid (HBEF.out rfl)
        go_wp2_with fail
        refine (HLV.out _ HBW3.out).mono ?_
        rintro e w4 ⟨rfl, hw4⟩
        rw [hw4]
        clear hw4
        go_wp2
        go_ret
        exact ⟨ret_int (by rw [HRES.out]), HBW3.out⟩
      | false =>
        obtain ⟨hn1, hn2⟩ := HNOT.out rfl
        have HN1 := hid hn1
        clear hn1
        go_wp2
        exact ⟨⟨k + 1, hn2, by go_num, HB3, hid (fun j hj => if e : j = k then by subst e; exact HN1.out else hn.out j (by omega))⟩, by simp [intOf]; omega⟩
end Go.Proofs.YtmbjeppnamhgiaaGreat
end
section
/- Contract: ref21.Join. -/
namespace Go.Proofs.YtmbjeppnamhgiaaGreat
open Go Go.RowKit

/-- What a Join gives. -/
def joinR (ns : List Nat) (Ma Mb : Nat → Nat) (unit : Int) : Option (List Term) := if unit < 0 ∨ (ns.length : Int) ≤ unit then none else madeN ns (joinN Ma Mb unit.toNat)
def upto (ns : List Nat) (J : Nat → Nat) (k : Nat) : Nat → Nat := fun v => if v < k then J v else fullN ns v
theorem or_fact (a b : Nat) (ha : a ≤ 31) (hb : b ≤ 31) : bits .or .i64 (a : Int) (b : Int) = ((a ||| b : Nat) : Int) := by
  have h1 : nm (a : Int) = a := nm_nat (by omega)
  have h2 : nm (b : Int) = b := nm_nat (by omega)
  have h3 := or_le31 ha hb
  rw [bor _ _ (by rw [h1, h2]; omega), h1, h2]
theorem and_fact2 (a b : Nat) (ha : a ≤ 31) (hb : b ≤ 31) : bits .and .i64 (a : Int) (b : Int) = ((a &&& b : Nat) : Int) := by
  rw [and_fact a b ha, nm_nat (by omega)]
theorem upto_set (ns : List Nat) (J : Nat → Nat) (k : Nat) : masksL (fun v => if v = k then J k else upto ns J k v) ns.length = masksL (upto ns J (k + 1)) ns.length := masksL_congr fun v _ => by
  unfold upto
  by_cases e : v = k
  · subst e; simp
  · by_cases h : v < k
    · simp [e, h, show v < k + 1 by omega]
    · simp [e, h, show ¬ v < k + 1 by omega]
set_option maxRecDepth 100000 in
set_option maxHeartbeats 4000000 in
theorem rjoin_new (v lv bv : Value) (ns : List Nat) (Ma Mb : Nat → Nat) (unit : Int) (w : World) (h : UniRd w (Lt w.heap.size) v ns) (ho : NsOk ns) (hl : SliceRd tTerm w (Lt w.heap.size) lv (canon ns Ma)) (hbv : SliceRd tTerm w (Lt w.heap.size) bv (canon ns Mb)) (ha : IncOk ns Ma) (hM : IncOk ns Mb) :
    Calls Tryz.prog 28 #[v, lv, bv, .int .i64 unit] w (TermsNew (joinR ns Ma Mb unit) w) := by
  have HH := hid h
  have HO := hid ho
  have HL := hid hl
  have HBV := hid hbv
  have HA := hid ha
  have HM := hid hM
  obtain ⟨g, cap0, rfl, hg, -⟩ := h
  obtain ⟨A, cap, hae, -⟩ := hl.terms
  generalize (canon ns Ma).length = an at hae
  subst hae
  obtain ⟨B, bcap, hbe, -⟩ := hbv.terms
  generalize (canon ns Mb).length = bn at hbe
  subst hbe
  have h11 := ho.hi
  have h2 := ho.lo
  clear hl hbv ha hM ho
  by_cases hun : 0 ≤ unit ∧ unit < ns.length
  · obtain ⟨un, rfl⟩ : ∃ un : Nat, unit = un := ⟨unit.toNat, by omega⟩
    have HJ : Hid (joinR ns Ma Mb un = madeN ns (joinN Ma Mb un)) := hid (by unfold joinR; rw [if_neg (by omega)]; simp)
    have u1 : ¬ ((un : Int) < 0) := by omega
    have u2 : ¬ ((ns.length : Int) ≤ un) := by omega
    clear hun
    go_enter Tryz.func28, Tryz.ntmps28
    go_wp2_with fail
    obtain ⟨w0, hw0⟩ : ∃ w0 : World, w0 = w.alloc (.cells #[.slice (some ⟨g, 0, none⟩) ns.length cap0] 26) := ⟨_, rfl⟩
    have hb0 : Below w.heap.size w w0 := hw0 ▸ balloc (b0 w) _
    have hl0 : w.heap.size < w0.heap.size := by rw [hw0]; simp
    have q0 : w0.cell? ⟨w.heap.size, 0, none⟩ = some (.slice (some ⟨g, 0, none⟩) ns.length cap0) := by rw [hw0, alloc_cell]; rfl
    have HB0 := hid hb0
    have HQ := hid q0
    have HU0 := hid (uni_later HH.out hb0)
    have HL0 := hid (HL.out.lift hb0 hb0.size)
    have HBV0 := hid (HBV.out.lift hb0 hb0.size)
    rw [← hw0]
    clear hw0 hb0 q0
    refine (fulls_any _ ns _ HU0.out HO.out).mono ?_
    rintro e w1 ⟨mv, rfl, hown1, hb1⟩
    obtain ⟨gb, cb, hmv, hgb, hgl, hfz⟩ := hown1.block (by rw [masksL_len]; omega)
    have hml := masksL_len (fullN ns) ns.length
    rw [hml] at hmv
    subst hmv
    have HOWN1 := hid hown1
    have HB1 := hid hb1
    clear hown1 hb1 hfz hml
    go_wp2_with fail
    go_loopw [11, 12, 13] (fun iv _ _ wr => ∃ k : Nat, k ≤ ns.length ∧ iv = .int .i64 k ∧ Hid (OwnF fInt 3 w0.heap.size wr (.slice (some ⟨gb, 0, none⟩) ns.length cb) (masksL (upto ns (joinN Ma Mb un) k) ns.length)) ∧ Hid (Below w0.heap.size w0 wr)) (fun iv _ _ _ => ns.length - (intOf iv).toNat)
    case atStart => exact ⟨0, Nat.zero_le _, rfl, hid (by rw [masksL_congr (M' := fullN ns) (fun u _ => by unfold upto; rw [if_neg (by omega)])]; exact HOWN1.out), HB1⟩
    case round =>
      obtain ⟨k, hk, rfl, hown, hb⟩ := hrel
      by_cases hlt : k < ns.length
      · have d0 := cell_below hb.out hl0 HQ.out
        have l0 := later_cell (Nat.lt_of_lt_of_le hl0 hb.out.size) d0
        have hur := uni_later HU0.out hb.out
        have hlr := HL0.out.lift hb.out hb.out.size
        have hbr := HBV0.out.lift hb.out hb.out.size
        have hka : I64 (k : Int) := ⟨by omega, by omega⟩
        have e1 : maskF ns (canon ns Ma) k = (Ma k : Nat) := by rw [mask_canon, maskN_nat _ hlt]
        have e2 : maskF ns (canon ns Mb) k = (Mb k : Nat) := by rw [mask_canon, maskN_nat _ hlt]
        have HCA := hid (fun e : Later wr => e1 ▸ rmask_any _ _ ns (canon ns Ma) k e.w (uni_lat hur e) HO.out (hlr.lift e.below e.below.size) hka)
        have HCB := hid (fun e : Later wr => e2 ▸ rmask_any _ _ ns (canon ns Mb) k e.w (uni_lat hur e) HO.out (hbr.lift e.below e.below.size) hka)
        have hma := HA.out.le HO.out k hlt
        have hmb := HM.out.le HO.out k hlt
        have hand := and_fact2 (Ma k) (Mb k) hma hmb
        have hor := or_fact (Ma k) (Mb k) hma hmb
        have i1 : (0 : Int) ≤ ↑k := by omega
        have i2 : (↑k : Int) < ↑ns.length := by omega
        have hgbw : gb < wr.heap.size := by
          obtain ⟨g', c', e3, -, e4, -⟩ := hown.out.block (by rw [masksL_len]; omega)
          injection e3 with e3
          injection e3 with e3
          injection e3 with e3
          subst e3
          exact e4
        have HJK : Hid (joinN Ma Mb un k = if k = un then Ma k ||| Mb k else Ma k &&& Mb k) := hid rfl
        have HA31 := hid (Nat.le_trans (Nat.and_le_left (n := Ma k) (m := Mb k)) hma)
        have HO31 := hid (or_le31 hma hmb)
        clear hur hlr hbr hka e1 e2
        generalize hra : Ma k &&& Mb k = ra at hand HJK HA31
        generalize hro : Ma k ||| Mb k = ro at hor HJK HO31
        generalize Ma k = ma at *
        generalize Mb k = mb at *
        clear hra hro
        go_wp2_with fail
        (refine wp_region_later (by kernel_rfl) (by kernel_rfl) ?_; (repeat (go_big_quiet_step (((first | (go_at_call_of 27 bcap; exact Calls.later (HCB.out _) rfl) | (go_at_call_of 27 cap; exact Calls.later (HCA.out _) rfl)))))); refine wpQuiet_nil ?_; rintro _ ⟨e1, rfl⟩)
        obtain ⟨w2, hw2⟩ : ∃ w2 : World, w2 = e1.w := ⟨_, rfl⟩
        have hb2 : Below wr.heap.size wr w2 := hw2 ▸ e1.below
        rw [← hw2]
        have HOW := hid (hown.out.below hb2 (Nat.le_refl _))
        have HB2 := hid (bstep hb.out hb2)
        have xf : ∀ o, w2.frozen? ⟨gb, o, none⟩ = false := by
          obtain ⟨g', c', e3, -, -, e2⟩ := HOW.out.block (by rw [masksL_len]; omega)
          injection e3 with e3
          injection e3 with e3
          injection e3 with e3
          subst e3
          exact e2
        have x0 : ∃ y, w2.cell? ⟨gb, k, none⟩ = some (.int .i64 y) := by
          have h3 := masksL_len (upto ns (joinN Ma Mb un) k) ns.length
          exact ⟨_, int_cell (c := cb) (by rw [h3]; exact HOW.out) (u := k) (by rw [h3]; exact hlt)⟩
        obtain ⟨y, x0⟩ := x0
        have hset := ints_set HOW.out (g := gb) rfl (i := k) (by rw [masksL_len]; exact hlt) (ra : Int) (i64_small HA31.out)
        have hset2 := ints_set hset (g := gb) rfl (i := k) (by rw [List.length_set, masksL_len]; exact hlt) (ro : Int) (i64_small HO31.out)
        rw [List.set_set, masks_set] at hset2
        rw [masks_set] at hset
        have HS1 := hid hset
        have HS2 := hid hset2
        have hgb0 : w0.heap.size ≤ gb := hgb
        clear hw2 l0 hset hset2 hb2
        by_cases he : k = un
        · have hz : ((k : Int) == un) = true := by simp [he]
          have HE := hid (show joinN Ma Mb un k = ro by rw [HJK.out, if_pos he])
          have hup := upto_set ns (joinN Ma Mb un) k
          rw [HE.out] at hup
          have HUP := hid hup
          clear he hup HE HJK
          go_wp2
          exact ⟨⟨k + 1, by omega, by go_num, hid (by rw [← HUP.out]; exact HS2.out), hid ((HB2.out.setCell (p := ⟨gb, k, none⟩) hgb0 _).setCell (p := ⟨gb, k, none⟩) hgb0 _)⟩, by simp [intOf]; omega⟩
        · have hz : ((k : Int) == un) = false := by simp; omega
          have HE := hid (show joinN Ma Mb un k = ra by rw [HJK.out, if_neg he])
          have hup := upto_set ns (joinN Ma Mb un) k
          rw [HE.out] at hup
          have HUP := hid hup
          clear he hup HE HJK
          go_wp2
          exact ⟨⟨k + 1, by omega, by go_num, hid (by rw [← HUP.out]; exact HS1.out), hid (HB2.out.setCell (p := ⟨gb, k, none⟩) hgb0 _)⟩, by simp [intOf]; omega⟩
      · have hk2 : k = ns.length := by omega
        have hown' : OwnF fInt 3 w0.heap.size wr (.slice (some ⟨gb, 0, none⟩) ns.length cb) (masksL (joinN Ma Mb un) ns.length) := by
          have := hown.out
          rwa [masksL_congr (M' := joinN Ma Mb un) (fun u hu => by unfold upto; rw [if_pos (by omega)])] at this
        have hd := cell_below hb.out hl0 HQ.out
        have HRD := hid hown'.rd
        have HJ31 := hid (fun u (hu : u < ns.length) => show joinN Ma Mb un u ≤ 31 by
          unfold joinN
          split
          · exact or_le31 (HA.out.le HO.out u hu) (HM.out.le HO.out u hu)
          · exact and_le31 (HM.out.le HO.out u hu))
        clear hown' hk2
        go_wp2_with (go_at_call 55; refine (made_new _ _ ns (joinN Ma Mb un) _ (uni_later HU0.out hb.out) HO.out HRD.out HJ31.out).mono ?_; rintro e w2 ⟨sv, rfl, hrd, hb2⟩)
        go_ret2
        exact ⟨_, by rw [HJ.out]; rfl, by rw [HJ.out]; exact hrd.more fun _ h => ⟨Nat.le_trans (bstep HB0.out hb.out).size h.1, h.2⟩, bstep HB0.out (bstep hb.out hb2)⟩
  · have HJ : Hid (joinR ns Ma Mb unit = none) := hid (by unfold joinR; rw [if_pos (by omega)])
    by_cases hneg : unit < 0
    · clear hun
      go_enter Tryz.func28, Tryz.ntmps28
      go_wp2_with fail
      go_ret2
      exact ⟨_, by rw [HJ.out]; rfl, by rw [HJ.out]; exact SliceRd.nil _ _ _, balloc (b0 w) _⟩
    · have hbig : (ns.length : Int) ≤ unit := by omega
      clear hun
      go_enter Tryz.func28, Tryz.ntmps28
      go_wp2_with fail
      go_ret2
      exact ⟨_, by rw [HJ.out]; rfl, by rw [HJ.out]; exact SliceRd.nil _ _ _, balloc (b0 w) _⟩
theorem rjoin_any (v lv bv : Value) (ns : List Nat) (Ma Mb : Nat → Nat) (unit : Int) (w : World) (h : UniRd w (Lt w.heap.size) v ns) (ho : NsOk ns) (hl : SliceRd tTerm w (Lt w.heap.size) lv (canon ns Ma)) (hbv : SliceRd tTerm w (Lt w.heap.size) bv (canon ns Mb)) (ha : IncOk ns Ma) (hM : IncOk ns Mb) :
    Calls Tryz.prog 28 #[v, lv, bv, .int .i64 unit] w (TermsPost (joinR ns Ma Mb unit) w) :=
  (rjoin_new v lv bv ns Ma Mb unit w h ho hl hbv ha hM).mono fun _ _ h => h.post
end Go.Proofs.YtmbjeppnamhgiaaGreat
end
section
/- Contract: ref24.Learn. -/
namespace Go.Proofs.YtmbjeppnamhgiaaGreat
open Go Go.RowKit

theorem link_info : (Tryz.prog.info? 56).map (fun i => (i.zero, i.size, i.bytes)) = some (some (.agg #[.int .i64 0, .int .i64 0]), 2, 16) := by kernel_rfl
def fLink : Flat (Nat × Nat) := ⟨2, fun p => [.int .i64 p.1, .int .i64 p.2], fun p => p.1 ≤ 1000 ∧ p.2 ≤ 100000, fun _ => rfl, fun _ u h => by simp at h; rcases h with rfl | rfl <;> rfl, by decide⟩
/-- The level that is told. -/
def lvlOf (ns : List Nat) (l : List StepN) (M : Nat → Nat) : Int := if blank ns M then -1 else levN ns l M
/-- What Learn tells. -/
def LearnPost (ns : List Nat) (db : Nat → Nat → Nat) (l : List StepN) (M : Nat → Nat) (w : World) (e : Ending) (w' : World) : Prop :=
  ∃ j iv lk, e = .returned (.tuple #[iv, .int .i64 (lvlOf ns l (stL ns db l M j).M), lk]) ∧ (stopB ns l (stL ns db l M j).M = true ∧ ∀ i, i < j → stopB ns l (stL ns db l M i).M = false) ∧ SliceRd tTerm w' (Lt w'.heap.size) iv (canon ns (stL ns db l M j).M) ∧ SliceRd fLink.ty w' (Lt w'.heap.size) lk (stL ns db l M j).links ∧ Below w.heap.size w w'
theorem blank_len {ns : List Nat} {M : Nat → Nat} (h : blank ns M = true) : canon ns M = [] := List.isEmpty_iff.1 h
theorem blank_pos {ns : List Nat} {M : Nat → Nat} (h : blank ns M = false) : 0 < (canon ns M).length := by
  unfold blank at h
  cases hc : canon ns M with
  | nil => rw [hc] at h; cases h
  | cons x r => simp
theorem joinR_some {ns : List Nat} {Ma Mb : Nat → Nat} {u : Nat} (hu : u < ns.length) (hok : okN ns (joinN Ma Mb u) = true) : joinR ns Ma Mb (u : Int) = some (canon ns (joinN Ma Mb u)) := by
  unfold joinR
  rw [if_neg (by omega)]
  unfold madeN
  rw [Int.toNat_natCast, if_pos hok]
/-- The facts of a round. -/
theorem Conf.round {ns : List Nat} {db : Nat → Nat → Nat} {D : Nat} {l : List StepN} {M : Nat → Nat} (h : Conf ns db D l M) {j : Nat} (hj : ∀ i, i < j → stopB ns l (stL ns db l M i).M = false) (hb : blank ns (stL ns db l M j).M = false) :
    ∃ n, ∃ hn : n < l.length, whenN ns l (stL ns db l M j).M = n + 1 ∧ lastS ns l (stL ns db l M j).M = l[n] ∧ levN ns l (stL ns db l M j).M = befN ns (l.take n) l[n] (stL ns db l M j).M ∧ TrOk ns db D (l.take n ++ [l[n]]) ∧ Sure ns (l.take n ++ [l[n]]) (stL ns db l M j).M ∧ l[n].u < ns.length ∧ (l[n].c = -1 ∨ ∃ c : Nat, l[n].c = c ∧ c < D) ∧ levN ns l (stL ns db l M j).M ≤ l.length := by
  have hi := h.inv hj
  obtain ⟨n, hn, h1, h2, h3, h4⟩ := hi.at hb
  have htr := h.tr.at hn
  refine ⟨n, hn, h1, h3, h4, htr, by rw [← take_snoc hn]; exact h2.2.1, htr.init.2.1, ?_, ?_⟩
  · rcases htr.init.2.2 with ⟨c, h5, h6, _⟩ | ⟨h5, _⟩
    · exact .inr ⟨c, h5, h6⟩
    · exact .inl h5
  · rw [h4]
    unfold befN
    have := ((htr.init.1).take (befK ns (l.take n) l[n] (stL ns db l M j).M)).level_le
    rw [List.length_take, List.length_take] at this
    omega
theorem stop_cases {ns : List Nat} {l : List StepN} {M : Nat → Nat} (hb : blank ns M = false) : stopB ns l M = (decide ((lastS ns l M).c = -1) || decide (levN ns l M < (lastS ns l M).lv)) := by
  unfold stopB
  rw [hb, Bool.false_or]
set_option maxRecDepth 100000 in
set_option maxHeartbeats 8000000 in
theorem rlearn_any (v lv dv : Value) (ns : List Nat) (db : Nat → Nat → Nat) (D : Nat) (l : List StepN) (k0 : Nat) (w : World) (h : UniRd w (Lt w.heap.size) v ns) (hcf : Conf ns db D l (db k0)) (hk0 : k0 < D) (hl : SliceRd fStep.ty w (Lt w.heap.size) lv l) (hll : l.length ≤ 900) (hd : SliceRd (tSlice tTerm) w (Lt w.heap.size) dv (dbL ns db D)) (hD : D ≤ 100000) :
    Calls Tryz.prog 15 #[v, dv, lv, .int .i64 k0] w (LearnPost ns db l (db k0) w) := by
  obtain ⟨it, hit⟩ := info_parts term_info
  have HIT := hid hit
  obtain ⟨ik, hik⟩ := info_parts link_info
  have HIK := hid hik
  have HH := hid h
  have HO := hid hcf.no
  have HCF := hid hcf
  have HL := hid hl
  have HD := hid hd
  have h11 := hcf.no.hi
  obtain ⟨g, cap0, rfl, hg, -⟩ := h
  obtain ⟨A, cap, rfl, hca, hcm, hcl⟩ := hl.steps
  have HCL := hid hcl
  unfold maxLen at hcm
  obtain ⟨Ad, capd, rfl, hcd, hcdm, hcs⟩ := hd.dbs
  have HC := hid hcs
  obtain ⟨ln, hln⟩ : ∃ ln, l.length = ln := ⟨_, rfl⟩
  have HLN := hid hln
  obtain ⟨gd, od, i0v, hAd, hFd, hg0, hi0⟩ := hcs k0 hk0
  subst hAd
  obtain ⟨Ai, ci, rfl, -, him, -⟩ := hi0.terms
  unfold maxLen at him
  have HI0 := hid hi0
  have HS0 := hid (fun (W : World) (hb : Below w.heap.size w W) => (hi0.lift hb hb.size).src.2.1)
  have HOK0 := hid hi0.src.2.2
  have hcl0 := canon_len (ns := ns) (db k0)
  have hin : ∀ k, k < D → IncOk ns (db k) := hcf.dok
  have HIN := hid hin
  obtain ⟨M0, hM0⟩ : ∃ M0, db k0 = M0 := ⟨_, rfl⟩
  rw [hM0] at HCF HI0 HS0 HOK0 hg0 hcl0 ⊢
  have HM0 := hid hM0
  generalize hli : (canon ns M0).length = li at HI0 HS0 hg0 hcl0 ⊢
  have HLI := hid hli
  rw [hln] at hll hca HL ⊢
  have k1 : (0 : Int) ≤ ↑k0 := by omega
  have k2 : (↑k0 : Int) < ↑D := by omega
  have hgw : (w.alloc (.cells #[.slice (some ⟨g, 0, none⟩) ns.length cap0] 26)).cell? ⟨gd, od + k0, none⟩ = some (.slice Ai li ci) := cell_below (balloc (b0 w) _) hFd hg0
  clear hit hik hcf hl hd hcs hcl hi0 hM0 hli hin
  go_enter Tryz.func15, Tryz.ntmps15
  go_wp2_with (at_builtin; go_must (refine wpList_append_src _ rfl (.const (.slice none 0 0)) (.tmp 20) _ rfl w.heap.size 54 it _ 2 16 Tryz.underlying34 HIT.out.1 HIT.out.2.1 HIT.out.2.2.1 HIT.out.2.2.2 rfl (by omega) (.slice none 0 0) 0 [] (by rfl) (own_noneF _ _ _ _) Ai li ci (termCells (canon ns M0)) (by rfl) (HS0.out _ (balloc (b0 w) _)) termCells_one (by unfold maxLen; omega) (by omega) (by simp) ?_; intro x1 w1 hown1 hg1 hat1))
  have HO1 := hid (own_copyF (f := fTerm) (e := 54) (l := canon ns M0) HOK0.out (by rw [HLI.out, fTerm_all]; exact hown1))
  have HB1 := hid (own_app (v2 := x1) (balloc (b0 w) _) (OwnF.nil fTerm 54 w.heap.size _) (by simp) hg1 rfl)
  have q0 : w1.cell? ⟨w.heap.size, 0, none⟩ = some (.slice (some ⟨g, 0, none⟩) ns.length cap0) := (own_cells (b := w.heap.size + 1) hg1 (by simp) w.heap.size 0 (by omega)).trans ((alloc_cell _ _ _ _).trans rfl)
  have hz0 : w.heap.size < w1.heap.size := Nat.lt_of_lt_of_le (by simp) hg1.size
  clear hown1 hg1 hat1 hgw hg0
  go_wp2_with fail
  go_loopw [11, 12, 13] (fun cv kv iv wr => ∃ j : Nat, iv = .int .i64 j ∧ Hid (∀ i, i < j → stopB ns l (stL ns db l M0 i).M = false) ∧ Hid (SliceRd tTerm wr (fun b => b < wr.heap.size ∧ kv.ownBlock ≠ some b) cv (canon ns (stL ns db l M0 j).M)) ∧ Hid (OwnF fLink 56 w1.heap.size wr kv (stL ns db l M0 j).links) ∧ Hid (Below w1.heap.size w1 wr)) (fun _ _ iv _ => ln + 1 - (intOf iv).toNat)
  case atStart => exact ⟨0, rfl, hid (fun i hi => absurd hi (by omega)), hid (HO1.out.rd.more fun _ h => ⟨h, fun e => by cases e⟩), hid (OwnF.nil _ _ _ _), hid (b0 w1)⟩
  case round =>
    obtain ⟨j, rfl, hj, hcvf, hkv, hb⟩ := hrel
    have hcv := hid (hcvf.out.more fun _ h => h.1)
    have hinv := HCF.out.inv hj.out
    have hlen := hinv.len
    rw [stL_links] at hlen
    rw [HLN.out] at hlen
    have i1 : (↑j : Int) ≤ ↑ln := by omega
    have HINC := hid hinv.ok
    have HSUR := hid hinv.sure
    have HBR := hid (HB1.out.trans (hb.out.mono HB1.out.size))
    have hrz : w.heap.size < wr.heap.size := Nat.lt_of_lt_of_le hz0 hb.out.size
    have q1 := cell_below hb.out hz0 q0
    have HUR := hid (uni_later HH.out HBR.out)
    obtain ⟨Ac, cc, hcve, -⟩ := hcvf.out.terms
    subst hcve
    obtain ⟨Ak, ck, hkve⟩ := hkv.out.form
    subst hkve
    clear hinv
    cases hbl : blank ns (stL ns db l M0 j).M with
    | true =>
      have hnil := blank_len hbl
      have HNIL := hid hnil
      have HLV : Hid (lvlOf ns l (stL ns db l M0 j).M = -1) := hid (by unfold lvlOf; rw [hbl]; rfl)
      have HSTOP := hid (show stopB ns l (stL ns db l M0 j).M = true by unfold stopB; rw [hbl]; rfl)
      have z0 : ((canon ns (stL ns db l M0 j).M).length : Int) = 0 := by rw [hnil]; rfl
      obtain ⟨cl, hcl⟩ : ∃ cl, (canon ns (stL ns db l M0 j).M).length = cl := ⟨_, rfl⟩
      obtain ⟨kl, hkl⟩ : ∃ kl, (stL ns db l M0 j).links.length = kl := ⟨_, rfl⟩
      rw [hcl] at z0 ⊢
      rw [hkl] at hkv ⊢
      have z1 : ((cl : Int) == 0) = true := by rw [beq_iff_eq]; exact z0
      clear hcl hkl hnil hbl
      go_wp2
      exact bodyPost_ret (v := .tuple #[.slice none 0 0, .int .i64 (-1), .slice Ak kl ck]) (by simp [results, Tryz.results15, go_sem]) rfl ⟨j, _, _, by rw [HLV.out], ⟨HSTOP.out, hj.out⟩, by rw [HNIL.out]; exact SliceRd.nil _ _ _, hkv.out.rd, HBR.out⟩
    | false =>
      obtain ⟨n, hn, hwn, hls, hlv, htr, hsu, hu, hcase, hlvl⟩ := HCF.out.round hj.out hbl
      have hstop := stop_cases (l := l) hbl
      have hcpos := blank_pos hbl
      have HLVO : Hid (lvlOf ns l (stL ns db l M0 j).M = (levN ns l (stL ns db l M0 j).M : Int)) := hid (by unfold lvlOf; rw [hbl]; rfl)
      have HST := hid (fun (h : stopB ns l (stL ns db l M0 j).M = false) => (HCF.out.inv hj.out).step HO.out HCF.out.tr HCF.out.dok h)
      have hlinks := stL_links (ns := ns) (db := db) (l := l) (M := M0) j
      have HSUC : Hid (stL ns db l M0 (j + 1) = ⟨joinN (stL ns db l M0 j).M (db (lastS ns l (stL ns db l M0 j).M).c.toNat) (lastS ns l (stL ns db l M0 j).M).u, (stL ns db l M0 j).links ++ [((lastS ns l (stL ns db l M0 j).M).u, (lastS ns l (stL ns db l M0 j).M).c.toNat)]⟩) := hid rfl
      rw [hls] at HST HSUC hstop
      obtain ⟨gs, os, hAs, hFs, hst, hok⟩ := HCL.out n hn
      subst hAs
      generalize hMx : (stL ns db l M0 j).M = M at *
      generalize hlk : (stL ns db l M0 j).links = lk at *
      have HMX := hid (And.intro hMx hlk)
      have z0 : (((canon ns M).length : Int) == 0) = false := by rw [beq_eq_false_iff_ne]; omega
      obtain ⟨cl, hcl⟩ : ∃ cl, (canon ns M).length = cl := ⟨_, rfl⟩
      obtain ⟨kl, hkl⟩ : ∃ kl, lk.length = kl := ⟨_, rfl⟩
      rw [hcl] at z0 hcv hcvf ⊢
      rw [hkl] at hkv hcvf ⊢
      have HKL := hid hkl
      have HTR := hid htr
      have HSU := hid hsu
      have HN := hid hn
      have hnl : n < ln := by rw [← HLN.out]; exact hn
      have HLR := hid (HL.out.lift HBR.out HBR.out.size)
      generalize hs : l[n] = s at *
      have HOKS := hid hok
      obtain ⟨su, sm, sl, sc⟩ := s
      have HFST := hid (fun (m : Nat) (h : First ns l M m) => (show m = n + 1 by rw [← hwn]; exact h.eq.symm))
      have hstw := fun (W : World) (hb : Below w.heap.size w W) => hst.below hb hFs
      have HSTW := hid hstw
      have HLVV := hid hlv
      have HCASE := hid hcase
      have HHS := hid hs
      clear hcl hkl hcpos htr hsu hst hok hstw hlv hcase hwn hs
      go_wp2_with fail
      refine (rwhen_any _ _ _ ns db D l M wr HUR.out HO.out HLR.out (by omega) HCF.out.tr hcv.out HINC.out).mono ?_
      rintro e w2 ⟨r, rfl, hr, hb2⟩
      rcases hr with ⟨rfl, hno⟩ | ⟨m, rfl, hfm⟩
      · exact absurd (show Sure ns (l.take l.length) M by rw [List.take_length]; exact HSUR.out) (hno l.length (Nat.le_refl _))
      · have hm := HFST.out m hfm
        subst hm
        clear hfm
        have hbw2 := HBR.out.trans (hb2.mono HBR.out.size)
        have HBW2 := hid hbw2
        obtain ⟨c0, c1, c2, c3⟩ := HSTW.out w2 hbw2
        have q2 := cell_below hb2 hrz q1
        have hrz2 := Nat.lt_of_lt_of_le hrz hb2.size
        have HB2 := hid (bstep hb.out hb2)
        have HBR2 := hid hb2
        have HKV2 := hid (hkv.out.below hb2 (Nat.le_refl _))
        have HCV2 := hid (hcv.out.lift hb2 hb2.size)
        have e0 : (((n + 1 : Nat) : Int)) = (n : Int) + 1 := by omega
        have n1 : (0 : Int) ≤ ↑n := by omega
        have n2 : (↑n : Int) < ↑ln := by omega
        have n3 : ¬ ((n : Int) + 1 < 1) := by omega
        have n4 : (↑n : Int) ≤ ↑cap := by omega
        have n5 : (↑n : Int) + 1 - 1 = (n : Int) := by omega
        rw [e0]
        clear hb2 hbw2 e0
        go_wp2_with fail
        obtain ⟨w3, hw3⟩ : ∃ w3 : World, w3 = w2.alloc (.cells #[.int .i64 su, .int .i64 sm, .int .i64 sl, .int .i64 sc] 98) := ⟨_, rfl⟩
        have hb3 : Below w2.heap.size w2 w3 := hw3 ▸ balloc (b0 w2) _
        have hz3 : w2.heap.size < w3.heap.size := by rw [hw3]; simp
        have s0 : w3.cell? ⟨w2.heap.size, 0, none⟩ = some (.int .i64 su) := by rw [hw3, alloc_cell]; rfl
        have s1 : w3.cell? ⟨w2.heap.size, 1, none⟩ = some (.int .i64 sm) := by rw [hw3, alloc_cell]; rfl
        have s2 : w3.cell? ⟨w2.heap.size, 2, none⟩ = some (.int .i64 sl) := by rw [hw3, alloc_cell]; rfl
        have s3 : w3.cell? ⟨w2.heap.size, 3, none⟩ = some (.int .i64 sc) := by rw [hw3, alloc_cell]; rfl
        have q3 := cell_below hb3 hrz2 q2
        have hrz3 := Nat.lt_of_lt_of_le hrz2 hb3.size
        have hbw3 := bstep HBW2.out hb3
        have HBW3 := hid hbw3
        have HB3 := hid (bstep HB2.out hb3)
        have HBR3 := hid (HBR2.out.trans (hb3.mono HBR2.out.size))
        have HKV3 := hid (HKV2.out.below hb3 (Nat.le_refl _))
        have HCV3 := hid (HCV2.out.lift hb3 hb3.size)
        rw [← hw3]
        clear hw3 hb3 c0 c1 c2 c3
        have l0 := later_cell hz3 s0
        have l1 := later_cell hz3 s1
        have l2 := later_cell hz3 s2
        have l3 := later_cell hz3 s3
        have lq := later_cell hrz3 q3
        have HBF := hid (fun e : Later w3 => rbefore_any _ _ _ ns db D (l.take n) ⟨su, sm, sl, sc⟩ M e.w (uni_later HH.out (bstep HBW3.out e.below)) HO.out ((HL.out.lift (bstep HBW3.out e.below) (bstep HBW3.out e.below).size).takeN (k := n) (by omega)) (by rw [List.length_take]; omega) HTR.out HOKS.out (HCV3.out.lift e.below e.below.size) HINC.out HSU.out)
        rw [← HLVV.out] at HBF
        obtain ⟨lvn, hlvn⟩ : ∃ lvn, levN ns l M = lvn := ⟨_, rfl⟩
        rw [hlvn] at HBF hstop HLVO hlvl
        clear hlvn
        (refine wp_region_later (by kernel_rfl) (by kernel_rfl) ?_; (repeat (go_big_quiet_step ((first | (go_at_call 48; exact Calls.later (HBF.out _) rfl))))); refine wpQuiet_nil ?_; rintro _ ⟨⟨w4, hb4⟩, rfl⟩)
        rename_i w4
        have t0 := cell_below hb4 hz3 s0
        have t1 := cell_below hb4 hz3 s1
        have t2 := cell_below hb4 hz3 s2
        have t3 := cell_below hb4 hz3 s3
        have q4 := cell_below hb4 hrz3 q3
        have hrz4 := Nat.lt_of_lt_of_le hrz3 hb4.size
        have HBW4 := hid (bstep HBW3.out hb4)
        have HB4 := hid (bstep HB3.out hb4)
        have HBR4 := hid (HBR3.out.trans (hb4.mono HBR3.out.size))
        have HKV4 := hid (HKV3.out.below hb4 (Nat.le_refl _))
        have HCV4 := hid (HCV3.out.lift hb4 hb4.size)
        have hz4 : w2.heap.size < w4.heap.size := Nat.lt_of_lt_of_le hz3 hb4.size
        have HEND := hid (fun (h : stopB ns l M = true) => show LearnPost ns db l M0 w (.returned (.tuple #[.slice Ac cl cc, .int .i64 lvn, .slice Ak kl ck])) w4 from ⟨j, _, _, by rw [HMX.out.1, HLVO.out], ⟨by rw [HMX.out.1]; exact h, hj.out⟩, by rw [HMX.out.1]; exact HCV4.out, by rw [HMX.out.2]; exact HKV4.out.rd, HBW4.out⟩)
        have hlv4 : lvn ≤ 900 := by have := HLN.out; omega
        clear l0 l1 l2 l3 lq s0 s1 s2 s3 hb4 n3 n5
        rcases HCASE.out with rfl | ⟨c, rfl, hcD⟩
        · have HE := hid (HEND.out (by simp [hstop]))
          clear hstop
          go_wp2
          exact bodyPost_ret (v := .tuple #[.slice Ac cl cc, .int .i64 lvn, .slice Ak kl ck]) (by simp [results, Tryz.results15, go_sem]) rfl HE.out
        · have zc : ((c : Int) == -1) = false := beq_eq_false_iff_ne.2 (by omega)
          by_cases hlt : lvn < sl
          · have HE := hid (HEND.out (by rw [hstop]; simp [hlt]))
            have zl : (lvn : Int) < ↑sl := by omega
            clear hstop hlt
            go_wp2
            exact bodyPost_ret (v := .tuple #[.slice Ac cl cc, .int .i64 lvn, .slice Ak kl ck]) (by simp [results, Tryz.results15, go_sem]) rfl HE.out
          · have hns : stopB ns l M = false := by
              rw [hstop, decide_eq_false (show ¬ ((c : Int) = -1) by omega), decide_eq_false hlt, Bool.or_self]
            obtain ⟨-, hok2, hul, -⟩ := HST.out hns
            rw [Int.toNat_natCast] at hok2
            have hcv4 : SliceRd tTerm w4 (fun b => b < w4.heap.size ∧ (Value.slice Ak kl ck).ownBlock ≠ some b) (.slice Ac cl cc) (canon ns M) := (hcvf.out.keep (Keeps.of_below HBR4.out fun _ h => h.1)).more fun _ h => ⟨Nat.lt_of_lt_of_le h.1 HBR4.out.size, h.2⟩
            have HCVF4 := hid hcv4
            have HJN := hid (fun (iv : Value) (W : World) (hbW : Below w.heap.size w W) (hcW : SliceRd tTerm W (Lt W.heap.size) (.slice Ac cl cc) (canon ns M)) (hiv : SliceRd tTerm W (Lt W.heap.size) iv (canon ns (db c))) => rjoin_new (.agg #[.slice (some ⟨g, 0, none⟩) ns.length cap0]) (.slice Ac cl cc) iv ns M (db c) su W (uni_later HH.out hbW) HO.out hcW hiv HINC.out (HIN.out c hcD))
            rw [joinR_some hul hok2] at HJN
            have HM1 : Hid ((stL ns db l M0 (j + 1)).M = joinN M (db c) su) := hid (by rw [HSUC.out]; simp)
            have HL1 : Hid ((stL ns db l M0 (j + 1)).links = lk ++ [(su, c)]) := hid (by rw [HSUC.out]; simp)
            have HJ1 := hid (fun i (hi : i < j + 1) => show stopB ns l (stL ns db l M0 i).M = false from if e : i = j then by rw [e, HMX.out.1]; exact hns else hj.out i (by omega))
            have HOKP := hid (show fLink.ok (su, c) from ⟨HOKS.out.1, by show c ≤ 100000; omega⟩)
            obtain ⟨gc, oc, icv, hAc, hFc, hgc, hicv⟩ := HC.out c hcD
            injection hAc with hAc
            injection hAc with e1 e2
            subst e1 e2
            have HOB := hid (fun (hh : (Value.slice Ak kl ck).ownBlock = some w2.heap.size) => (show False by have := (HKV2.out.lt _ hh).2; omega))
            have zl : ¬ ((lvn : Int) < ↑sl) := by omega
            have zl2 : decide ((lvn : Int) < ↑sl) = false := decide_eq_false zl
            have hkl1 : kl ≤ 1000 := by rw [← HKL.out, ← HMX.out.2, stL_links]; omega
            clear hns hok2 hlt hstop hcv4
            go_wp2_with (at_builtin; go_must (refine wpList_append_src _ rfl (.tmp 63) (.tmp 69) _ rfl w1.heap.size 56 ik _ 2 16 Tryz.underlying35 HIK.out.1 HIK.out.2.1 HIK.out.2.2.1 HIK.out.2.2.2 rfl (by omega) (.slice Ak kl ck) kl (fLink.all lk) (by rfl) (by have := HKV4.out.1.alloc; rw [HKL.out] at this; exact this _) (some ⟨w4.heap.size, 0, none⟩) 1 1 (fLink.cells (su, c)) (by rfl) (by exact src_one (f := fLink) rfl) (by simp [fLink, Value.oneCell']) (by unfold maxLen; omega) (by omega) (by have := HB4.out.size; simp; omega) ?_; intro v5 w5 hown5 hg5 hat5; have HKV5 := hid (own_snocF HKL.out HKV4.out.2 HOKP.out hown5); have HB5 := hid (own_app (v2 := v5) (balloc HB4.out _) (HKV4.out.alloc _) (by have := HB4.out.size; simp; omega) hg5 rfl); have x0 := hg5.cell (cell_below (balloc (b0 w4) _) hz4 t0) (by intro e; exact HOB.out e.symm); have x3 := hg5.cell (cell_below (balloc (b0 w4) _) hz4 t3) (by intro e; exact HOB.out e.symm); have hs5 : w4.heap.size ≤ w5.heap.size := Nat.le_trans (by simp) hg5.size; have HCV5 := hid (SliceRd.more (F' := Lt w5.heap.size) (fun b h => Nat.lt_of_lt_of_le h.1 hs5) (SliceRd.keep (w' := w5) (fun b h => (hg5.block b (by have := h.1; simp; omega) (fun e => h.2 e.symm)).trans (Below.heap_alloc _ _ _ h.1)) HCVF4.out)); clear hown5 hat5))
            have hbw5 := HB1.out.trans (HB5.out.mono HB1.out.size)
            have hb45 : Below w1.heap.size w1 w5 := HB5.out
            have q5 := cell_below HB5.out hz0 q0
            have y5 := cell_below hbw5 hFc hgc
            have HIC := hid (hicv.lift hbw5 hbw5.size)
            have HJ5 := hid (HJN.out icv w5.drew hbw5.drew (SliceRd.keep (w := w5) (w' := w5.drew) (F := Lt w5.heap.size) (fun _ _ => rfl) HCV5.out) (SliceRd.keep (w := w5) (w' := w5.drew) (F := Lt w5.heap.size) (fun _ _ => rfl) HIC.out))
            clear hbw5 hb45
            go_wp2_with fail
            go_region_law ((go_simp; go_at_call 28; refine HJ5.out.mono ?_; rintro e w6 ⟨sv, rfl, hsv, hb6⟩; have HSV := hid hsv; have HB6 := hid (bstep HB5.out ((b0 w5).drew.trans (hb6.mono (Nat.le_refl _)))); have HB56 := hid ((b0 w5).drew.trans (hb6.mono (Nat.le_refl _))); clear hsv hb6))
            all_goals
              go_wp2_with fail
              exact ⟨⟨j + 1, by go_num, HJ1, hid (by rw [HM1.out]; exact HSV.out.more fun b h => ⟨h.2, fun e => by have h1 := (HKV5.out.lt _ e).2; have h2 : w5.heap.size ≤ b := h.1; omega⟩), hid (by rw [HL1.out]; exact HKV5.out.below HB56.out (Nat.le_refl _)), HB6⟩, by simp [intOf]; omega⟩
end Go.Proofs.YtmbjeppnamhgiaaGreat
end
