/- Contract: law23.FactOnce. -/
import Derived.Test.YtilgijmokjekgaaGreatDoorZv
import Derived.Test.YtilgijmokjekgaaGreatDoorZo
import Derived.Test.YtilgijmokjekgaaGreatDoorZr
import Derived.Test.YtilgijmokjekgaaGreatDoorzA4
import Derived.Test.YtilgijmokjekgaaGreatDoorzA7
import Derived.Deep.RegionHeld3
import Derived.BigRegion
import Derived.Outline
namespace Go.Proofs.YtilgijmokjekgaaGreatDoor
open Go Go.RowKit

/-- What is read of a row's box. -/
def RowBox (w : World) (b : Nat) (k u : Int) (tv : Value) : Prop := b < w.heap.size ∧ w.cell? ⟨b, 0, none⟩ = some (.int .i64 k) ∧ w.cell? ⟨b, 1, none⟩ = some (.int .i64 u) ∧ w.cell? ⟨b, 4, none⟩ = some tv
theorem RowBox.below {w w' : World} {b : Nat} {k u : Int} {tv : Value} (h : RowBox w b k u tv) (hb : Below w.heap.size w w') : RowBox w' b k u tv :=
  ⟨Nat.lt_of_lt_of_le h.1 hb.size, cell_below hb h.1 h.2.1, cell_below hb h.1 h.2.2.1, cell_below hb h.1 h.2.2.2⟩
theorem RowBox.drew {w : World} {b : Nat} {k u : Int} {tv : Value} (h : RowBox w b k u tv) : RowBox w.drew b k u tv := h
theorem RowBox.new (w : World) (k u a c : Int) (tv : Value) : RowBox (w.alloc (.cells #[.int .i64 k, .int .i64 u, .int .i64 a, .int .i64 c, tv] 36)) w.heap.size k u tv :=
  ⟨by simp, (alloc_cell w _ _ 0).trans rfl, (alloc_cell w _ _ 1).trans rfl, (alloc_cell w _ _ 4).trans rfl⟩
theorem RowBox.alloc {w : World} {b : Nat} {k u : Int} {tv : Value} (h : RowBox w b k u tv) (o : Obj) : RowBox (w.alloc o) b k u tv := h.below (balloc (b0 w) o)
theorem RowBox.new2 (w : World) (o : Obj) (k u a c : Int) (tv : Value) : RowBox ((w.alloc o).alloc (.cells #[.int .i64 k, .int .i64 u, .int .i64 a, .int .i64 c, tv] 36)) (w.heap.size + 1) k u tv := by
  have h := RowBox.new (w.alloc o) k u a c tv
  rwa [show (w.alloc o).heap.size = w.heap.size + 1 by simp] at h
/-- All rows, opened. -/
theorem allrow_at {us : List UnitW} {w : World} {rv : Value} (h : SliceRd tRow w (Lt w.heap.size) rv ((allN us).map (rowOf (nsOf us)))) (h1 : 1 ≤ (allN us).length) :
    ∃ gr ro cr, rv = .slice (some ⟨gr, ro, none⟩) (allN us).length cr ∧ (allN us).length ≤ cr ∧ cr ≤ maxLen ∧ gr < w.heap.size ∧ ∀ k, (hk : k < (allN us).length) → ∃ At ct,
      w.cell? ⟨gr, ro + k * 5, none⟩ = some (.int .i64 (allN us)[k].kind) ∧ w.cell? ⟨gr, ro + k * 5 + 1, none⟩ = some (.int .i64 (allN us)[k].u) ∧ w.cell? ⟨gr, ro + k * 5 + 2, none⟩ = some (.int .i64 0) ∧ w.cell? ⟨gr, ro + k * 5 + 3, none⟩ = some (.int .i64 0) ∧ w.cell? ⟨gr, ro + k * 5 + 4, none⟩ = some (.slice At (canon (nsOf us) (allN us)[k].M).length ct) ∧ SliceRd tTerm w (Lt w.heap.size) (.slice At (canon (nsOf us) (allN us)[k].M).length ct) (canon (nsOf us) (allN us)[k].M) := by
  obtain ⟨A, c, hv, hc, hm, hr⟩ := h.rows
  rw [List.length_map] at hv hc
  obtain ⟨g, o, tv, hA, hg, -⟩ := hr 0 (by rw [List.length_map]; omega)
  subst hA
  refine ⟨g, o, c, hv, hc, hm, hg, fun k hk => ?_⟩
  obtain ⟨g1, o1, tv1, hA1, -, a0, a1, a2, a3, a4, -, ht⟩ := hr k (by rw [List.length_map]; exact hk)
  cases hA1
  rw [List.getElem_map] at a0 a1 a2 a3 ht
  have ht' : SliceRd tTerm w (Lt w.heap.size) tv1 (canon (nsOf us) (allN us)[k].M) := ht
  obtain ⟨At, ct, hte, -⟩ := ht'.terms
  subst hte
  exact ⟨At, ct, a0, a1, a2, a3, a4, ht'⟩
/-- What FactOnce reads of all rows. -/
def OnceRows (us : List UnitW) (w : World) (rv : Value) : Prop := ∃ (rows : List RowN) (gr ro cr : Nat), rv = .slice (some ⟨gr, ro, none⟩) rows.length cr ∧ rows.length ≤ cr ∧ cr ≤ maxLen ∧ gr < w.heap.size ∧ 1 ≤ rows.length ∧ rows.length ≤ 600 ∧
  (∀ k, (hk : k < rows.length) → ∃ At ct, w.cell? ⟨gr, ro + k * 5, none⟩ = some (.int .i64 rows[k].kind) ∧ w.cell? ⟨gr, ro + k * 5 + 1, none⟩ = some (.int .i64 rows[k].u) ∧ w.cell? ⟨gr, ro + k * 5 + 2, none⟩ = some (.int .i64 0) ∧ w.cell? ⟨gr, ro + k * 5 + 3, none⟩ = some (.int .i64 0) ∧ w.cell? ⟨gr, ro + k * 5 + 4, none⟩ = some (.slice At (canon (nsOf us) rows[k].M).length ct) ∧ SliceRd tTerm w (Lt w.heap.size) (.slice At (canon (nsOf us) rows[k].M).length ct) (canon (nsOf us) rows[k].M)) ∧
  (∀ h : 0 < rows.length, (rows[0]'h).kind = 1) ∧ (∀ k, (hk : k < rows.length) → rows[k].Ok (nsOf us)) ∧
  ∀ k i, (hk : k < rows.length) → (hi : i < rows.length) → k < i → rows[k].kind = rows[i].kind → rows[k].u = rows[i].u → butL (canon (nsOf us) rows[k].M) (rows[k].u : Int) ≠ butL (canon (nsOf us) rows[i].M) (rows[k].u : Int)
theorem once_rows {us : List UnitW} {w : World} {rv : Value} (ho : UnitsOk us) (h0 : (nsOf us).head? = some 1) (h : SliceRd tRow w (Lt w.heap.size) rv ((allN us).map (rowOf (nsOf us)))) : OnceRows us w rv := by
  have h1 : 1 ≤ (allN us).length := by
    obtain ⟨l, e, -⟩ := all_root ho h0
    rw [e]
    simp
  have h600 : (allN us).length ≤ 600 := by
    have h1 := (units_ok ho h0 us.length (Nat.le_refl _)).2
    have h2 : us.length ≤ 11 := by have := ho.ns.hi; simpa [nsOf] using this
    show (unitsN us us.length).length ≤ 600
    omega
  obtain ⟨gr, ro, cr, e1, e2, e3, e4, e5⟩ := allrow_at h h1
  refine ⟨allN us, gr, ro, cr, e1, e2, e3, e4, h1, h600, e5, fun h => ?_, fun k hk => (units_ok ho h0 us.length (Nat.le_refl _)).1 _ (List.getElem_mem hk), fun k i hk hi hlt => once_ne hk hi hlt⟩
  obtain ⟨l, e, -⟩ := all_root ho h0
  have h2 : (allN us)[0]? = some (rootN (nsOf us)) := by rw [e]; rfl
  rw [(List.getElem?_eq_some_iff.1 h2).2]
  rfl
theorem butL_len {ns : List Nat} (M : Nat → Nat) (u : Int) : (butL (canon ns M) u).length ≤ ns.length := Nat.le_trans (List.length_filter_le _ _) (canon_len M)
/-- Make of the whole of a unit and the terms of the other units. -/
theorem make_but (v lv : Value) (ns : List Nat) (M : Nat → Nat) (u : Nat) (w : World) (h : UniRd w (Lt w.heap.size) v ns) (ho : NsOk ns) (hM : IncOk ns M) (hu : u < ns.length) (hl : SliceRd tTerm w (Lt w.heap.size) lv ([⟨(u : Int), (fullN ns u : Int)⟩] ++ butL (canon ns M) (u : Int))) :
    Calls Tryz.prog 28 #[v, lv] w fun e w' => ∃ A c, e = .returned (.tuple #[.slice A (butL (canon ns M) (u : Int)).length c, .bool true]) ∧ SliceRd tTerm w' (Lt w'.heap.size) (.slice A (butL (canon ns M) (u : Int)).length c) (butL (canon ns M) (u : Int)) ∧ Below w.heap.size w w' := by
  refine (rmake22_any v lv ns _ w h ho hl).mono ?_
  rintro e w' ⟨sv, rfl, hs, hb⟩
  have e1 : makeN ns ([⟨(u : Int), (fullN ns u : Int)⟩] ++ butL (canon ns M) (u : Int)) = some (butL (canon ns M) (u : Int)) := make_drop ho hM hu
  rw [e1] at hs ⊢
  have hs' : SliceRd tTerm w' (Lt w'.heap.size) sv (butL (canon ns M) (u : Int)) := hs
  obtain ⟨A, c, rfl, -⟩ := hs'.terms
  exact ⟨A, c, rfl, hs', hb⟩
set_option maxRecDepth 100000 in
set_option maxHeartbeats 8000000 in
theorem factOnce_any (wv : Value) (ws : List Int) (w : World) (hw : SliceRd tInt w (Lt w.heap.size) wv ws) (hF : FirstIs w) (hT : TabIs w) :
    Calls Tryz.prog 8 #[wv] w fun e w' => e = .returned (.bool true) ∧ Below w.heap.size w w' := by
  obtain ⟨it, hit⟩ := info_parts term_info
  have HIT := hid hit
  have HW := hid hw
  have HF := hid hF
  have HT := hid hT
  obtain ⟨Aw, wcap, rfl, -⟩ := hw.ints
  clear hw hF hT hit
  go_enter Tryz.func8, Tryz.ntmps8
  go_wp2_with (go_at_call 11; go_must (refine (world23_any _ ws 5 _ HW.out (by decide) (by decide)).mono ?_; rintro e w1 ⟨g, c, us, rfl, hwr, huo, h0, hb1⟩; have HWR := hid hwr; have HUO := hid huo; have H0 := hid h0; have HB1 := hid hb1; clear hwr huo h0 hb1))
  obtain ⟨w2, hw2⟩ : ∃ w2 : World, w2 = w1.alloc (.cells #[.slice (some ⟨g, 0, none⟩) us.length c] 25) := ⟨_, rfl⟩
  have hb2 : Below w1.heap.size w1 w2 := hw2 ▸ balloc (b0 w1) _
  have hl2 : w1.heap.size < w2.heap.size := by rw [hw2]; simp
  have q2 : w2.cell? ⟨w1.heap.size, 0, none⟩ = some (.slice (some ⟨g, 0, none⟩) us.length c) := by rw [hw2, alloc_cell]; rfl
  have HW2 := hid (HWR.out.lift hb2 hb2.size)
  have HNS := hid HUO.out.ns
  have HB2 := hid (bstep HB1.out hb2)
  rw [← hw2]
  clear hw2 hb2
  go_wp2_with (go_at_call 14; go_must (refine (pall_rd _ us w2 HW2.out HUO.out.ok H0.out (HF.out.below HB2.out) (HT.out.later HB2.out)).mono ?_; rintro e w3 ⟨rv, rfl, hrd, hb3⟩; obtain ⟨rows, gr, ro, cr, hrv, hrc, hrm, hgr, hrn1, hrn600, hrow, hroot, hrok, hrne⟩ := once_rows HUO.out.ok H0.out hrd; subst hrv; have HROW := hid hrow; have HROOT := hid hroot; have HOK := hid hrok; have HNE := hid hrne; have HB3 := hid (bstep HB2.out hb3); have q3 := cell_below hb3 hl2 q2; have hl3 : w1.heap.size < w3.heap.size := Nat.lt_of_lt_of_le hl2 hb3.size; have HW3 := hid (HW2.out.lift hb3 hb3.size); clear hrd hb3 hrow hroot hrok hrne))
  unfold maxLen at hrm
  obtain ⟨rn, hrn⟩ : ∃ rn, rows.length = rn := ⟨_, rfl⟩
  have HRN := hid hrn
  rw [hrn] at hrn1 hrn600 hrc ⊢
  clear hrn q2 hl2 HW2 HWR
  go_wp2_with fail
  go_loopw [5, 6, 7, 8, 9, 10, 11, 12, 13] (fun iv _ _ _ _ _ _ _ _ wr => ∃ i : Nat, i ≤ rn ∧ iv = .int .i64 i ∧ Hid (Below w3.heap.size w3 wr)) (fun iv _ _ _ _ _ _ _ _ _ => rn - (RowKit.intOf iv).toNat)
  case atStart => exact ⟨0, Nat.zero_le _, rfl, hid (b0 w3)⟩
  case round =>
    obtain ⟨i, hi, rfl, hb⟩ := hrel
    by_cases hlt : i < rn
    · have i0 : (0 : Int) ≤ ↑i := by omega
      have i1 : (↑i : Int) < ↑rn := by omega
      obtain ⟨wo, rfl⟩ : ∃ wo, wo = wr := ⟨_, rfl⟩
      go_wp2_with fail
      go_loopw [6, 7, 8, 9, 10, 11, 12, 13] (fun kv _ _ _ _ _ _ _ wr => ∃ k : Nat, k ≤ i ∧ kv = .int .i64 k ∧ Hid (Below w3.heap.size w3 wr)) (fun kv _ _ _ _ _ _ _ _ => i - (RowKit.intOf kv).toNat)
      case atStart => exact ⟨0, Nat.zero_le _, rfl, hb⟩
      case round =>
        obtain ⟨k, hk, rfl, hbk⟩ := hrel
        by_cases hltk : k < i
        · have k0 : (0 : Int) ≤ ↑k := by omega
          have k1 : (↑k : Int) < ↑rn := by omega
          have k2 : (↑k : Int) < ↑i := by omega
          have hkl : k < rows.length := by rw [HRN.out]; omega
          have hil : i < rows.length := by rw [HRN.out]; exact hlt
          obtain ⟨Ax, cx, x0, x1, x2, x3, x4, htx⟩ := HROW.out k hkl
          obtain ⟨Ay, cy, y0, y1, y2, y3, y4, hty⟩ := HROW.out i hil
          have HOKX := hid (HOK.out k hkl)
          have HOKY := hid (HOK.out i hil)
          have HN := hid (HNE.out k i hkl hil hltk)
          obtain ⟨x, hx⟩ : ∃ x, rows[k] = x := ⟨_, rfl⟩
          obtain ⟨y, hy⟩ : ∃ y, rows[i] = y := ⟨_, rfl⟩
          rw [hx] at x0 x1 x4 htx HOKX HN
          rw [hy] at y0 y1 y4 hty HOKY HN
          obtain ⟨kx, ux, Mx⟩ := x
          obtain ⟨ky, uy, My⟩ := y
          dsimp only at x0 x1 x4 htx y0 y1 y4 hty HN
          have HTX := hid (htx.lift hbk.out hbk.out.size)
          have HTY := hid (hty.lift hbk.out hbk.out.size)
          have hcx := canon_len (ns := nsOf us) Mx
          have hcy := canon_len (ns := nsOf us) My
          obtain ⟨tx, htxl⟩ : ∃ tx, (canon (nsOf us) Mx).length = tx := ⟨_, rfl⟩
          obtain ⟨ty, htyl⟩ : ∃ ty, (canon (nsOf us) My).length = ty := ⟨_, rfl⟩
          rw [htxl] at x4 HTX hcx
          rw [htyl] at y4 HTY hcy
          have x0 := cell_below hbk.out hgr x0
          have x1 := cell_below hbk.out hgr x1
          have x2 := cell_below hbk.out hgr x2
          have x3 := cell_below hbk.out hgr x3
          have x4 := cell_below hbk.out hgr x4
          have y0 := cell_below hbk.out hgr y0
          have y1 := cell_below hbk.out hgr y1
          have y2 := cell_below hbk.out hgr y2
          have y3 := cell_below hbk.out hgr y3
          have y4 := cell_below hbk.out hgr y4
          have hgw : gr < wr.heap.size := Nat.lt_of_lt_of_le hgr hbk.out.size
          have q4 := cell_below hbk.out hl3 q3
          have hl4 : w1.heap.size < wr.heap.size := Nat.lt_of_lt_of_le hl3 hbk.out.size
          clear htx hty hx hy
          go_upto_region 9 with fail
          go_cut [7, 8] (fun s7 s8 wx => ∃ a b : Nat, s7 = .pointer (some ⟨a, 0, none⟩) ∧ s8 = .pointer (some ⟨b, 0, none⟩) ∧ Hid (RowBox wx a kx ux (.slice Ax tx cx)) ∧ Hid (RowBox wx b ky uy (.slice Ay ty cy)) ∧ Hid (Below wr.heap.size wr wx))
          case first =>
            go_region
            all_goals (go_wp2_with fail; go_meet; first | exact ⟨_, _, rfl, rfl, hid ((RowBox.new wr kx ux 0 0 (.slice Ax tx cx)).alloc _).drew, hid (RowBox.new2 wr _ ky uy 0 0 (.slice Ay ty cy)).drew, hid (balloc (balloc (b0 wr) _) _).drew⟩ | exact ⟨_, _, rfl, rfl, hid (RowBox.new2 wr _ kx ux 0 0 (.slice Ax tx cx)).drew, hid ((RowBox.new wr ky uy 0 0 (.slice Ay ty cy)).alloc _).drew, hid (balloc (balloc (b0 wr) _) _).drew⟩)
          case rest =>
            obtain ⟨a, b, rfl, rfl, hba, hbb, hb9⟩ := hcut
            obtain ⟨wv, rfl⟩ : ∃ wv, wv = wc := ⟨_, rfl⟩
            have HBW9 := hid (bstep hbk.out hb9.out)
            obtain ⟨a9, a0, a1, a4⟩ := hba.out
            obtain ⟨b9, b0', b1', b4⟩ := hbb.out
            have q5 := cell_below hb9.out hl4 q4
            have hl5 : w1.heap.size < wv.heap.size := Nat.lt_of_lt_of_le hl4 hb9.out.size
            have HTX5 := hid (HTX.out.lift hb9.out hb9.out.size)
            have HTY5 := hid (HTY.out.lift hb9.out hb9.out.size)
            have HW5 := hid (HW3.out.lift HBW9.out HBW9.out.size)
            clear x0 x1 x2 x3 x4 y0 y1 y2 y3 y4 q4 HTX HTY
            by_cases e1 : kx = ky
            · have n1 : (kx == ky) = true := beq_iff_eq.2 e1
              have n1' : (kx != ky) = false := by rw [bne, n1]; rfl
              by_cases e2 : ux = uy
              · subst e1 e2
                have n2 : ((ux : Int) == (ux : Int)) = true := beq_self_eq_true _
                have n2' : ((ux : Int) != (ux : Int)) = false := by rw [bne, n2]; rfl
                have hul : ux < (nsOf us).length := HOKX.out.u
                have h11 : us.length ≤ 11 := by have := HNS.out.hi; simpa [nsOf] using this
                have hul2 : ux < us.length := by simpa [nsOf] using hul
                have hne := HN.out rfl rfl
                obtain ⟨fu, hfu⟩ : ∃ fu, fullN (nsOf us) ux = fu := ⟨_, rfl⟩
                have hfu31 : fu ≤ 31 := by rw [← hfu]; exact fullN_le HNS.out ux
                have HFU := hid hfu
                obtain ⟨b1, hb1⟩ : ∃ b1, butL (canon (nsOf us) Mx) (ux : Int) = b1 := ⟨_, rfl⟩
                obtain ⟨b2, hb2⟩ : ∃ b2, butL (canon (nsOf us) My) (ux : Int) = b2 := ⟨_, rfl⟩
                rw [hb1, hb2] at hne
                have HNEB := hid (show decide (b1 = b2) = false from decide_eq_false hne)
                have e9 : (nsOf us).length = us.length := by simp [nsOf]
                have hl1 : b1.length ≤ 11 := by rw [← hb1]; have := butL_len (ns := nsOf us) Mx (ux : Int); omega
                have hl2' : b2.length ≤ 11 := by rw [← hb2]; have := butL_len (ns := nsOf us) My (ux : Int); omega
                have HI6 := hid (show I64 (ux : Int) from ⟨by omega, by omega⟩)
                have HOKT := hid (show fTerm.ok ⟨(ux : Int), (fu : Int)⟩ from ⟨HI6.out, i64_small hfu31⟩)
                have HFULL := hid (rfull_any (.agg #[.slice (some ⟨g, 0, none⟩) us.length c]) (nsOf us) ux wv _ HW5.out.uni HNS.out HI6.out (fun _ h => h))
                rw [fullF_nat, hfu] at HFULL
                have HMAKE := fun (M : Nat → Nat) (hM : IncOk (nsOf us) M) (lv : Value) (W : World) (hW : Below wv.heap.size wv W) h => make_but (.agg #[.slice (some ⟨g, 0, none⟩) us.length c]) lv (nsOf us) M ux W (HW5.out.lift hW hW.size).uni HNS.out hM hul h
                have HM1 := hid (fun lv W hW h => HMAKE Mx HOKX.out.inc lv W hW h)
                have HM2 := hid (fun lv W hW h => HMAKE My HOKY.out.inc lv W hW h)
                rw [hb1, hfu] at HM1
                rw [hb2, hfu] at HM2
                have HR1 := hid (fun (W : World) (hW : Below wv.heap.size wv W) => rest23_any (.slice Ax tx cx) (canon (nsOf us) Mx) ux W (HTX5.out.lift hW hW.size) (by have := canon_len (ns := nsOf us) Mx; omega))
                have HR2 := hid (fun (W : World) (hW : Below wv.heap.size wv W) => rest23_any (.slice Ay ty cy) (canon (nsOf us) My) ux W (HTY5.out.lift hW hW.size) (by have := canon_len (ns := nsOf us) My; omega))
                rw [hb1] at HR1
                rw [hb2] at HR2
                clear e9 hb1 hb2 hne hfu HMAKE HN HTX5 HTY5 HOKX HOKY hcx hcy
                go_upto_region 12 with (first | (go_at_call 29; refine HFULL.out.mono ?_; rintro e wf ⟨rfl, hbf⟩; have HBF := hid hbf; clear hbf))
                have hq1 := cell_below HBF.out hl5 q5
                have hw11 : w1.heap.size < wf.heap.size := Nat.lt_of_lt_of_le hl5 HBF.out.size
                have ha11 := cell_below HBF.out a9 a1
                have haw1 : a < wf.heap.size := Nat.lt_of_lt_of_le a9 HBF.out.size
                have hc41 := cell_below HBF.out a9 a4
                have hcw1 := haw1
                have HRST1 := hid (fun (W : World) (hW : Below wf.heap.size wf W) => HR1.out W (bstep HBF.out hW))
                have HMK1 := hid (fun lv (W : World) (hW : Below wf.heap.size wf W) h => HM1.out lv W (bstep HBF.out hW) h)
                have HON1 := hid (own_new (f := fTerm) (e := 55) (w := wf) (l := [⟨(ux : Int), (fu : Int)⟩]) (cs := #[.int .i64 ux, .int .i64 fu]) rfl (fun x hx => by rw [List.mem_singleton.1 hx]; exact HOKT.out) (by simp [maxLen]))
                go_upto_region 12 with fail
                go_cut [10] (fun s10 wx => ∃ (Am : Option Addr) (cm : Nat), s10 = .slice Am b1.length cm ∧ Hid (SliceRd tTerm wx (Lt wx.heap.size) (.slice Am b1.length cm) b1) ∧ Hid (Below wf.heap.size wf wx))
                case first =>
                  go_region_held3 (fun w' => w'.cell? ⟨w1.heap.size, 0, none⟩ = some (.slice (some ⟨g, 0, none⟩) us.length c) ∧ w'.cell? ⟨a, 1, none⟩ = some (.int .i64 ux) ∧ w'.cell? ⟨a, 4, none⟩ = some (.slice Ax tx cx)) (first | exact ⟨by assumption, by assumption, by assumption⟩ | go_keep) (first
                    | (go_at_call 30; refine (HRST1.out _ (balloc (b0 wf) _).drew).mono ?_; rintro e w8 ⟨v8, rfl, ho8, hb8⟩; obtain ⟨A8, c8, hv8⟩ := ho8.form; subst hv8; have HB81 := hid (bstep (balloc (b0 wf) _).drew hb8); have HO81 := hid ho8; have HON81 := hid (HON1.out.drew.below hb8 (Nat.le_refl _)); have jj0 := cell_below HB81.out hw11 hq1; have jj1 := cell_below HB81.out haw1 ha11; have jj2 := cell_below HB81.out hcw1 hc41; clear ho8 hb8)
                    | (go_at_call 30; refine (HRST1.out _ (b0 wf).drew).mono ?_; rintro e w8 ⟨v8, rfl, ho8, hb8⟩; obtain ⟨A8, c8, hv8⟩ := ho8.form; subst hv8; have HB81 := hid (bstep (b0 wf).drew hb8); have HO81 := hid ho8; have HON81 := hid ((own_new (f := fTerm) (e := 55) (w := w8) (l := [⟨(ux : Int), (fu : Int)⟩]) (cs := #[.int .i64 ux, .int .i64 fu]) rfl (fun x hx => by rw [List.mem_singleton.1 hx]; exact HOKT.out) (by simp [maxLen])).mono hb8.size); have jj0 := cell_below HB81.out hw11 hq1; have jj1 := cell_below HB81.out haw1 ha11; have jj2 := cell_below HB81.out hcw1 hc41; clear ho8 hb8)
                    | (refine step_guard (.tmp 59) (.tmp 64) 34 rfl ?_; refine step_append_src _ rfl (.tmp 59) (.tmp 64) 34 rfl wf.heap.size 55 it _ 2 16 Tryz.underlying34 HIT.out.1 HIT.out.2.1 HIT.out.2.2.1 HIT.out.2.2.2 rfl (by omega) (.slice (some ⟨wf.heap.size, 0, none⟩) 1 1) 1 (fTerm.all [⟨(ux : Int), (fu : Int)⟩]) (by rfl) (by exact HON81.out.1) A8 b1.length c8 (fTerm.all b1) (by rfl) (by exact (HO81.out.rd.srcF (f := fTerm)).2.1) (fTerm.all_one _) (by unfold maxLen; omega) (by omega) (HB81.out.size) ?_; intro v9 w9 hown9 hg9 hat9; have HB91 := hid (own_app (v2 := v9) (HB81.out) HON81.out (HB81.out.size) hg9 rfl); have HO91 := hid (show OwnF fTerm 55 wf.heap.size w9 v9 ([⟨(ux : Int), (fu : Int)⟩] ++ b1) from ⟨by rw [fTerm.all_append, List.length_append]; exact hown9, fun x hx => (List.mem_append.1 hx).elim (HON81.out.2 x) (HO81.out.2 x)⟩); have kk0 := cell_below HB91.out hw11 hq1; have kk1 := cell_below HB91.out haw1 ha11; have kk2 := cell_below HB91.out hcw1 hc41; clear hown9 hg9 hat9)
                    | (refine step_guard (.tmp 59) (.tmp 64) 34 rfl ?_; refine step_append_src _ rfl (.tmp 59) (.tmp 64) 34 rfl wf.heap.size 55 it _ 2 16 Tryz.underlying34 HIT.out.1 HIT.out.2.1 HIT.out.2.2.1 HIT.out.2.2.2 rfl (by omega) (.slice (some ⟨w8.heap.size, 0, none⟩) 1 1) 1 (fTerm.all [⟨(ux : Int), (fu : Int)⟩]) (by rfl) (by exact HON81.out.1) A8 b1.length c8 (fTerm.all b1) (by rfl) (by exact ((HO81.out.alloc _).rd.srcF (f := fTerm)).2.1) (fTerm.all_one _) (by unfold maxLen; omega) (by omega) (by have := HB81.out.size; simp; omega) ?_; intro v9 w9 hown9 hg9 hat9; have HB91 := hid (own_app (v2 := v9) (HB81.out.alloc HB81.out.size _) HON81.out (by have := HB81.out.size; simp; omega) hg9 rfl); have HO91 := hid (show OwnF fTerm 55 wf.heap.size w9 v9 ([⟨(ux : Int), (fu : Int)⟩] ++ b1) from ⟨by rw [fTerm.all_append, List.length_append]; exact hown9, fun x hx => (List.mem_append.1 hx).elim (HON81.out.2 x) (HO81.out.2 x)⟩); have kk0 := cell_below HB91.out hw11 hq1; have kk1 := cell_below HB91.out haw1 ha11; have kk2 := cell_below HB91.out hcw1 hc41; clear hown9 hg9 hat9)
                    | (go_at_call 28; refine (HMK1.out _ _ HB91.out HO91.out.rd).mono ?_; rintro e wM ⟨Am, cm, rfl, hrM, hbM⟩; have HRM := hid hrM; have HBM := hid (bstep HB91.out hbM); have mm0 := cell_below HBM.out hw11 hq1; have mm1 := cell_below HBM.out haw1 ha11; have mm2 := cell_below HBM.out hcw1 hc41; clear hrM hbM))
                  all_goals (go_wp2_with fail; go_meet; exact ⟨_, _, rfl, HRM, HBM⟩)
                case rest =>
                  obtain ⟨Am1, cm1, rfl, hrM1, hbM1⟩ := hcut
                  obtain ⟨wm, rfl⟩ : ∃ wm, wm = wc := ⟨_, rfl⟩
                  have HBFM := hid (bstep HBF.out hbM1.out)
                  have hq2 := cell_below HBFM.out hl5 q5
                  have hw12 : w1.heap.size < wm.heap.size := Nat.lt_of_lt_of_le hl5 HBFM.out.size
                  have ha12 := cell_below HBFM.out a9 a1
                  have haw2 : a < wm.heap.size := Nat.lt_of_lt_of_le a9 HBFM.out.size
                  have hc42 := cell_below HBFM.out b9 b4
                  have hcw2 : b < wm.heap.size := Nat.lt_of_lt_of_le b9 HBFM.out.size
                  have HRST2 := hid (fun (W : World) (hW : Below wm.heap.size wm W) => HR2.out W (bstep HBFM.out hW))
                  have HMK2 := hid (fun lv (W : World) (hW : Below wm.heap.size wm W) h => HM2.out lv W (bstep HBFM.out hW) h)
                  clear hq1 ha11 hc41 HRST1 HMK1 HON1
                  have HON2 := hid (own_new (f := fTerm) (e := 55) (w := wm) (l := [⟨(ux : Int), (fu : Int)⟩]) (cs := #[.int .i64 ux, .int .i64 fu]) rfl (fun x hx => by rw [List.mem_singleton.1 hx]; exact HOKT.out) (by simp [maxLen]))
                  go_upto_region 13 with fail
                  go_cut [12] (fun s10 wx => ∃ (Am : Option Addr) (cm : Nat), s10 = .slice Am b2.length cm ∧ Hid (SliceRd tTerm wx (Lt wx.heap.size) (.slice Am b2.length cm) b2) ∧ Hid (Below wm.heap.size wm wx))
                  case first =>
                    go_region_held3 (fun w' => w'.cell? ⟨w1.heap.size, 0, none⟩ = some (.slice (some ⟨g, 0, none⟩) us.length c) ∧ w'.cell? ⟨a, 1, none⟩ = some (.int .i64 ux) ∧ w'.cell? ⟨b, 4, none⟩ = some (.slice Ay ty cy)) (first | exact ⟨by assumption, by assumption, by assumption⟩ | go_keep) (first
                      | (go_at_call 30; refine (HRST2.out _ (balloc (b0 wm) _).drew).mono ?_; rintro e w8 ⟨v8, rfl, ho8, hb8⟩; obtain ⟨A8, c8, hv8⟩ := ho8.form; subst hv8; have HB82 := hid (bstep (balloc (b0 wm) _).drew hb8); have HO82 := hid ho8; have HON82 := hid (HON2.out.drew.below hb8 (Nat.le_refl _)); have jj0 := cell_below HB82.out hw12 hq2; have jj1 := cell_below HB82.out haw2 ha12; have jj2 := cell_below HB82.out hcw2 hc42; clear ho8 hb8)
                      | (go_at_call 30; refine (HRST2.out _ (b0 wm).drew).mono ?_; rintro e w8 ⟨v8, rfl, ho8, hb8⟩; obtain ⟨A8, c8, hv8⟩ := ho8.form; subst hv8; have HB82 := hid (bstep (b0 wm).drew hb8); have HO82 := hid ho8; have HON82 := hid ((own_new (f := fTerm) (e := 55) (w := w8) (l := [⟨(ux : Int), (fu : Int)⟩]) (cs := #[.int .i64 ux, .int .i64 fu]) rfl (fun x hx => by rw [List.mem_singleton.1 hx]; exact HOKT.out) (by simp [maxLen])).mono hb8.size); have jj0 := cell_below HB82.out hw12 hq2; have jj1 := cell_below HB82.out haw2 ha12; have jj2 := cell_below HB82.out hcw2 hc42; clear ho8 hb8)
                      | (refine step_guard (.tmp 75) (.tmp 80) 34 rfl ?_; refine step_append_src _ rfl (.tmp 75) (.tmp 80) 34 rfl wm.heap.size 55 it _ 2 16 Tryz.underlying34 HIT.out.1 HIT.out.2.1 HIT.out.2.2.1 HIT.out.2.2.2 rfl (by omega) (.slice (some ⟨wm.heap.size, 0, none⟩) 1 1) 1 (fTerm.all [⟨(ux : Int), (fu : Int)⟩]) (by rfl) (by exact HON82.out.1) A8 b2.length c8 (fTerm.all b2) (by rfl) (by exact (HO82.out.rd.srcF (f := fTerm)).2.1) (fTerm.all_one _) (by unfold maxLen; omega) (by omega) (HB82.out.size) ?_; intro v9 w9 hown9 hg9 hat9; have HB92 := hid (own_app (v2 := v9) (HB82.out) HON82.out (HB82.out.size) hg9 rfl); have HO92 := hid (show OwnF fTerm 55 wm.heap.size w9 v9 ([⟨(ux : Int), (fu : Int)⟩] ++ b2) from ⟨by rw [fTerm.all_append, List.length_append]; exact hown9, fun x hx => (List.mem_append.1 hx).elim (HON82.out.2 x) (HO82.out.2 x)⟩); have kk0 := cell_below HB92.out hw12 hq2; have kk1 := cell_below HB92.out haw2 ha12; have kk2 := cell_below HB92.out hcw2 hc42; clear hown9 hg9 hat9)
                      | (refine step_guard (.tmp 75) (.tmp 80) 34 rfl ?_; refine step_append_src _ rfl (.tmp 75) (.tmp 80) 34 rfl wm.heap.size 55 it _ 2 16 Tryz.underlying34 HIT.out.1 HIT.out.2.1 HIT.out.2.2.1 HIT.out.2.2.2 rfl (by omega) (.slice (some ⟨w8.heap.size, 0, none⟩) 1 1) 1 (fTerm.all [⟨(ux : Int), (fu : Int)⟩]) (by rfl) (by exact HON82.out.1) A8 b2.length c8 (fTerm.all b2) (by rfl) (by exact ((HO82.out.alloc _).rd.srcF (f := fTerm)).2.1) (fTerm.all_one _) (by unfold maxLen; omega) (by omega) (by have := HB82.out.size; simp; omega) ?_; intro v9 w9 hown9 hg9 hat9; have HB92 := hid (own_app (v2 := v9) (HB82.out.alloc HB82.out.size _) HON82.out (by have := HB82.out.size; simp; omega) hg9 rfl); have HO92 := hid (show OwnF fTerm 55 wm.heap.size w9 v9 ([⟨(ux : Int), (fu : Int)⟩] ++ b2) from ⟨by rw [fTerm.all_append, List.length_append]; exact hown9, fun x hx => (List.mem_append.1 hx).elim (HON82.out.2 x) (HO82.out.2 x)⟩); have kk0 := cell_below HB92.out hw12 hq2; have kk1 := cell_below HB92.out haw2 ha12; have kk2 := cell_below HB92.out hcw2 hc42; clear hown9 hg9 hat9)
                      | (go_at_call 28; refine (HMK2.out _ _ HB92.out HO92.out.rd).mono ?_; rintro e wM ⟨Am, cm, rfl, hrM, hbM⟩; have HRM := hid hrM; have HBM := hid (bstep HB92.out hbM); have mm0 := cell_below HBM.out hw12 hq2; have mm1 := cell_below HBM.out haw2 ha12; have mm2 := cell_below HBM.out hcw2 hc42; clear hrM hbM))
                    all_goals (go_wp2_with fail; go_meet; exact ⟨_, _, rfl, HRM, HBM⟩)
                  case rest =>
                    obtain ⟨Am2, cm2, rfl, hrM2, hbM2⟩ := hcut
                    obtain ⟨wn, rfl⟩ : ∃ wn, wn = wc := ⟨_, rfl⟩
                    have HBFN := hid (bstep HBFM.out hbM2.out)
                    have HSAME := hid (sameTerms_any (.slice Am1 b1.length cm1) (.slice Am2 b2.length cm2) b1 b2 wn (hrM1.out.lift hbM2.out hbM2.out.size) hrM2.out)
                    rw [HNEB.out] at HSAME
                    go_wp2_with (go_at_call 31; refine HSAME.out.mono ?_; rintro e ws5 ⟨rfl, hbs⟩; have HBS := hid (bstep HBFN.out hbs); clear hbs)
                    exact ⟨⟨k + 1, by omega, by go_num, hid (bstep HBW9.out HBS.out)⟩, by simp [RowKit.intOf]; omega⟩
              · have n2 : ((ux : Int) == (uy : Int)) = false := beq_eq_false_iff_ne.2 (by omega)
                have n2' : ((ux : Int) != (uy : Int)) = true := by rw [bne, n2]; rfl
                clear e1 e2
                go_wp2_with fail
                exact ⟨⟨k + 1, by omega, by go_num, HBW9⟩, by simp [RowKit.intOf]; omega⟩
            · have n1 : (kx == ky) = false := beq_eq_false_iff_ne.2 e1
              have n1' : (kx != ky) = true := by rw [bne, n1]; rfl
              clear e1
              go_wp2_with fail
              exact ⟨⟨k + 1, by omega, by go_num, HBW9⟩, by simp [RowKit.intOf]; omega⟩
        · have hki : k = i := by omega
          subst hki
          clear hltk
          go_wp2_with fail
          exact ⟨⟨k + 1, by omega, by go_num, hbk⟩, by simp [RowKit.intOf]; omega⟩
    · have hie : i = rn := by omega
      subst hie
      clear hlt
      have h0l : 0 < rows.length := by rw [HRN.out]; omega
      obtain ⟨A0, c0, z0, -⟩ := HROW.out 0 h0l
      rw [HROOT.out h0l, Nat.zero_mul, Nat.add_zero] at z0
      have z0 := cell_below hb.out hgr z0
      have zl := later_cell (Nat.lt_of_lt_of_le hgr hb.out.size) z0
      have zp : decide ((0 : Int) < ↑i) = true := decide_eq_true (by omega)
      go_wp2_with (go_at_call 17; refine (awake_any _ (HF.out.below (bstep HB3.out hb.out)) (HT.out.later (bstep HB3.out hb.out))).mono ?_; rintro e wz ⟨rfl, hbz⟩; have HBZ := hid (bstep (bstep HB3.out hb.out) hbz); clear hbz)
      go_ret
      exact ⟨rfl, HBZ.out⟩
end Go.Proofs.YtilgijmokjekgaaGreatDoor
