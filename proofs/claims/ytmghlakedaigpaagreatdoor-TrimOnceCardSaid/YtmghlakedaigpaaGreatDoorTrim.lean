/- Contract: trim.Trim. -/
import Derived.Test.YtmghlakedaigpaaGreatDoorUsed
import Derived.Test.YtmghlakedaigpaaGreatDoorInj
namespace Go.Proofs.YtmghlakedaigpaaGreatDoor
open Go Go.RowKit
attribute [local go_sem ↓] Go.wp_at_zero Go.wp_at_succ

theorem zero_int (w : World) : (zeroValue 3).run Tryz.prog w = .ok (.int .i64 0) w := by kernel_rfl
/-- Rows of the call's own. -/
def TrimPost (L : List Row) (w : World) (e : Ending) (w' : World) : Prop := ∃ v' tvs, e = .returned v' ∧ Copied 38 35 w' w.heap.size v' L tvs ∧ Below w.heap.size w w'
theorem turn_terms (m : Nat → Nat) (r : Row) : (turn m r).terms = r.terms ∧ (turn m r).kind = r.kind ∧ (turn m r).unit = r.unit := by
  unfold turn; split <;> exact ⟨rfl, rfl, rfl⟩

theorem ownsRow_base {w : World} {B B' : Nat} {e : TypeId} {s n : Nat} {v : Value} {xs : List Value} (h : w.ownsRow B' e s v n xs) (hB : B ≤ B') : w.ownsRow B e s v n xs := by
  refine ⟨h.1, ?_⟩
  rcases h.2 with hn | ⟨g, cap, cur, h1, h2, h3⟩
  · exact .inl hn
  · exact .inr ⟨g, cap, cur, h1, Nat.le_trans hB h2, h3⟩
theorem rowI_turn {l : List Row} (hm : MayP l) {k : Nat} (hk : k < l.length) (hu : usedF l k = true) (hr : RowI l[k]) : RowI (turn (trimSt l k).1 l[k]) := by
  unfold turn
  by_cases h5 : l[k].kind = 5
  · rw [if_pos h5]
    obtain ⟨⟨_, _, _, _, _, h6, _⟩, _⟩ := hm.2.2 k hk
    obtain ⟨a0, a1, a2, a3⟩ := h6 h5
    have inv := trim_inv hm k (by omega)
    have ua := inv.lt l[k].a.toNat (by omega) (used_kid hm hk hu (i := l[k].a.toNat) (by simp [kid, h5]))
    have ub := inv.lt l[k].b.toNat (by omega) (used_kid hm hk hu (i := l[k].b.toNat) (by simp [kid, h5]))
    have hc := inv.count
    have h2 := List.length_filter_le (usedF l) (List.range k)
    rw [List.length_range] at h2
    have hl := hm.2.1
    exact ⟨hr.kind, hr.unit, ⟨by simp only; omega, by simp only; omega⟩, ⟨by simp only; omega, by simp only; omega⟩, hr.terms⟩
  · rw [if_neg h5]; exact hr

set_option maxRecDepth 100000 in
set_option maxHeartbeats 2000000 in
theorem trim_any (v : Value) (l : List Row) (w : World) (h : SliceRd tRow w (Lt w.heap.size) v l) (hm : MayP l)
    (htab : Lib.TabBelow Tryz.prog w.heap.size w "internal/strconv.uint64pow10" .u64 Lib.pow10Tab) :
    Calls Tryz.prog 6 #[v] w (TrimPost (trimF l) w) := by
  have HH := hid h
  have HM := hid hm
  have HTAB := hid htab
  obtain ⟨A, cap, rfl, hcap, hmax, hc⟩ := h.rows
  have HC := hid hc
  have hl : l.length ≤ 20000 := hm.2.1
  have hl1 : 1 ≤ l.length := hm.1
  unfold maxLen at hmax
  clear h hc hm htab
  obtain ⟨ir, hir⟩ := info_parts row_info
  have HIR := hid hir
  clear hir
  have hmm := @run_makeMap Tryz.prog
  go_enter Tryz.func6, Tryz.ntmps6
  go_wp2_with fail
  refine (used_any _ l _ HH.out HM.out).mono ?_
  rintro e w1 ⟨bu, rfl, har, hgu, hb1⟩
  go_wp2_with fail
  clear hmm
  have hge : w.heap.size ≤ w1.heap.size := hb1.size
  have har0 := hid ((har.alloc (.map #[] 0)).alloc (.map #[] 0))
  have hmt0 : Hid (MapF kInt ((w1.alloc (.map #[] 0)).alloc (.map #[] 0)) w1.heap.size 0 (toF l 0)) := hid (((MapF.made kInt w1).alloc _).congr (toF_zero l))
  have hmk0 : Hid (MapF kStr ((w1.alloc (.map #[] 0)).alloc (.map #[] 0)) (w1.heap.size + 1) 0 (keptF [])) := hid (by
    have := (MapF.made kStr (w1.alloc (.map #[] 0))).congr (fun s => (keptF_nil s).symm)
    simpa using this)
  have hbm : Below w.heap.size w ((w1.alloc (.map #[] 0)).alloc (.map #[] 0)) := (hb1.alloc hge _).alloc (by simp; omega) _
  obtain ⟨bt, hbt⟩ : ∃ bt, bt = w1.heap.size := ⟨_, rfl⟩
  obtain ⟨bk, hbk⟩ : ∃ bk, bk = w1.heap.size + 1 := ⟨_, rfl⟩
  have hgt : w.heap.size ≤ bt := by omega
  have hgk : w.heap.size ≤ bk := by omega
  have htk : bt ≠ bk := by omega
  rw [← hbt] at hmt0
  rw [← hbk] at hmk0 ⊢
  rw [← hbt]
  clear hbt hbk
  generalize (w1.alloc (.map #[] 0)).alloc (.map #[] 0) = wm at har0 hmt0 hmk0 hbm ⊢
  clear hb1 har hge
  go_loopw [6, 18] (fun ov iv wr => ∃ k : Nat, k ≤ l.length ∧ iv = .int .i64 k ∧ Hid (∃ tvs, Copied 38 35 wr w.heap.size ov (trimSt l k).2 tvs) ∧ Hid (∃ c, MapF kInt wr bt c (toF l k)) ∧ Hid (∃ c, MapF kStr wr bk c (keptF (trimSt l k).2)) ∧ Hid (Arr 4 wr bu (boolCells (usedL l))) ∧ Hid (Below w.heap.size w wr)) (fun _ iv _ => l.length - (intOf iv).toNat)
  case atStart => exact ⟨0, Nat.zero_le _, rfl, hid ⟨[], Copied.nil (by decide) _ _⟩, hid ⟨0, hmt0.out⟩, hid ⟨0, hmk0.out⟩, har0, hid hbm⟩
  case round =>
    obtain ⟨k, hk, rfl, hcop, hmt, hmk, har, hb⟩ := hrel
    obtain ⟨tvs, hcop'⟩ := hcop.out
    have HCOP := hid hcop'
    obtain ⟨A6, c6, rfl⟩ := own_form hcop'.own
    clear hcop hcop'
    by_cases hlt : k < l.length
    · have hcu := har.out.cell (i := k) (by simp [boolCells, usedL]; exact hlt)
      have he : (boolCells (usedL l))[k]'(by simp [boolCells, usedL]; exact hlt) = .bool (usedF l k) := by simp [boolCells, usedL]
      rw [he] at hcu
      clear he
      have hbul := har.out.lt
      have q1 : (0 : Int) ≤ ↑k := by omega
      have q2 : (↑k : Int) < ↑l.length := by omega
      cases hu : usedF l k with
      | false =>
        rw [hu] at hcu
        have HU := hid hu
        clear hu
        go_wp2_with fail
        have e : (trimSt l (k + 1)).2 = (trimSt l k).2 := by rw [trimSt_succ hlt, trimStep, if_neg (by rw [HU.out]; simp)]
        exact ⟨⟨k + 1, by omega, by go_num, hid ⟨tvs, by rw [e]; exact HCOP.out⟩, hid (by obtain ⟨c, hc⟩ := hmt.out; exact ⟨c, hc.congr (toF_skip hlt HU.out)⟩), hid (by rw [e]; exact hmk.out), har, hb⟩, by simp [intOf]; omega⟩
      | true =>
        rw [hu] at hcu
        have HU := hid hu
        clear hu
        obtain ⟨g, o, tv, hA, hF, g0, g1, g2, g3, g4, ⟨i0, i1, i2, i3⟩, gt⟩ := HC.out k hlt
        cases hA
        obtain ⟨c0, c1, c2, c3, c4⟩ := cells5 hb.out hF ⟨g0, g1, g2, g3, g4⟩
        have HT := hid (gt.lift hb.out hb.out.size)
        obtain ⟨TA, tcap, rfl, -, -, -⟩ := gt.terms
        have htl := (terms_le (HM.out.2.2 k hlt).1.2.2.2.2.1).1
        clear g0 g1 g2 g3 g4 gt
        go_upto_if 35 with (first
          | (go_at_call 17
             refine (clone_any _ l[k].terms _ (HT.out.lift ((Below.refl _ _).alloc (Nat.le_refl _) _) (by simp)) (by omega)).mono ?_
             rintro e w2 ⟨tv2, rfl, hown2, hb2⟩
             obtain ⟨A2, cp2, rfl⟩ := own_form hown2
             have hbx2 : Box 38 w2 wr.heap.size l[k] (.slice TA l[k].terms.length tcap) := (Box.new _ wr l[k] _).keep (hb2.block _ (by simp))
             obtain ⟨⟨b0, b1, b2, b3, b4⟩, bf⟩ := hbx2.cells
             have hblt := hbx2.lt
             have HBX2 := hid hbx2
             have HOWN2 := hid hown2
             have HB2 := hid hb2
             clear hbx2 hown2 hb2))
        obtain ⟨wt, hwt⟩ : ∃ wt : World, wt = w2.setCell ⟨wr.heap.size, 4, none⟩ (.slice A2 l[k].terms.length cp2) := ⟨_, rfl⟩
        have hbx : Box 38 wt wr.heap.size l[k] (.slice A2 l[k].terms.length cp2) := by rw [hwt]; exact (HBX2.out.set).2.2.2.2 _ l[k].terms
        have hot : wt.ownsRow (wr.heap.size + 1) 35 2 (.slice A2 l[k].terms.length cp2) l[k].terms.length (termCells l[k].terms) := by
          have h1 := HOWN2.out
          rw [show (wr.alloc (.cells #[.int .i64 l[k].kind, .int .i64 l[k].unit, .int .i64 l[k].a, .int .i64 l[k].b, .slice TA l[k].terms.length tcap] 38)).heap.size = wr.heap.size + 1 by simp] at h1
          rw [hwt]
          refine ownsRow_keep h1 (fun g hg => heap_setCell_other _ _ _ _ ?_)
          have := (h1.lt g hg).1
          show g ≠ wr.heap.size
          omega
        have hbt : Below wr.heap.size wr wt := by rw [hwt]; exact (((Below.refl _ _).alloc (Nat.le_refl _) _).trans (HB2.out.mono (by simp))).setCell (p := ⟨wr.heap.size, 4, none⟩) (Nat.le_refl _) _
        rw [← hwt]
        clear hwt b0 b1 b2 b3 b4 bf hblt c0 c1 c2 c3 c4 hcu HBX2 HOWN2 HB2
        obtain ⟨⟨b0, b1, b2, b3, b4⟩, bf⟩ := hbx.cells
        have hblt := hbx.lt
        have HBX := hid hbx
        have HOT := hid hot
        have HBT := hid hbt
        clear hbx hot hbt
        go_cut [] (fun wx => Hid (Box 38 wx wr.heap.size (turn (trimSt l k).1 l[k]) (.slice A2 l[k].terms.length cp2)) ∧ Hid (wx.ownsRow (wr.heap.size + 1) 35 2 (.slice A2 l[k].terms.length cp2) l[k].terms.length (termCells l[k].terms)) ∧ Hid (Below wr.heap.size wr wx))
        case first =>
          by_cases h5 : l[k].kind = 5
          · have k5 : (l[k].kind == 5) = true := by simpa using h5
            obtain ⟨⟨_, _, _, _, _, h6, _⟩, _⟩ := HM.out.2.2 k hlt
            obtain ⟨a0, a1, a2, a3⟩ := h6 h5
            have ua := used_kid HM.out hlt HU.out (i := l[k].a.toNat) (by simp [kid, h5])
            have ub := used_kid HM.out hlt HU.out (i := l[k].b.toNat) (by simp [kid, h5])
            have HTR := hid (show turn (trimSt l k).1 l[k] = { l[k] with a := (((trimSt l k).1 l[k].a.toNat : Nat) : Int), b := (((trimSt l k).1 l[k].b.toNat : Nat) : Int) } by unfold turn; rw [if_pos h5])
            obtain ⟨ct, hmap⟩ := hmt.out
            have hbtl := hmap.lt
            have hmap' := hmap.below HBT.out hbtl
            have ea := toF_at (l := l) (k := k) (j := l[k].a) a0 a1 ua
            have eb := toF_at (l := l) (k := k) (j := l[k].b) a2 a3 ub
            generalize (trimSt l k).1 l[k].a.toNat = na at ea HTR
            generalize (trimSt l k).1 l[k].b.toNat = nb at eb HTR
            have look : ∀ (W : World) (j : Int) (x : Value), (toF l k j).getD (.int .i64 0) = x → MapF kInt W bt ct (toF l k) → (Instr.lookup 65 (.map (some bt)) (.int .i64 j) false).run Tryz.prog W = .ok x W := fun W j x hx hM => by
              have := (hM.run_lookup Tryz.underlying65 Tryz.underlying3 (zero_int W) j).1
              rw [hx] at this
              exact this
            have la1 := look wt.drew _ _ ea hmap'.drew
            have lb1 := look wt.drew _ _ eb hmap'.drew
            have hne : bt ≠ wr.heap.size := by omega
            have la2 : ∀ x, _ := fun x => look (wt.setCell ⟨wr.heap.size, 2, none⟩ x).drew _ _ ea (hmap'.other (p := ⟨wr.heap.size, 2, none⟩) hne x).drew
            have lb2 : ∀ x, _ := fun x => look (wt.setCell ⟨wr.heap.size, 2, none⟩ x).drew _ _ eb (hmap'.other (p := ⟨wr.heap.size, 2, none⟩) hne x).drew
            clear hmap hmap' ea eb look h5 h6 ua ub
            go_wp2_with fail
            go_region
            all_goals (go_wp2_with fail; go_meet)
            all_goals
              exact ⟨hid (by rw [HTR.out]; exact ((HBX.out.set.2.2.1 _).set.2.2.2.1 _)),
                hid (ownsRow_keep HOT.out (fun g hg => by
                  have := (HOT.out.lt g hg).1
                  exact (heap_setCell_other _ _ _ _ (by show g ≠ wr.heap.size; omega)).trans (heap_setCell_other _ _ _ _ (by show g ≠ wr.heap.size; omega)))),
                hid (((HBT.out.setCell (p := ⟨wr.heap.size, 2, none⟩) (Nat.le_refl _) _).setCell (p := ⟨wr.heap.size, 3, none⟩) (Nat.le_refl _) _).drew)⟩
          · have k5 : (l[k].kind == 5) = false := by simpa using h5
            have HTR := hid (show turn (trimSt l k).1 l[k] = l[k] by unfold turn; rw [if_neg h5])
            clear h5
            go_wp2_with fail
            go_meet
            exact ⟨hid (by rw [HTR.out]; exact HBX.out), HOT, HBT⟩
        case rest =>
          clear b0 b1 b2 b3 b4 bf hblt HBX HOT HBT
          obtain ⟨hbx, hot, hbt⟩ := hcut
          have HQI := hid (rowI_turn HM.out hlt HU.out ⟨i0, i1, i2, i3, by
            obtain ⟨_, _, hv, _, _, _⟩ := HT.out.terms
            cases hv
            exact HT.out.src.2.2⟩)
          obtain ⟨V, hV⟩ : ∃ V, V = Value.slice A2 l[k].terms.length cp2 := ⟨_, rfl⟩
          have hot' := hot.out
          rw [← hV] at hot'
          rw [← (turn_terms (trimSt l k).1 l[k]).1] at hot'
          have hql : (turn (trimSt l k).1 l[k]).terms.length ≤ 48 := by rw [(turn_terms _ _).1]; exact htl
          obtain ⟨q, hq⟩ : ∃ q, q = turn (trimSt l k).1 l[k] := ⟨_, rfl⟩
          have hbx' := hbx.out
          have hbxc := hbx.out.cells
          rw [← hq] at hbx' hbxc hot' HQI hql
          rw [← hV] at hbx' hbxc
          have HV := hid hV
          have HQ := hid hq
          have HBX := hid hbx'
          have HOT := hid hot'
          have HBT := hid hbt.out
          have HBW := hid (hb.out.trans (hbt.out.mono hb.out.size))
          clear hq hV hbx hot hbt hbx' hot'
          obtain ⟨⟨b0, b1, b2, b3, b4⟩, bf⟩ := hbxc
          have hblt := HBX.out.lt
          have HRD : Hid (∀ W, Below wc.heap.size wc W → SliceRd tTerm W (Lt W.heap.size) V q.terms) := hid (fun W hW =>
            rd_of_own (ownsRow_below HOT.out hW (fun g hg => (HOT.out.lt g hg).2)) HQI.out.terms (fun g hg => Nat.lt_of_lt_of_le (HOT.out.lt g hg).2 hW.size))
          obtain ⟨ct, hmt'⟩ := hmt.out
          obtain ⟨ck, hmk'⟩ := hmk.out
          have hbtl := hmt'.lt
          have hbkl := hmk'.lt
          have HMT := hid hmt'
          have HMK := hid hmk'
          have HAR := hid har.out
          have hout : (trimSt l k).2.length ≤ l.length := by
            have := (trim_inv HM.out k (by omega)).count
            have h2 := List.length_filter_le (usedF l) (List.range k)
            rw [List.length_range] at h2
            omega
          have HST : Hid ((trimSt l (k + 1)).2 = (putRow (trimSt l k).2 q).2) := hid (by rw [trimSt_succ hlt, trimStep, if_pos HU.out, HQ.out])
          have HPUT : Hid (∀ j : Int, (if j = ↑k then some (Value.int .i64 (((putRow (trimSt l k).2 q).1 : Nat) : Int)) else toF l k j) = toF l (k + 1) j) := hid (fun j => by rw [HQ.out]; exact toF_put hlt HU.out j)
          clear hmt' hmk' hmt hmk har hbul
          by_cases hin : q ∈ (trimSt l k).2
          · have HKA := hid (show keptF (trimSt l k).2 ⟨(textF q).toArray⟩ = some (.int .i64 (((trimSt l k).2.idxOf q : Nat) : Int)) by rw [keptF_at, if_pos hin])
            have HPR := hid (show putRow (trimSt l k).2 q = ((trimSt l k).2.idxOf q, (trimSt l k).2) by unfold putRow; rw [if_pos hin])
            clear hin
            go_wp2_with (first
              | (go_at_call 18
                 refine (text_any q V _ (HRD.out _ (Below.refl _ _)) HQI.out (by omega) (fun w' h' => HTAB.out w' (HBW.out.trans (h'.mono HBW.out.size)))).mono ?_
                 rintro e w3 ⟨rfl, hb3⟩
                 have HB3 := hid (HBT.out.trans (hb3.mono HBT.out.size))
                 have HMK3 := hid (HMK.out.below HB3.out hbkl)
                 have HMT3 := hid (HMT.out.below HB3.out hbtl)
                 clear hb3)
              | (at_lookup; refine wpList_lookup2_m rfl _ _ rfl kStr Tryz.underlying66 Tryz.underlying9 (.int .i64 0) (zero_int _) bk ck _ rfl HMK3.out ⟨(textF q).toArray⟩ rfl ?_; rw [HKA.out])
              | (at_mapUpdate; refine wpList_update_m rfl _ _ _ rfl kInt Tryz.underlying65 Tryz.underlying3 bt ct _ rfl HMT3.out ↑k (.int .i64 (((trimSt l k).2.idxOf q : Nat) : Int)) rfl rfl ?_
                 intro w5 n5 hm5 _ _ hg5 hs5
                 have HM5 := hid hm5
                 have HG5 := hid hg5
                 clear hm5 hg5 hs5))
            refine ⟨⟨k + 1, by omega, by go_num, hid ⟨tvs, ?_⟩, hid ⟨n5, ?_⟩, hid ⟨ck, ?_⟩, hid ?_, hid ?_⟩, by simp [intOf]; omega⟩
            · rw [HST.out, HPR.out]
              exact (HCOP.out.below HB3.out (Nat.le_refl _)).by_map HMT3.out HG5.out
            · have hp := HPUT.out
              rw [HPR.out] at hp
              exact HM5.out.congr hp
            · rw [HST.out, HPR.out]
              exact HMK3.out.by_map (Ne.symm htk) HG5.out
            · exact (HAR.out.below HB3.out HAR.out.lt).by_map HMT3.out HG5.out
            · exact below_map (hb.out.trans (HB3.out.mono hb.out.size)) HG5.out hgt (Nat.le_trans hb.out.size HB3.out.size)
          · have HIN := hid hin
            have HKA := hid (show keptF (trimSt l k).2 ⟨(textF q).toArray⟩ = none by rw [keptF_at, if_neg hin])
            have HPR := hid (show putRow (trimSt l k).2 q = ((trimSt l k).2.length, (trimSt l k).2 ++ [q]) by unfold putRow; rw [if_neg hin])
            clear hin
            have HAP : Hid (∀ k', (hk' : k' < tvs.length) → ∀ g, tvs[k'].ownBlock = some g → V.ownBlock ≠ some g) := hid (fun k' hk' g hg hV => by
              have h1 := (HCOP.out.lt.2 k' hk' g hg).2
              have h2 := (HOT.out.lt g hV).1
              omega)
            have tok := hid True.intro
            go_wp2_with (first
              | (go_at_call 18
                 clear tok
                 refine (text_any q V _ (HRD.out _ (Below.refl _ _)) HQI.out (by omega) (fun w' h' => HTAB.out w' (HBW.out.trans (h'.mono HBW.out.size)))).mono ?_
                 rintro e w3 ⟨rfl, hb3⟩
                 have HB3 := hid (HBT.out.trans (hb3.mono HBT.out.size))
                 have HC3 := hid hb3
                 have HW3 := hid (HBW.out.trans (hb3.mono HBW.out.size))
                 have HMK3 := hid (HMK.out.below HB3.out hbkl)
                 have hbx3 := HBX.out.keep (hb3.block _ hblt)
                 obtain ⟨⟨d0, d1, d2, d3, d4⟩, df⟩ := hbx3.cells
                 have hbl3 := hbx3.lt
                 have HBX3 := hid hbx3
                 clear hb3 hbx3)
              | (at_lookup; refine wpList_lookup2_m rfl _ _ rfl kStr Tryz.underlying66 Tryz.underlying9 (.int .i64 0) (zero_int _) bk ck _ rfl HMK3.out ⟨(textF q).toArray⟩ rfl ?_; rw [HKA.out])
              | (go_at_call 18
                 refine (text_any q V _ (HRD.out _ HC3.out) HQI.out (by omega) (fun w' h' => HTAB.out w' (HW3.out.trans (h'.mono HW3.out.size)))).mono ?_
                 rintro e w4 ⟨rfl, hb4⟩
                 have HB4 := hid (HB3.out.trans (hb4.mono HB3.out.size))
                 have HC4 := hid (HC3.out.trans (hb4.mono HC3.out.size))
                 have HMK4 := hid (HMK.out.below HB4.out hbkl)
                 have HBX4 := hid (HBX3.out.keep (hb4.block _ hbl3))
                 clear hb4)
              | (at_mapUpdate; refine wpList_update_m rfl _ _ _ rfl kStr Tryz.underlying66 Tryz.underlying9 bk ck _ rfl HMK4.out ⟨(textF q).toArray⟩ (.int .i64 (((trimSt l k).2.length : Nat) : Int)) rfl rfl ?_
                 intro w5 n5 hm5 _ _ hg5 hs5
                 have hne5 : wr.heap.size ≠ bk := by omega
                 have hbx5 := HBX4.out.keep (grown_other hg5 HBX4.out.lt hne5)
                 obtain ⟨⟨f0, f1, f2, f3, f4⟩, ff⟩ := hbx5.cells
                 have hbl5 := hbx5.lt
                 have HS5 := hid hs5
                 have HM5 := hid hm5
                 have HG5 := hid hg5
                 have HCOP5 := hid ((HCOP.out.below HB4.out (Nat.le_refl _)).by_map HMK4.out hg5)
                 have HMT5 := hid ((HMT.out.below HB4.out hbtl).by_map htk hg5)
                 have HAR5 := hid ((HAR.out.below HB4.out HAR.out.lt).by_map HMK4.out hg5)
                 have HB5 := hid (below_map (hb.out.trans (HB4.out.mono hb.out.size)) hg5 hgk (Nat.le_trans hb.out.size HB4.out.size))
                 have hot4 := ownsRow_below HOT.out HC4.out (fun g hg => (HOT.out.lt g hg).2)
                 have HOT5 := hid (ownsRow_base (B := w.heap.size) (ownsRow_keep (w' := w5) hot4 (fun g hg => hg5.block g (hot4.lt g hg).2 (fun e => HMK4.out.ne_own hot4 hg (Option.some.inj e)))) (by have := hb.out.size; omega))
                 clear hm5 hg5 hs5 hbx5 hot4)
              | (at_builtin
                 refine wpList_append_src _ rfl (.tmp 61) (.tmp 63) _ rfl w.heap.size 38 ir _ 5 56 Tryz.underlying28 HIR.out.1 HIR.out.2.1 HIR.out.2.2.1 HIR.out.2.2.2 rfl (by omega) (.slice A6 (trimSt l k).2.length c6) (trimSt l k).2.length (rowsCells (trimSt l k).2 tvs) rfl (by exact (HCOP5.out.own).alloc _) (some ⟨w5.heap.size, 0, none⟩) 1 1 (rowCells q V) rfl (by exact src_new _ _ rfl 5 _ rfl rfl) (by rw [HV.out]; simp [rowCells, Value.oneCell']) (by unfold maxLen; omega) (by omega) (by exact ((HB5.out.alloc HB5.out.size _).size)) ?_
                 intro v6 w6 hown6 hg6 _
                 obtain ⟨A7, c7, rfl⟩ := own_form hown6
                 have HC6 := hid ((HCOP5.out.below ((Below.refl _ _).alloc (Nat.le_refl _) _) (Nat.le_refl _)).snoc hown6 hg6 HQI.out (HOT5.out.alloc _) HAP.out)
                 have HMT6 := hid ((HMT5.out.alloc _).by_own ((HCOP5.out.own).alloc _) hg6)
                 have HMK6 := hid ((HM5.out.alloc _).by_own ((HCOP5.out.own).alloc _) hg6)
                 have HAR6 := hid ((HAR5.out.alloc _).by_own (by decide) ((HCOP5.out.own).alloc _) hg6)
                 have HB6 := hid ((HB5.out.alloc HB5.out.size _).grown hg6 (by exact (HB5.out.alloc HB5.out.size _).size) (by intro k' h'; exact (HCOP5.out.own.lt k' h').1))
                 clear hown6 hg6)
              | (at_mapUpdate; refine wpList_update_m rfl _ _ _ rfl kInt Tryz.underlying65 Tryz.underlying3 bt ct _ rfl HMT6.out ↑k (.int .i64 (((trimSt l k).2.length : Nat) : Int)) rfl rfl ?_
                 intro w7 n7 hm7 _ _ hg7 hs7
                 have HM7 := hid hm7
                 have HG7 := hid hg7
                 clear hm7 hg7 hs7))
            refine ⟨⟨k + 1, by omega, by go_num, hid ⟨tvs ++ [V], ?_⟩, hid ⟨n7, ?_⟩, hid ⟨n5, ?_⟩, hid ?_, hid ?_⟩, by simp [intOf]; omega⟩
            · rw [HST.out, HPR.out]
              exact HC6.out.by_map HMT6.out HG7.out
            · have hp := HPUT.out
              rw [HPR.out] at hp
              exact HM7.out.congr hp
            · rw [HST.out, HPR.out]
              exact (HMK6.out.by_map (Ne.symm htk) HG7.out).congr (keptF_snoc HIN.out)
            · exact HAR6.out.by_map HMT6.out HG7.out
            · exact below_map HB6.out HG7.out hgt HB6.out.size
    · have hk' : k = l.length := by omega
      subst hk'
      go_wp2_with fail
      go_ret
      exact ⟨_, tvs, rfl, HCOP.out, hb.out⟩

theorem trim_bad (v : Value) (l : List Row) (w : World) (h : SliceRd tRow w (Lt w.heap.size) v l) (hm : ¬ MayP l) :
    Calls Tryz.prog 6 #[v] w fun e w' => e = .returned (.slice none 0 0) ∧ Below w.heap.size w w' := by
  have HH := hid h
  have HM := hid hm
  obtain ⟨A, cap, rfl, hcap, hmax, hc⟩ := h.rows
  clear h hc hm
  have hmm := @run_makeMap Tryz.prog
  go_enter Tryz.func6, Tryz.ntmps6
  go_wp2_with fail
  refine (used_bad _ l _ HH.out HM.out).mono ?_
  rintro e w1 ⟨rfl, hb1⟩
  go_wp2_with fail
  go_loopw [6, 18] (fun ov iv wr => ov = .slice none 0 0 ∧ iv = .int .i64 0 ∧ Hid (Below w.heap.size w wr)) (fun _ _ _ => 0)
  case atStart => exact ⟨rfl, rfl, hid ((hb1.alloc hb1.size _).alloc (by have := hb1.size; simp; omega) _)⟩
  case round =>
    obtain ⟨rfl, rfl, hb⟩ := hrel
    go_wp2_with fail
    go_ret
    exact ⟨rfl, hb.out⟩
end Go.Proofs.YtmghlakedaigpaaGreatDoor
