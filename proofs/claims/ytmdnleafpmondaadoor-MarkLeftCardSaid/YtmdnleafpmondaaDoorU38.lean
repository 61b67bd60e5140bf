/- MarkLeft: the walk of the law. -/
import Derived.Test.YtmdnleafpmondaaDoorU34
import Derived.Test.YtmdnleafpmondaaDoorU37
import Derived.Test.YtmdnleafpmondaaDoorzA
import Derived.Test.YtmdnleafpmondaaDoorU27
namespace Go.Proofs.YtmdnleafpmondaaDoor
open Go Go.RowKit

set_option maxRecDepth 100000 in
set_option maxHeartbeats 4000000 in
theorem markLeft_any (v : Value) (l : List Int) (w : World) (h : SliceRd tInt w (Lt w.heap.size) v l) (hm : MaxOk w) : Calls Tryd.prog 8 #[v] w fun e w' => e = .returned (.bool true) ∧ Below w.heap.size w w' := by
  have HM := hid hm
  have H := hid h
  obtain ⟨Av, cv, rfl, -⟩ := h.shape
  clear hm h
  obtain ⟨lv, hlv⟩ : ∃ lv, lv = l.length := ⟨_, rfl⟩
  rw [← hlv] at H
  rw [← hlv]
  replace hlv := hid hlv
  have HK := hid (mark0_any _ l 0 w H.out (by decide) (by decide))
  go_enter Tryd.func8, Tryd.ntmps8
  go_wp2_with (first
    | (go_at_call 14; refine HK.out.mono ?_; rintro e w1 ⟨Am, cm, m, rfl, r1, h15, hb1⟩; have R1 := hid r1; have B1 := hid hb1
       have HE := hid (env0_any _ l 15 w1 (H.out.lift hb1 hb1.size) (by decide) (by decide))
       obtain ⟨n, hn⟩ : ∃ n, n = m.length := ⟨_, rfl⟩
       rw [← hn] at R1 h15
       rw [← hn]
       replace hn := hid hn
       clear r1 hb1)
    | (go_at_call 17; refine HE.out.mono ?_; clear HE; rintro e w2 ⟨en, rfl, hok, hb2⟩; have B2 := hid hb2; replace hok := hid hok
       have HE2 := hid (env0_any _ l 18 w2 (H.out.lift (bstep B1.out hb2) (bstep B1.out hb2).size) (by decide) (by decide))
       clear hb2; unfold EnvT.val)
    | (go_at_call 17; refine HE2.out.mono ?_; clear HE2; rintro e w3 ⟨fn, rfl, hok2, hb3⟩; have B3 := hid hb3; replace hok2 := hid hok2; clear hb3; unfold EnvT.val))
  obtain ⟨wx, hwx⟩ : ∃ wx, wx = ((w3.alloc (.cells #[.slice Am n cm] 25)).alloc (.cells #[.string en.a, .string en.b, .string en.c] 38)).alloc (.cells #[.string fn.a, .string fn.b, .string fn.c] 38) := ⟨_, rfl⟩
  have hzx : wx.heap.size = w3.heap.size + 3 := by rw [hwx]; simp
  have zx1 : w3.heap.size < wx.heap.size := by omega
  have zx2 : w3.heap.size + 1 < wx.heap.size := by omega
  have zx3 : w3.heap.size + 1 + 1 < wx.heap.size := by omega
  have BW2 := hid (show Below w3.heap.size w3 wx by rw [hwx]; exact balloc (balloc (balloc (b0 w3) _) _) _)
  have BX := hid (bstep (bstep (bstep B1.out B2.out) B3.out) BW2.out)
  have HMX := hid (HM.out.later BX.out)
  have BX1 := hid (bstep (bstep B2.out B3.out) BW2.out)
  have RX := hid (R1.out.lift BX1.out BX1.out.size)
  have m0 : wx.cell? ⟨w3.heap.size, 0, none⟩ = some (.slice Am n cm) := by rw [hwx]; exact cell_below (balloc (b0 _) _) (by simp; omega) (al2_old rfl)
  have AE : Arr 38 wx (w3.heap.size + 1) en.cells := by
    rw [hwx]
    have := (Arr.new 38 (w3.alloc (.cells #[.slice Am n cm] 25)) en.cells).alloc (.cells #[.string fn.a, .string fn.b, .string fn.c] 38)
    rw [World.size_alloc] at this
    exact this
  have AF : Arr 38 wx (w3.heap.size + 1 + 1) fn.cells := by
    rw [hwx]
    have := Arr.new 38 ((w3.alloc (.cells #[.slice Am n cm] 25)).alloc (.cells #[.string en.a, .string en.b, .string en.c] 38)) fn.cells
    rw [World.size_alloc, World.size_alloc] at this
    exact this
  rw [← hwx]
  clear hwx
  rcases Bool.eq_false_or_eq_true (mayB m) with hmay | hmay
  · go_wp2_with (first
      | (go_at_call 15; refine (may_any _ m _ RX.out).mono ?_; rintro e w4 ⟨rfl, hb4⟩; rw [hmay]
         have B4 := hid hb4
         have m4 := cell_below hb4 zx1 m0
         have AE4 := hid (AE.below hb4 zx2)
         have AF4 := hid (AF.below hb4 zx3)
         have e40 := EnvT.cell AF4.out (k := 0) (by decide)
         have e41 := EnvT.cell AF4.out (k := 1) (by decide)
         have e42 := EnvT.cell AF4.out (k := 2) (by decide)
         simp only [EnvT.at] at e40 e41 e42
         have hz4 := hb4.size
         clear hb4))
    go_loopw [7] (fun kv wr => ∃ (k : Nat) (e1 f1 : EnvT), k ≤ 3 ∧ kv = .int .i64 k ∧ Hid (Arr 38 wr w4.heap.size e1.cells) ∧ Hid (Arr 38 wr (w3.heap.size + 1 + 1) f1.cells) ∧ Hid (∀ j, j < 3 → e1.at j = if j < k then joinS (en.at j) (fn.at j) else fn.at j) ∧ Hid (∀ j, j < 3 → f1.at j = if j < k then restS (en.at j) (fn.at j) else fn.at j) ∧ Hid (Below (w3.heap.size + 1 + 1) w4 wr)) (fun kv _ => 3 - (intOf kv).toNat)
    case atStart => exact ⟨0, fn, fn, by omega, rfl, hid (Arr.new 38 w4 fn.cells), hid (AF4.out.alloc _), hid (fun j hj => by rw [if_neg (by omega)]), hid (fun j hj => by rw [if_neg (by omega)]), hid (((b0 w4).mono (by omega)).alloc (by omega) _)⟩
    case round =>
      obtain ⟨k, e1, f1, hk, rfl, HA, HF, HK, HKF, HB⟩ := hrel
      have i1 : (0 : Int) ≤ ↑k := by omega
      have AER := hid (AE4.out.below HB.out (by omega))
      by_cases hlt : k < 3
      · have i2 : (↑k : Int) < 3 := by omega
        have pe : wr.cell? ⟨w3.heap.size + 1, k, none⟩ = some (.string (en.at k)) := EnvT.cell AER.out hlt
        have pc : wr.cell? ⟨w4.heap.size, k, none⟩ = some (.string (e1.at k)) := EnvT.cell HA.out hlt
        have pd : wr.cell? ⟨w3.heap.size + 1 + 1, k, none⟩ = some (.string (f1.at k)) := EnvT.cell HF.out hlt
        have pf := HA.out.free k
        have pg := HF.out.free k
        have HSE := hid (show e1.at k = fn.at k by rw [HK.out k hlt, if_neg (by omega)])
        have HSF := hid (show f1.at k = fn.at k by rw [HKF.out k hlt, if_neg (by omega)])
        have HP := hid (fun s => e1.put_cells (k := k) s hlt)
        have HPA := hid (fun s j hj => e1.put_at (k := k) (j := j) s hlt hj)
        have HQ := hid (fun s => f1.put_cells (k := k) s hlt)
        have HQA := hid (fun s j hj => f1.put_at (k := k) (j := j) s hlt hj)
        obtain ⟨s, hs⟩ : ∃ s, s = en.at k := ⟨_, rfl⟩
        rw [← hs] at pe
        replace hs := hid hs
        generalize e1.at k = xe at pc HSE
        generalize f1.at k = xf at pd HSF
        have hz1 : w4.heap.size ≠ w3.heap.size + 1 + 1 := by omega
        have pg2 : (wr.setCell ⟨w4.heap.size, k, none⟩ (.string s)).cell? ⟨w3.heap.size + 1 + 1, k, none⟩ = some (.string xf) := by rw [World.cell?_of_block (heap_setCell_other _ _ _ _ (Ne.symm hz1))]; exact pd
        rcases Bool.eq_false_or_eq_true s.toList.isEmpty with h0 | h0
        · go_wp2
          refine ⟨⟨k + 1, e1, f1, by omega, by go_num, HA, HF, hid (fun j hj => ?_), hid (fun j hj => ?_), HB⟩, by simp [intOf]; omega⟩
          · rw [HK.out j hj]
            by_cases hjk : j = k
            · subst hjk
              rw [if_neg (by omega), if_pos (by omega), ← hs.out]
              unfold joinS
              rw [if_pos h0]
            · by_cases h1 : j < k
              · rw [if_pos h1, if_pos (by omega)]
              · rw [if_neg h1, if_neg (by omega)]
          · rw [HKF.out j hj]
            by_cases hjk : j = k
            · subst hjk
              rw [if_neg (by omega), if_pos (by omega), ← hs.out]
              unfold restS
              rw [if_pos h0]
            · by_cases h1 : j < k
              · rw [if_pos h1, if_pos (by omega)]
              · rw [if_neg h1, if_neg (by omega)]
        · go_wp2
          refine ⟨⟨k + 1, e1.put k s, f1.put k ⟨#[]⟩, by omega, by go_num, hid (((HA.out.set k _).congr (HP.out _)).other hz1 _), hid (((HF.out.other (Ne.symm hz1) _).set k _).congr (HQ.out _)), hid (fun j hj => ?_), hid (fun j hj => ?_), hid ((HB.out.setCell (by show w3.heap.size + 1 + 1 ≤ w4.heap.size; omega) _).setCell (Nat.le_refl _) _)⟩, by simp [intOf]; omega⟩
          · rw [HPA.out _ _ hj]
            by_cases hjk : j = k
            · subst hjk
              rw [if_pos rfl, if_pos (by omega), ← hs.out]
              unfold joinS
              rw [if_neg (by rw [h0]; decide)]
            · rw [if_neg hjk, HK.out j hj]
              by_cases h1 : j < k
              · rw [if_pos h1, if_pos (by omega)]
              · rw [if_neg h1, if_neg (by omega)]
          · rw [HQA.out _ _ hj]
            by_cases hjk : j = k
            · subst hjk
              rw [if_pos rfl, if_pos (by omega), ← hs.out]
              unfold restS
              rw [if_neg (by rw [h0]; decide)]
            · rw [if_neg hjk, HKF.out j hj]
              by_cases h1 : j < k
              · rw [if_pos h1, if_pos (by omega)]
              · rw [if_neg h1, if_neg (by omega)]
      · obtain rfl : k = 3 := by omega
        obtain rfl : e1 = joinE en fn := EnvT.ext3 fun j hj => by rw [HK.out j hj, if_pos hj, joinE_at]
        obtain rfl : f1 = restE en fn := EnvT.ext3 fun j hj => by rw [HKF.out j hj, if_pos hj, restE_at]
        have HEX := hid (join_ext en fn)
        have HOJ := hid (join_ok hok.out hok2.out)
        have hmz := cell_below HB.out (by show w3.heap.size < w3.heap.size + 1 + 1; omega) m4
        have BR := hid (show Below (w3.heap.size + 1 + 1) wx wr from (B4.out.mono (by omega)).trans HB.out)
        have BXR := hid (show Below w.heap.size w wr from BX.out.trans (BR.out.mono (by have := B1.out.size; have := B2.out.size; have := B3.out.size; omega)))
        have e50 := EnvT.cell AER.out (k := 0) (by decide)
        have e51 := EnvT.cell AER.out (k := 1) (by decide)
        have e52 := EnvT.cell AER.out (k := 2) (by decide)
        have BM1 := hid (show Below w1.heap.size w1 wr from BX1.out.trans (BR.out.mono (by have := B2.out.size; have := B3.out.size; omega)))
        have RR := hid (R1.out.lift BM1.out BM1.out.size)
        have HU1 := hid (under_any _ m en wr RR.out)
        unfold EnvT.val UnderPost at HU1
        simp only [EnvT.at] at e50 e51 e52
        have HUK := hid (fun j n => @under_keys m en j n)
        obtain ⟨L1, hL1⟩ : ∃ L1, L1 = underV m en := ⟨_, rfl⟩
        rw [← hL1] at HU1 HUK
        replace hL1 := hid hL1
        obtain ⟨n1, hn1⟩ : ∃ n1, n1 = L1.length := ⟨_, rfl⟩
        rw [← hn1] at HU1
        replace hn1 := hid hn1
        go_wp2_with (first
          | (go_at_call 24; refine HU1.out.mono ?_; clear HU1; rintro e w6 ⟨A6, c6, rfl, r6, hb6⟩
             have B6 := hid (hb6.alloc hb6.size (.cells #[.slice A6 n1 c6] 25))
             have R6 := hid (r6.lift (balloc (b0 w6) (.cells #[.slice A6 n1 c6] 25)) (balloc (b0 w6) (.cells #[.slice A6 n1 c6] 25)).size)
             clear hb6 r6))
        have AEY := hid (show Arr 38 (w6.alloc (.cells #[.slice A6 n1 c6] 25)) (w3.heap.size + 1) en.cells from AER.out.below B6.out (by have := BR.out.size; omega))
        have HYB := B6
        obtain ⟨wy, hwy⟩ : ∃ wy, wy = w6.alloc (.cells #[.slice A6 n1 c6] 25) := ⟨_, rfl⟩
        have hzy : wy.heap.size = w6.heap.size + 1 := by rw [hwy]; simp
        have l6 : wy.cell? ⟨w6.heap.size, 0, none⟩ = some (.slice A6 n1 c6) := by rw [hwy]; exact World.cell?_alloc_new ..
        rw [← hwy] at AEY B6 R6 HYB
        rw [← hwy]
        clear hwy
        obtain ⟨A6', c6', he6, hcap6, hmax6, hc6⟩ := R6.out.nodes
        rw [← hn1.out] at he6
        injection he6 with q1 q2 q3
        subst q1; subst q3
        clear q2
        have HC6 := hid hc6
        unfold maxLen at hmax6
        clear hc6
        have hzyb : w3.heap.size + 1 < wy.heap.size := by have := B6.out.size; have := BR.out.size; omega
        obtain ⟨kx, hkx⟩ : ∃ kx, kx = evalV m en := ⟨_, rfl⟩
        rw [← hkx]
        replace hkx := hid hkx
        have HAY := hid (HA.out.below B6.out HA.out.lt)
        have HFY := hid (HF.out.below B6.out HF.out.lt)
        have MY := cell_below B6.out (by have := BR.out.size; omega) hmz
        have RMY := hid (RR.out.lift B6.out B6.out.size)
        have zA := HAY.out.lt
        have zF := HFY.out.lt
        go_loopw [10] (fun kv wz => ∃ k : Nat, k ≤ n1 ∧ kv = .int .i64 k ∧ Hid (Below wy.heap.size wy wz)) (fun kv _ => n1 - (intOf kv).toNat)
        case atStart => exact ⟨0, by omega, rfl, hid (b0 wy)⟩
        case round =>
          obtain ⟨k, hk, rfl, HB2⟩ := hrel
          have i1 : (0 : Int) ≤ ↑k := by omega
          have l6z := cell_below HB2.out (by omega) l6
          by_cases hlt : k < n1
          · have i2 : (↑k : Int) < ↑n1 := by omega
            have hlt' : k < L1.length := by rw [← hn1.out]; exact hlt
            obtain ⟨g, o, hA, hF, g0, g1, g2, g3, g4, hno⟩ := HC6.out k hlt'
            subst hA
            obtain ⟨c0, c1, c2, c3, c4⟩ := cells5 HB2.out hF ⟨g0, g1, g2, g3, g4⟩
            clear g0 g1 g2 g3 g4
            have HKY := hid (HUK.out k L1[k] (List.getElem?_eq_getElem hlt'))
            obtain ⟨op, hop⟩ : ∃ op, op = L1[k].op := ⟨_, rfl⟩
            obtain ⟨ky, hky⟩ : ∃ ky, ky = L1[k].key := ⟨_, rfl⟩
            rw [← hop, ← hky] at HKY
            rw [← hop] at c0
            rw [← hky] at c3
            clear hop hky hno
            rcases eqI op 1 with ⟨eo, po⟩ | ⟨eo, po⟩
            · obtain ⟨kk, rfl, hk3, hem⟩ := HKY.out po
              replace po := hid po
              have u1 : (0 : Int) ≤ ↑kk := by omega
              have u2 : (↑kk : Int) < 3 := by omega
              have u3 : ¬ (↑kk : Int) < 0 := by omega
              have u4 : ¬ (3 : Int) ≤ ↑kk := by omega
              have ek := EnvT.cell (AEY.out.below HB2.out (by omega)) hk3
              have h0 := (isEmpty_iff' _).2 hem
              obtain ⟨s, hs⟩ : ∃ s, s = en.at kk := ⟨_, rfl⟩
              rw [← hs] at ek h0
              clear hs hem
              have ekz : (wr.alloc (.cells #[.int .i64 op, .int .i64 L1[k].a, .int .i64 L1[k].b, .int .i64 kk, .string L1[k].text] 49)).cell? ⟨w3.heap.size + 1, kk, none⟩ = some (.string s) := cell_below (balloc (b0 wr) _) (by have := HB2.out.size; omega) ek
              go_wp2
              exact ⟨⟨k + 1, by omega, by go_num, hid (HB2.out.alloc HB2.out.size _)⟩, by simp [intOf]; omega⟩
            · replace po := hid po
              go_wp2
              exact ⟨⟨k + 1, by omega, by go_num, hid (HB2.out.alloc HB2.out.size _)⟩, by simp [intOf]; omega⟩
          · obtain rfl : k = n1 := by omega
            have HMY := hid (HM.out.later (BXR.out.trans (HYB.out.mono BXR.out.size)))
            have a0 := EnvT.cell (HAY.out.below HB2.out zA) (k := 0) (by decide)
            have a1 := EnvT.cell (HAY.out.below HB2.out zA) (k := 1) (by decide)
            have a2 := EnvT.cell (HAY.out.below HB2.out zA) (k := 2) (by decide)
            have b0' := EnvT.cell (HFY.out.below HB2.out zF) (k := 0) (by decide)
            have b1' := EnvT.cell (HFY.out.below HB2.out zF) (k := 1) (by decide)
            have b2' := EnvT.cell (HFY.out.below HB2.out zF) (k := 2) (by decide)
            simp only [EnvT.at] at a0 a1 a2 b0' b1' b2'
            have MZ := cell_below HB2.out (by omega) MY
            have HZZ := HB2.out.size
            have HMW := hid (HMY.out.later HB2.out)
            have BT := hid (bstep (bstep BXR.out HYB.out) HB2.out)
            have RMW := hid (RMY.out.lift HB2.out HB2.out.size)
            have RLW := hid (R6.out.lift HB2.out HB2.out.size)
            by_cases hk1 : evalV m en = 1
            · obtain ⟨hml, -, -⟩ := left_val HEX.out HOJ.out hk1
              have hrv := rest_val hok2.out hk1
              rw [← hL1.out] at hml hrv
              have e1 : kx = 1 := hkx.out.trans hk1
              subst e1
              obtain ⟨y, hy⟩ : ∃ y, y = evalV m (joinE en fn) := ⟨_, rfl⟩
              rw [← hy] at hrv
              have HCA := hid (fun e : Later wr => awake_any e.w (HMW.out.later e.below))
              have HCM := hid (fun e : Later wr => may_any (.slice A6 k c6) L1 e.w (RLW.out.lift e.below e.below.size))
              have HC1 := hid (fun e : Later wr => eval_any (.slice A6 k c6) L1 (restE en fn) e.w (RLW.out.lift e.below e.below.size))
              have HC2 := hid (fun e : Later wr => eval_any (.slice Am n cm) m (joinE en fn) e.w (RMW.out.lift e.below e.below.size))
              rw [hml] at HCM
              rw [hrv] at HC1
              rw [← hy] at HC2
              unfold EnvT.val at HC1 HC2
              have q0 := later_cell (by omega) l6z
              have q1 := later_cell (by omega) b0'
              have q2 := later_cell (by omega) b1'
              have q3 := later_cell (by omega) b2'
              have q4 := later_cell (by omega) MZ
              have q5 := later_cell (by omega) a0
              have q6 := later_cell (by omega) a1
              have q7 := later_cell (by omega) a2
              replace hrv := hid hrv
              replace hml := hid hml
              replace hy := hid hy
              replace hk1 := hid hk1
              go_wp2_with fail
              (refine wp_region_later (by kernel_rfl) (by kernel_rfl) ?_; (repeat (go_big_quiet_step ((first | (go_at_call 10; exact Calls.later (HCA.out _) rfl) | (go_at_call 15; exact Calls.later (HCM.out _) rfl) | (go_at_call_of 20 A6; exact Calls.later (HC1.out _) rfl) | (go_at_call_of 20 Am; exact Calls.later (HC2.out _) rfl))))); refine wpQuiet_nil ?_; rintro _ ⟨e9, rfl⟩; obtain ⟨w9, hw9⟩ : ∃ w9 : World, w9 = e9.w := ⟨_, rfl⟩; have hb9 := e9.below; rw [← hw9] at hb9 ⊢; clear hw9)
              go_wp2
              go_ret
              exact ⟨rfl, bstep BT.out hb9⟩
            · have hx2 := ext_val HEX.out HOJ.out hmay hok.out hk1
              rw [← hkx.out] at hx2 hk1
              have hl0 : L1 = [] := by rw [hL1.out]; exact under_none (by rw [← hkx.out]; exact hk1)
              have hn0 : k = 0 := by rw [hn1.out, hl0]; rfl
              have nx : (kx == 1) = false := by rw [beq_eq_false_iff_ne]; exact hk1
              have nx2 := bne_f nx
              subst hn0
              replace hk1 := hid hk1
              replace hx2 := hid hx2
              clear hl0
              go_wp2_with (first
                | (go_at_call 10; refine (awake_any wr HMW.out).mono ?_; rintro e w9 ⟨rfl, hb9⟩
                   have B9 := hid hb9
                   have l9 := cell_below hb9 (by omega) l6z
                   have a09 := cell_below hb9 (by omega) a0
                   have a19 := cell_below hb9 (by omega) a1
                   have a29 := cell_below hb9 (by omega) a2
                   have m9 := cell_below hb9 (by omega) MZ
                   have z9 := hb9.size
                   have HE2 := hid (eval_any _ m (joinE en fn) w9 (RMW.out.lift hb9 hb9.size))
                   rw [hx2.out] at HE2
                   unfold EnvT.val at HE2
                   clear hb9)
                | (go_at_call 20; refine HE2.out.mono ?_; rintro e wC ⟨rfl, hbC⟩
                   have lC := cell_below hbC (by omega) l9))
              go_ret
              exact ⟨rfl, bstep BT.out (B9.out.trans (hbC.mono B9.out.size))⟩
  · go_wp2_with (first
      | (go_at_call 15; refine (may_any _ m _ RX.out).mono ?_; rintro e w4 ⟨rfl, hb4⟩; rw [hmay]; have HM4 := hid (HMX.out.later hb4))
      | (go_at_call 10; refine (awake_any w4 HM4.out).mono ?_; rintro e w5 ⟨rfl, hb5⟩))
    go_ret
    exact ⟨rfl, bstep (bstep BX.out hb4) hb5⟩
end Go.Proofs.YtmdnleafpmondaaDoor
