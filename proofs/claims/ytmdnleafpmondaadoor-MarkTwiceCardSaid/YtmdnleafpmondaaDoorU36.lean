/- MarkTwice: the walk of the law. -/
import Derived.Test.YtmdnleafpmondaaDoorU34
import Derived.Test.YtmdnleafpmondaaDoorU35
import Derived.Test.YtmdnleafpmondaaDoorU27
namespace Go.Proofs.YtmdnleafpmondaaDoor
open Go Go.RowKit

set_option maxRecDepth 100000 in
set_option maxHeartbeats 4000000 in
theorem markTwice_any (v : Value) (l : List Int) (w : World) (h : SliceRd tInt w (Lt w.heap.size) v l) (hm : MaxOk w) : Calls Tryd.prog 9 #[v] w fun e w' => e = .returned (.bool true) ∧ Below w.heap.size w w' := by
  have HM := hid hm
  have H := hid h
  obtain ⟨Av, cv, rfl, -⟩ := h.shape
  clear hm h
  obtain ⟨lv, hlv⟩ : ∃ lv, lv = l.length := ⟨_, rfl⟩
  rw [← hlv] at H
  rw [← hlv]
  replace hlv := hid hlv
  have HK := hid (mark0_any _ l 0 w H.out (by decide) (by decide))
  go_enter Tryd.func9, Tryd.ntmps9
  go_wp2_with (first
    | (go_at_call 14; refine HK.out.mono ?_; rintro e w1 ⟨Am, cm, m, rfl, r1, h15, hb1⟩; have R1 := hid r1; have B1 := hid hb1
       have HE := hid (env0_any _ l 15 w1 (H.out.lift hb1 hb1.size) (by decide) (by decide))
       obtain ⟨n, hn⟩ : ∃ n, n = m.length := ⟨_, rfl⟩
       rw [← hn] at R1 h15
       rw [← hn]
       replace hn := hid hn
       clear r1 hb1)
    | (go_at_call 17; refine HE.out.mono ?_; clear HE; rintro e w2 ⟨en, rfl, hok, hb2⟩; have B2 := hid hb2; replace hok := hid hok
       have HE2 := hid (env0_any _ l 18 w2 (H.out.lift (bstep B1.out hb2) (bstep B1.out hb2).size) (by decide) (by decide))
       clear hb2; unfold EnvT.val)
    | (go_at_call 17; refine HE2.out.mono ?_; clear HE2; rintro e w3 ⟨fn, rfl, hok2, hb3⟩; have B3 := hid hb3; replace hok2 := hid hok2; clear hb3; unfold EnvT.val))
  obtain ⟨wx, hwx⟩ : ∃ wx, wx = ((w3.alloc (.cells #[.slice Am n cm] 25)).alloc (.cells #[.string en.a, .string en.b, .string en.c] 38)).alloc (.cells #[.string fn.a, .string fn.b, .string fn.c] 38) := ⟨_, rfl⟩
  have hzx : wx.heap.size = w3.heap.size + 3 := by rw [hwx]; simp
  have zx1 : w3.heap.size < wx.heap.size := by omega
  have zx2 : w3.heap.size + 1 < wx.heap.size := by omega
  have zx3 : w3.heap.size + 1 + 1 < wx.heap.size := by omega
  have BW2 := hid (show Below w3.heap.size w3 wx by rw [hwx]; exact balloc (balloc (balloc (b0 w3) _) _) _)
  have BX := hid (bstep (bstep (bstep B1.out B2.out) B3.out) BW2.out)
  have HMX := hid (HM.out.later BX.out)
  have BX1 := hid (bstep (bstep B2.out B3.out) BW2.out)
  have RX := hid (R1.out.lift BX1.out BX1.out.size)
  have m0 : wx.cell? ⟨w3.heap.size, 0, none⟩ = some (.slice Am n cm) := by rw [hwx]; exact cell_below (balloc (b0 _) _) (by simp; omega) (al2_old rfl)
  have AE : Arr 38 wx (w3.heap.size + 1) en.cells := by
    rw [hwx]
    have := (Arr.new 38 (w3.alloc (.cells #[.slice Am n cm] 25)) en.cells).alloc (.cells #[.string fn.a, .string fn.b, .string fn.c] 38)
    rw [World.size_alloc] at this
    exact this
  have AF : Arr 38 wx (w3.heap.size + 1 + 1) fn.cells := by
    rw [hwx]
    have := Arr.new 38 ((w3.alloc (.cells #[.slice Am n cm] 25)).alloc (.cells #[.string en.a, .string en.b, .string en.c] 38)) fn.cells
    rw [World.size_alloc, World.size_alloc] at this
    exact this
  rw [← hwx]
  clear hwx
  rcases Bool.eq_false_or_eq_true (mayB m) with hmay | hmay
  · go_wp2_with (first
      | (go_at_call 15; refine (may_any _ m _ RX.out).mono ?_; rintro e w4 ⟨rfl, hb4⟩; rw [hmay]
         have B4 := hid hb4
         have m4 := cell_below hb4 zx1 m0
         have AE4 := hid (AE.below hb4 zx2)
         have AF4 := hid (AF.below hb4 zx3)
         have e40 := EnvT.cell AE4.out (k := 0) (by decide)
         have e41 := EnvT.cell AE4.out (k := 1) (by decide)
         have e42 := EnvT.cell AE4.out (k := 2) (by decide)
         simp only [EnvT.at] at e40 e41 e42
         have hz4 := hb4.size
         clear hb4))
    go_loopw [7] (fun kv wr => ∃ (k : Nat) (e1 : EnvT), k ≤ 3 ∧ kv = .int .i64 k ∧ Hid (Arr 38 wr w4.heap.size e1.cells) ∧ Hid (∀ j, j < 3 → e1.at j = if j < k then joinS (en.at j) (fn.at j) else en.at j) ∧ Hid (Below w4.heap.size w4 wr)) (fun kv _ => 3 - (intOf kv).toNat)
    case atStart => exact ⟨0, en, by omega, rfl, hid (Arr.new 38 w4 en.cells), hid (fun j hj => by rw [if_neg (by omega)]), hid (balloc (b0 w4) _)⟩
    case round =>
      obtain ⟨k, e1, hk, rfl, HA, HK, HB⟩ := hrel
      have i1 : (0 : Int) ≤ ↑k := by omega
      have BR := hid (B4.out.trans (HB.out.mono hz4))
      have AFR := hid (AF.below BR.out zx3)
      by_cases hlt : k < 3
      · have i2 : (↑k : Int) < 3 := by omega
        have pc : wr.cell? ⟨w4.heap.size, k, none⟩ = some (.string (e1.at k)) := EnvT.cell HA.out hlt
        have pd : wr.cell? ⟨w3.heap.size + 1 + 1, k, none⟩ = some (.string (fn.at k)) := EnvT.cell AFR.out hlt
        have pf := HA.out.free k
        have HS := hid (show e1.at k = en.at k by rw [HK.out k hlt, if_neg (by omega)])
        have HP := hid (fun s => e1.put_cells (k := k) s hlt)
        have HPA := hid (fun s j hj => e1.put_at (k := k) (j := j) s hlt hj)
        have HZ := hid (show w4.heap.size ≠ w3.heap.size + 1 + 1 by omega)
        obtain ⟨s, hs⟩ : ∃ s, s = e1.at k := ⟨_, rfl⟩
        rw [← hs] at pc HS
        clear hs
        obtain ⟨t, ht⟩ : ∃ t, t = fn.at k := ⟨_, rfl⟩
        rw [← ht] at pd
        replace ht := hid ht
        rcases Bool.eq_false_or_eq_true s.toList.isEmpty with h0 | h0
        · go_wp2
          refine ⟨⟨k + 1, e1.put k t, by omega, by go_num, hid ((HA.out.set k _).congr (HP.out _)), hid (fun j hj => ?_), hid (HB.out.setCell (Nat.le_refl _) _)⟩, by simp [intOf]; omega⟩
          rw [HPA.out _ _ hj]
          by_cases hjk : j = k
          · subst hjk
            rw [if_pos rfl, if_pos (by omega), ← HS.out]
            unfold joinS
            rw [if_pos h0, ht.out]
          · rw [if_neg hjk, HK.out j hj]
            by_cases h1 : j < k
            · rw [if_pos h1, if_pos (by omega)]
            · rw [if_neg h1, if_neg (by omega)]
        · go_wp2
          refine ⟨⟨k + 1, e1, by omega, by go_num, HA, hid (fun j hj => ?_), HB⟩, by simp [intOf]; omega⟩
          rw [HK.out j hj]
          by_cases hjk : j = k
          · subst hjk
            rw [if_neg (by omega), if_pos (by omega), ← HS.out]
            unfold joinS
            rw [if_neg (by rw [h0]; decide)]
          · by_cases h1 : j < k
            · rw [if_pos h1, if_pos (by omega)]
            · rw [if_neg h1, if_neg (by omega)]
      · obtain rfl : k = 3 := by omega
        obtain rfl : e1 = joinE en fn := EnvT.ext3 fun j hj => by rw [HK.out j hj, if_pos hj, joinE_at]
        have HEX := hid (join_ext en fn)
        have HOJ := hid (join_ok hok.out hok2.out)
        obtain ⟨ej, hej⟩ : ∃ ej, ej = joinE en fn := ⟨_, rfl⟩
        rw [← hej] at HEX HOJ HA
        clear hej HK AFR
        have m5 := cell_below BR.out zx1 m0
        have AE5 := hid (AE.below BR.out zx2)
        have e50 := EnvT.cell AE5.out (k := 0) (by decide)
        have e51 := EnvT.cell AE5.out (k := 1) (by decide)
        have e52 := EnvT.cell AE5.out (k := 2) (by decide)
        have f50 := EnvT.cell HA.out (k := 0) (by decide)
        have f51 := EnvT.cell HA.out (k := 1) (by decide)
        have f52 := EnvT.cell HA.out (k := 2) (by decide)
        simp only [EnvT.at] at e50 e51 e52 f50 f51 f52
        have RR := hid (RX.out.lift BR.out BR.out.size)
        have z5 : w4.heap.size < wr.heap.size := HA.out.lt
        have hzr := BR.out.size
        have HMR := hid (HMX.out.later BR.out)
        have HU1 := hid (under_any _ m en wr RR.out)
        unfold EnvT.val UnderPost at HU1
        by_cases hk1 : evalV m en = 1
        · obtain ⟨hml, hv, hu⟩ := left_val HEX.out HOJ.out hk1
          have HU2 := hid (fun (W : World) (hb : Below wr.heap.size wr W) => under_any _ m ej W (RR.out.lift hb hb.size))
          have HU3 := hid (fun (W : World) (u : Value) (hr : SliceRd tNode W (Lt W.heap.size) u (underV m en)) => under_any u (underV m en) ej W hr)
          unfold EnvT.val UnderPost at HU2 HU3
          rw [hk1] at HU1
          rw [hv, hu] at HU3
          clear hml hv hu hk1
          obtain ⟨L1, hL1⟩ : ∃ L1, L1 = underV m en := ⟨_, rfl⟩
          obtain ⟨L2, hL2⟩ : ∃ L2, L2 = underV m ej := ⟨_, rfl⟩
          obtain ⟨y, hy⟩ : ∃ y, y = evalV m ej := ⟨_, rfl⟩
          rw [← hL1] at HU1 HU3
          rw [← hL2, ← hy] at HU2 HU3
          obtain ⟨n1, hn1⟩ : ∃ n1, n1 = L1.length := ⟨_, rfl⟩
          obtain ⟨n2, hn2⟩ : ∃ n2, n2 = L2.length := ⟨_, rfl⟩
          rw [← hn1] at HU1
          rw [← hn2] at HU2 HU3
          clear hL1 hL2 hy hn1 hn2
          go_wp2_with (first
            | (go_at_call 24; refine HU1.out.mono ?_; clear HU1; rintro e w6 ⟨A6, c6, rfl, r6, hb6⟩
               have B6 := hid (hb6.alloc hb6.size (.cells #[.slice A6 n1 c6] 25))
               have R6 := hid (r6.lift (balloc (b0 w6) (.cells #[.slice A6 n1 c6] 25)) (balloc (b0 w6) (.cells #[.slice A6 n1 c6] 25)).size)
               have l6 : (w6.alloc (.cells #[.slice A6 n1 c6] 25)).cell? ⟨w6.heap.size, 0, none⟩ = some (.slice A6 n1 c6) := World.cell?_alloc_new ..
               have f60 := cell_below B6.out z5 f50
               have f61 := cell_below B6.out z5 f51
               have f62 := cell_below B6.out z5 f52
               have m6 := cell_below B6.out (by omega) m5
               clear hb6 r6)
            | (go_at_call 24; refine (HU2.out _ B6.out).mono ?_; clear HU2; rintro e w7 ⟨A7, c7, rfl, r7, hb7⟩
               have C7 := hid (hb7.alloc hb7.size (.cells #[.slice A7 n2 c7] 25))
               have B7 := hid (B6.out.trans (C7.out.mono B6.out.size))
               have R7 := hid (r7.lift (balloc (b0 w7) (.cells #[.slice A7 n2 c7] 25)) (balloc (b0 w7) (.cells #[.slice A7 n2 c7] 25)).size)
               have L7 := hid (R6.out.lift C7.out C7.out.size)
               have l7 := cell_below C7.out (by simp) l6
               have f70 := cell_below B7.out z5 f50
               have f71 := cell_below B7.out z5 f51
               have f72 := cell_below B7.out z5 f52
               have o7 : (w7.alloc (.cells #[.slice A7 n2 c7] 25)).cell? ⟨w7.heap.size, 0, none⟩ = some (.slice A7 n2 c7) := World.cell?_alloc_new ..
               clear hb7 r7)
            | (go_at_call 24; refine (HU3.out _ _ L7.out).mono ?_; rintro e w8 ⟨A8, c8, rfl, r8, hb8⟩
               have C8 := hid (hb8.alloc hb8.size (.cells #[.slice A8 n2 c8] 25))
               have B8 := hid (B7.out.trans (C8.out.mono B7.out.size))
               have R8 := hid (r8.lift (balloc (b0 w8) (.cells #[.slice A8 n2 c8] 25)) (balloc (b0 w8) (.cells #[.slice A8 n2 c8] 25)).size)
               have Q8 := hid (R7.out.lift C8.out C8.out.size)
               have o8 := cell_below C8.out (by simp) o7
               have t8 : (w8.alloc (.cells #[.slice A8 n2 c8] 25)).cell? ⟨w8.heap.size, 0, none⟩ = some (.slice A8 n2 c8) := World.cell?_alloc_new ..
               have HM8 := hid (HMR.out.later B8.out)
               have z78 : w7.heap.size < (w8.alloc (.cells #[.slice A8 n2 c8] 25)).heap.size := Nat.lt_of_lt_of_le (by simp) C8.out.size
               clear hb8 r8)
            | (go_at_call 10; refine (awake_any _ HM8.out).mono ?_; rintro e w9 ⟨rfl, hb9⟩
               have B9 := hid (B8.out.trans (hb9.mono B8.out.size))
               have o9 := cell_below hb9 z78 o8
               have t9 := cell_below hb9 (by simp) t8
               have Q9 := hid (Q8.out.lift hb9 hb9.size)
               have R9 := hid (R8.out.lift hb9 hb9.size)
               clear hb9)
            | (go_at_call 13; refine (same_self _ _ L2 _ Q9.out R9.out).mono ?_; rintro e w10 ⟨rfl, hb10⟩))
          go_ret
          exact ⟨rfl, bstep (bstep BX.out BR.out) (B9.out.trans (hb10.mono B9.out.size))⟩
        · have hx2 := ext_val HEX.out HOJ.out hmay hok.out hk1
          rw [under_none hk1] at HU1
          have HU2 := hid (fun (W : World) (hb : Below wr.heap.size wr W) => under_any _ m ej W (RR.out.lift hb hb.size))
          unfold EnvT.val UnderPost at HU2
          rw [under_none (by rw [hx2]; exact hk1), hx2] at HU2
          obtain ⟨x, hx⟩ : ∃ x, x = evalV m en := ⟨_, rfl⟩
          rw [← hx] at HU1 HU2 hk1
          clear hx hx2
          have nx : (x == 1) = false := by rw [beq_eq_false_iff_ne]; exact hk1
          have nx2 := bne_f nx
          replace hk1 := hid hk1
          go_wp2_with (first
            | (go_at_call 24; refine HU1.out.mono ?_; clear HU1; rintro e w6 ⟨A6, c6, rfl, -, hb6⟩
               have B6 := hid (hb6.alloc hb6.size (.cells #[.slice A6 0 c6] 25))
               have f60 := cell_below B6.out z5 f50
               have f61 := cell_below B6.out z5 f51
               have f62 := cell_below B6.out z5 f52
               have m6 := cell_below B6.out (by omega) m5
               clear hb6)
            | (go_at_call 24; refine (HU2.out _ B6.out).mono ?_; rintro e w7 ⟨A7, c7, rfl, -, hb7⟩
               have B7 := hid ((B6.out.trans (hb7.mono B6.out.size)).alloc (B6.out.trans (hb7.mono B6.out.size)).size (.cells #[.slice A7 0 c7] 25))
               have o7 : (w7.alloc (.cells #[.slice A7 0 c7] 25)).cell? ⟨w7.heap.size, 0, none⟩ = some (.slice A7 0 c7) := World.cell?_alloc_new ..
               have HM7 := hid (HMR.out.later B7.out)
               clear hb7)
            | (go_at_call 10; refine (awake_any _ HM7.out).mono ?_; rintro e w8 ⟨rfl, hb8⟩
               have B8 := hid (B7.out.trans (hb8.mono B7.out.size))
               have o8 := cell_below hb8 (by simp) o7
               clear hb8))
          go_ret
          exact ⟨rfl, bstep (bstep BX.out BR.out) B8.out⟩
  · go_wp2_with (first
      | (go_at_call 15; refine (may_any _ m _ RX.out).mono ?_; rintro e w4 ⟨rfl, hb4⟩; rw [hmay]; have HM4 := hid (HMX.out.later hb4))
      | (go_at_call 10; refine (awake_any w4 HM4.out).mono ?_; rintro e w5 ⟨rfl, hb5⟩))
    go_ret
    exact ⟨rfl, bstep (bstep BX.out hb4) hb5⟩
end Go.Proofs.YtmdnleafpmondaaDoor
