/- slices.Compact at terms: the walk. -/
import Derived.Test.YtmghlakedaigpaaDoorRCo
namespace Go.Proofs.YtmghlakedaigpaaDoor
open Go Go.RowKit
attribute [local go_sem ↓] Go.wp_at_zero Go.wp_at_succ

set_option maxRecDepth 100000 in
set_option maxHeartbeats 4000000 in
theorem compact_own {B : Nat} {w : World} {l : List Term} {g n c : Nat} (h : OwnF fTerm 38 B w (.slice (some ⟨g, 0, none⟩) n c) l) (hn : n = l.length) (hl : n ≤ 20000) :
    Calls Tryd.prog 30 #[.slice (some ⟨g, 0, none⟩) n c] w fun e w' => ∃ v', e = .returned v' ∧ SliceRd tTerm w' (Lt w'.heap.size) v' (compL l) ∧ Below B w w' := by
  have H := hid h
  obtain ⟨hBg, -, -, hcn, -, -⟩ := own_cells h
  rw [← hn] at hcn
  clear h
  replace hn := hid hn
  by_cases h2 : n < 2
  · go_enter Tryd.func30, Tryd.ntmps30
    go_wp2
    go_ret
    exact ⟨_, rfl, by rw [compL_one (by rw [← hn.out]; exact h2)]; exact H.out.rd, Below.refl _ _⟩
  · have h2' : (2 : Int) ≤ ↑n := by omega
    go_enter Tryd.func30, Tryd.ntmps30
    go_wp2
    go_loopw [3] (fun iv wr => ∃ k : Nat, 1 ≤ k ∧ k ≤ n ∧ iv = .int .i64 k ∧ Hid (compL (l.take k) = l.take k) ∧ Hid (OwnF fTerm 38 B wr (.slice (some ⟨g, 0, none⟩) n c) l) ∧ Hid (Below B w wr)) (fun iv _ => n - (intOf iv).toNat)
    case atStart => exact ⟨1, Nat.le_refl _, by omega, rfl, hid (compL_one (l := l.take 1) (by rw [List.length_take]; omega)), H, hid (Below.refl _ _)⟩
    case round =>
      obtain ⟨k, hk1, hk, rfl, hc, HO, HB⟩ := hrel
      by_cases hlt : k < n
      · have hkl : k < l.length := by rw [← hn.out]; exact hlt
        obtain ⟨-, hgl, hfr, -, -, hce⟩ := own_cells HO.out
        obtain ⟨x0, x1⟩ := hce k hkl
        obtain ⟨y0, y1⟩ := hce (k - 1) (by omega)
        have i1 : (0 : Int) ≤ ↑k := by omega
        have i2 : (↑k : Int) < ↑n := by omega
        have i3 : IntKind.i64.wrap ((k : Int) - 1) = (k : Int) - 1 := IntWalk.i64_in _ (by omega)
        have i4 : (0 : Int) ≤ ↑k - 1 := by omega
        have i5 : (↑k : Int) - 1 < ↑n := by omega
        have i6 : ((k : Int) - 1).toNat = k - 1 := by omega
        clear hce hfr
        obtain ⟨x, hx⟩ : ∃ x, x = l[k] := ⟨_, rfl⟩
        obtain ⟨y, hy⟩ : ∃ y, y = l[k - 1] := ⟨_, rfl⟩
        rw [← hx] at x0 x1
        rw [← hy] at y0 y1
        replace hx := hid hx
        replace hy := hid hy
        have hq := fun W => term_eql x y W
        have hgd := fun op a b W => term_guard op a b x y W
        by_cases he : x = y
        · have hd : decide (x = y) = true := decide_eq_true he
          have HD := hid (show l[k - 1] = l[k] by rw [← hx.out, ← hy.out]; exact he.symm)
          replace he := hid he
          have hcne : ¬ c = k := by omega
          have hkc : (↑k : Int) ≤ ↑c := by omega
          have hkn : (↑k : Int) ≤ ↑n := by omega
          go_wp2_with fail
          go_quiet (fail)
          go_wp2_with fail
          have HO1 := hid (HO.out.below (below_drewN (Below.refl _ _) nq) (Nat.le_refl _))
          have HB1 := hid (below_drewN HB.out nq)
          go_loopw [3, 5] (fun s3 s5 wr => ∃ (kk k2 : Nat) (X : List Term), s3 = .int .i64 kk ∧ s5 = .int .i64 k2 ∧ 1 ≤ k2 ∧ k + k2 ≤ n ∧ kk < k + k2 ∧ Hid (CI l X kk (k + k2)) ∧ Hid (OwnF fTerm 38 B wr (.slice (some ⟨g, 0, none⟩) n c) X) ∧ Hid (Below B w wr)) (fun _ s5 _ => n - k - (intOf s5).toNat)
          case atStart => exact ⟨k, 1, l, rfl, rfl, Nat.le_refl _, by omega, by omega, hid (CI.start hk1 hkl HD.out hc.out), HO1, HB1⟩
          case round =>
            clear HO1 HB1 HO HB hc x0 x1 y0 y1 hq hgd hd HD he hx hy i1 i2 i3 i4 i5 i6 hgl
            obtain ⟨kk, k2, X, rfl, rfl, h1, hle, hkk, HC, HO, HB⟩ := hrel
            obtain ⟨-, hgl, hfr, -, hso, hce⟩ := own_cells HO.out
            have HXL := HC.out.len
            by_cases hlt2 : k + k2 < n
            · have hpl : k + k2 < l.length := by rw [← hn.out]; exact hlt2
              obtain ⟨x0, x1⟩ := hce (k + k2) (by omega)
              obtain ⟨y0, y1⟩ := hce (k + k2 - 1) (by omega)
              obtain ⟨z0, z1⟩ := hce kk (by omega)
              rw [HC.out.tail (k + k2) (by omega) hpl (by omega)] at x0 x1
              rw [HC.out.tail (k + k2 - 1) (by omega) (by omega) (by omega)] at y0 y1
              have ea : (k + k2) * 2 = k * 2 + k2 * 2 := by omega
              have eb : (k + k2 - 1) * 2 = k * 2 + (k2 - 1) * 2 := by omega
              rw [ea] at x0 x1
              rw [eb] at y0 y1
              clear ea eb hce hso
              have HTI := hid (HO.out.2 l[k + k2] ((HC.out.tail (k + k2) (by omega) hpl (by omega)) ▸ List.getElem_mem _))
              obtain ⟨a, ha⟩ : ∃ a, a = l[k + k2] := ⟨_, rfl⟩
              obtain ⟨b, hb⟩ : ∃ b, b = l[k + k2 - 1] := ⟨_, rfl⟩
              rw [← ha] at x0 x1 HTI
              rw [← hb] at y0 y1
              have j1 : (0 : Int) ≤ ↑k2 := by omega
              have j2 : (↑k2 : Int) < ↑(n - k) := by omega
              have j3 : IntKind.i64.wrap ((k2 : Int) - 1) = (k2 : Int) - 1 := IntWalk.i64_in _ (by omega)
              have j4 : (0 : Int) ≤ ↑k2 - 1 := by omega
              have j5 : (↑k2 : Int) - 1 < ↑(n - k) := by omega
              have j6 : ((k2 : Int) - 1).toNat = k2 - 1 := by omega
              have j7 : (0 : Int) ≤ ↑kk := by omega
              have j8 : (↑kk : Int) < ↑n := by omega
              have hq := fun W => term_neq a b W
              have hgd := fun op u v W => term_guard op u v a b W
              by_cases he : a = b
              · have hd : decide (a = b) = true := decide_eq_true he
                have HD := hid (show l[k + k2 - 1] = l[k + k2] by rw [← ha, ← hb]; exact he.symm)
                clear ha hb
                replace he := hid he
                go_wp2_with fail
                go_quiet (fail)
                go_wp2_with fail
                exact ⟨⟨kk, k2 + 1, X, rfl, by go_num, by omega, by omega, by omega, hid (HC.out.skip (by omega) hpl HD.out), hid (HO.out.below (below_drewN (Below.refl _ _) _) (Nat.le_refl _)), hid (below_drewN HB.out _)⟩, by simp [intOf]; omega⟩
              · have hd : decide (a = b) = false := decide_eq_false he
                have HD := hid (show l[k + k2 - 1] ≠ l[k + k2] by rw [← ha, ← hb]; exact fun e => he e.symm)
                have HA := hid ha
                clear ha hb
                replace he := hid he
                go_wp2_with fail
                go_quiet (fail)
                go_wp2_with fail
                have HK : Hid (Below B wr (wr.drewN nq)) := hid (below_drewN (Below.refl _ _) nq)
                exact ⟨⟨kk + 1, k2 + 1, X.set kk a, by go_num, by go_num, by omega, by omega, by omega, hid (by rw [HA.out]; exact HC.out.keep (by omega) hpl HD.out), hid ((HO.out.below (below_drewN (Below.refl _ _) _) (Nat.le_refl _)).setT (by omega) a HTI.out), hid (((below_drewN HB.out _).setCell (p := ⟨g, _, none⟩) hBg _).setCell (p := ⟨g, _, none⟩) hBg _)⟩, by simp [intOf]; omega⟩
            · have hend : k + k2 = n := by omega
              have hxn : X.length = n := by rw [HXL, hn.out]
              have j1 : ¬ (↑k2 : Int) < ↑(n - k) := by omega
              have hkc2 : ¬ c = kk := by omega
              have j3 : (0 : Int) ≤ ↑kk := by omega
              have j4 : (↑kk : Int) ≤ ↑n := by omega
              have j5 : (↑kk : Int) ≤ ↑c := by omega
              have hcl : ∀ ty, (Builtin.clear_ #[33] ty #[.slice (some ⟨g, kk * 2, none⟩) (n - kk) (c - kk)]).run Tryd.prog wr = .ok (.tuple #[]) (wr.setCells g (kk * 2) (List.replicate ((n - kk) * 2) (.int .i64 0))) := fun ty =>
                run_clear_terms wr ty g (kk * 2) (n - kk) (c - kk) (by omega) (fun j hj => hso _ (by omega)) (fun j _ => hfr _)
              obtain ⟨ys, hys, htk⟩ := own_setCells (g := g) rfl (List.replicate ((n - kk) * 2) (Value.int .i64 0)) (kk * 2) wr _ HO.out.1 (by rw [List.length_replicate]; show kk * 2 + (n - kk) * 2 ≤ X.length * 2; omega)
              have HBZ := hid (below_setCells hBg (List.replicate ((n - kk) * 2) (Value.int .i64 0)) (kk * 2) w wr HB.out)
              have HXN := hid hxn
              clear hxn HXL
              have hys' : (wr.setCells g (kk * 2) (List.replicate ((n - kk) * 2) (.int .i64 0))).ownsRow B 38 2 (.slice (some ⟨g, 0, none⟩) kk c) kk ((fTerm.all X).take (kk * 2)) := by
                have h9 := own_cut (s := 2) (m := kk) (by rw [HXN.out] at hys; exact hys) (by omega)
                rw [← htk]
                exact h9
              have HY := hid hys'
              generalize wr.setCells g (kk * 2) (List.replicate ((n - kk) * 2) (.int .i64 0)) = wz at hcl HBZ HY
              clear hys hys' htk hce hso
              go_wp2_with fail
              go_ret
              refine ⟨_, rfl, ?_, HBZ.out⟩
              have hlen : (X.take kk).length = kk := by rw [List.length_take, HXN.out]; omega
              have h10 := HC.out.head
              rw [hend, List.take_of_length_le (l := l) (i := n) (by rw [← hn.out]; exact Nat.le_refl _)] at h10
              rw [← h10]
              refine rd_of_ownF (f := fTerm) (e := 38) (B := B) ?_ (fun t ht => HO.out.2 t (List.mem_of_mem_take ht)) (fun g' hg' => (HY.out.lt g' hg').2)
              rw [hlen, all_take (by rw [HXN.out]; omega)]
              exact HY.out
        · have hd : decide (x = y) = false := decide_eq_false he
          have HD := hid (show l[k - 1] ≠ l[k] by rw [← hx.out, ← hy.out]; exact fun e => he e.symm)
          replace he := hid he
          go_wp2_with fail
          go_quiet (fail)
          go_wp2_with fail
          exact ⟨⟨k + 1, by omega, by omega, by go_num, hid (by rw [compL_take hk1 hkl, if_neg HD.out, hc.out]; exact List.take_append_getElem hkl), hid (HO.out.below (below_drewN (Below.refl _ _) _) (Nat.le_refl _)), hid (below_drewN HB.out _)⟩, by simp [intOf]; omega⟩
      · obtain rfl : k = n := by omega
        go_wp2_with fail
        go_ret
        exact ⟨_, rfl, by have h9 := hc.out; rw [List.take_of_length_le (by rw [← hn.out]; exact Nat.le_refl _)] at h9; rw [h9]; exact HO.out.rd, HB.out⟩
theorem compact_none (p : Option Addr) (c : Nat) (w : World) : Calls Tryd.prog 30 #[.slice p 0 c] w fun e w' => e = .returned (.slice p 0 c) ∧ w' = w := by
  go_enter Tryd.func30, Tryd.ntmps30
  go_wp2
  go_ret
  exact ⟨rfl, rfl⟩
end Go.Proofs.YtmghlakedaigpaaDoor
