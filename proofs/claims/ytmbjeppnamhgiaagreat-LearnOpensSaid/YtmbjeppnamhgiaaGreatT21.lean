/- Contract: learn.Learn. -/
import Derived.Test.YtmbjeppnamhgiaaGreatzT20
import Derived.ScopeJumps
import Derived.WalkMore
import Derived.Deep.RegionHeld3
import Derived.StillTailTactics
import Derived.Deep.DeepCutAuto
import Derived.Outline
namespace Go.Proofs.YtmbjeppnamhgiaaGreat
open Go Go.RowKit

set_option maxRecDepth 100000 in
set_option maxHeartbeats 8000000 in
theorem plearn_any (v lv dv : Value) (ns : List Nat) (db : Nat → Nat → Nat) (D : Nat) (l : List StepN) (k0 : Nat) (w : World) (h : UniRd w (Lt w.heap.size) v ns) (hcf : Conf ns db D l (db k0)) (hk0 : k0 < D) (hl : SliceRd fStep.ty w (Lt w.heap.size) lv l) (hll : l.length ≤ 900) (hd : SliceRd (tSlice tTerm) w (Lt w.heap.size) dv (dbL ns db D)) (hD : D ≤ 100000) :
    Calls Tryz.prog 14 #[v, dv, lv, .int .i64 k0] w (LearnPost ns db l (db k0) w) := by
  obtain ⟨ik, hik⟩ := info_parts link_info
  have HIK := hid hik
  have HH := hid h
  have HO := hid hcf.no
  have HCF := hid hcf
  have HL := hid hl
  have HD := hid hd
  have h11 := hcf.no.hi
  obtain ⟨g, cap0, rfl, hg, -⟩ := h
  obtain ⟨A, cap, rfl, hca, hcm, hcl⟩ := hl.steps
  have HCL := hid hcl
  unfold maxLen at hcm
  obtain ⟨Ad, capd, rfl, hcd, hcdm, hcs⟩ := hd.dbs
  have HC := hid hcs
  obtain ⟨ln, hln⟩ : ∃ ln, l.length = ln := ⟨_, rfl⟩
  have HLN := hid hln
  obtain ⟨gd, od, i0v, hAd, hFd, hg0, hi0⟩ := hcs k0 hk0
  subst hAd
  have HI0 := hid hi0
  have hcl0 := canon_len (ns := ns) (db k0)
  have hin : ∀ k, k < D → IncOk ns (db k) := hcf.dok
  have HIN := hid hin
  obtain ⟨M0, hM0⟩ : ∃ M0, db k0 = M0 := ⟨_, rfl⟩
  rw [hM0] at HCF HI0 hcl0 ⊢
  have HM0 := hid hM0
  rw [hln] at hll hca HL ⊢
  have k1 : (0 : Int) ≤ ↑k0 := by omega
  have k2 : (↑k0 : Int) < ↑D := by omega
  have HG0 := hid hg0
  clear hik hcf hl hd hcs hcl hi0 hM0 hin
  go_enter Tryz.func14, Tryz.ntmps14
  --ROUND
  go_wp2_with fail
  obtain ⟨w0, hw0⟩ : ∃ w0 : World, w0 = (w.alloc (.cells #[.slice (some ⟨g, 0, none⟩) ns.length cap0] 26)).alloc (.cells #[.int .i64 0, .int .i64 0, .int .i64 0, .int .i64 0] 98) := ⟨_, rfl⟩
  have hb0 : Below w.heap.size w w0 := hw0 ▸ balloc (balloc (b0 w) _) _
  have hz0 : w0.heap.size = w.heap.size + 2 := by rw [hw0]; simp
  have q0 : w0.cell? ⟨w.heap.size, 0, none⟩ = some (.slice (some ⟨g, 0, none⟩) ns.length cap0) := by rw [hw0]; exact alloc2_old rfl
  have hx0 : Blk4 w0 (w.heap.size + 1) := by
    rw [hw0]
    refine ⟨.int .i64 0, .int .i64 0, .int .i64 0, .int .i64 0, ?_⟩
    have := heap_alloc_new (w.alloc (.cells #[.slice (some ⟨g, 0, none⟩) ns.length cap0] 26)) (.cells #[.int .i64 0, .int .i64 0, .int .i64 0, .int .i64 0] 98)
    rwa [World.size_alloc] at this
  have HB0 := hid hb0
  have y0 := cell_below hb0 hFd HG0.out
  have HI00 := hid (HI0.out.lift hb0 hb0.size)
  have HCLN := hid (pclone_any _ _ w0 HI00.out (by omega))
  clear hb0
  refine wp_scope_jumps 0 (fun a' wr => ∃ (j : Nat) (cv kv : Value) (u14 u15 u16 u17 u18 u19 u20 u21 u22 u23 u24 u25 u26 u27 u28 u29 u30 u31 u32 u33 u34 u35 u36 u37 u38 u39 u40 u41 u42 u43 u44 u45 u46 u47 u48 u49 u50 u51 u52 u53 u54 u55 u56 u57 u58 u59 u60 u61 u62 u63 u64 u65 u66 u67 u68 u69 u70 u71 u72 u73 u74 u75 u76 u77 u78 u79 u80 u81 u82 u83 u84 u85 u86 u87 u88 u89 u90 u91 u92 u93 u94 u95 u96 u97 : Value), a' = { tmps := #[.agg #[.slice (some ⟨g, 0, none⟩) ns.length cap0], .slice (some ⟨gd, od, none⟩) D capd, .slice A ln cap, .int .i64 k0, .pointer (some ⟨w.heap.size, 0, none⟩), undef, undef, undef, .slice none 0 0, .int .i64 0, .slice none 0 0, cv, kv, .pointer (some ⟨w.heap.size + 1, 0, none⟩), u14, u15, u16, u17, u18, u19, u20, u21, u22, u23, u24, u25, u26, u27, u28, u29, u30, u31, u32, u33, u34, u35, u36, u37, u38, u39, u40, u41, u42, u43, u44, u45, u46, u47, u48, u49, u50, u51, u52, u53, u54, u55, u56, u57, u58, u59, u60, u61, u62, u63, u64, u65, u66, u67, u68, u69, u70, u71, u72, u73, u74, u75, u76, u77, u78, u79, u80, u81, u82, u83, u84, u85, u86, u87, u88, u89, u90, u91, u92, u93, u94, u95, u96, u97], defers := [] } ∧ (Hid (∀ i, i < j → stopB ns l (stL ns db l M0 i).M = false) ∧ Hid (SliceRd tTerm wr (fun b => b < wr.heap.size ∧ kv.ownBlock ≠ some b ∧ b ≠ w.heap.size + 1) cv (canon ns (stL ns db l M0 j).M)) ∧ Hid (OwnF fLink 56 (w.heap.size + 2) wr kv (stL ns db l M0 j).links) ∧ Hid (Below (w.heap.size + 1) w0 wr) ∧ Hid (Blk4 wr (w.heap.size + 1)))) (fun a' _ => ln + 1 - lenV (a'.tmps.getD 12 undef)) rfl ?_ ?_
  · have hgr := y0
    rw [hw0] at hgr
    go_wp2_with (go_at_call 44; go_must (rw [← hw0]; refine HCLN.out.mono ?_; rintro e wr ⟨cv, rfl, hcvx, hb1⟩; have HCVX := hid hcvx; have HB1 := hid hb1; clear hcvx hb1))
    go_step3
    have hcvf : Hid (SliceRd tTerm wr (fun b => b < wr.heap.size ∧ (Value.slice none 0 0).ownBlock ≠ some b ∧ b ≠ w.heap.size + 1) cv (canon ns (stL ns db l M0 0).M)) := hid (HCVX.out.more fun b h => ⟨h.2, fun e => (by cases e), (by have := h.1; omega)⟩)
    have hkv : Hid (OwnF fLink 56 (w.heap.size + 2) wr (.slice none 0 0) (stL ns db l M0 0).links) := hid (OwnF.nil _ _ _ _)
    have hb : Hid (Below (w.heap.size + 1) w0 wr) := hid (HB1.out.mono (by omega))
    have hbx : Hid (Blk4 wr (w.heap.size + 1)) := hid (hx0.keep (HB1.out.block _ (by omega)))
    have hj : Hid (∀ i, i < 0 → stopB ns l (stL ns db l M0 i).M = false) := hid (fun i hi => absurd hi (by omega))
    have hcv := hid (hcvf.out.more fun _ h => h.1)
    have hinv := HCF.out.inv hj.out
    have hlen := hinv.len
    rw [stL_links, HLN.out] at hlen
    have HINC := hid hinv.ok
    have HSUR := hid hinv.sure
    have HBR : Hid (Below w.heap.size w wr) := hid (HB0.out.trans (hb.out.mono (by omega)))
    have hsr : w.heap.size + 2 ≤ wr.heap.size := by rw [← hz0]; exact hb.out.size
    have q1 := cell_below hb.out (by omega) q0
    have HUR := hid (uni_later HH.out HBR.out)
    obtain ⟨Ac, cc, hcve, -⟩ := hcvf.out.terms
    subst hcve
    have hlinks := stL_links (ns := ns) (db := db) (l := l) (M := M0) 0
    clear hinv
    cases hbl : blank ns (stL ns db l M0 0).M with
    | true =>
      have hnil := blank_len hbl
      have HNIL := hid hnil
      have HLV : Hid (lvlOf ns l (stL ns db l M0 0).M = -1) := hid (by unfold lvlOf; rw [hbl]; rfl)
      have HSTOP := hid (show stopB ns l (stL ns db l M0 0).M = true by unfold stopB; rw [hbl]; rfl)
      have z0 : ((canon ns (stL ns db l M0 0).M).length : Int) = 0 := by rw [hnil]; rfl
      obtain ⟨cl, hcl⟩ : ∃ cl, (canon ns (stL ns db l M0 0).M).length = cl := ⟨_, rfl⟩
      rw [hcl] at z0 ⊢
      have z1 : ((cl : Int) == 0) = true := by rw [beq_iff_eq]; exact z0
      clear hcl hnil hbl
      go_wp2
      simp only [Exit.jump]
      exact bodyPost_ret (v := .tuple #[.slice none 0 0, .int .i64 (-1), .slice none 0 0]) (by simp [results, Tryz.results14, go_sem]) rfl ⟨0, _, _, by rw [HLV.out], ⟨HSTOP.out, hj.out⟩, by rw [HNIL.out]; exact SliceRd.nil _ _ _, hkv.out.rd, HBR.out⟩
    | false =>
      obtain ⟨n, hn, hwn, hls, hlv, htr, hsu, hu, hcase, hlvl⟩ := HCF.out.round hj.out hbl
      have hstop := stop_cases (l := l) hbl
      have hcpos := blank_pos hbl
      have HLVO : Hid (lvlOf ns l (stL ns db l M0 0).M = (levN ns l (stL ns db l M0 0).M : Int)) := hid (by unfold lvlOf; rw [hbl]; rfl)
      have HST := hid (fun (h : stopB ns l (stL ns db l M0 0).M = false) => (HCF.out.inv hj.out).step HO.out HCF.out.tr HCF.out.dok h)
      have HSUC : Hid (stL ns db l M0 (0 + 1) = ⟨joinN (stL ns db l M0 0).M (db (lastS ns l (stL ns db l M0 0).M).c.toNat) (lastS ns l (stL ns db l M0 0).M).u, (stL ns db l M0 0).links ++ [((lastS ns l (stL ns db l M0 0).M).u, (lastS ns l (stL ns db l M0 0).M).c.toNat)]⟩) := hid rfl
      rw [hls] at HST HSUC hstop
      obtain ⟨gs, os, hAs, hFs, hst, hok⟩ := HCL.out n hn
      subst hAs
      have hnl : n < ln := by rw [← HLN.out]; exact hn
      have HFI := hid ((HCF.out.inv hj.out).first)
      rw [hwn] at HFI
      have HWN := hid (when_one (.agg #[.slice (some ⟨g, 0, none⟩) ns.length cap0]) (.slice (some ⟨gs, os, none⟩) ln cap) (.slice Ac (canon ns (stL ns db l M0 0).M).length cc) ns db D l (stL ns db l M0 0).M (n + 1) wr HUR.out HO.out (HL.out.lift HBR.out HBR.out.size) (by rw [HLN.out]; exact hll) HCF.out.tr hcv.out HINC.out HFI.out)
      have HBE := hid (fun (W : World) (hbW : Below w.heap.size w W) (hcW : SliceRd tTerm W (Lt W.heap.size) (.slice Ac (canon ns (stL ns db l M0 0).M).length cc) (canon ns (stL ns db l M0 0).M)) => pbefore_any (.agg #[.slice (some ⟨g, 0, none⟩) ns.length cap0]) (.slice (some ⟨gs, os, none⟩) ln cap) (.slice Ac (canon ns (stL ns db l M0 0).M).length cc) ns db D l n hn (stL ns db l M0 0).M W (uni_later HH.out hbW) HO.out (HL.out.lift hbW hbW.size) (by rw [HLN.out]; exact hll) HCF.out.tr hcW HINC.out hsu)
      rw [← hlv] at HBE
      obtain ⟨lvn, hlvn⟩ : ∃ lvn, levN ns l (stL ns db l M0 0).M = lvn := ⟨_, rfl⟩
      rw [hlvn] at HBE hstop HLVO hlvl
      have HKL : Hid ((stL ns db l M0 0).links.length = 0) := hid hlinks
      generalize hMx : (stL ns db l M0 0).M = M at *
      generalize hlk : (stL ns db l M0 0).links = lk at *
      have HMX := hid (And.intro hMx hlk)
      generalize hs : l[n] = s at *
      have z0 : (((canon ns M).length : Int) == 0) = false := by rw [beq_eq_false_iff_ne]; omega
      obtain ⟨cl, hcl⟩ : ∃ cl, (canon ns M).length = cl := ⟨_, rfl⟩
      rw [hcl] at z0 hcv hcvf HWN HBE ⊢
      have HOKS := hid hok
      obtain ⟨su, sm, sl, sc⟩ := s
      have HSTW := hid (fun (W : World) (hb : Below w.heap.size w W) => hst.below hb hFs)
      have HCASE := hid hcase
      have e0 : (((n + 1 : Nat) : Int)) = (n : Int) + 1 := by omega
      rw [e0] at HWN
      have n1 : (0 : Int) ≤ ↑n := by omega
      have n2 : (↑n : Int) < ↑ln := by omega
      have n3 : ¬ ((n : Int) + 1 < 1) := by omega
      have n4 : (↑n : Int) ≤ ↑cap := by omega
      have n5 : (↑n : Int) + 1 - 1 = (n : Int) := by omega
      have n6 : IntKind.i64.wrap (n : Int) = (n : Int) := IntWalk.i64_in _ (by omega)
      clear hcl hcpos htr hsu hst hok hlv hcase hwn hs hlvn hlk hMx hbl hls e0 hlinks
      go_wp2_with fail
      refine HWN.out.mono ?_
      rintro e w2 ⟨rfl, hb2⟩
      have hbw2 := HBR.out.trans (hb2.mono HBR.out.size)
      have HBW2 := hid hbw2
      obtain ⟨c0, c1, c2, c3⟩ := HSTW.out w2 hbw2
      have q2 := cell_below hb2 (by omega) q1
      have HB2 := hid hb2
      have HBA2 : Hid (Below (w.heap.size + 1) w0 w2) := hid (hb.out.trans (hb2.mono (by omega)))
      have hs2 := hb2.size
      have HKV2 := hid (hkv.out.below hb2 (Nat.le_refl _))
      have hcvf2 : SliceRd tTerm w2 (fun b => b < w2.heap.size ∧ (Value.slice none 0 0).ownBlock ≠ some b ∧ b ≠ w.heap.size + 1) (.slice Ac cl cc) (canon ns M) := (hcvf.out.keep (Keeps.of_below hb2 fun _ h => h.1)).more fun _ h => ⟨Nat.lt_of_lt_of_le h.1 hb2.size, h.2⟩
      have HCVF2 := hid hcvf2
      have HBX2 := hid (hbx.out.keep (hb2.block _ (by omega)))
      clear hb2 hbw2 hcvf2
      go_wp2_with fail
      have HCV2 := hid (HCVF2.out.more (F' := Lt w2.heap.size) fun _ h => h.1)
      have HBE2 := hid (HBE.out w2.drew HBW2.out.drew (SliceRd.keep (w := w2) (w' := w2.drew) (F := Lt w2.heap.size) (fun _ _ => rfl) HCV2.out))
      go_cut [14] (fun s14 wx => s14 = .int .i64 lvn ∧ ∃ w3, Hid (Below w2.heap.size w2 w3) ∧ wx = ((((w3.setCell ⟨w.heap.size + 1, 0, none⟩ (.int .i64 su)).setCell ⟨w.heap.size + 1, 1, none⟩ (.int .i64 sm)).setCell ⟨w.heap.size + 1, 2, none⟩ (.int .i64 sl)).setCell ⟨w.heap.size + 1, 3, none⟩ (.int .i64 sc)))
      case first =>
        go_region_law ((go_simp; go_at_call 46; refine HBE2.out.mono ?_; rintro e w3 ⟨rfl, hb3⟩; have HB3 := hid ((b0 w2).drew.trans (hb3.mono (Nat.le_refl _))); obtain ⟨d0, d1, d2, d3⟩ := HSTW.out w3 (bstep HBW2.out HB3.out); have q3 := cell_below HB3.out (by omega) q2; obtain ⟨⟨x0, x1, x2, x3, f0, f1, f2, f3⟩, xf⟩ := (HBX2.out.keep (HB3.out.block _ (by omega))).facts; clear hb3))
        all_goals (go_wp2_with fail; go_meet; exact ⟨rfl, w3, HB3, rfl⟩)
      case rest =>
        obtain ⟨rfl, w3, HB3, hwc⟩ := hcut
        have HBX3 := HBX2.out.keep (HB3.out.block _ (by omega))
        have hX : wc.heap[w.heap.size + 1]? = some (.cells #[.int .i64 su, .int .i64 sm, .int .i64 sl, .int .i64 sc] 98 (0, 0)) := by rw [hwc]; exact HBX3.set _ _ _ _
        have t0 := cell_of_row wc (w.heap.size + 1) 0 _ _ (0, 0) hX
        have t2 := cell_of_row wc (w.heap.size + 1) 2 _ _ (0, 0) hX
        have t3 := cell_of_row wc (w.heap.size + 1) 3 _ _ (0, 0) hX
        have hsc : wc.heap.size = w3.heap.size := by rw [hwc]; exact set4_size _ _ _ _
        have hs3 := HB3.out.size
        have hoth : ∀ k, k ≠ w.heap.size + 1 → wc.heap[k]? = w3.heap[k]? := fun k hk => by rw [hwc]; exact set4_other hk _ _ _ _
        have HBC : Hid (Below (w.heap.size + 1) w0 wc) := hid (hwc ▸ ((((HBA2.out.trans (HB3.out.mono (by omega))).setCell (p := ⟨w.heap.size + 1, 0, none⟩) (Nat.le_refl _) _).setCell (p := ⟨w.heap.size + 1, 1, none⟩) (Nat.le_refl _) _).setCell (p := ⟨w.heap.size + 1, 2, none⟩) (Nat.le_refl _) _).setCell (p := ⟨w.heap.size + 1, 3, none⟩) (Nat.le_refl _) _)
        have HBWC : Hid (Below w.heap.size w wc) := hid (HB0.out.trans (HBC.out.mono (by omega)))
        have qc := cell_below HBC.out (by omega) q0
        have HKV3 := HKV2.out.below HB3.out (Nat.le_refl _)
        have HKVC : Hid (OwnF fLink 56 (w.heap.size + 2) wc (.slice none 0 0) lk) := hid ⟨ownsRow_keep HKV3.1 (fun g hg => hoth g (by have := (HKV3.lt g hg).1; omega)), HKV3.2⟩
        have hcvc : SliceRd tTerm wc (fun b => b < wc.heap.size ∧ (Value.slice none 0 0).ownBlock ≠ some b ∧ b ≠ w.heap.size + 1) (.slice Ac cl cc) (canon ns M) := (SliceRd.keep (w := w3) (w' := wc) (fun b h => hoth b h.2.2) (HCVF2.out.keep (Keeps.of_below HB3.out fun _ h => h.1))).more fun _ h => ⟨by rw [hsc]; exact Nat.lt_of_lt_of_le h.1 hs3, h.2⟩
        have HCVC := hid hcvc
        have HBXC : Hid (Blk4 wc (w.heap.size + 1)) := hid ⟨_, _, _, _, hX⟩
        have HEND := hid (fun (h : stopB ns l M = true) => show LearnPost ns db l M0 w (.returned (.tuple #[.slice Ac cl cc, .int .i64 lvn, .slice none 0 0])) wc from ⟨0, _, _, by rw [HMX.out.1, HLVO.out], ⟨by rw [HMX.out.1]; exact h, hj.out⟩, by rw [HMX.out.1]; exact HCVC.out.more fun _ h => h.1, by rw [HMX.out.2]; exact HKVC.out.rd, HBWC.out⟩)
        have hlv4 : lvn ≤ 900 := by have := HLN.out; omega
        have hsw : w.heap.size + 2 ≤ wc.heap.size := by omega
        have zj : ¬ ((ln : Int) < ↑0) := by omega
        have zjd : decide ((ln : Int) < ↑0) = false := decide_eq_false zj
        clear hwc hX hoth hcvc n3 n5 hsc hs3
        rcases HCASE.out with rfl | ⟨c, rfl, hcD⟩
        · have HE := hid (HEND.out (by simp [hstop]))
          clear hstop
          go_wp2
          simp only [Exit.jump]
          exact bodyPost_ret (v := .tuple #[.slice Ac cl cc, .int .i64 lvn, .slice none 0 0]) (by simp [results, Tryz.results14, go_sem]) rfl HE.out
        · have c1 : (0 : Int) ≤ ↑c := by omega
          have c2 : (↑c : Int) < ↑D := by omega
          have c3 : ¬ ((c : Int) < 0) := by omega
          have c4 : decide ((c : Int) < 0) = false := decide_eq_false c3
          have c5 : ¬ ((D : Int) ≤ ↑c) := by omega
          have c6 : decide ((D : Int) ≤ ↑c) = false := decide_eq_false c5
          by_cases hlt : lvn < sl
          · have HE := hid (HEND.out (by rw [hstop]; simp [hlt]))
            have zl : (lvn : Int) < ↑sl := by omega
            have zld : decide ((lvn : Int) < ↑sl) = true := decide_eq_true zl
            clear hstop hlt
            go_wp2
            simp only [Exit.jump]
            exact bodyPost_ret (v := .tuple #[.slice Ac cl cc, .int .i64 lvn, .slice none 0 0]) (by simp [results, Tryz.results14, go_sem]) rfl HE.out
          · have hns : stopB ns l M = false := by
              rw [hstop, decide_eq_false (show ¬ ((c : Int) = -1) by omega), decide_eq_false hlt, Bool.or_self]
            obtain ⟨-, hok2, hul, -⟩ := HST.out hns
            rw [Int.toNat_natCast] at hok2
            have HJN := hid (fun (iv : Value) (W : World) (hbW : Below w.heap.size w W) (hcW : SliceRd tTerm W (Lt W.heap.size) (.slice Ac cl cc) (canon ns M)) (hiv : SliceRd tTerm W (Lt W.heap.size) iv (canon ns (db c))) => join_new (.agg #[.slice (some ⟨g, 0, none⟩) ns.length cap0]) (.slice Ac cl cc) iv ns M (db c) su W (uni_later HH.out hbW) HO.out hcW hiv HINC.out (HIN.out c hcD))
            rw [joinR_some hul hok2] at HJN
            have HM1 : Hid ((stL ns db l M0 (0 + 1)).M = joinN M (db c) su) := hid (by rw [HSUC.out]; simp)
            have HL1 : Hid ((stL ns db l M0 (0 + 1)).links = lk ++ [(su, c)]) := hid (by rw [HSUC.out]; simp)
            have HJ1 := hid (fun i (hi : i < 0 + 1) => show stopB ns l (stL ns db l M0 i).M = false from if e : i = 0 then by rw [e, HMX.out.1]; exact hns else hj.out i (by omega))
            have HOKP := hid (show fLink.ok (su, c) from ⟨HOKS.out.1, by show c ≤ 100000; omega⟩)
            obtain ⟨gc, oc, icv, hAc, hFc, hgc, hicv⟩ := HC.out c hcD
            injection hAc with hAc
            injection hAc with e1 e2
            subst e1 e2
            have HOB := hid (fun (hh : (Value.slice none 0 0).ownBlock = some (w.heap.size + 1)) => (show False by have := (HKVC.out.lt _ hh).1; omega))
            have zl : ¬ ((lvn : Int) < ↑sl) := by omega
            have zl2 : decide ((lvn : Int) < ↑sl) = false := decide_eq_false zl
            have hjb : 0 ≤ 1000 := by omega
            have HBXa := hid (fun o => HBXC.out.keep (Below.heap_alloc wc o _ (by omega)))
            clear hns hok2 hlt hstop
            go_wp2_with (at_builtin; go_must (refine wpList_append_src _ rfl (.tmp 77) (.tmp 83) _ rfl (w.heap.size + 2) 56 ik _ 2 16 Tryz.underlying35 HIK.out.1 HIK.out.2.1 HIK.out.2.2.1 HIK.out.2.2.2 rfl (by omega) (.slice none 0 0) 0 (fLink.all lk) (by rfl) (by have := HKVC.out.1.alloc; rw [HKL.out] at this; exact this _) (some ⟨wc.heap.size, 0, none⟩) 1 1 (fLink.cells (su, c)) (by rfl) (by exact src_one (f := fLink) rfl) (by simp [fLink, Value.oneCell']) (by unfold maxLen; omega) (by omega) (by simp; omega) ?_; intro v5 w5 hown5 hg5 hat5; obtain ⟨A5, c5v, rfl⟩ := own_form hown5; have HKV5 := hid (own_snocF HKL.out HKVC.out.2 HOKP.out hown5); have HB5 := hid (own_app (v2 := .slice A5 (0 + 1) c5v) (HBC.out.alloc (by omega) _) ((HKVC.out.alloc _).mono (by omega)) (by simp; omega) hg5 rfl); have x0 := hg5.cell (cell_below (balloc (b0 wc) _) (show w.heap.size + 1 < wc.heap.size by omega) t0) (by intro e; exact HOB.out e.symm); have x3 := hg5.cell (cell_below (balloc (b0 wc) _) (show w.heap.size + 1 < wc.heap.size by omega) t3) (by intro e; exact HOB.out e.symm); have hs5 : wc.heap.size ≤ w5.heap.size := Nat.le_trans (by simp) hg5.size; have HBX5 := hid ((HBXa.out _).keep (hg5.block (w.heap.size + 1) (by simp; omega) (fun e => HOB.out e.symm))); have HCV5 := hid (SliceRd.more (F' := Lt w5.heap.size) (fun b h => Nat.lt_of_lt_of_le h.1 hs5) (SliceRd.keep (w' := w5) (fun b h => (hg5.block b (by have := h.1; simp; omega) (fun e => h.2.1 e.symm)).trans (Below.heap_alloc _ _ _ h.1)) HCVC.out)); clear hown5 hat5))
            have hbw5 : Below w.heap.size w w5 := HB0.out.trans (HB5.out.mono (by omega))
            have q5 := cell_below HB5.out (by omega) q0
            have y5 := cell_below hbw5 hFc hgc
            have HIC := hid (hicv.lift hbw5 hbw5.size)
            have HJ5 := hid (HJN.out icv w5.drew hbw5.drew (SliceRd.keep (w := w5) (w' := w5.drew) (F := Lt w5.heap.size) (fun _ _ => rfl) HCV5.out) (SliceRd.keep (w := w5) (w' := w5.drew) (F := Lt w5.heap.size) (fun _ _ => rfl) HIC.out))
            have hs55 : w.heap.size + 2 ≤ w5.heap.size := by omega
            have hgc5 : gd < w5.heap.size := Nat.lt_of_lt_of_le hFc hbw5.size
            clear hbw5
            go_wp2_with fail
            go_region_held3 (fun w' => w'.cell? ⟨w.heap.size, 0, none⟩ = some (.slice (some ⟨g, 0, none⟩) ns.length cap0) ∧ w'.cell? ⟨w.heap.size + 1, 0, none⟩ = some (.int .i64 su) ∧ w'.cell? ⟨w.heap.size + 1, 3, none⟩ = some (.int .i64 c) ∧ w'.cell? ⟨gd, od + c, none⟩ = some icv) (first | exact ⟨by assumption, by assumption, by assumption, by assumption⟩ | go_keep) (first | (go_at_call 47; refine HJ5.out.mono ?_; rintro e w6 ⟨sv, rfl, hsv, hb6⟩; have HSV := hid hsv; have HB56 := hid ((b0 w5).drew.trans (hb6.mono (Nat.le_refl _))); have a0 := cell_below HB56.out (by omega) q5; have a1 := cell_below HB56.out (by omega) x0; have a2 := cell_below HB56.out (by omega) x3; have a3 := cell_below HB56.out (by omega) y5; clear hsv hb6))
            --G1
            go_wp2_with fail
            go_step3
            have HKV6 := HKV5.out.below HB56.out (Nat.le_refl _)
            have HB6 := HB5.out.trans (HB56.out.mono (by omega))
            have HBX6 := HBX5.out.keep (HB56.out.block _ (by omega))
            have HCV6 : SliceRd tTerm w6 (fun b => b < w6.heap.size ∧ (Value.slice A5 (0 + 1) c5v).ownBlock ≠ some b ∧ b ≠ w.heap.size + 1) sv (canon ns (joinN M (db c) su)) := HSV.out.more fun b h => ⟨h.2, fun e => by have h1 := (HKV5.out.lt _ e).2; have h2 : w5.heap.size ≤ b := h.1; omega, by have h2 : w5.heap.size ≤ b := h.1; omega⟩
            --END
            refine And.intro rfl ⟨0 + 1, sv, .slice A5 (0 + 1) c5v, ?_⟩
            iterate 84 (apply Exists.intro)
            exact ⟨rfl, HJ1, hid (by rw [HM1.out]; exact HCV6), hid (by rw [HL1.out]; exact HKV6), hid HB6, hid HBX6⟩
  · rintro a' wr ⟨j, cv, kv, hJ⟩
    iterate 84 (obtain ⟨_, hJ⟩ := hJ)
    obtain ⟨rfl, hj, hcvf, hkv, hb, hbx⟩ := hJ
    have hcv := hid (hcvf.out.more fun _ h => h.1)
    have hinv := HCF.out.inv hj.out
    have hlen := hinv.len
    rw [stL_links, HLN.out] at hlen
    have HINC := hid hinv.ok
    have HSUR := hid hinv.sure
    have HBR : Hid (Below w.heap.size w wr) := hid (HB0.out.trans (hb.out.mono (by omega)))
    have hsr : w.heap.size + 2 ≤ wr.heap.size := by rw [← hz0]; exact hb.out.size
    have q1 := cell_below hb.out (by omega) q0
    have HUR := hid (uni_later HH.out HBR.out)
    obtain ⟨Ac, cc, hcve, -⟩ := hcvf.out.terms
    subst hcve
    obtain ⟨Ak, ck, hkve⟩ := hkv.out.form
    subst hkve
    have hlinks := stL_links (ns := ns) (db := db) (l := l) (M := M0) j
    rw [hlinks] at hkv hcvf ⊢
    clear hinv
    cases hbl : blank ns (stL ns db l M0 j).M with
    | true =>
      have hnil := blank_len hbl
      have HNIL := hid hnil
      have HLV : Hid (lvlOf ns l (stL ns db l M0 j).M = -1) := hid (by unfold lvlOf; rw [hbl]; rfl)
      have HSTOP := hid (show stopB ns l (stL ns db l M0 j).M = true by unfold stopB; rw [hbl]; rfl)
      have z0 : ((canon ns (stL ns db l M0 j).M).length : Int) = 0 := by rw [hnil]; rfl
      obtain ⟨cl, hcl⟩ : ∃ cl, (canon ns (stL ns db l M0 j).M).length = cl := ⟨_, rfl⟩
      rw [hcl] at z0 ⊢
      have z1 : ((cl : Int) == 0) = true := by rw [beq_iff_eq]; exact z0
      clear hcl hnil hbl
      go_wp2
      simp only [Exit.jump]
      exact bodyPost_ret (v := .tuple #[.slice none 0 0, .int .i64 (-1), .slice Ak j ck]) (by simp [results, Tryz.results14, go_sem]) rfl ⟨j, _, _, by rw [HLV.out], ⟨HSTOP.out, hj.out⟩, by rw [HNIL.out]; exact SliceRd.nil _ _ _, hkv.out.rd, HBR.out⟩
    | false =>
      obtain ⟨n, hn, hwn, hls, hlv, htr, hsu, hu, hcase, hlvl⟩ := HCF.out.round hj.out hbl
      have hstop := stop_cases (l := l) hbl
      have hcpos := blank_pos hbl
      have HLVO : Hid (lvlOf ns l (stL ns db l M0 j).M = (levN ns l (stL ns db l M0 j).M : Int)) := hid (by unfold lvlOf; rw [hbl]; rfl)
      have HST := hid (fun (h : stopB ns l (stL ns db l M0 j).M = false) => (HCF.out.inv hj.out).step HO.out HCF.out.tr HCF.out.dok h)
      have HSUC : Hid (stL ns db l M0 (j + 1) = ⟨joinN (stL ns db l M0 j).M (db (lastS ns l (stL ns db l M0 j).M).c.toNat) (lastS ns l (stL ns db l M0 j).M).u, (stL ns db l M0 j).links ++ [((lastS ns l (stL ns db l M0 j).M).u, (lastS ns l (stL ns db l M0 j).M).c.toNat)]⟩) := hid rfl
      rw [hls] at HST HSUC hstop
      obtain ⟨gs, os, hAs, hFs, hst, hok⟩ := HCL.out n hn
      subst hAs
      have hnl : n < ln := by rw [← HLN.out]; exact hn
      have HFI := hid ((HCF.out.inv hj.out).first)
      rw [hwn] at HFI
      have HWN := hid (when_one (.agg #[.slice (some ⟨g, 0, none⟩) ns.length cap0]) (.slice (some ⟨gs, os, none⟩) ln cap) (.slice Ac (canon ns (stL ns db l M0 j).M).length cc) ns db D l (stL ns db l M0 j).M (n + 1) wr HUR.out HO.out (HL.out.lift HBR.out HBR.out.size) (by rw [HLN.out]; exact hll) HCF.out.tr hcv.out HINC.out HFI.out)
      have HBE := hid (fun (W : World) (hbW : Below w.heap.size w W) (hcW : SliceRd tTerm W (Lt W.heap.size) (.slice Ac (canon ns (stL ns db l M0 j).M).length cc) (canon ns (stL ns db l M0 j).M)) => pbefore_any (.agg #[.slice (some ⟨g, 0, none⟩) ns.length cap0]) (.slice (some ⟨gs, os, none⟩) ln cap) (.slice Ac (canon ns (stL ns db l M0 j).M).length cc) ns db D l n hn (stL ns db l M0 j).M W (uni_later HH.out hbW) HO.out (HL.out.lift hbW hbW.size) (by rw [HLN.out]; exact hll) HCF.out.tr hcW HINC.out hsu)
      rw [← hlv] at HBE
      obtain ⟨lvn, hlvn⟩ : ∃ lvn, levN ns l (stL ns db l M0 j).M = lvn := ⟨_, rfl⟩
      rw [hlvn] at HBE hstop HLVO hlvl
      have HKL : Hid ((stL ns db l M0 j).links.length = j) := hid hlinks
      generalize hMx : (stL ns db l M0 j).M = M at *
      generalize hlk : (stL ns db l M0 j).links = lk at *
      have HMX := hid (And.intro hMx hlk)
      generalize hs : l[n] = s at *
      have z0 : (((canon ns M).length : Int) == 0) = false := by rw [beq_eq_false_iff_ne]; omega
      obtain ⟨cl, hcl⟩ : ∃ cl, (canon ns M).length = cl := ⟨_, rfl⟩
      rw [hcl] at z0 hcv hcvf HWN HBE ⊢
      have HOKS := hid hok
      obtain ⟨su, sm, sl, sc⟩ := s
      have HSTW := hid (fun (W : World) (hb : Below w.heap.size w W) => hst.below hb hFs)
      have HCASE := hid hcase
      have e0 : (((n + 1 : Nat) : Int)) = (n : Int) + 1 := by omega
      rw [e0] at HWN
      have n1 : (0 : Int) ≤ ↑n := by omega
      have n2 : (↑n : Int) < ↑ln := by omega
      have n3 : ¬ ((n : Int) + 1 < 1) := by omega
      have n4 : (↑n : Int) ≤ ↑cap := by omega
      have n5 : (↑n : Int) + 1 - 1 = (n : Int) := by omega
      have n6 : IntKind.i64.wrap (n : Int) = (n : Int) := IntWalk.i64_in _ (by omega)
      clear hcl hcpos htr hsu hst hok hlv hcase hwn hs hlvn hlk hMx hbl hls e0 hlinks
      go_wp2_with fail
      refine HWN.out.mono ?_
      rintro e w2 ⟨rfl, hb2⟩
      have hbw2 := HBR.out.trans (hb2.mono HBR.out.size)
      have HBW2 := hid hbw2
      obtain ⟨c0, c1, c2, c3⟩ := HSTW.out w2 hbw2
      have q2 := cell_below hb2 (by omega) q1
      have HB2 := hid hb2
      have HBA2 : Hid (Below (w.heap.size + 1) w0 w2) := hid (hb.out.trans (hb2.mono (by omega)))
      have hs2 := hb2.size
      have HKV2 := hid (hkv.out.below hb2 (Nat.le_refl _))
      have hcvf2 : SliceRd tTerm w2 (fun b => b < w2.heap.size ∧ (Value.slice Ak j ck).ownBlock ≠ some b ∧ b ≠ w.heap.size + 1) (.slice Ac cl cc) (canon ns M) := (hcvf.out.keep (Keeps.of_below hb2 fun _ h => h.1)).more fun _ h => ⟨Nat.lt_of_lt_of_le h.1 hb2.size, h.2⟩
      have HCVF2 := hid hcvf2
      have HBX2 := hid (hbx.out.keep (hb2.block _ (by omega)))
      clear hb2 hbw2 hcvf2
      go_wp2_with fail
      have HCV2 := hid (HCVF2.out.more (F' := Lt w2.heap.size) fun _ h => h.1)
      have HBE2 := hid (HBE.out w2.drew HBW2.out.drew (SliceRd.keep (w := w2) (w' := w2.drew) (F := Lt w2.heap.size) (fun _ _ => rfl) HCV2.out))
      go_cut [14] (fun s14 wx => s14 = .int .i64 lvn ∧ ∃ w3, Hid (Below w2.heap.size w2 w3) ∧ wx = ((((w3.setCell ⟨w.heap.size + 1, 0, none⟩ (.int .i64 su)).setCell ⟨w.heap.size + 1, 1, none⟩ (.int .i64 sm)).setCell ⟨w.heap.size + 1, 2, none⟩ (.int .i64 sl)).setCell ⟨w.heap.size + 1, 3, none⟩ (.int .i64 sc)))
      case first =>
        go_region_law ((go_simp; go_at_call 46; refine HBE2.out.mono ?_; rintro e w3 ⟨rfl, hb3⟩; have HB3 := hid ((b0 w2).drew.trans (hb3.mono (Nat.le_refl _))); obtain ⟨d0, d1, d2, d3⟩ := HSTW.out w3 (bstep HBW2.out HB3.out); have q3 := cell_below HB3.out (by omega) q2; obtain ⟨⟨x0, x1, x2, x3, f0, f1, f2, f3⟩, xf⟩ := (HBX2.out.keep (HB3.out.block _ (by omega))).facts; clear hb3))
        all_goals (go_wp2_with fail; go_meet; exact ⟨rfl, w3, HB3, rfl⟩)
      case rest =>
        obtain ⟨rfl, w3, HB3, hwc⟩ := hcut
        have HBX3 := HBX2.out.keep (HB3.out.block _ (by omega))
        have hX : wc.heap[w.heap.size + 1]? = some (.cells #[.int .i64 su, .int .i64 sm, .int .i64 sl, .int .i64 sc] 98 (0, 0)) := by rw [hwc]; exact HBX3.set _ _ _ _
        have t0 := cell_of_row wc (w.heap.size + 1) 0 _ _ (0, 0) hX
        have t2 := cell_of_row wc (w.heap.size + 1) 2 _ _ (0, 0) hX
        have t3 := cell_of_row wc (w.heap.size + 1) 3 _ _ (0, 0) hX
        have hsc : wc.heap.size = w3.heap.size := by rw [hwc]; exact set4_size _ _ _ _
        have hs3 := HB3.out.size
        have hoth : ∀ k, k ≠ w.heap.size + 1 → wc.heap[k]? = w3.heap[k]? := fun k hk => by rw [hwc]; exact set4_other hk _ _ _ _
        have HBC : Hid (Below (w.heap.size + 1) w0 wc) := hid (hwc ▸ ((((HBA2.out.trans (HB3.out.mono (by omega))).setCell (p := ⟨w.heap.size + 1, 0, none⟩) (Nat.le_refl _) _).setCell (p := ⟨w.heap.size + 1, 1, none⟩) (Nat.le_refl _) _).setCell (p := ⟨w.heap.size + 1, 2, none⟩) (Nat.le_refl _) _).setCell (p := ⟨w.heap.size + 1, 3, none⟩) (Nat.le_refl _) _)
        have HBWC : Hid (Below w.heap.size w wc) := hid (HB0.out.trans (HBC.out.mono (by omega)))
        have qc := cell_below HBC.out (by omega) q0
        have HKV3 := HKV2.out.below HB3.out (Nat.le_refl _)
        have HKVC : Hid (OwnF fLink 56 (w.heap.size + 2) wc (.slice Ak j ck) lk) := hid ⟨ownsRow_keep HKV3.1 (fun g hg => hoth g (by have := (HKV3.lt g hg).1; omega)), HKV3.2⟩
        have hcvc : SliceRd tTerm wc (fun b => b < wc.heap.size ∧ (Value.slice Ak j ck).ownBlock ≠ some b ∧ b ≠ w.heap.size + 1) (.slice Ac cl cc) (canon ns M) := (SliceRd.keep (w := w3) (w' := wc) (fun b h => hoth b h.2.2) (HCVF2.out.keep (Keeps.of_below HB3.out fun _ h => h.1))).more fun _ h => ⟨by rw [hsc]; exact Nat.lt_of_lt_of_le h.1 hs3, h.2⟩
        have HCVC := hid hcvc
        have HBXC : Hid (Blk4 wc (w.heap.size + 1)) := hid ⟨_, _, _, _, hX⟩
        have HEND := hid (fun (h : stopB ns l M = true) => show LearnPost ns db l M0 w (.returned (.tuple #[.slice Ac cl cc, .int .i64 lvn, .slice Ak j ck])) wc from ⟨j, _, _, by rw [HMX.out.1, HLVO.out], ⟨by rw [HMX.out.1]; exact h, hj.out⟩, by rw [HMX.out.1]; exact HCVC.out.more fun _ h => h.1, by rw [HMX.out.2]; exact HKVC.out.rd, HBWC.out⟩)
        have hlv4 : lvn ≤ 900 := by have := HLN.out; omega
        have hsw : w.heap.size + 2 ≤ wc.heap.size := by omega
        have zj : ¬ ((ln : Int) < ↑j) := by omega
        have zjd : decide ((ln : Int) < ↑j) = false := decide_eq_false zj
        clear hwc hX hoth hcvc n3 n5 hsc hs3
        rcases HCASE.out with rfl | ⟨c, rfl, hcD⟩
        · have HE := hid (HEND.out (by simp [hstop]))
          clear hstop
          go_wp2
          simp only [Exit.jump]
          exact bodyPost_ret (v := .tuple #[.slice Ac cl cc, .int .i64 lvn, .slice Ak j ck]) (by simp [results, Tryz.results14, go_sem]) rfl HE.out
        · have c1 : (0 : Int) ≤ ↑c := by omega
          have c2 : (↑c : Int) < ↑D := by omega
          have c3 : ¬ ((c : Int) < 0) := by omega
          have c4 : decide ((c : Int) < 0) = false := decide_eq_false c3
          have c5 : ¬ ((D : Int) ≤ ↑c) := by omega
          have c6 : decide ((D : Int) ≤ ↑c) = false := decide_eq_false c5
          by_cases hlt : lvn < sl
          · have HE := hid (HEND.out (by rw [hstop]; simp [hlt]))
            have zl : (lvn : Int) < ↑sl := by omega
            have zld : decide ((lvn : Int) < ↑sl) = true := decide_eq_true zl
            clear hstop hlt
            go_wp2
            simp only [Exit.jump]
            exact bodyPost_ret (v := .tuple #[.slice Ac cl cc, .int .i64 lvn, .slice Ak j ck]) (by simp [results, Tryz.results14, go_sem]) rfl HE.out
          · have hns : stopB ns l M = false := by
              rw [hstop, decide_eq_false (show ¬ ((c : Int) = -1) by omega), decide_eq_false hlt, Bool.or_self]
            obtain ⟨-, hok2, hul, -⟩ := HST.out hns
            rw [Int.toNat_natCast] at hok2
            have HJN := hid (fun (iv : Value) (W : World) (hbW : Below w.heap.size w W) (hcW : SliceRd tTerm W (Lt W.heap.size) (.slice Ac cl cc) (canon ns M)) (hiv : SliceRd tTerm W (Lt W.heap.size) iv (canon ns (db c))) => join_new (.agg #[.slice (some ⟨g, 0, none⟩) ns.length cap0]) (.slice Ac cl cc) iv ns M (db c) su W (uni_later HH.out hbW) HO.out hcW hiv HINC.out (HIN.out c hcD))
            rw [joinR_some hul hok2] at HJN
            have HM1 : Hid ((stL ns db l M0 (j + 1)).M = joinN M (db c) su) := hid (by rw [HSUC.out]; simp)
            have HL1 : Hid ((stL ns db l M0 (j + 1)).links = lk ++ [(su, c)]) := hid (by rw [HSUC.out]; simp)
            have HJ1 := hid (fun i (hi : i < j + 1) => show stopB ns l (stL ns db l M0 i).M = false from if e : i = j then by rw [e, HMX.out.1]; exact hns else hj.out i (by omega))
            have HOKP := hid (show fLink.ok (su, c) from ⟨HOKS.out.1, by show c ≤ 100000; omega⟩)
            obtain ⟨gc, oc, icv, hAc, hFc, hgc, hicv⟩ := HC.out c hcD
            injection hAc with hAc
            injection hAc with e1 e2
            subst e1 e2
            have HOB := hid (fun (hh : (Value.slice Ak j ck).ownBlock = some (w.heap.size + 1)) => (show False by have := (HKVC.out.lt _ hh).1; omega))
            have zl : ¬ ((lvn : Int) < ↑sl) := by omega
            have zl2 : decide ((lvn : Int) < ↑sl) = false := decide_eq_false zl
            have hjb : j ≤ 1000 := by omega
            have HBXa := hid (fun o => HBXC.out.keep (Below.heap_alloc wc o _ (by omega)))
            clear hns hok2 hlt hstop
            go_wp2_with (at_builtin; go_must (refine wpList_append_src _ rfl (.tmp 77) (.tmp 83) _ rfl (w.heap.size + 2) 56 ik _ 2 16 Tryz.underlying35 HIK.out.1 HIK.out.2.1 HIK.out.2.2.1 HIK.out.2.2.2 rfl (by omega) (.slice Ak j ck) j (fLink.all lk) (by rfl) (by have := HKVC.out.1.alloc; rw [HKL.out] at this; exact this _) (some ⟨wc.heap.size, 0, none⟩) 1 1 (fLink.cells (su, c)) (by rfl) (by exact src_one (f := fLink) rfl) (by simp [fLink, Value.oneCell']) (by unfold maxLen; omega) (by omega) (by simp; omega) ?_; intro v5 w5 hown5 hg5 hat5; obtain ⟨A5, c5v, rfl⟩ := own_form hown5; have HKV5 := hid (own_snocF HKL.out HKVC.out.2 HOKP.out hown5); have HB5 := hid (own_app (v2 := .slice A5 (j + 1) c5v) (HBC.out.alloc (by omega) _) ((HKVC.out.alloc _).mono (by omega)) (by simp; omega) hg5 rfl); have x0 := hg5.cell (cell_below (balloc (b0 wc) _) (show w.heap.size + 1 < wc.heap.size by omega) t0) (by intro e; exact HOB.out e.symm); have x3 := hg5.cell (cell_below (balloc (b0 wc) _) (show w.heap.size + 1 < wc.heap.size by omega) t3) (by intro e; exact HOB.out e.symm); have hs5 : wc.heap.size ≤ w5.heap.size := Nat.le_trans (by simp) hg5.size; have HBX5 := hid ((HBXa.out _).keep (hg5.block (w.heap.size + 1) (by simp; omega) (fun e => HOB.out e.symm))); have HCV5 := hid (SliceRd.more (F' := Lt w5.heap.size) (fun b h => Nat.lt_of_lt_of_le h.1 hs5) (SliceRd.keep (w' := w5) (fun b h => (hg5.block b (by have := h.1; simp; omega) (fun e => h.2.1 e.symm)).trans (Below.heap_alloc _ _ _ h.1)) HCVC.out)); clear hown5 hat5))
            have hbw5 : Below w.heap.size w w5 := HB0.out.trans (HB5.out.mono (by omega))
            have q5 := cell_below HB5.out (by omega) q0
            have y5 := cell_below hbw5 hFc hgc
            have HIC := hid (hicv.lift hbw5 hbw5.size)
            have HJ5 := hid (HJN.out icv w5.drew hbw5.drew (SliceRd.keep (w := w5) (w' := w5.drew) (F := Lt w5.heap.size) (fun _ _ => rfl) HCV5.out) (SliceRd.keep (w := w5) (w' := w5.drew) (F := Lt w5.heap.size) (fun _ _ => rfl) HIC.out))
            have hs55 : w.heap.size + 2 ≤ w5.heap.size := by omega
            have hgc5 : gd < w5.heap.size := Nat.lt_of_lt_of_le hFc hbw5.size
            clear hbw5
            go_wp2_with fail
            go_region_held3 (fun w' => w'.cell? ⟨w.heap.size, 0, none⟩ = some (.slice (some ⟨g, 0, none⟩) ns.length cap0) ∧ w'.cell? ⟨w.heap.size + 1, 0, none⟩ = some (.int .i64 su) ∧ w'.cell? ⟨w.heap.size + 1, 3, none⟩ = some (.int .i64 c) ∧ w'.cell? ⟨gd, od + c, none⟩ = some icv) (first | exact ⟨by assumption, by assumption, by assumption, by assumption⟩ | go_keep) (first | (go_at_call 47; refine HJ5.out.mono ?_; rintro e w6 ⟨sv, rfl, hsv, hb6⟩; have HSV := hid hsv; have HB56 := hid ((b0 w5).drew.trans (hb6.mono (Nat.le_refl _))); have a0 := cell_below HB56.out (by omega) q5; have a1 := cell_below HB56.out (by omega) x0; have a2 := cell_below HB56.out (by omega) x3; have a3 := cell_below HB56.out (by omega) y5; clear hsv hb6))
            --G1
            go_wp2_with fail
            go_step3
            have HKV6 := HKV5.out.below HB56.out (Nat.le_refl _)
            have HB6 := HB5.out.trans (HB56.out.mono (by omega))
            have HBX6 := HBX5.out.keep (HB56.out.block _ (by omega))
            have HCV6 : SliceRd tTerm w6 (fun b => b < w6.heap.size ∧ (Value.slice A5 (j + 1) c5v).ownBlock ≠ some b ∧ b ≠ w.heap.size + 1) sv (canon ns (joinN M (db c) su)) := HSV.out.more fun b h => ⟨h.2, fun e => by have h1 := (HKV5.out.lt _ e).2; have h2 : w5.heap.size ≤ b := h.1; omega, by have h2 : w5.heap.size ≤ b := h.1; omega⟩
            --END
            refine And.intro rfl ?_
            refine And.intro ⟨j + 1, sv, .slice A5 (j + 1) c5v, ?_⟩ (by simp [lenV]; omega)
            iterate 84 (apply Exists.intro)
            exact ⟨rfl, HJ1, hid (by rw [HM1.out]; exact HCV6), hid (by rw [HL1.out]; exact HKV6), hid HB6, hid HBX6⟩
end Go.Proofs.YtmbjeppnamhgiaaGreat
