/- Contract: law23.FactTwice. -/
import Derived.Test.YtilgijmokjekgaaGreatDoorZv
import Derived.Test.YtilgijmokjekgaaGreatDoorSame
import Derived.Test.YtilgijmokjekgaaGreatDoorF4
import Derived.Deep.RegionHeld3
import Derived.Deep.RegionLaw
import Derived.Outline
namespace Go.Proofs.YtilgijmokjekgaaGreatDoor
open Go Go.RowKit

theorem dbl_ok {us : List UnitW} (h : UnitsT us) : UnitsOk (us.map dblU) := by
  refine ⟨by rw [ns_dbl]; exact h.ns, fun u hu c hc => ?_⟩
  obtain ⟨x, hx, rfl⟩ := List.mem_map.1 hu
  obtain ⟨d, hd, rfl⟩ := List.mem_map.1 (show c ∈ x.cands.map dblC from hc)
  obtain ⟨h1, h2, h3, h4⟩ := h.cands x hx d hd
  rw [List.length_map]
  refine ⟨?_, fun r hr => ?_, ?_, fun y hy => ?_⟩
  · show (d.needs ++ d.needs).length ≤ 8
    rw [List.length_append]; omega
  · exact h2 r ((List.mem_append.1 hr).elim id id)
  · show (d.bars ++ d.bars).length ≤ 4
    rw [List.length_append]; omega
  · exact h4 y ((List.mem_append.1 hy).elim id id)
section
variable {wS w : World} {us : List UnitW} {vu : Value} {xs : List Value} {B top : Nat} {lo hi : Nat → Nat} {vcs : Nat → Value} {yss : Nat → List Value} {nvs bvs : Nat → Nat → Value} {L H : Nat → Nat → Nat} {done done' : Nat → Nat → Prop}
theorem TwSt.congr (h : TwSt wS us vcs nvs bvs L H B done w) (hd : ∀ u j, (hu : u < us.length) → j < us[u].cands.length → (done u j ↔ done' u j)) : TwSt wS us vcs nvs bvs L H B done' w := by
  refine ⟨h.below, fun b h1 h2 h3 => h.same b h1 h2 fun u j hu hj hdd => h3 u j hu hj ((hd u j hu hj).1 hdd), fun u hu g hg => ⟨(h.arr u hu g hg).1, fun j hj => ?_⟩⟩
  obtain ⟨nv, bv, a1, a2, a3⟩ := (h.arr u hu g hg).2 j hj
  exact ⟨nv, bv, a1, fun hn => a2 fun hx => hn ((hd u j hu hj).1 hx), fun hx => a3 ((hd u j hu hj).2 hx)⟩
theorem TwSt.drew (h : TwSt wS us vcs nvs bvs L H B done w) : TwSt wS us vcs nvs bvs L H B done w.drew := by
  refine ⟨h.below.drew, h.same, fun u hu g hg => ⟨(h.arr u hu g hg).1, fun j hj => ?_⟩⟩
  obtain ⟨nv, bv, a1, a2, a3⟩ := (h.arr u hu g hg).2 j hj
  refine ⟨nv, bv, a1, a2, fun hd => ?_⟩
  obtain ⟨r1, r2⟩ := a3 hd
  exact ⟨SliceRd.keep (w := w) (show Keeps _ w w.drew from fun _ _ => rfl) r1, SliceRd.keep (w := w) (show Keeps _ w w.drew from fun _ _ => rfl) r2⟩
/-- What lies above the copy is as it was. -/
theorem TwSt.above (hU : Units wS us us.length vu xs B top lo hi vcs yss nvs bvs L H) (hst : TwSt wS us vcs nvs bvs L H B done w) {b : Nat} (h1 : top ≤ b) (h2 : b < wS.heap.size) : w.heap[b]? = wS.heap[b]? := by
  refine hst.same b h2 (fun u g hu hg e => ?_) fun u j hu hj _ h3 h4 => ?_
  · have := (hU.arr u hu hu).lt g hg
    have := hU.bd u hu
    omega
  · have := (hU.parts u hu hu).bd j hj
    have := hU.bd u hu
    omega
/-- The units' array is as it was. -/
theorem TwSt.unit (hO : OwnT tUnit 62 wS B vu us xs) (hU : Units wS us us.length vu xs B top lo hi vcs yss nvs bvs L H) (_ht : top ≤ wS.heap.size) {g cap : Nat} (hv : vu = .slice (some ⟨g, 0, none⟩) us.length cap) (hst : TwSt wS us vcs nvs bvs L H B done w) {u : Nat} (hu : u < us.length) : w.cell? ⟨g, u * 3 + 2, none⟩ = some (vcs u) := by
  obtain ⟨g', cap', hv', hob, -, hc⟩ := ownI_cells (OwnI.of hO) (by omega)
  rw [hv] at hv'
  injection hv' with e1 e2 e3
  injection e1 with e1
  injection e1 with e1
  subst e1
  have hgl := hO.own.lt g hob
  have hgs : w.heap[g]? = wS.heap[g]? := by
    refine hst.same g hgl.2 (fun u g' hu hg' e => ?_) fun u j hu hj _ h2 h3 => ?_
    · have := (hU.arr u hu hu).lt g' hg'
      have := hU.out u g hu hob
      omega
    · have := (hU.parts u hu hu).bd j hj
      have := hU.out u g hu hob
      omega
  have h8 : (u + 1) * 3 ≤ us.length * 3 := Nat.mul_le_mul_right _ hu
  rw [World.cell?_of_block hgs, hc (u * 3 + 2) (by show u * 3 + 2 < us.length * 3; omega)]
  exact hU.cell u hu hu 2 (by decide)
end
theorem one_needs {w : World} {lo hi : Nat} {v : Value} {l : List (List WantD)} {zs : List Value} (h : OwnI (tSlice tWant) 67 w lo hi v l zs) : ∀ z ∈ zs, z.oneCell' = true := by
  intro z hz
  obtain ⟨k, hk, rfl⟩ := List.getElem_of_mem hz
  have hl : zs.length = l.length * 1 := h.own.1
  obtain ⟨cs, -, h2, y, rfl, h4⟩ := h.el k (by omega)
  obtain ⟨A, c, e, -⟩ := h4.wants
  have h5 := h2 0 (by decide)
  rw [show k * (tSlice tWant).size + 0 = k by show k * 1 + 0 = k; omega, List.getElem?_eq_getElem hk] at h5
  injection h5 with h5
  rw [h5, e]
  rfl
theorem one_bars {w : World} {lo hi : Nat} {v : Value} {l : List WantD} {zs : List Value} (h : OwnI tWant 83 w lo hi v l zs) : ∀ z ∈ zs, z.oneCell' = true := by
  intro z hz
  obtain ⟨k, hk, rfl⟩ := List.getElem_of_mem hz
  have hl : zs.length = l.length * 3 := h.own.1
  obtain ⟨cs, -, h2, a, b, rfl, h4, h5⟩ := h.el (k / 3) (by omega)
  obtain ⟨A, c, A', c', e1, e2⟩ := set_form h5
  have h6 := h2 (k % 3) (by show k % 3 < 3; omega)
  rw [show k / 3 * tWant.size + k % 3 = k by show k / 3 * 3 + k % 3 = k; omega, List.getElem?_eq_getElem hk] at h6
  have h7 : k % 3 = 0 ∨ k % 3 = 1 ∨ k % 3 = 2 := by omega
  rcases h7 with h7 | h7 | h7 <;> rw [h7] at h6 <;> injection h6 with h6 <;> rw [h6]
  · rfl
  · rw [e1]; rfl
  · rw [e2]; rfl
/-- fact.All of the doubled world: the rows of the world. -/
theorem pall_dbl (v : Value) (us : List UnitW) (w : World) (h : WorldRd w (Lt w.heap.size) v (us.map dblU)) (ho : UnitsOk (us.map dblU)) (h0 : (nsOf us).head? = some 1) (hF : FirstIs w) (ht : TabIs w) : Calls Tryz.prog 14 #[v] w (AllRd us w) := by
  refine (pall_rd v (us.map dblU) w h ho (by rw [ns_dbl]; exact h0) hF ht).mono ?_
  rintro e w' ⟨rv, rfl, hrd, hb⟩
  rw [all_dbl, ns_dbl] at hrd
  exact ⟨rv, rfl, hrd, hb⟩
set_option maxRecDepth 100000 in
set_option maxHeartbeats 40000000 in
theorem factTwice_any (wv : Value) (ws : List Int) (w : World) (hw : SliceRd tInt w (Lt w.heap.size) wv ws) (hF : FirstIs w) (hT : TabIs w) :
    Calls Tryz.prog 9 #[wv] w fun e w' => e = .returned (.bool true) ∧ Below w.heap.size w w' := by
  obtain ⟨iw, hiw⟩ := info_parts want_info
  have HIW := hid hiw
  obtain ⟨iv, hiv⟩ := info_parts wants_info
  have HIV := hid hiv
  have HW := hid hw
  have HF := hid hF
  have HT := hid hT
  obtain ⟨Aw, wcap, rfl, -⟩ := hw.ints
  clear hw hF hT hiw hiv
  go_enter Tryz.func9, Tryz.ntmps9
  go_wp2_with (go_at_call 11; go_must (refine (world23_any _ ws 5 _ HW.out (by decide) (by decide)).mono ?_; rintro e w1 ⟨g, c, us, rfl, hwr, huo, h0, hb1⟩; have HWR := hid hwr; have HUO := hid huo; have H0 := hid h0; have HB1 := hid hb1; clear hwr huo h0 hb1))
  obtain ⟨w2, hw2⟩ : ∃ w2 : World, w2 = w1.alloc (.cells #[.slice (some ⟨g, 0, none⟩) us.length c] 25) := ⟨_, rfl⟩
  have hb2 : Below w1.heap.size w1 w2 := hw2 ▸ balloc (b0 w1) _
  have hl2 : w1.heap.size < w2.heap.size := by rw [hw2]; simp
  have q2 : w2.cell? ⟨w1.heap.size, 0, none⟩ = some (.slice (some ⟨g, 0, none⟩) us.length c) := by rw [hw2, alloc_cell]; rfl
  have HW2 := hid (HWR.out.lift hb2 hb2.size)
  have HB2 := hid (bstep HB1.out hb2)
  have hl1 : 1 ≤ us.length := by cases us with | nil => cases H0.out | cons x l => simp
  rw [← hw2]
  clear hw2 hb2 HWR
  go_wp2_with (go_at_call 12; go_must (refine (copyOwn_any _ us w2 HW2.out HUO.out.ok).mono ?_; rintro e w3 ⟨vu, xs, rfl, ⟨hO, lo, hi, vcs, yss, nvs, bvs, L, H, hU⟩, hb3⟩; obtain ⟨gx, cx, hvu, -, -, -⟩ := ownI_cells (OwnI.of hO) hl1; subst hvu; have HO3 := hid hO; have HU3 := hid hU; have HB23 := hid hb3; have HB3 := hid (bstep HB2.out hb3); clear hO hU hb3))
  obtain ⟨w4, hw4⟩ : ∃ w4 : World, w4 = w3.alloc (.cells #[.slice (some ⟨gx, 0, none⟩) us.length cx] 25) := ⟨_, rfl⟩
  have hb4 : Below w3.heap.size w3 w4 := hw4 ▸ balloc (b0 w3) _
  have hl4 : w3.heap.size < w4.heap.size := by rw [hw4]; simp
  have q4 : w4.cell? ⟨w3.heap.size, 0, none⟩ = some (.slice (some ⟨gx, 0, none⟩) us.length cx) := by rw [hw4, alloc_cell]; rfl
  have HO4 := hid (HO3.out.later hb4)
  have HU4 := hid (HU3.out.keep (w' := w4) fun u hu b _ h2 => hb4.block b (by have := HU3.out.bd u hu; omega))
  have HB24 := hid (bstep HB23.out hb4)
  have HB4 := hid (bstep HB3.out hb4)
  have htop : w3.heap.size ≤ w4.heap.size := by omega
  have HST0 := hid (TwSt.start HU4.out)
  have h11 : us.length ≤ 11 := by have := HUO.out.ns.hi; simpa [nsOf] using this
  rw [← hw4]
  clear hw4 hb4 HO3 HU3
  go_wp2_with fail
  go_loopw [5, 6, 7] (fun uv _ _ wr => ∃ u : Nat, u ≤ us.length ∧ uv = .int .i64 u ∧ Hid (TwSt w4 us vcs nvs bvs L H (w2.heap.size + 3) (fun u' _ => u' < u) wr)) (fun uv _ _ _ => us.length - (RowKit.intOf uv).toNat)
  case atStart => exact ⟨0, Nat.zero_le _, rfl, hid (HST0.out.congr fun u j _ _ => ⟨fun h => h.elim, fun h => absurd h (by omega)⟩)⟩
  case round =>
    obtain ⟨u, hu, rfl, hst⟩ := hrel
    have hs4 := hst.out.below.size
    have r4 : wr.cell? ⟨w3.heap.size, 0, none⟩ = some (.slice (some ⟨gx, 0, none⟩) us.length cx) := (World.cell?_of_block (hst.out.above HU4.out (Nat.le_refl _) hl4)).trans q4
    by_cases hlt : u < us.length
    · have i0 : (0 : Int) ≤ ↑u := by omega
      have i1 : (↑u : Int) < ↑us.length := by omega
      obtain ⟨Ac, cc, hvc⟩ := own_form (HU4.out.arr u hlt hlt).own
      have h4 : us[u].cands.length ≤ 4 := by
        have := HUO.out.ns.le u (by simpa [nsOf] using hlt)
        simpa [nsOf] using this
      obtain ⟨nc, hnc⟩ : ∃ nc, us[u].cands.length = nc := ⟨_, rfl⟩
      have HNC := hid hnc
      rw [hnc] at hvc h4
      have HVC := hid hvc
      clear hnc hvc
      obtain ⟨wo, rfl⟩ : ∃ wo, wo = wr := ⟨_, rfl⟩
      go_wp2_with fail
      go_loopw [6, 7] (fun iv _ wr => ∃ i : Nat, i ≤ nc ∧ iv = .int .i64 i ∧ Hid (TwSt w4 us vcs nvs bvs L H (w2.heap.size + 3) (fun u' j => u' < u ∨ (u' = u ∧ j < i)) wr)) (fun iv _ _ => nc - (RowKit.intOf iv).toNat)
      case atStart => exact ⟨0, Nat.zero_le _, rfl, hid (hst.out.congr fun u' j _ _ => ⟨fun h => .inl h, fun h => h.elim id fun h => absurd h.2 (by omega)⟩)⟩
      case round =>
        obtain ⟨i, hi', rfl, hsi⟩ := hrel
        have s4 := hsi.out.below.size
        have r5 : wr.cell? ⟨w3.heap.size, 0, none⟩ = some (.slice (some ⟨gx, 0, none⟩) us.length cx) := (World.cell?_of_block (hsi.out.above HU4.out (Nat.le_refl _) hl4)).trans q4
        have r6 := TwSt.unit HO4.out HU4.out htop rfl hsi.out hlt
        rw [HVC.out] at r6
        by_cases hlti : i < nc
        · have hiL : i < us[u].cands.length := by rw [HNC.out]; exact hlti
          have j0 : (0 : Int) ≤ ↑i := by omega
          have j1 : (↑i : Int) < ↑nc := by omega
          obtain ⟨gc, cap', hv, hob, -, -⟩ := ownI_cells (HU4.out.arr u hlt hlt) (by omega)
          rw [HVC.out] at hv
          injection hv with e1 e2 e3
          subst e1
          have hnd : ¬ (u < u ∨ (u = u ∧ i < i)) := by omega
          have hsd := hsi.out.drew
          obtain ⟨hfz, hcl⟩ := hsd.arr u hlt gc hob
          obtain ⟨nv, bv, hce, hnv, -⟩ := hcl i hiL
          obtain ⟨rfl, rfl⟩ := hnv hnd
          obtain ⟨mid, zs, ws, hm1, hm2, hN, hR⟩ := TwSt.now HU4.out htop hsd hlt hiL hnd
          have HNX := hid (show Value.int .i64 (↑i + 1) = Value.int .i64 ((i + 1 : Nat) : Int) by go_num)
          have HSTEP := hid (fun (w5 w6 : World) (v5 b6 : Value) o5 g5 n5 o6 g6 n6 => (TwSt.step (w5 := w5) (w6 := w6) (v5 := v5) (b6 := b6) HU4.out htop hsd hlt hiL hnd hob hm1 hm2 hN hR o5 g5 n5 o6 g6 n6).congr (done' := fun u' j => u' < u ∨ (u' = u ∧ j < i + 1)) fun u' j _ _ => by omega)
          obtain ⟨An, cn, hnvf⟩ := own_form hN.own
          obtain ⟨Ab, cb, hbvf⟩ := own_form hR.own
          have HN := hid hN
          have HR := hid hR
          have z6 := hce 6 (by decide)
          have z7 := hce 7 (by decide)
          simp only [candL, List.getElem?_cons_zero, List.getElem?_cons_succ] at z6 z7
          have o1 := one_needs hN
          have o2 := one_bars hR
          have hcd := ok_cand HUO.out.ok hlt hiL
          have hn8 := hcd.1
          have hb8 := hcd.2.2.1
          have HOW := hid hN.own
          have HOB := hid hR.own
          have hgcl := (HU4.out.arr u hlt hlt).lt gc hob
          have hbdu := HU4.out.bd u hlt
          have hbdi := (HU4.out.parts u hlt hlt).bd i (by rw [HNC.out]; exact hlti)
          have hgcw : gc < wr.heap.size := by omega
          have hbase : L u i ≤ wr.heap.size := by omega
          have hbase2 : mid ≤ wr.heap.size := by omega
          have HNE := hid (fun b (h1 : L u i ≤ b) (h2 : b < H u i) => (fun e => HU4.out.arrOut hlt hiL hlt hob (by omega) (by omega) : b ≠ gc))
          have HNB := hid (show ∀ b, (nvs u i).ownBlock = some b → b ≠ gc from fun b hb => HNE.out b (HN.out.lt b hb).1 (by have := (HN.out.lt b hb).2; omega))
          have HBB := hid (show ∀ b, (bvs u i).ownBlock = some b → b ≠ gc from fun b hb => HNE.out b (by have := (HR.out.lt b hb).1; omega) (HR.out.lt b hb).2)
          have HNBB := hid (show ∀ a b, (nvs u i).ownBlock = some a → (bvs u i).ownBlock = some b → b ≠ a from fun a b ha hb => by have := (HN.out.lt a ha).2; have := (HR.out.lt b hb).1; omega)
          have HRLT := hid (show ∀ b, (bvs u i).ownBlock = some b → b < wr.heap.size from fun b hb => by have := (HR.out.lt b hb).2; omega)
          obtain ⟨nn, hnn⟩ : ∃ nn, us[u].cands[i].needs.length = nn := ⟨_, rfl⟩
          obtain ⟨nb, hnb⟩ : ∃ nb, us[u].cands[i].bars.length = nb := ⟨_, rfl⟩
          rw [hnn] at hnvf hn8 HOW
          rw [hnb] at hbvf hb8 HOB
          simp only [hnn, hnb] at HSTEP
          rw [hnvf] at z6 HOW HSTEP HNB HNBB
          rw [hbvf] at z7 HOB HSTEP HBB HNBB HRLT
          have HS1 := hid (own_src HOW.out).2
          have HS2 := hid (own_src HOB.out).2
          have O1 := hid o1
          have O2 := hid o2
          have hf0 := hfz 0
          have hf6 := hfz (i * 8 + 6)
          have hf7 := hfz (i * 8 + 7)
          clear hN hR hcl hce hsd hcd hnn hnb hnvf hbvf o1 o2 hfz HN HR
          go_wp2_with fail
          go_region_law ((first
            | (refine step_guard (.tmp 43) (.tmp 47) 66 rfl ?_; refine step_append_src _ rfl (.tmp 43) (.tmp 47) 66 rfl (L u i) 67 iv _ 1 24 Tryz.underlying66 HIV.out.1 HIV.out.2.1 HIV.out.2.2.1 HIV.out.2.2.2 rfl (by omega) (.slice An nn cn) nn zs (by rfl) (by exact HOW.out) An nn cn zs (by rfl) (by exact HS1.out) O1.out (by unfold maxLen; omega) (by omega) (by exact hbase) ?_; intro v5 w5 hown5 hg5 hat5; obtain ⟨A5, c5, rfl⟩ := own_form hown5; have HO5 := hid hown5; have HG5 := hid hg5; have HA5 := hid hat5; have HB5 := hid (hg5.block gc hgcw (fun e => HNB.out gc e.symm rfl)); have HOB5 := hid (ownsRow_keep HOB.out fun g hg => hg5.block g (HRLT.out g hg) (fun e => HNBB.out g g e.symm hg rfl)); have HS25 := hid (own_src HOB5.out).2; have z75 := (World.cell?_of_block (a := ⟨gc, i * 8 + 7, none⟩) HB5.out).trans z7; have z65 := (World.cell?_of_block (a := ⟨gc, i * 8 + 6, none⟩) HB5.out).trans z6; have s5 := hg5.size; have s5' : wr.heap.size ≤ w5.heap.size := s5; clear hown5 hg5 hat5)
            | (refine step_guard (.tmp 52) (.tmp 56) 67 rfl ?_; refine step_append_src _ rfl (.tmp 52) (.tmp 56) 67 rfl mid 83 iw _ 3 56 Tryz.underlying67 HIW.out.1 HIW.out.2.1 HIW.out.2.2.1 HIW.out.2.2.2 rfl (by omega) (.slice Ab nb cb) nb ws (by rfl) (by exact HOB5.out) Ab nb cb ws (by rfl) (by exact HS25.out) O2.out (by unfold maxLen; omega) (by omega) (by omega) ?_; intro v6 w6 hown6 hg6 hat6; obtain ⟨A6, c6, rfl⟩ := own_form hown6; have HF6 := hid (HSTEP.out w5 w6 _ _ HO5.out HG5.out HA5.out hown6 hg6 hat6); have hb6 := hg6.block gc (by omega) (fun e => HBB.out gc e.symm rfl); have z66 := (World.cell?_of_block (a := ⟨gc, i * 8 + 6, none⟩) hb6).trans z65; have z76 := (World.cell?_of_block (a := ⟨gc, i * 8 + 7, none⟩) hb6).trans z75; have f66 := (World.frozen?_of_block (a := ⟨gc, i * 8 + 6, none⟩) (hb6.trans HB5.out)).trans hf6; have f76 := (World.frozen?_of_block (a := ⟨gc, i * 8 + 7, none⟩) (hb6.trans HB5.out)).trans hf7; clear hown6 hg6 hat6 hb6)
            ))
          go_wp2_with fail
          all_goals exact ⟨⟨i + 1, hlti, HNX.out, HF6⟩, by simp [RowKit.intOf]; omega⟩
        · have hie : i = nc := by omega
          subst hie
          clear hlti
          go_wp2_with fail
          exact ⟨⟨u + 1, by omega, by go_num, hid (hsi.out.congr fun u' j hu' hj => ⟨fun h => by omega, fun h => by
            by_cases e : u' = u
            · subst e
              exact .inr ⟨rfl, by rw [← HNC.out]; exact hj⟩
            · exact .inl (by omega)⟩)⟩, by simp [RowKit.intOf]; omega⟩
    · have hue : u = us.length := by omega
      subst hue
      clear hlt
      obtain ⟨gz, cz, -, hwz⟩ := TwSt.finish HO4.out HU4.out htop hst.out (fun u j hu _ => hu) hl1
      have HWZ := hid hwz
      have HUZ := hid (dbl_ok HUO.out)
      have tok := hid True.intro
      have hbr := hst.out.below
      have hb2r := HB24.out.trans (hbr.mono (Nat.le_add_right _ _))
      have HBR := hid (bstep HB2.out hb2r)
      have HWY := hid (HW2.out.lift hb2r hb2r.size)
      have r2 := cell_below hb2r hl2 q2
      have hl1r : w1.heap.size < wr.heap.size := Nat.lt_of_lt_of_le hl2 hb2r.size
      have hl3r : w3.heap.size < wr.heap.size := Nat.lt_of_lt_of_le hl4 hs4
      have HFT := hid (fun (W : World) (hW : Below wr.heap.size wr W) => And.intro (HF.out.below (bstep HBR.out hW)) (HT.out.later (bstep HBR.out hW)))
      clear hwz hbr hb2r q2 q4 hst HO4 HU4 HB24
      go_wp2_with fail
      go_region_held3 (fun w' => w'.cell? ⟨w1.heap.size, 0, none⟩ = some (.slice (some ⟨g, 0, none⟩) us.length c) ∧ w'.cell? ⟨w3.heap.size, 0, none⟩ = some (.slice (some ⟨gx, 0, none⟩) us.length cx)) (first | exact ⟨by assumption, by assumption⟩ | go_keep) ((first
        | (go_at_call 14; clear tok; refine (pall_dbl _ us _ (HWZ.out.lift (b0 wr).drew (Nat.le_refl _)) HUZ.out H0.out (HFT.out _ (b0 wr).drew).1 (HFT.out _ (b0 wr).drew).2).mono ?_; rintro e w5 ⟨rv, rfl, hrd, hb5⟩; have HRD := hid hrd; have HB5 := hid (bstep (b0 wr).drew hb5); have c5 := cell_below HB5.out hl1r r2; have d5 := cell_below HB5.out hl3r r4; clear hrd hb5)
        | (go_at_call 14; refine (pall_rd _ us w5 (HWY.out.lift HB5.out HB5.out.size) HUO.out.ok H0.out (HFT.out _ HB5.out).1 (HFT.out _ HB5.out).2).mono ?_; rintro e w6 ⟨rv2, rfl, hrd, hb6⟩; have HRD2 := hid hrd; have HB6 := hid (bstep HB5.out hb6); have HR1 := hid (HRD.out.lift hb6 hb6.size); have c6 := cell_below HB6.out hl1r r2; have d6 := cell_below HB6.out hl3r r4; clear hrd hb6)
        | (go_at_call 13; refine (sameRows_any rv rv2 _ _ w6 HR1.out HRD2.out).mono ?_; rintro e w7 ⟨rfl, hb7⟩; rw [decide_eq_true rfl]; have HB7 := hid (bstep HB6.out hb7); have c7 := cell_below HB7.out hl1r r2; have d7 := cell_below HB7.out hl3r r4; clear hb7)
        | (go_at_call 17; refine (awake_any w7 (HFT.out _ HB7.out).1 (HFT.out _ HB7.out).2).mono ?_; rintro e w8 ⟨rfl, hb8⟩; have HB8 := hid (bstep HB7.out hb8); have c8 := cell_below HB8.out hl1r r2; have d8 := cell_below HB8.out hl3r r4; clear hb8)))
      go_wp2_with fail
      go_ret
      exact ⟨rfl, bstep HBR.out HB8.out⟩
end Go.Proofs.YtilgijmokjekgaaGreatDoor
