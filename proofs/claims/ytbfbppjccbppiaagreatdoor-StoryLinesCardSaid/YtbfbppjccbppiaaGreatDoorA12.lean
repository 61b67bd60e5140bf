import Derived.Test.YtbfbppjccbppiaaGreatDoorzA8
import Derived.Deep.RegionHeld3
import Derived.Outline
namespace Go.Proofs.YtbfbppjccbppiaaGreatDoor
open Go Go.RowKit
def AllPost (us : List UnitW) (w : World) (e : Ending) (w' : World) : Prop :=
 ∃ rv xs, e = .returned rv ∧ OwnT (qw1 (nsOf us)) 49 w' w.heap.size rv (allN us) xs ∧ Below w.heap.size w w'
theorem qm5.ne {ns : List Nat} {B : Nat} {w0 wr : World} {rv : Value} {rows : List RowN} (h : qm5 ns B w0 wr rv rows) {g : Nat} (hg : wr.heap.size ≤ g) : rv.ownBlock ≠ some g := by
 intro e
 obtain ⟨⟨xs, hx⟩, -⟩ := h
 have := (hx.own.lt _ e).2
 omega
theorem SliceRd.oneAt {α : Type} {t : Ty α} {w : World} {F : Nat → Prop} {A : Option Addr} {n cap : Nat} {l : List α} (h : SliceRd t w F (.slice A n cap) l) {k : Nat} (hk : k < l.length) :
  ∃ g o, A = some ⟨g, o, none⟩ ∧ F g ∧ SliceRd t w F (.slice (if cap = k then some ⟨g, o, none⟩ else some ⟨g, o + k * t.size, none⟩) 1 (cap - k)) [l[k]] := by
 obtain ⟨A', cap', hv, h1, h2, h3⟩ := h.shape
 injection hv with e1 e2 e3
 subst e1 e3
 obtain ⟨g, o, cs, hA, hF, hc, hcell, hr⟩ := h3 k hk
 refine ⟨g, o, hA, hF, ?_⟩
 rw [if_neg (by omega)]
 refine ⟨_, _, rfl, by show 1 ≤ _; omega, by omega, fun i hi => ?_⟩
 obtain rfl : i = 0 := by have h : i < 1 := hi; omega
 exact ⟨g, o + k * t.size, cs, rfl, hF, hc, fun j hj => by rw [Nat.zero_mul, Nat.add_zero]; exact hcell j hj, hr⟩
theorem add_no {us : List UnitW} {u p : Nat} {kind : Int} {bar : Bool} {rows : List RowN} {l : List WantD} (h : qt5 (nsOf us) (qg2 us u p l bar) = none) : addN us u p kind bar rows l = rows := by
 unfold addN
 rw [h]
 rfl
theorem add_yes {us : List UnitW} {u p : Nat} {kind : Int} {bar : Bool} {rows : List RowN} {l : List WantD} {T : List Term} (h : qt5 (nsOf us) (qg2 us u p l bar) = some T) : addN us u p kind bar rows l = putN (nsOf us) rows ⟨kind, u, qi5 (nsOf us) (qg2 us u p l bar)⟩ := by
 unfold addN
 rw [h]
 rfl
set_option maxRecDepth 100000 in
set_option maxHeartbeats 8000000 in
theorem all23_any (v : Value) (us : List UnitW) (w : World) (h : qd0 w (Lt w.heap.size) v us) (ho : UnitsOk us) (h0 : (nsOf us).head? = some 1) :
  Calls Tryz.prog 42 #[v] w (AllPost us w) := by
 have HW := hid h
 have HU := hid h.uni
 have HO := hid ho
 have HNS := hid ho.ns
 have HROW0 := hid (fun W => rows_start (us := us) (w := W) ho h0)
 have HROK := hid (fun k (hk : k ≤ us.length) => units_ok ho h0 k hk)
 have h11 : us.length ≤ 11 := by have := ho.ns.hi; simpa [nsOf] using this
 have h4 : ∀ u, (hu : u < us.length) → us[u].cands.length ≤ 4 := fun u hu => by
  have := ho.ns.le u (by simpa [nsOf] using hu)
  simpa [nsOf] using this
 have H4 := hid h4
 obtain ⟨g, cap0, rfl, hg, hun⟩ := h.opened
 have HUN := hid hun
 clear h ho h0 hun h4
 go_enter Tryz.func42, Tryz.ntmps42
 go_wp2_with fail
 obtain ⟨w0, hw0⟩ : ∃ w0 : World, w0 = w.alloc (.cells #[.slice (some ⟨g, 0, none⟩) us.length cap0] 26) := ⟨_, rfl⟩
 have hb0 : Below w.heap.size w w0 := hw0 ▸ qa0 (b0 w) _
 have hs0 : w0.heap.size = w.heap.size + 1 := by rw [hw0]; simp
 have q0 : w0.cell? ⟨w.heap.size, 0, none⟩ = some (.slice (some ⟨g, 0, none⟩) us.length cap0) := by rw [hw0, qa6]; rfl
 have hst0 := HROW0.out w0
 rw [hs0] at hst0
 have HB0 := hid hb0
 rw [← hw0]
 obtain ⟨w1, hw1⟩ : ∃ w1 : World, w1 = (w0.alloc (.cells #[.int .i64 0, .int .i64 1] 66)).alloc (.cells #[.int .i64 1, .int .i64 0, .int .i64 0, .int .i64 0, .slice (some ⟨w.heap.size + 1, 0, none⟩) 1 1] 49) := ⟨_, rfl⟩
 rw [← hw1] at hst0 ⊢
 have hs1 : w1.heap.size = w.heap.size + 3 := by rw [hw1]; simp [hs0]
 have HST0 := hid hst0
 clear hw0 hw1 hb0 hst0
 go_loopw [3, 4] (fun rv iv wr => ∃ u : Nat, u ≤ us.length ∧ iv = .int .i64 u ∧ Hid (qm5 (nsOf us) (w.heap.size + 1) w0 wr rv (qo0 us u)) ∧ Hid (w.heap.size + 1 ≤ wr.heap.size)) (fun _ iv _ => us.length - (intOf iv).toNat)
 case atStart => exact ⟨0, Nat.zero_le _, rfl, HST0, hid (by omega)⟩
 case round =>
  obtain ⟨u, hu, rfl, hst, hsr⟩ := hrel
  have HBW := hid (HB0.out.trans (hst.out.2.mono (by omega)))
  have qr := cell_below hst.out.2 (by omega) q0
  by_cases hlt : u < us.length
  ·have i0 : (0 : Int) ≤ ↑u := by omega
   have i1 : (↑u : Int) < ↑us.length := by omega
   obtain ⟨Ac, cc, hcu, hcd⟩ := HUN.out u hlt
   have HCU := hid hcu
   have HCD := hid hcd
   have hn4 := H4.out u hlt
   have HUS := hid (zp6 hlt)
   obtain ⟨n, hn⟩ : ∃ n, us[u].cands.length = n := ⟨_, rfl⟩
   have HN := hid hn
   rw [hn] at hn4 HCU
   clear hcu hcd hn
   go_wp2_with fail
   go_loopw [3, 5] (fun rv iv wr => ∃ p : Nat, p ≤ n ∧ iv = .int .i64 p ∧ Hid (qm5 (nsOf us) (w.heap.size + 1) w0 wr rv (qt0 us u (qo0 us u) us[u].cands p)) ∧ Hid (w.heap.size + 1 ≤ wr.heap.size)) (fun _ iv _ => n - (intOf iv).toNat)
   case atStart => exact ⟨0, Nat.zero_le _, rfl, hst, hsr⟩
   case round =>
    obtain ⟨p, hp, rfl, hst, hsr⟩ := hrel
    have HBW := hid (HB0.out.trans (hst.out.2.mono (by omega)))
    have qr := cell_below hst.out.2 (by omega) q0
    have cu := cell_below HBW.out hg HCU.out
    by_cases hltp : p < n
    ·have j0 : (0 : Int) ≤ ↑p := by omega
     have j1 : (↑p : Int) < ↑n := by omega
     have hltn : p < us[u].cands.length := by rw [HN.out]; exact hltp
     obtain ⟨gc, oc, nv, bv, hAc, hFc, hat, hvB, hnd, hbr⟩ := HCD.out p hltn
     subst hAc
     have HCO := hid (HO.out.cands _ (List.getElem_mem hlt) _ (List.getElem_mem hltn))
     have HCS := hid (zm8 (us := us) (u := u) (rows := qo0 us u) hltn)
     have HRK := hid (cands_ok hlt (fun c hc => HO.out.cands _ (List.getElem_mem hlt) c hc) (HROK.out u (Nat.le_of_lt hlt)).1 p (Nat.le_of_lt hltn) (by rw [HN.out]; exact hn4))
     have HRL0 := hid (HROK.out u (Nat.le_of_lt hlt)).2
     have hrlen : (qt0 us u (qo0 us u) us[u].cands p).length ≤ 600 := by have h1 := HRK.out.2; have h2 := HRL0.out; omega
     have HRK1 := hid HRK.out.1
     obtain ⟨R1, hR1⟩ : ∃ R1, qt0 us u (qo0 us u) us[u].cands p = R1 := ⟨_, rfl⟩
     rw [hR1] at hst HCS HRK1 hrlen
     have HRLEN := hid hrlen
     obtain ⟨cd, hcd⟩ : ∃ cd, us[u].cands[p]'hltn = cd := ⟨_, rfl⟩
     rw [hcd] at hat hvB hnd hbr HCO HCS
     obtain ⟨c0, c1, c2, c3, c4, c5, c6, c7⟩ := hat.below HBW.out hFc
     obtain ⟨An, cn, rfl, hcn, hcnm, hnl⟩ := hnd.lists
     obtain ⟨Ab, cb, rfl, hcb, hcbm, hbl⟩ := hbr.wants
     have HNL := hid hnl
     have HBRS := hid hbr
     obtain ⟨nn, hnn⟩ : ∃ nn, cd.needs.length = nn := ⟨_, rfl⟩
     obtain ⟨nb, hnb⟩ : ∃ nb, cd.bars.length = nb := ⟨_, rfl⟩
     have HNN := hid hnn
     have HNB := hid hnb
     rw [hnn] at c6 hcn
     rw [hnb] at c7 hcb HBRS
     unfold maxLen at hcnm hcbm
     have hnn4 : nn ≤ 8 := by rw [← hnn]; exact HCO.out.1
     have hnb2 : nb ≤ 4 := by rw [← hnb]; exact HCO.out.2.2.1
     clear hat hvB hnd hbr hnl hbl hnn hnb hR1 hcd HRK hrlen
     go_wp2_with fail
     obtain ⟨wb, hwb⟩ : ∃ wb : World, wb = wr.alloc (.cells #[.int .i64 cd.v.major, .int .i64 cd.v.minor, .int .i64 cd.v.patch, .string cd.v.pre, .string cd.v.build, .int .i64 cd.sh, .slice An nn cn, .slice Ab nb cb] 63) := ⟨_, rfl⟩
     have hbb : Below wr.heap.size wr wb := hwb ▸ qa0 (b0 wr) _
     have hsb : wb.heap.size = wr.heap.size + 1 := by rw [hwb]; simp
     have x6 : wb.cell? ⟨wr.heap.size, 6, none⟩ = some (.slice An nn cn) := by rw [hwb, qa6]; rfl
     have x7 : wb.cell? ⟨wr.heap.size, 7, none⟩ = some (.slice Ab nb cb) := by rw [hwb, qa6]; rfl
     have HSTB := hid (hst.out.later hsr.out hbb)
     have hne := hst.out.ne (Nat.le_refl _)
     have hbz0 := hsr.out
     rw [← hwb]
     clear hwb hbb hst hsr
     obtain ⟨bz, hbz⟩ : ∃ bz, wr.heap.size = bz := ⟨_, rfl⟩
     rw [hbz] at x6 x7 hne hsb hbz0 ⊢
     clear hbz c0 c1 c2 c3 c4 c5 c6 c7 qr cu HBW
     go_loopw [3, 7] (fun rv iv w2 => ∃ k : Nat, k ≤ nn ∧ iv = .int .i64 k ∧ Hid (qm5 (nsOf us) (w.heap.size + 1) w0 w2 rv (qn4 us u p R1 (cd.needs.take k))) ∧ Hid (bz < w2.heap.size) ∧ Hid (w2.cell? ⟨bz, 6, none⟩ = some (.slice An nn cn) ∧ w2.cell? ⟨bz, 7, none⟩ = some (.slice Ab nb cb)) ∧ Hid (rv.ownBlock ≠ some bz)) (fun _ iv _ => nn - (intOf iv).toNat)
     case atStart => exact ⟨0, Nat.zero_le _, rfl, hid (by rw [List.take_zero]; exact HSTB.out), hid (by omega), hid ⟨x6, x7⟩, hid hne⟩
     case round =>
      obtain ⟨k, hk, rfl, hst, hsz, hx, hne⟩ := hrel
      have HB3 := hid (HB0.out.trans (hst.out.2.mono (by omega)))
      have q3 := cell_below hst.out.2 (by omega) q0
      have hqz : w.heap.size < wr.heap.size := Nat.lt_of_lt_of_le (by omega) hst.out.2.size
      obtain ⟨y6, y7⟩ := hx.out
      have hzz := hsz.out
      by_cases hlt3 : k < nn
      ·have j2 : (0 : Int) ≤ ↑k := by omega
       have j3 : (↑k : Int) < ↑nn := by omega
       have hkL : k < cd.needs.length := by rw [HNN.out]; exact hlt3
       obtain ⟨gn, on, lvv, hAn, hFn, cN, hlr⟩ := HNL.out k hkL
       subst hAn
       obtain ⟨Al, cl, rfl, hcl, hclm, -⟩ := hlr.wants
       have cN3 := cell_below HB3.out hFn cN
       have hgn3 : gn < wr.heap.size := Nat.lt_of_lt_of_le hFn HB3.out.size
       have hrow := HCO.out.2.1 _ (List.getElem_mem hkL)
       have HCL := hid (fun (W : World) (hb : Below wr.heap.size wr W) => zm9 (.agg #[.slice (some ⟨g, 0, none⟩) us.length cap0]) _ us u p (cd.needs[k]'hkL) false W (HW.out.lift (qa1 HB3.out hb) (qa1 HB3.out hb).size) HO.out (hlr.lift (qa1 HB3.out hb) (qa1 HB3.out hb).size) hlt hltn (Nat.le_trans hrow.1 (by omega)) hrow.2)
       clear hrow hlr cN
       obtain ⟨mk, hmk⟩ : ∃ mk, qt5 (nsOf us) (qg2 us u p (cd.needs[k]'hkL) false) = mk := ⟨_, rfl⟩
       have HMK := hid hmk
       rw [hmk] at HCL
       clear hmk
       go_wp2_with fail
       go_region_held3 (fun w' => w'.cell? ⟨w.heap.size, 0, none⟩ = some (.slice (some ⟨g, 0, none⟩) us.length cap0) ∧ w'.cell? ⟨bz, 6, none⟩ = some (.slice (some ⟨gn, on, none⟩) nn cn) ∧ w'.cell? ⟨gn, on + k, none⟩ = some (.slice Al (cd.needs[k]'hkL).length cl)) (first | exact ⟨by assumption, by assumption, by assumption⟩ | go_keep) (first | (go_at_call 82; refine (HCL.out _ (b0 wr).drew).mono ?_; rintro e w4 ⟨sv, rfl, hsv, hb4⟩; obtain ⟨As, cs4, hse, -⟩ := hsv.terms; generalize (mk.getD []).length = ln at hse; subst hse; have HB4 := hid ((b0 wr).drew.trans (hb4.mono (Nat.le_refl _))); have HSV := hid hsv; have f0 := cell_below HB4.out hqz q3; have f1 := cell_below HB4.out hzz y6; have f2 := cell_below HB4.out hgn3 cN3; clear hsv hb4))
       have HST4 := hid (hst.out.later (by omega) HB4.out)
       have HB04 := hid (qa1 HB3.out HB4.out)
       have hs4 := HB4.out.size
       cases mk with
       | none =>
        go_wp2
        exact ⟨⟨k + 1, by omega, by go_num, hid (by rw [zn8 _ hkL, add_no HMK.out]; exact HST4.out), hid (by omega), hid ⟨by assumption, cell_below HB4.out hzz y7⟩, hid hne.out⟩, by simp [intOf]; omega⟩
       | some T =>
        obtain ⟨hM1, hM2⟩ := qz5 HMK.out
        subst hM2
        have HROWK := hid (zf1 hlt (by omega : p < 60) (cd.needs.take k) HRK1.out)
        have hrl : (qn4 us u p R1 (cd.needs.take k)).length ≤ 900 := by have h1 := HROWK.out.2; rw [List.length_take] at h1; have h2 := HRLEN.out; omega
        have HOKR := hid (zg5 (kind := 2) (l := cd.needs[k]'hkL) (bar := false) hlt (.inl rfl) (by omega : p < 60) (by rw [HMK.out]; rfl))
        obtain ⟨⟨xs, hxs⟩, -⟩ := HST4.out
        have HXS := hid hxs
        have HSVF := hid (HSV.out.more (F' := fun b => w.heap.size + 1 ≤ b ∧ b < w4.heap.size ∧ u3.ownBlock ≠ some b) fun b hb => ⟨by have := hb.1; have := (b0 wr).drew.size; omega, hb.2, fun e => by have h1 := (HXS.out.own.lt b e).1; exact absurd e (hst.out.ne (by have := hb.1; have := (b0 wr).drew.size; omega))⟩)
        have HPUT := hid (put23_any (.agg #[.slice (some ⟨g, 0, none⟩) us.length cap0]) u3 (.slice As ln cs4) (nsOf us) (qn4 us u p R1 (cd.needs.take k)) ⟨2, u, qi5 (nsOf us) (qg2 us u p (cd.needs[k]'hkL) false)⟩ xs (w.heap.size + 1) w4 ((HU.out.below HB04.out).more fun _ h => Nat.lt_succ_of_lt h) HNS.out (by omega) HXS.out HROWK.out.1 hrl HSVF.out HOKR.out (by show (2 : Int) ≠ 1; decide))
        clear hM1 hxs hrl
        go_wp2_with (go_at_call 83; go_must (refine HPUT.out.mono ?_; rintro e w5 ⟨rv5, xs5, rfl, ho5, hg5, ha5⟩; have HO5 := hid ho5; have HG5 := hid hg5; have HA5 := hid ha5; clear ho5 hg5 ha5))
        exact ⟨⟨k + 1, by omega, by go_num, hid (by rw [zn8 _ hkL, add_yes HMK.out]; exact HST4.out.put (by omega) HO5.out HG5.out), hid (Nat.lt_of_lt_of_le (by omega) HG5.out.size), hid ⟨zq4 HG5.out hne.out (by assumption), zq4 HG5.out hne.out (cell_below HB4.out hzz y7)⟩, hid (zo0 (_w1 := w4) (by omega) hne.out HA5.out)⟩, by simp [intOf]; omega⟩
      ·have hkn : k = nn := by omega
       subst hkn
       have HST7 := hid (show qm5 (nsOf us) (w.heap.size + 1) w0 wr u3 (qn4 us u p R1 cd.needs) by have h := hst.out; rw [← HNN.out, List.take_of_length_le (Nat.le_refl _)] at h; exact h)
       have HRK2 := hid (zf1 hlt (by omega : p < 60) cd.needs HRK1.out).1
       have hrlen2 : (qn4 us u p R1 cd.needs).length ≤ 608 := by have h1 := (zf1 hlt (by omega : p < 60) cd.needs HRK1.out).2; rw [HNN.out] at h1; have h2 := HRLEN.out; omega
       replace hne := hne.out
       obtain ⟨R2, hR2⟩ : ∃ R2, qn4 us u p R1 cd.needs = R2 := ⟨_, rfl⟩
       rw [hR2] at HST7 HRK2 hrlen2
       have HCAND : Hid (candN us u p R1 cd = zb6 us u p R2 cd.bars) := hid (by rw [← hR2]; rfl)
       have HRLEN2 := hid hrlen2
       have x7 := y7
       clear hR2 hrlen2 hst hx hlt3
       have HSTB := HST7
       go_wp2_with fail
       go_loopw [3, 10] (fun rv iv w2 => ∃ k : Nat, k ≤ nb ∧ iv = .int .i64 k ∧ Hid (qm5 (nsOf us) (w.heap.size + 1) w0 w2 rv (zb6 us u p R2 (cd.bars.take k))) ∧ Hid (bz < w2.heap.size) ∧ Hid (w2.cell? ⟨bz, 7, none⟩ = some (.slice Ab nb cb)) ∧ Hid (rv.ownBlock ≠ some bz)) (fun _ iv _ => nb - (intOf iv).toNat)
       case atStart => exact ⟨0, Nat.zero_le _, rfl, hid (by rw [List.take_zero]; exact HSTB.out), hid (by omega), hid x7, hid hne⟩
       case round =>
        obtain ⟨k, hk, rfl, hst, hsz, hx, hne⟩ := hrel
        have HB3 := hid (HB0.out.trans (hst.out.2.mono (by omega)))
        have q3 := cell_below hst.out.2 (by omega) q0
        have hqz : w.heap.size < wr.heap.size := Nat.lt_of_lt_of_le (by omega) hst.out.2.size
        have y7 := hx.out
        have hzz := hsz.out
        by_cases hlt3 : k < nb
        ·have j2 : (0 : Int) ≤ ↑k := by omega
         have j3 : (↑k : Int) < ↑nb := by omega
         have hkL : k < cd.bars.length := by rw [HNB.out]; exact hlt3
         have j4 : IntKind.i64.wrap (↑k + 1) = (↑k : Int) + 1 := IntWalk.i64_in _ (by omega)
         have j5 : (0 : Int) ≤ ↑k + 1 := by omega
         have j6 : ((↑k : Int) + 1).toNat = k + 1 := by omega
         have j7 : (↑k : Int) + 1 ≤ ↑cb := by omega
         have j8 : k + 1 - k = 1 := by omega
         obtain ⟨gn, on, hAn, hFn, hs1⟩ := HBRS.out.oneAt hkL
         subst hAn
         have hrow : ∀ x ∈ [cd.bars[k]'hkL], x.ok us.length := fun x hx => by rw [List.mem_singleton.1 hx]; exact HCO.out.2.2.2 _ (List.getElem_mem hkL)
         have HCL := hid (fun (W : World) (hb : Below wr.heap.size wr W) => zm9 (.agg #[.slice (some ⟨g, 0, none⟩) us.length cap0]) _ us u p [cd.bars[k]'hkL] true W (HW.out.lift (qa1 HB3.out hb) (qa1 HB3.out hb).size) HO.out (hs1.lift (qa1 HB3.out hb) (qa1 HB3.out hb).size) hlt hltn (by simp) hrow)
         clear hrow hs1
         obtain ⟨mk, hmk⟩ : ∃ mk, qt5 (nsOf us) (qg2 us u p ([cd.bars[k]'hkL]) true) = mk := ⟨_, rfl⟩
         have HMK := hid hmk
         rw [hmk] at HCL
         clear hmk
         go_wp2_with fail
         go_region_held3 (fun w' => w'.cell? ⟨w.heap.size, 0, none⟩ = some (.slice (some ⟨g, 0, none⟩) us.length cap0) ∧ w'.cell? ⟨bz, 7, none⟩ = some (.slice (some ⟨gn, on, none⟩) nb cb)) (first | exact ⟨by assumption, by assumption⟩ | go_keep) (first | (go_at_call 82; refine (HCL.out _ (b0 wr).drew).mono ?_; rintro e w4 ⟨sv, rfl, hsv, hb4⟩; obtain ⟨As, cs4, hse, -⟩ := hsv.terms; generalize (mk.getD []).length = ln at hse; subst hse; have HB4 := hid ((b0 wr).drew.trans (hb4.mono (Nat.le_refl _))); have HSV := hid hsv; have f0 := cell_below HB4.out hqz q3; have f1 := cell_below HB4.out hzz y7; clear hsv hb4))
         have HST4 := hid (hst.out.later (by omega) HB4.out)
         have HB04 := hid (qa1 HB3.out HB4.out)
         have hs4 := HB4.out.size
         cases mk with
         | none =>
          go_wp2
          exact ⟨⟨k + 1, by omega, by go_num, hid (by rw [bars_snoc _ hkL, add_no HMK.out]; exact HST4.out), hid (by omega), hid (by assumption), hid hne.out⟩, by simp [intOf]; omega⟩
         | some T =>
          obtain ⟨hM1, hM2⟩ := qz5 HMK.out
          subst hM2
          have HROWK := hid (bars_ok hlt (by omega : p < 60) (cd.bars.take k) HRK2.out)
          have hrl : (zb6 us u p R2 (cd.bars.take k)).length ≤ 900 := by have h1 := HROWK.out.2; rw [List.length_take] at h1; have h2 := HRLEN2.out; omega
          have HOKR := hid (zg5 (kind := 3) (l := [cd.bars[k]'hkL]) (bar := true) hlt (.inr rfl) (by omega : p < 60) (by rw [HMK.out]; rfl))
          obtain ⟨⟨xs, hxs⟩, -⟩ := HST4.out
          have HXS := hid hxs
          have HSVF := hid (HSV.out.more (F' := fun b => w.heap.size + 1 ≤ b ∧ b < w4.heap.size ∧ u3.ownBlock ≠ some b) fun b hb => ⟨by have := hb.1; have := (b0 wr).drew.size; omega, hb.2, fun e => by have h1 := (HXS.out.own.lt b e).1; exact absurd e (hst.out.ne (by have := hb.1; have := (b0 wr).drew.size; omega))⟩)
          have HPUT := hid (put23_any (.agg #[.slice (some ⟨g, 0, none⟩) us.length cap0]) u3 (.slice As ln cs4) (nsOf us) (zb6 us u p R2 (cd.bars.take k)) ⟨3, u, qi5 (nsOf us) (qg2 us u p ([cd.bars[k]'hkL]) true)⟩ xs (w.heap.size + 1) w4 ((HU.out.below HB04.out).more fun _ h => Nat.lt_succ_of_lt h) HNS.out (by omega) HXS.out HROWK.out.1 hrl HSVF.out HOKR.out (by show (3 : Int) ≠ 1; decide))
          clear hM1 hxs hrl
          go_wp2_with (go_at_call 83; go_must (refine HPUT.out.mono ?_; rintro e w5 ⟨rv5, xs5, rfl, ho5, hg5, ha5⟩; have HO5 := hid ho5; have HG5 := hid hg5; have HA5 := hid ha5; clear ho5 hg5 ha5))
          exact ⟨⟨k + 1, by omega, by go_num, hid (by rw [bars_snoc _ hkL, add_yes HMK.out]; exact HST4.out.put (by omega) HO5.out HG5.out), hid (Nat.lt_of_lt_of_le (by omega) HG5.out.size), hid (zq4 HG5.out hne.out (by assumption)), hid (zo0 (_w1 := w4) (by omega) hne.out HA5.out)⟩, by simp [intOf]; omega⟩
        ·have hkb : k = nb := by omega
         subst hkb
         have HST8 := hid (show qm5 (nsOf us) (w.heap.size + 1) w0 wr u3 (candN us u p R1 cd) by have h := hst.out; rw [← HNB.out, List.take_of_length_le (Nat.le_refl _)] at h; rw [HCAND.out]; exact h)
         go_wp2
         exact ⟨⟨p + 1, by omega, by go_num, hid (by rw [HCS.out]; exact HST8.out), hid (by omega)⟩, by simp [intOf]; omega⟩
    ·have hpn : p = n := by omega
     subst hpn
     have HST9 := hid (show qm5 (nsOf us) (w.heap.size + 1) w0 wr u3 (qo0 us (u + 1)) by rw [HUS.out, HN.out]; exact hst.out)
     go_wp2
     exact ⟨⟨u + 1, by omega, by go_num, HST9, hid (by have := hsr.out; omega)⟩, by simp [intOf]; omega⟩
  ·have hul : u = us.length := by omega
   subst hul
   clear hlt
   obtain ⟨⟨xs, hown⟩, hbl⟩ := hst.out
   have HOWN := hid (hown.mono (B' := w.heap.size) (by omega))
   clear hown hbl
   go_wp2
   go_ret
   exact ⟨_, _, rfl, HOWN.out, HBW.out⟩
end Go.Proofs.YtbfbppjccbppiaaGreatDoor
