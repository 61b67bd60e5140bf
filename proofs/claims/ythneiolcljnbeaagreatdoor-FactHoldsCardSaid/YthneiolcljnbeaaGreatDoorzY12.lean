import Derived.Test.YthneiolcljnbeaaGreatDoorzY10
import Derived.Test.YthneiolcljnbeaaGreatDoorzM1
import Derived.Test.YthneiolcljnbeaaGreatDoorzV18
import Derived.Deep.RegionHeld3
import Derived.Outline
import Derived.Test.YthneiolcljnbeaaGreatDoorzMem
import Derived.Lib.AppendStr
import Derived.Lib.UnsafeStr
import Derived.Lib.OthersKept
import Derived.Lib.ItoaLen
import Derived.Lib.BufferRead
import Derived.Laws.IdiomStrings
namespace Go.Proofs.YthneiolcljnbeaaGreatDoor
open Go Go.RowKit
section
structure RawN where
 kind : Int
 u : Nat
 ts : List Term
def tRaw : Ty RawN where
 size := 5
 rd w F cs r := ∃ tv, cs = [.int .i64 r.kind, .int .i64 r.u, .int .i64 0, .int .i64 0, tv] ∧ SliceRd tTerm w F tv r.ts
 len h := by obtain ⟨a, rfl, _⟩ := h; rfl
 keep hk h := by obtain ⟨a, h0, h1⟩ := h; exact ⟨a, h0, h1.keep hk⟩
 more hF h := by obtain ⟨a, h0, h1⟩ := h; exact ⟨a, h0, h1.more hF⟩
def needR (us : List UnitW) (u p : Nat) (l : List (List WantD)) : List RawN := l.map fun x => ⟨2, u, clauseL us u p x false⟩
def barR (us : List UnitW) (u p : Nat) (l : List WantD) : List RawN := l.map fun x => ⟨3, u, clauseL us u p [x] true⟩
def clausesN (us : List UnitW) (u p : Nat) (c : CandW) : List RawN := needR us u p c.needs ++ barR us u p c.bars
theorem needR_snoc (us : List UnitW) (u p : Nat) (l : List (List WantD)) {k : Nat} (hk : k < l.length) : needR us u p (l.take (k + 1)) = needR us u p (l.take k) ++ [⟨2, u, clauseL us u p l[k] false⟩] := by
 unfold needR
 rw [take_snoc hk, List.map_append]
 rfl
theorem barR_snoc (us : List UnitW) (u p : Nat) (l : List WantD) {k : Nat} (hk : k < l.length) : barR us u p (l.take (k + 1)) = barR us u p (l.take k) ++ [⟨3, u, clauseL us u p [l[k]] true⟩] := by
 unfold barR
 rw [take_snoc hk, List.map_append]
 rfl
theorem cell_gr {wr w1 : World} {rv : Value} (hg : wr.grownBy w1 rv.ownBlock) {g o : Nat} {x : Value} (hne : rv.ownBlock ≠ some g) (hc : wr.cell? ⟨g, o, none⟩ = some x) : w1.cell? ⟨g, o, none⟩ = some x :=
 hg.cell hc (by intro e; exact hne e.symm)
theorem cell_gr1 {w5 w9 : World} {ob : Obj} {rv : Value} (hg : (w5.alloc ob).grownBy w9 rv.ownBlock) {g o : Nat} {x : Value} (hne : rv.ownBlock ≠ some g) (hlt : g < w5.heap.size) (hc : w5.cell? ⟨g, o, none⟩ = some x) : w9.cell? ⟨g, o, none⟩ = some x :=
 cell_gr hg hne (cell_below (balloc (b0 w5) _) hlt hc)
theorem rowR_infoN : (Tryz.prog.info? 32).map (fun i => (i.zero, i.size, i.bytes)) = some (some (.agg #[.int .i64 0, .int .i64 0, .int .i64 0, .int .i64 0, .slice none 0 0]), 5, 56) := by kernel_rfl
set_option maxRecDepth 100000 in
set_option maxHeartbeats 8000000 in
theorem clauses_any (v : Value) (us : List UnitW) (u p : Nat) (w : World) (h : WorldRd w (Lt w.heap.size) v us) (ho : UnitsOk us) (hu : u < us.length) (hp : p < us[u].cands.length) (hF : FirstIs w) :
  Calls Tryz.prog 19 #[v, .int .i64 u, .int .i64 p] w fun e w' => ∃ rv xs, e = .returned rv ∧ OwnT tRaw 32 w' w.heap.size rv (clausesN us u p us[u].cands[p]) xs ∧ Below w.heap.size w w' := by
 obtain ⟨it, hit⟩ := info_parts term_info
 have HIT := hid hit
 obtain ⟨ir, hir⟩ := info_parts rowR_infoN
 have HIR := hid hir
 have HW := hid h
 have HU := hid h.uni
 have HO := hid ho
 have HFI := hid hF
 have HNS := hid ho.ns
 have h11 : us.length ≤ 11 := by have := ho.ns.hi; simpa [nsOf] using this
 have h4 : us[u].cands.length ≤ 4 := by
  have := ho.ns.le u (by simpa [nsOf] using hu)
  simpa [nsOf] using this
 have HF31 := hid (fun x => fullN_le ho.ns x)
 have HCO := hid (ho.cands _ (List.getElem_mem hu) _ (List.getElem_mem hp))
 obtain ⟨g, cap0, rfl, hg, hun⟩ := h.opened
 obtain ⟨Ac, cc, hcu, hcd⟩ := hun u hu
 obtain ⟨gc, oc, nv, bv, hAc, hFc, hat, hvB, hnd, hbr⟩ := hcd p hp
 subst hAc
 obtain ⟨cd, hcdd⟩ : ∃ cd, us[u].cands[p] = cd := ⟨_, rfl⟩
 rw [hcdd] at hat hnd hbr HCO ⊢
 obtain ⟨c0, c1, c2, c3, c4, c5, c6, c7⟩ := hat
 obtain ⟨An, cn, rfl, hcn, hcnm, hnl⟩ := hnd.lists
 obtain ⟨Ab, cb, rfl, hcb, hcbm, hbl⟩ := hbr.wants
 have HNL := hid hnl
 have HBL := hid hbl
 obtain ⟨nn, hnn⟩ : ∃ nn, cd.needs.length = nn := ⟨_, rfl⟩
 obtain ⟨nb, hnb⟩ : ∃ nb, cd.bars.length = nb := ⟨_, rfl⟩
 have HNN := hid hnn
 have HNB := hid hnb
 rw [hnn] at c6 hcn
 rw [hnb] at c7 hcb
 unfold maxLen at hcnm hcbm
 have hnn4 : nn ≤ 8 := by rw [← hnn]; exact HCO.out.1
 have hnb2 : nb ≤ 4 := by rw [← hnb]; exact HCO.out.2.2.1
 obtain ⟨n, hn⟩ : ∃ n, us[u].cands.length = n := ⟨_, rfl⟩
 rw [hn] at hcu h4
 have hp' : p < n := by rw [← hn]; exact hp
 have hpc : p = 0 ∨ p = 1 ∨ p = 2 ∨ p = 3 := by omega
 obtain ⟨pq, hpq⟩ : ∃ pq, 2 ^ (p + 1) = pq := ⟨_, rfl⟩
 have hpq31 : pq ≤ 31 := by rw [← hpq]; rcases hpc with rfl | rfl | rfl | rfl <;> decide
 have HPQ := hid hpq
 have hgl : g < w.heap.size := hg
 have hgcl : gc < w.heap.size := hFc
 have i0 : (0 : Int) ≤ ↑u := by omega
 have i1 : (↑u : Int) < ↑us.length := by omega
 have i2 : (0 : Int) ≤ ↑p := by omega
 have i3 : (↑p : Int) < ↑n := by omega
 have i4 : (0 : Int) ≤ ↑p + 1 := by omega
 have i5 : ¬ ((↑p : Int) + 1 < 0) := by omega
 have hw1 : IntKind.i64.wrap ((p : Int) + 1) = (p : Int) + 1 := IntWalk.i64_in _ (by omega)
 have hw2 : ((p : Int) + 1).toNat = p + 1 := by omega
 have hw3 : wrap64 ((2 : Int) ^ (p + 1)) = (pq : Int) := by rw [← hpq]; rcases hpc with rfl | rfl | rfl | rfl <;> simp [wrap64]
 clear h ho hF hun hcd hvB hnd hbr hnl hbl hnn hnb hcdd hn hit hir hpc hp hpq
 go_enter Tryz.func19, Tryz.ntmps19
 go_wp2_with fail
 obtain ⟨w0, hw0⟩ : ∃ w0 : World, w0 = ((w.alloc (.cells #[.slice (some ⟨g, 0, none⟩) us.length cap0] 25)).alloc (.cells #[.int .i64 cd.v.major, .int .i64 cd.v.minor, .int .i64 cd.v.patch, .string cd.v.pre, .string cd.v.build, .int .i64 cd.sh, .slice An nn cn, .slice Ab nb cb] 55)).alloc (.cells #[.int .i64 u, .int .i64 pq] 69) := ⟨_, rfl⟩
 have hb0 : Below w.heap.size w w0 := hw0 ▸ balloc (balloc (balloc (b0 w) _) _) _
 have hz0 : w.heap.size + 2 < w0.heap.size := by rw [hw0]; simp
 have q0 : w0.cell? ⟨w.heap.size, 0, none⟩ = some (.slice (some ⟨g, 0, none⟩) us.length cap0) := by rw [hw0]; exact cell_below (balloc (b0 _) _) (by simp only [World.size_alloc]; omega) (alloc2_old rfl)
 have q6 : w0.cell? ⟨w.heap.size + 1, 6, none⟩ = some (.slice An nn cn) := by rw [hw0]; exact cell_below (balloc (b0 _) _) (by simp only [World.size_alloc]; omega) (alloc2_new rfl)
 have q7 : w0.cell? ⟨w.heap.size + 1, 7, none⟩ = some (.slice Ab nb cb) := by rw [hw0]; exact cell_below (balloc (b0 _) _) (by simp only [World.size_alloc]; omega) (alloc2_new rfl)
 have q8 : w0.cell? ⟨w.heap.size + 1 + 1, 0, none⟩ = some (.int .i64 u) := by rw [hw0]; exact alloc3_new rfl
 have q9 : w0.cell? ⟨w.heap.size + 1 + 1, 1, none⟩ = some (.int .i64 pq) := by rw [hw0]; exact alloc3_new rfl
 have HB0 := hid hb0
 rw [← hw0]
 clear hw0 hb0 c0 c1 c2 c3 c4 c5 c6 c7 hcu hw2 hw3
 go_loopw [9, 35] (fun rv iv wr => ∃ k : Nat, k ≤ nn ∧ iv = .int .i64 k ∧ Hid (∃ xs, OwnT tRaw 32 wr w0.heap.size rv (needR us u p (cd.needs.take k)) xs) ∧ Hid (Below w0.heap.size w0 wr)) (fun _ iv _ => nn - (intOf iv).toNat)
 case atStart => exact ⟨0, Nat.zero_le _, rfl, hid ⟨[], OwnT.nil _ _ _ _⟩, hid (b0 w0)⟩
 case round =>
  obtain ⟨k, hk, rfl, hst, hb⟩ := hrel
  have HBW := hid (HB0.out.trans (hb.out.mono HB0.out.size))
  have HB := hid hb.out
  have HBO := hid hb.out
  have hlk : (needR us u p (cd.needs.take k)).length = k := by
   unfold needR
   rw [List.length_map, List.length_take, HNN.out]
   omega
  obtain ⟨xs, hx⟩ := hst.out
  obtain ⟨A9, c9, hv9⟩ := own_form hx.own
  rw [hlk] at hv9
  subst hv9
  have HX := hid hx
  have HLK := hid hlk
  have hzz := hb.out.size
  clear hx hst hlk
  have r0 := cell_below hb.out (by omega) q0
  have r6 := cell_below hb.out (by omega) q6
  have r7 := cell_below hb.out (by omega) q7
  have r8 := cell_below hb.out (by omega) q8
  have r9 := cell_below hb.out (by omega) q9
  by_cases hlt : k < nn
  ·have j0 : (0 : Int) ≤ ↑k := by omega
   have j1 : (↑k : Int) < ↑nn := by omega
   have hkL : k < cd.needs.length := by rw [HNN.out]; exact hlt
   obtain ⟨gn, on, lvv, hAn, hFn, cN, hlr⟩ := HNL.out k hkL
   subst hAn
   obtain ⟨Al, cl, rfl, hcl, hclm, hlw⟩ := hlr.wants
   have HWN := hid hlw
   have hrow := HCO.out.2.1 _ (List.getElem_mem hkL)
   have HRO := hid hrow
   obtain ⟨nd, hnd⟩ : ∃ nd, cd.needs[k]'hkL = nd := ⟨_, rfl⟩
   have HND := hid hnd
   rw [hnd] at HWN HRO hcl hlr
   rw [hnd] at cN
   obtain ⟨ll, hll⟩ : ∃ ll, nd.length = ll := ⟨_, rfl⟩
   have HLL := hid hll
   rw [hll] at hcl
   rw [hll] at cN
   unfold maxLen at hclm
   have hgnl : gn < wr.heap.size := Nat.lt_of_lt_of_le hFn HBW.out.size
   have cN3 := cell_below HBW.out hFn cN
   have hll3 : ll ≤ 2 := by rw [← hll]; exact HRO.out.1
   have hzr := HB.out.size
   clear hlw hrow hnd hll hlr cN hb
   go_wp2_with fail
   obtain ⟨w1, hw1⟩ : ∃ w1 : World, w1 = wr.alloc (.cells #[.int .i64 u, .int .i64 pq] 69) := ⟨_, rfl⟩
   have hb1 : Below wr.heap.size wr w1 := hw1 ▸ balloc (b0 wr) _
   have HOW0 : Hid (OwnF fTerm 69 wr.heap.size w1 (.slice (some ⟨wr.heap.size, 0, none⟩) 1 1) [⟨(u : Int), (pq : Int)⟩]) := hid (by
    rw [hw1]
    exact own_new (f := fTerm) (e := 69) (w := wr) (l := [⟨(u : Int), (pq : Int)⟩]) (cs := #[.int .i64 u, .int .i64 pq]) rfl (fun x hx => by rw [List.mem_singleton.1 hx]; exact ⟨⟨by show -9223372036854775808 ≤ (u : Int); omega, by show (u : Int) ≤ 9223372036854775807; omega⟩, i64_small hpq31⟩) (by simp [maxLen]))
   have HB1 := hid hb1
   rw [← hw1]
   have HCL0 : Hid (clauseL us u p (nd.take 0) false = [⟨(u : Int), (pq : Int)⟩]) := hid (by unfold clauseL; rw [List.take_zero, HPQ.out]; rfl)
   have HSN := hid (fun j (hj : j < nd.length) => clauseL_snoc us u p nd false hj)
   clear hw1 hb1 cN3
   obtain ⟨wo, rfl⟩ : ∃ wo, wo = wr := ⟨_, rfl⟩
   go_loopw [12, 43] (fun tv iv wr => ∃ j : Nat, j ≤ ll ∧ iv = .int .i64 j ∧ Hid (OwnF fTerm 69 wo.heap.size wr tv (clauseL us u p (nd.take j) false)) ∧ Hid (Below wo.heap.size wo wr)) (fun _ iv _ => ll - (intOf iv).toNat)
   case atStart => exact ⟨0, Nat.zero_le _, rfl, hid (by rw [HCL0.out]; exact HOW0.out), HB1⟩
   case round =>
    obtain ⟨j, hj, rfl, how, hb⟩ := hrel
    have HBR := hid (bstep HBW.out hb.out)
    have HB := hid hb.out
    have y0 := cell_below hb.out (by omega) r0
    have hzr2 := hb.out.size
    obtain ⟨Ao, co, hov⟩ := how.out.form
    subst hov
    have hlen : (clauseL us u p (nd.take j) false).length ≤ 20 := by
     unfold clauseL
     rw [List.length_cons, List.length_map, List.length_take]
     omega
    by_cases hltj : j < ll
    ·have hjl : j < nd.length := by rw [HLL.out]; exact hltj
     obtain ⟨gx, ox, a, b, hA, hFx, x0, x1, x2, hra, hrb⟩ := HWN.out j hjl
     subst hA
     have HS := hid (HSN.out j hjl)
     obtain ⟨hx0, hx1, -⟩ := HRO.out.2 _ (List.getElem_mem hjl)
     have HMT := hid (fun (W : World) (hb : Below w.heap.size w W) => pmet_any (.agg #[.slice (some ⟨g, 0, none⟩) us.length cap0]) a b us (nd[j]'hjl) W (HW.out.lift hb hb.size) HO.out (hra.lift hb hb.size) (hrb.lift hb hb.size) hx0 hx1 (HFI.out.below hb))
     have hmle := metN_le us (nd[j]'hjl)
     obtain ⟨xu, hxu⟩ : ∃ xu : Nat, (nd[j]'hjl).u = (xu : Int) := ⟨(nd[j]'hjl).u.toNat, by omega⟩
     have hxl : xu < us.length := by omega
     have hct : clauseT us false (nd[j]'hjl) = ⟨(xu : Int), ((fullN (nsOf us) xu - metN us (nd[j]'hjl) : Nat) : Int)⟩ := by
      unfold clauseT
      rw [hxu, Int.toNat_natCast]
      rfl
     rw [hxu, Int.toNat_natCast] at hmle
     rw [hxu] at x0 HMT
     have hf31 := HF31.out xu
     obtain ⟨mt, hmt⟩ : ∃ mt, metN us (nd[j]'hjl) = mt := ⟨_, rfl⟩
     rw [hmt] at HMT hmle hct
     have HRS := hid (fun (W : World) (hb : Below w.heap.size w W) => trest_any (.agg #[.slice (some ⟨g, 0, none⟩) us.length cap0]) (nsOf us) xu mt W (uni_later HU.out hb) HNS.out (by simpa [nsOf] using hxl) hmle)
     obtain ⟨ff, hff⟩ : ∃ ff, fullN (nsOf us) xu = ff := ⟨_, rfl⟩
     rw [hff] at hct hmle hf31 HRS
     have HE := hid (HS.out.trans (by rw [hct]))
     have HOKT := hid (show fTerm.ok ⟨(xu : Int), ((ff - mt : Nat) : Int)⟩ from ⟨⟨by show -9223372036854775808 ≤ (xu : Int); omega, by show (xu : Int) ≤ 9223372036854775807; omega⟩, i64_small (by omega)⟩)
     obtain ⟨Aa, ca, hav, -⟩ := hra.shape
     obtain ⟨Ab', cb', hbv, -⟩ := hrb.shape
     generalize (nd[j]'hjl).s.rel.length = n1 at hav
     generalize (nd[j]'hjl).s.pre.length = n2 at hbv
     have hgx : gx < wr.heap.size := Nat.lt_of_lt_of_le hFx HBR.out.size
     have l0 := cell_below HBR.out hFx x0
     have l1 := cell_below HBR.out hFx x1
     have l2 := cell_below HBR.out hFx x2
     have k0 : (0 : Int) ≤ ↑j := by omega
     have k1 : (↑j : Int) < ↑ll := by omega
     clear hra hrb hxu hct hmt hff x0 x1 x2 hx0 hx1
     subst hav hbv
     generalize hLs : clauseL us u p (nd.take j) false = L at *
     go_wp2_with fail
     obtain ⟨w3, hw3⟩ : ∃ w3 : World, w3 = wr.alloc (.cells #[.int .i64 xu, .slice Aa n1 ca, .slice Ab' n2 cb'] 65) := ⟨_, rfl⟩
     have hb3 : Below wr.heap.size wr w3 := hw3 ▸ balloc (b0 wr) _
     have hs3 : w3.heap.size = wr.heap.size + 1 := by rw [hw3]; simp
     have z0 : w3.cell? ⟨wr.heap.size, 0, none⟩ = some (.int .i64 xu) := by rw [hw3, alloc_cell]; rfl
     have z1 : w3.cell? ⟨wr.heap.size, 1, none⟩ = some (.slice Aa n1 ca) := by rw [hw3, alloc_cell]; rfl
     have z2 : w3.cell? ⟨wr.heap.size, 2, none⟩ = some (.slice Ab' n2 cb') := by rw [hw3, alloc_cell]; rfl
     have zq := cell_below hb3 (by omega) y0
     have HB3 := hid hb3
     have HBW3 := hid (bstep HBR.out hb3)
     have HOW3 := hid (how.out.below hb3 (Nat.le_refl _))
     rw [← hw3]
     have hne0 : (Value.slice Ao L.length co).ownBlock ≠ some w.heap.size := fun e => by have := (how.out.lt _ e).1; omega
     have hne1 : (Value.slice Ao L.length co).ownBlock ≠ some wr.heap.size := fun e => by have := (how.out.lt _ e).2; omega
     have HZ : Hid (∀ W : World, Below w3.heap.size w3 W → w.heap.size < W.heap.size ∧ wr.heap.size < W.heap.size) := hid (fun W hW => by have := hW.size; omega)
     have t1 := hid True.intro
     have t2 := hid True.intro
     clear hw3 hb3 l0 l1 l2 y0 how hb
     go_region_held3 (fun w' => w'.cell? ⟨w.heap.size, 0, none⟩ = some (.slice (some ⟨g, 0, none⟩) us.length cap0) ∧ w'.cell? ⟨wr.heap.size, 0, none⟩ = some (.int .i64 xu) ∧ w'.cell? ⟨wr.heap.size, 1, none⟩ = some (.slice Aa n1 ca) ∧ w'.cell? ⟨wr.heap.size, 2, none⟩ = some (.slice Ab' n2 cb')) (first | exact ⟨by assumption, by assumption, by assumption, by assumption⟩ | go_keep) (first
      | (clear t1; go_at_call 46; refine (HMT.out _ (bdrew HBW3.out)).mono ?_; rintro e w4 ⟨rfl, hb4⟩; have HB4 := hid ((b0 w3).drew.trans (hb4.mono (Nat.le_refl _))); have f0 := cell_below HB4.out (by omega) zq; have f1 := cell_below HB4.out (by omega) z0; have f2 := cell_below HB4.out (by omega) z1; have f3 := cell_below HB4.out (by omega) z2; clear hb4)
      | (clear t2; go_at_call 45; refine (HRS.out _ (bstep HBW3.out HB4.out)).mono ?_; rintro e w5 ⟨rfl, hb5⟩; have HB5 := hid (bstep HB4.out hb5); have HOW5 := hid (HOW3.out.below HB5.out (Nat.le_refl _)); have g0 := cell_below HB5.out (by omega) zq; have g1 := cell_below HB5.out (by omega) z0; have g2 := cell_below HB5.out (by omega) z1; have g3 := cell_below HB5.out (by omega) z2; have hs5 := HB5.out.size; have hzA := (HZ.out _ HB5.out).1; have hzB := (HZ.out _ HB5.out).2; clear hb5)
      | (refine step_guard (.tmp 47) (.tmp 56) 30 rfl ?_; refine step_append_src _ rfl (.tmp 47) (.tmp 56) 30 rfl wo.heap.size 69 it _ 2 16 Tryz.underlying30 HIT.out.1 HIT.out.2.1 HIT.out.2.2.1 HIT.out.2.2.2 rfl (by omega) (.slice Ao L.length co) L.length (fTerm.all L) (by rfl) (by exact HOW5.out.1.alloc _) (some ⟨w5.heap.size, 0, none⟩) 1 1 (fTerm.cells ⟨(xu : Int), ((ff - mt : Nat) : Int)⟩) (by rfl) (by exact src_one (f := fTerm) rfl) (by simp [fTerm, Value.oneCell']) (by unfold maxLen; omega) (by omega) (by simp; omega) ?_; intro v9 w9 hown9 hg9 hat9; have HO9 := hid (HOW5.out.snoc HOKT.out hown9); have HB9 := hid (own_app (v2 := v9) (balloc (bstep (bstep HB.out HB3.out) HB5.out) _) (HOW5.out.alloc _) (balloc (bstep (bstep HB.out HB3.out) HB5.out) _).size hg9 rfl); have pp0 : w9.cell? ⟨w.heap.size, 0, none⟩ = some (.slice (some ⟨g, 0, none⟩) us.length cap0) := cell_gr1 hg9 hne0 hzA g0; have pp1 : w9.cell? ⟨wr.heap.size, 0, none⟩ = some (.int .i64 xu) := cell_gr1 hg9 hne1 hzB g1; have pp2 : w9.cell? ⟨wr.heap.size, 1, none⟩ = some (.slice Aa n1 ca) := cell_gr1 hg9 hne1 hzB g2; have pp3 : w9.cell? ⟨wr.heap.size, 2, none⟩ = some (.slice Ab' n2 cb') := cell_gr1 hg9 hne1 hzB g3; clear hown9 hg9 hat9))
     go_wp2
     exact ⟨⟨j + 1, by omega, by go_num, hid (by rw [HE.out]; exact HO9.out), HB9⟩, by simp [intOf]; omega⟩
    ·have hjn : j = ll := by omega
     subst hjn
     have HCN := hid (show OwnF fTerm 69 wo.heap.size wr (.slice Ao (clauseL us u p (nd.take j) false).length co) (clauseL us u p nd false) by have h := how.out; rw [← HLL.out, List.take_of_length_le (Nat.le_refl _)] at h ⊢; exact h)
     obtain ⟨ln, hln⟩ : ∃ ln, (clauseL us u p (nd.take j) false).length = ln := ⟨_, rfl⟩
     rw [hln] at HCN ⊢
     have HXR := hid (HX.out.later hb.out)
     have hTF : SliceRd tTerm wr (fun b => w0.heap.size ≤ b ∧ b < wr.heap.size ∧ (Value.slice A9 k c9).ownBlock ≠ some b) (.slice Ao ln co) (clauseL us u p nd false) := (own_new_terms HCN.out (Nat.le_refl _)).more fun b hb => ⟨Nat.le_trans hzz hb.1, hb.2, fun e => by have h1 := (HX.out.own.lt b e).2; omega⟩
     have HTF := hid hTF
     have hB0 : w0.heap.size ≤ wr.heap.size := by omega
     have HBX := hid (HBO.out.trans (hb.out.mono hzz))
     clear hln hlen hTF how hb hltj y0
     go_wp2_with (at_builtin; go_must (refine wpList_append_src _ rfl (.tmp 59) (.tmp 63) _ rfl w0.heap.size 32 ir _ 5 56 Tryz.underlying27 HIR.out.1 HIR.out.2.1 HIR.out.2.2.1 HIR.out.2.2.2 rfl (by omega) (.slice A9 k c9) k xs (by rfl) (by have h5 := fun o => (HXR.out.later (balloc (b0 wr) o)).own; rw [HLK.out] at h5; exact h5 _) (some ⟨wr.heap.size, 0, none⟩) 1 1 [.int .i64 2, .int .i64 u, .int .i64 0, .int .i64 0, .slice Ao ln co] (by rfl) (by exact src_new _ _ rfl 5 _ rfl rfl) (by simp [Value.oneCell']) (by unfold maxLen; omega) (by omega) (by simp; omega) ?_; intro v5 w5 hown5 hg5 hat5; have HR5 := hid (OwnT.snoc (x := (⟨2, u, clauseL us u p nd false⟩ : RawN)) (cs := [.int .i64 2, .int .i64 u, .int .i64 0, .int .i64 0, .slice Ao ln co]) (HXR.out.later (balloc (b0 wr) _)) rfl ⟨_, rfl, (HTF.out.keep (Keeps.of_below (balloc (b0 wr) _) fun _ h => h.2.1)).more fun _ h => ⟨h.1, by simp; omega, h.2.2⟩⟩ (by rw [HLK.out]; exact hown5) hg5 hat5); have HB5 := hid ((HBX.out.alloc HBX.out.size _).grown hg5 (by simp; omega) fun k' hk' => (HXR.out.own.lt k' hk').1); clear hown5 hg5 hat5))
     exact ⟨⟨k + 1, by omega, by go_num, hid ⟨_, by rw [needR_snoc us u p cd.needs hkL, HND.out]; exact HR5.out⟩, HB5⟩, by simp [intOf]; omega⟩
  ·have hkn : k = nn := by omega
   subst hkn
   have HXN := hid (show OwnT tRaw 32 wr w0.heap.size (.slice A9 k c9) (needR us u p cd.needs) xs by have h := HX.out; rw [← HNN.out, List.take_of_length_le (Nat.le_refl _)] at h; rw [HNN.out] at h; exact h)
   have HBN := hid hb.out
   clear hlt HX HLK
   go_wp2_with fail
   go_loopw [9, 69] (fun rv iv wr => ∃ j : Nat, j ≤ nb ∧ iv = .int .i64 j ∧ Hid (∃ xs, OwnT tRaw 32 wr w0.heap.size rv (needR us u p cd.needs ++ barR us u p (cd.bars.take j)) xs) ∧ Hid (Below w0.heap.size w0 wr)) (fun _ iv _ => nb - (intOf iv).toNat)
   case atStart => exact ⟨0, Nat.zero_le _, rfl, hid ⟨xs, by rw [List.take_zero]; unfold barR; rw [List.map_nil, List.append_nil]; exact HXN.out⟩, HBN⟩
   case round =>
    obtain ⟨j, hj, rfl, hst, hb⟩ := hrel
    have HBW := hid (HB0.out.trans (hb.out.mono HB0.out.size))
    have HBO := hid hb.out
    have hlk : (needR us u p cd.needs ++ barR us u p (cd.bars.take j)).length = k + j := by
     unfold needR barR
     rw [List.length_append, List.length_map, List.length_map, List.length_take, HNN.out, HNB.out]
     omega
    obtain ⟨xs, hx⟩ := hst.out
    obtain ⟨A9, c9, hv9⟩ := own_form hx.own
    rw [hlk] at hv9
    subst hv9
    have HX := hid hx
    have HLK := hid hlk
    have hzz := hb.out.size
    have y0 := cell_below hb.out (by omega) q0
    have y8 := cell_below hb.out (by omega) q8
    have y9 := cell_below hb.out (by omega) q9
    clear hx hst hlk
    by_cases hltj : j < nb
    ·have hjl : j < cd.bars.length := by rw [HNB.out]; exact hltj
     obtain ⟨gx, ox, a, b, hA, hFx, x0, x1, x2, hra, hrb⟩ := HBL.out j hjl
     subst hA
     obtain ⟨hx0, hx1, -⟩ := HCO.out.2.2.2 _ (List.getElem_mem hjl)
     have HMT := hid (fun (W : World) (hb : Below w.heap.size w W) => pmet_any (.agg #[.slice (some ⟨g, 0, none⟩) us.length cap0]) a b us (cd.bars[j]'hjl) W (HW.out.lift hb hb.size) HO.out (hra.lift hb hb.size) (hrb.lift hb hb.size) hx0 hx1 (HFI.out.below hb))
     have hmle := metN_le us (cd.bars[j]'hjl)
     obtain ⟨xu, hxu⟩ : ∃ xu : Nat, (cd.bars[j]'hjl).u = (xu : Int) := ⟨(cd.bars[j]'hjl).u.toNat, by omega⟩
     have hxl : xu < us.length := by omega
     have hct : clauseL us u p [cd.bars[j]'hjl] true = [⟨(u : Int), (pq : Int)⟩, ⟨(xu : Int), (metN us (cd.bars[j]'hjl) : Int)⟩] := by
      unfold clauseL clauseT
      rw [HPQ.out, List.map_cons, List.map_nil, hxu, Int.toNat_natCast]
      rfl
     rw [hxu, Int.toNat_natCast] at hmle
     rw [hxu] at x0 HMT
     have hf31 := HF31.out xu
     obtain ⟨mt, hmt⟩ : ∃ mt, metN us (cd.bars[j]'hjl) = mt := ⟨_, rfl⟩
     rw [hmt] at HMT hmle hct
     have HCT := hid hct
     have HOKT := hid (show ∀ x ∈ [(⟨(u : Int), (pq : Int)⟩ : Term), ⟨(xu : Int), (mt : Int)⟩], fTerm.ok x from fun x hx => by
      rcases List.mem_cons.1 hx with rfl | hx
      ·exact ⟨⟨by show -9223372036854775808 ≤ (u : Int); omega, by show (u : Int) ≤ 9223372036854775807; omega⟩, i64_small hpq31⟩
      ·rw [List.mem_singleton.1 hx]
       exact ⟨⟨by show -9223372036854775808 ≤ (xu : Int); omega, by show (xu : Int) ≤ 9223372036854775807; omega⟩, i64_small (by omega)⟩)
     obtain ⟨Aa, ca, hav, -⟩ := hra.shape
     obtain ⟨Ab', cb', hbv, -⟩ := hrb.shape
     generalize (cd.bars[j]'hjl).s.rel.length = n1 at hav
     generalize (cd.bars[j]'hjl).s.pre.length = n2 at hbv
     have hgx : gx < wr.heap.size := Nat.lt_of_lt_of_le hFx HBW.out.size
     have l0 := cell_below HBW.out hFx x0
     have l1 := cell_below HBW.out hFx x1
     have l2 := cell_below HBW.out hFx x2
     have k0 : (0 : Int) ≤ ↑j := by omega
     have k1 : (↑j : Int) < ↑nb := by omega
     clear hra hrb hxu hct hmt x0 x1 x2 hx0 hx1 r0 r6 r7 r8 r9
     subst hav hbv
     go_wp2_with fail
     obtain ⟨w3, hw3⟩ : ∃ w3 : World, w3 = wr.alloc (.cells #[.int .i64 xu, .slice Aa n1 ca, .slice Ab' n2 cb'] 65) := ⟨_, rfl⟩
     have hb3 : Below wr.heap.size wr w3 := hw3 ▸ balloc (b0 wr) _
     have hs3 : w3.heap.size = wr.heap.size + 1 := by rw [hw3]; simp
     have z0 : w3.cell? ⟨wr.heap.size, 0, none⟩ = some (.int .i64 xu) := by rw [hw3, alloc_cell]; rfl
     have z1 : w3.cell? ⟨wr.heap.size, 1, none⟩ = some (.slice Aa n1 ca) := by rw [hw3, alloc_cell]; rfl
     have z2 : w3.cell? ⟨wr.heap.size, 2, none⟩ = some (.slice Ab' n2 cb') := by rw [hw3, alloc_cell]; rfl
     have zq := cell_below hb3 (by omega) y0
     have z8 := cell_below hb3 (by omega) y8
     have z9 := cell_below hb3 (by omega) y9
     have HB3 := hid hb3
     have HBW3 := hid (bstep HBW.out hb3)
     have HXR3 := hid (HX.out.later hb3)
     rw [← hw3]
     have t1 := hid True.intro
     clear hw3 hb3 l0 l1 l2 y0 y8 y9 hb
     go_region_held3 (fun w' => w'.cell? ⟨w.heap.size, 0, none⟩ = some (.slice (some ⟨g, 0, none⟩) us.length cap0) ∧ w'.cell? ⟨wr.heap.size, 0, none⟩ = some (.int .i64 xu) ∧ w'.cell? ⟨wr.heap.size, 1, none⟩ = some (.slice Aa n1 ca) ∧ w'.cell? ⟨wr.heap.size, 2, none⟩ = some (.slice Ab' n2 cb') ∧ w'.cell? ⟨w.heap.size + 1 + 1, 0, none⟩ = some (.int .i64 u) ∧ w'.cell? ⟨w.heap.size + 1 + 1, 1, none⟩ = some (.int .i64 pq)) (first | exact ⟨by assumption, by assumption, by assumption, by assumption, by assumption, by assumption⟩ | go_keep) (first
      | (clear t1; go_at_call 46; refine (HMT.out _ (bdrew HBW3.out)).mono ?_; rintro e w4 ⟨rfl, hb4⟩; have HB4 := hid ((b0 w3).drew.trans (hb4.mono (Nat.le_refl _))); have f0 := cell_below HB4.out (by omega) zq; have f1 := cell_below HB4.out (by omega) z0; have f2 := cell_below HB4.out (by omega) z1; have f3 := cell_below HB4.out (by omega) z2; have f4 := cell_below HB4.out (by omega) z8; have f5 := cell_below HB4.out (by omega) z9; clear hb4))
     obtain ⟨w5, hw5⟩ : ∃ w5 : World, w5 = w4.alloc (.cells #[.int .i64 u, .int .i64 pq, .int .i64 xu, .int .i64 mt] 69) := ⟨_, rfl⟩
     have hb5 : Below w4.heap.size w4 w5 := hw5 ▸ balloc (b0 w4) _
     have hs5 : w5.heap.size = w4.heap.size + 1 := by rw [hw5]; simp
     have hs4 := HB4.out.size
     have HCN : Hid (OwnF fTerm 69 w4.heap.size w5 (.slice (some ⟨w4.heap.size, 0, none⟩) 2 2) [⟨(u : Int), (pq : Int)⟩, ⟨(xu : Int), (mt : Int)⟩]) := hid (by
      rw [hw5]
      exact own_new (f := fTerm) (e := 69) (w := w4) (l := [⟨(u : Int), (pq : Int)⟩, ⟨(xu : Int), (mt : Int)⟩]) (cs := #[.int .i64 u, .int .i64 pq, .int .i64 xu, .int .i64 mt]) rfl HOKT.out (by simp [maxLen]))
     have HB35 := hid (bstep HB3.out (bstep HB4.out hb5))
     have HXR := hid (HX.out.later HB35.out)
     have HTF := hid (show SliceRd tTerm w5 (fun b => w0.heap.size ≤ b ∧ b < w5.heap.size ∧ (Value.slice A9 (k + j) c9).ownBlock ≠ some b) (.slice (some ⟨w4.heap.size, 0, none⟩) 2 2) [⟨(u : Int), (pq : Int)⟩, ⟨(xu : Int), (mt : Int)⟩] from (own_new_terms HCN.out (Nat.le_refl _)).more fun b hb => ⟨by have := hb.1; omega, hb.2, fun e => by have h1 := (HX.out.own.lt b e).2; have := hb.1; omega⟩)
     have HBX := hid (HBO.out.trans (HB35.out.mono hzz))
     have hB0 : w0.heap.size ≤ w5.heap.size := by omega
     rw [← hw5]
     clear hw5 hb5 hs5
     go_wp2_with (at_builtin; go_must (refine wpList_append_src _ rfl (.tmp 81) (.tmp 85) _ rfl w0.heap.size 32 ir _ 5 56 Tryz.underlying27 HIR.out.1 HIR.out.2.1 HIR.out.2.2.1 HIR.out.2.2.2 rfl (by omega) (.slice A9 (k + j) c9) (k + j) xs (by rfl) (by have h5 := fun o => (HXR.out.later (balloc (b0 w5) o)).own; rw [HLK.out] at h5; exact h5 _) (some ⟨w5.heap.size, 0, none⟩) 1 1 [.int .i64 3, .int .i64 u, .int .i64 0, .int .i64 0, .slice (some ⟨w4.heap.size, 0, none⟩) 2 2] (by rfl) (by exact src_new _ _ rfl 5 _ rfl rfl) (by simp [Value.oneCell']) (by unfold maxLen; omega) (by omega) (by simp; omega) ?_; intro v6 w6 hown6 hg6 hat6; have HR6 := hid (OwnT.snoc (x := (⟨3, u, [⟨(u : Int), (pq : Int)⟩, ⟨(xu : Int), (mt : Int)⟩]⟩ : RawN)) (cs := [.int .i64 3, .int .i64 u, .int .i64 0, .int .i64 0, .slice (some ⟨w4.heap.size, 0, none⟩) 2 2]) (HXR.out.later (balloc (b0 w5) _)) rfl ⟨_, rfl, (HTF.out.keep (Keeps.of_below (balloc (b0 w5) _) fun _ h => h.2.1)).more fun _ h => ⟨h.1, by simp; omega, h.2.2⟩⟩ (by rw [HLK.out]; exact hown6) hg6 hat6); have HB6 := hid ((HBX.out.alloc HBX.out.size _).grown hg6 (by simp; omega) fun k' hk' => (HXR.out.own.lt k' hk').1); clear hown6 hg6 hat6))
     exact ⟨⟨j + 1, by omega, by go_num, hid ⟨_, by rw [barR_snoc us u p cd.bars hjl, HCT.out, ← List.append_assoc]; exact HR6.out⟩, HB6⟩, by simp [intOf]; omega⟩
    ·have hjn : j = nb := by omega
     subst hjn
     have HXF := hid (show OwnT tRaw 32 wr w.heap.size (.slice A9 (k + j) c9) (clausesN us u p cd) xs by have h := HX.out; rw [← HNB.out, List.take_of_length_le (Nat.le_refl _)] at h; rw [HNB.out] at h; exact h.mono HB0.out.size)
     clear hltj HX
     go_wp2_with fail
     go_ret
     exact ⟨_, _, rfl, HXF.out, HBW.out⟩
end
section
structure Wr (e : TypeId) (B : Nat) (w0 w : World) (v : Value) (s : List UInt8) : Prop where
 below : Below B w0 w
 kept : Lib.OthersKept e none w0 w
 own : w.ownsRow B e 1 v s.length (Lib.byteCells s)
 base : B ≤ w0.heap.size
theorem byteCells_append (s t : List UInt8) : Lib.byteCells (s ++ t) = Lib.byteCells s ++ Lib.byteCells t := by simp [Lib.byteCells]
theorem byteCells_length (s : List UInt8) : (Lib.byteCells s).length = s.length := by simp [Lib.byteCells]
theorem byteCells_one (s : List UInt8) : ∀ u ∈ Lib.byteCells s, u.oneCell' = true := by
 intro u hu
 simp only [Lib.byteCells, List.mem_map] at hu
 obtain ⟨b, _, rfl⟩ := hu
 rfl
variable {e : TypeId} {B : Nat} {w0 w w' : World} {v v' : Value} {s t : List UInt8}
theorem Wr.start (h : B ≤ w.heap.size) : Wr e B w w (.slice none 0 0) [] := ⟨Below.refl _ _, Lib.OthersKept.refl _ _ _, ⟨rfl, .inl ⟨rfl, rfl⟩⟩, h⟩
theorem Wr.size (h : Wr e B w0 w v s) : w0.heap.size ≤ w.heap.size ∧ B ≤ w.heap.size := ⟨h.below.size, Nat.le_trans h.base h.below.size⟩
theorem kept_alloc (e : TypeId) (w : World) (o : Obj) : Lib.OthersKept e none w (w.alloc o) := by
 intro k o' hk _ _
 have hlt : k < w.heap.size := (Array.getElem?_eq_some_iff.1 hk).1
 rw [Below.heap_alloc w o k hlt, hk]
theorem Wr.alloc (h : Wr e B w0 w v s) (o : Obj) : Wr e B w0 (w.alloc o) v s :=
 ⟨h.below.alloc (Nat.le_trans h.base h.below.size) _, h.kept.trans (kept_alloc _ _ _), h.own.alloc _, h.base⟩
theorem kept_drew (e : TypeId) (w : World) : Lib.OthersKept e none w w.drew := fun _ _ h _ _ => h
theorem Wr.drew (h : Wr e B w0 w v s) : Wr e B w0 w.drew v s :=
 ⟨h.below.drew, h.kept.trans (kept_drew _ _), h.own, h.base⟩
theorem kept_grown {n : Nat} {xs : List Value} (ho : w.ownsRow B e 1 v n xs) (hg : w.grownBy w' v.ownBlock) : Lib.OthersKept e none w w' := by
 intro k o hk _ hc
 refine (hg.block k (Array.getElem?_eq_some_iff.1 hk).1 ?_).trans hk
 intro he
 rcases ho.2 with ⟨rfl, _⟩ | ⟨g, cap, cur, rfl, hb, hgg, _⟩
 ·cases he
 ·injection he with he
  have hkg : k = g := he
  subst hkg
  rw [hgg] at hk
  injection hk with hk
  exact hc _ _ hk.symm
theorem Wr.grown (h : Wr e B w0 w v s) (hg : w.grownBy w' v.ownBlock) (ho : w'.ownsRow B e 1 v' (s.length + t.length) (Lib.byteCells s ++ Lib.byteCells t)) : Wr e B w0 w' v' (s ++ t) := by
 refine ⟨h.below.grown hg (Nat.le_trans h.base h.below.size) ?_, h.kept.trans (kept_grown h.own hg), ?_, h.base⟩
 ·intro k hk
  rcases h.own.2 with ⟨rfl, _⟩ | ⟨g, cap, cur, rfl, hb, _⟩
  ·cases hk
  ·injection hk with hk
   exact hk ▸ hb
 ·rw [List.length_append, byteCells_append]
  exact ho
theorem Wr.call (h : Wr e B w0 w v s) (hb : Below B w w') (hk : Lib.OthersKept e none w w') (ho : w'.ownsRow B e 1 v' (s.length + t.length) (Lib.byteCells s ++ Lib.byteCells t)) : Wr e B w0 w' v' (s ++ t) :=
 ⟨h.below.trans hb, h.kept.trans hk, by rw [List.length_append, byteCells_append]; exact ho, h.base⟩
theorem Wr.next (h : Wr e B w0 w v (s ++ t)) : ∃ S A c, v = .slice A S.length c ∧ Hid (S = s ++ t) ∧ S.length ≤ s.length + t.length ∧ Hid (Wr e B w0 w v S) := by
 obtain ⟨A, c, hv⟩ := own_form h.own
 exact ⟨s ++ t, A, c, hv, hid rfl, by simp, hid h⟩
def Grew (e : TypeId) (B : Nat) (w0 : World) (S t : List UInt8) (n : Nat) (v : Value) (w : World) : Prop := ∃ S' A c, v = .slice A S'.length c ∧ S' = S ++ t ∧ S'.length ≤ S.length + n ∧ Wr e B w0 w v S'
theorem Wr.obj (h : Wr e B w0 w v s) {k : Nat} {o : Obj} (hk : w0.heap[k]? = some o) (ho : ∀ c fz, o ≠ .cells c e fz) : w.heap[k]? = some o := h.kept k o hk (by simp) ho
theorem Wr.comp {w1 : World} {o : Obj} (h : Wr e B w0 w v s) (h' : Wr e B w1 w' v' t) (hw : w1 = w.alloc o) : Wr e B w0 w' v' t := by
 subst hw
 exact ⟨((h.alloc o).below).trans h'.below, ((h.alloc o).kept).trans h'.kept, h'.own, h.base⟩
theorem two_cells {w : World} {b : Nat} {x y : Value} {eT : TypeId} (h : w.heap[b]? = some (.cells #[x, y] eT (0, 0))) : w.cell? ⟨b, 0, none⟩ = some x ∧ w.cell? ⟨b, 1, none⟩ = some y ∧ ∀ o, w.frozen? ⟨b, o, none⟩ = false := by
 refine ⟨?_, ?_, fun o => frozen_of_row w b o _ eT h⟩ <;> rw [cell_of_row w b _ _ eT (0, 0) h] <;> rfl
theorem own_lit {w : World} (b : UInt8) {c : Int} (hc : (b.toNat : Int) = c) : Src (w.alloc (.cells #[.int .u8 c] e)) (some ⟨w.heap.size, 0, none⟩) 1 1 (Lib.byteCells [b]) := by subst hc; exact src_new _ _ rfl 1 _ rfl rfl
end
section
def termF (t : Term) : List UInt8 := 32 :: Lib.itoa t.unit ++ 58 :: Lib.itoa t.mask
theorem termF_len {t : Term} (h : I64 t.unit ∧ I64 t.mask) : (termF t).length ≤ 44 := by
 have h1 := Lib.itoa_length_le t.unit h.1.1 h.1.2
 have h2 := Lib.itoa_length_le t.mask h.2.1 h.2.2
 simp [termF]
 omega
theorem conv_own {P : Program} {w : World} {src e dst : TypeId} {B : Nat} {v : Value} {l : List UInt8} (hs : P.underlying src = some (.slice e)) (he : P.underlying e = some (.int .u8)) (hd : P.underlying dst = some .string)
  (h : w.ownsRow B e 1 v l.length (Lib.byteCells l)) : (convert src dst v).run P w = .ok (.string ⟨l.toArray⟩) w := by
 have hc := fun g (hg : v.ownBlock = some g) => h.cells hg
 rcases h.2 with ⟨rfl, h0⟩ | ⟨g, cap, cur, rfl, _⟩
 ·have : l = [] := List.eq_nil_of_length_eq_zero h0
  subst this
  exact Lib.run_convert_nil_bytes w src dst e 0 hs he hd
 ·refine run_convert_bytes_back w src dst e _ cap l hs he hd fun j hj => ?_
  refine hc g rfl j _ ?_
  simp [Lib.byteCells, hj]
theorem dig_range (k : Nat) (h : k < 10) : UInt8.ofNat (48 + k) ≠ 32 ∧ UInt8.ofNat (48 + k) ≠ 58 ∧ UInt8.ofNat (48 + k) ≠ 45 := by
 match k, h with
 | 0, _ => decide
 | 1, _ => decide
 | 2, _ => decide
 | 3, _ => decide
 | 4, _ => decide
 | 5, _ => decide
 | 6, _ => decide
 | 7, _ => decide
 | 8, _ => decide
 | 9, _ => decide
theorem dec_no (u : Nat) : ∀ c ∈ Lib.decDigits u, c ≠ 32 ∧ c ≠ 58 ∧ c ≠ 45 := by
 induction u using Nat.strongRecOn with
 | _ u ih =>
  intro c hc
  by_cases h : u < 10
  ·rw [Lib.decDigits, dif_pos h] at hc
   have : c = UInt8.ofNat (48 + u) := by simpa using hc
   rw [this]; exact dig_range u h
  ·rw [Lib.decDigits, dif_neg h] at hc
   rcases List.mem_append.1 hc with hc | hc
   ·exact ih (u / 10) (by omega) c hc
   ·have : c = UInt8.ofNat (48 + u % 10) := by simpa using hc
    rw [this]; exact dig_range _ (by omega)
theorem ofNat_inj {a b : Nat} (ha : a < 256) (hb : b < 256) (h : UInt8.ofNat a = UInt8.ofNat b) : a = b := by
 have := congrArg UInt8.toNat h
 simp at this
 omega
theorem dec_ne (u : Nat) : Lib.decDigits u ≠ [] := by
 intro h
 have := congrArg List.length h
 rw [Lib.decDigits_length] at this
 have := Lib.nDigits_pos u
 simp at *
 omega
theorem dec_inj : ∀ u v : Nat, Lib.decDigits u = Lib.decDigits v → u = v := by
 intro u
 induction u using Nat.strongRecOn with
 | _ u ih =>
  intro v h
  by_cases hu : u < 10
  ·by_cases hv : v < 10
   ·rw [Lib.decDigits, dif_pos hu, Lib.decDigits, dif_pos hv] at h
    have := ofNat_inj (by omega) (by omega) (List.cons.inj h).1
    omega
   ·exfalso
    rw [Lib.decDigits, dif_pos hu, Lib.decDigits.eq_def v, dif_neg hv] at h
    have h2 := congrArg List.length h
    have h3 := List.length_pos_iff.2 (dec_ne (v / 10))
    simp only [List.length_append, List.length_cons, List.length_nil] at h2
    omega
  ·by_cases hv : v < 10
   ·exfalso
    rw [Lib.decDigits, dif_neg hu, Lib.decDigits.eq_def v, dif_pos hv] at h
    have h2 := congrArg List.length h
    have h3 := List.length_pos_iff.2 (dec_ne (u / 10))
    simp only [List.length_append, List.length_cons, List.length_nil] at h2
    omega
   ·rw [Lib.decDigits, dif_neg hu, Lib.decDigits.eq_def v, dif_neg hv] at h
    obtain ⟨h1, h2⟩ := List.append_inj' h rfl
    have := ih (u / 10) (by omega) _ h1
    have := ofNat_inj (by omega) (by omega) (List.cons.inj h2).1
    omega
theorem itoa_no (n : Int) : ∀ c ∈ Lib.itoa n, c ≠ 32 ∧ c ≠ 58 := by
 intro c hc
 unfold Lib.itoa at hc
 split at hc
 ·rcases List.mem_cons.1 hc with rfl | hc
  ·decide
  ·have := dec_no _ c hc; exact ⟨this.1, this.2.1⟩
 ·have := dec_no _ c hc; exact ⟨this.1, this.2.1⟩
theorem itoa_inj {n m : Int} (h : Lib.itoa n = Lib.itoa m) : n = m := by
 have key : ∀ (a : Nat) (l : List UInt8), 45 :: l ≠ Lib.decDigits a := by
  intro a l he
  have : (45 : UInt8) ∈ Lib.decDigits a := by rw [← he]; simp
  exact (dec_no a _ this).2.2 rfl
 unfold Lib.itoa at h
 split at h <;> split at h
 ·have := dec_inj _ _ (List.cons.inj h).2; omega
 ·exact absurd h (key _ _)
 ·exact absurd h.symm (key _ _)
 ·have := dec_inj _ _ h; omega
theorem split_inj {c : UInt8} : ∀ {x y a b : List UInt8}, c ∉ x → c ∉ y → (a = [] ∨ ∃ t, a = c :: t) → (b = [] ∨ ∃ t, b = c :: t) → x ++ a = y ++ b → x = y ∧ a = b
 | [], [], _, _, _, _, _, _, h => ⟨rfl, by simpa using h⟩
 | [], d :: y, a, b, _, hy, ha, _, h => by
  exfalso
  rcases ha with rfl | ⟨t, rfl⟩
  ·simp at h
  ·simp at h
   exact hy (by rw [h.1]; simp)
 | d :: x, [], a, b, hx, _, _, hb, h => by
  exfalso
  rcases hb with rfl | ⟨t, rfl⟩
  ·simp at h
  ·simp at h
   exact hx (by rw [h.1]; simp)
 | d :: x, e :: y, a, b, hx, hy, ha, hb, h => by
  simp only [List.cons_append, List.cons.injEq] at h
  obtain ⟨h1, h2⟩ := split_inj (x := x) (y := y) (fun hm => hx (List.mem_cons_of_mem _ hm)) (fun hm => hy (List.mem_cons_of_mem _ hm)) ha hb h.2
  exact ⟨by rw [h.1, h1], h2⟩
theorem flat_head (c : UInt8) (l : List (List UInt8)) : l.flatMap (fun w => c :: w) = [] ∨ ∃ t, l.flatMap (fun w => c :: w) = c :: t := by
 cases l with
 | nil => exact .inl rfl
 | cons x l => exact .inr ⟨x ++ l.flatMap (fun w => c :: w), by simp⟩
theorem flat_inj {c : UInt8} : ∀ {a b : List (List UInt8)}, (∀ w ∈ a, c ∉ w) → (∀ w ∈ b, c ∉ w) → a.flatMap (fun w => c :: w) = b.flatMap (fun w => c :: w) → a = b
 | [], [], _, _, _ => rfl
 | [], y :: b, _, _, h => by simp at h
 | x :: a, [], _, _, h => by simp at h
 | x :: a, y :: b, ha, hb, h => by
  simp only [List.flatMap_cons, List.cons_append, List.cons.injEq, true_and] at h
  obtain ⟨h1, h2⟩ := split_inj (ha x (by simp)) (hb y (by simp)) (flat_head c a) (flat_head c b) h
  rw [h1, flat_inj (fun w hw => ha w (by simp [hw])) (fun w hw => hb w (by simp [hw])) h2]
def termW (t : Term) : List UInt8 := Lib.itoa t.unit ++ 58 :: Lib.itoa t.mask
theorem termW_inj {s t : Term} (h : termW s = termW t) : s = t := by
 obtain ⟨h1, h2⟩ := split_inj (c := 58) (fun hm => (itoa_no _ _ hm).2 rfl) (fun hm => (itoa_no _ _ hm).2 rfl) (.inr ⟨_, rfl⟩) (.inr ⟨_, rfl⟩) h
 obtain ⟨u, m⟩ := s
 obtain ⟨u', m'⟩ := t
 have := itoa_inj h1
 have := itoa_inj (List.cons.inj h2).2
 simp_all
theorem map_inj {α β : Type} {f : α → β} (hf : ∀ x y, f x = f y → x = y) : ∀ {a b : List α}, a.map f = b.map f → a = b
 | [], [], _ => rfl
 | [], y :: b, h => by simp at h
 | x :: a, [], h => by simp at h
 | x :: a, y :: b, h => by
  simp only [List.map_cons, List.cons.injEq] at h
  rw [hf _ _ h.1, map_inj hf h.2]
theorem terms_inj {a b : List Term} (h : a.flatMap termF = b.flatMap termF) : a = b := by
 have e : ∀ l : List Term, l.flatMap termF = (l.map termW).flatMap (fun w => 32 :: w) := fun l => by
  rw [List.flatMap_map]
  rfl
 rw [e, e] at h
 refine map_inj (f := termW) (fun _ _ h => termW_inj h) (flat_inj ?_ ?_ h)
 all_goals
  intro w hw
  obtain ⟨t, -, rfl⟩ := List.mem_map.1 hw
  intro hm
  rcases List.mem_append.1 hm with hm | hm
  ·exact (itoa_no _ _ hm).1 rfl
  ·rcases List.mem_cons.1 hm with hm | hm
   ·cases hm
   ·exact (itoa_no _ _ hm).1 rfl
end
end Go.Proofs.YthneiolcljnbeaaGreatDoor
