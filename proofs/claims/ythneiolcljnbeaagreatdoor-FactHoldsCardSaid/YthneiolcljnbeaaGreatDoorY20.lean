import Derived.Test.YthneiolcljnbeaaGreatDoorzN11
import Derived.BigRegion
namespace Go.Proofs.YthneiolcljnbeaaGreatDoor
open Go Go.RowKit
theorem own_mono {w : World} {B B' : Nat} {e : TypeId} {s n : Nat} {v : Value} {xs : List Value} (h : w.ownsRow B e s v n xs) (hB : B' ≤ B) : w.ownsRow B' e s v n xs := by
 refine ⟨h.1, ?_⟩
 rcases h.2 with h1 | ⟨g, cap, cur, h1, h2, h3⟩
 ·exact .inl h1
 ·exact .inr ⟨g, cap, cur, h1, Nat.le_trans hB h2, h3⟩
theorem Copied.mono {eR eT : TypeId} {w : World} {B B' : Nat} {v : Value} {l : List Row} {tvs : List Value} (h : Copied eR eT w B v l tvs) (hB : B' ≤ B) : Copied eR eT w B' v l tvs :=
 ⟨h.ne, h.len, own_mono h.own hB, h.ints, fun k hk hk' => own_mono (h.terms k hk hk') hB, h.apart⟩
theorem addCs_ok {us : List UnitW} {u p : Nat} {c : CandW} (hu : u < us.length) (hp : p < 60) {rows : List RowN} (h : ∀ x ∈ rows, x.Ok (nsOf us)) (k : Nat) :
  (∀ x ∈ ((clausesN us u p c).take k).foldl (addC us) rows, x.Ok (nsOf us)) ∧ (((clausesN us u p c).take k).foldl (addC us) rows).length ≤ rows.length + k := by
 induction k with
 | zero => exact ⟨h, Nat.le_refl _⟩
 | succ k ih =>
  by_cases hk : k < (clausesN us u p c).length
  ·rw [clauses_take hk]
   unfold addC
   split
   ·rename_i hs
    have hl := put_len (ns := nsOf us) (((clausesN us u p c).take k).foldl (addC us) rows) ⟨(clausesN us u p c)[k].kind, (clausesN us u p c)[k].u, meetN (nsOf us) (clausesN us u p c)[k].ts⟩
    refine ⟨?_, by unfold addC at ih hl; omega⟩
    rcases clauses_mem (List.getElem_mem hk) with ⟨l, -, e⟩ | ⟨x, -, e⟩
    ·rw [e] at hs ⊢
     exact put_ok ih.1 (clause_ok (kind := 2) hu (.inl rfl) hp hs) (by show (2 : Int) ≠ 1; decide)
    ·rw [e] at hs ⊢
     exact put_ok ih.1 (clause_ok (kind := 3) hu (.inr rfl) hp hs) (by show (3 : Int) ≠ 1; decide)
   ·unfold addC at ih
    exact ⟨ih.1, by omega⟩
  ·rw [List.take_of_length_le (by omega)]
   rw [List.take_of_length_le (by omega)] at ih
   exact ⟨ih.1, by omega⟩
theorem clause_form {us : List UnitW} {u p : Nat} {c : CandW} {m : Nat} (hc : c.ok m) {r : RawN} (h : r ∈ clausesN us u p c) : ∃ kk ls bb, (kk = 2 ∨ kk = 3) ∧ r = ⟨kk, u, clauseL us u p ls bb⟩ ∧ ls.length ≤ 2 := by
 rcases clauses_mem h with ⟨l, hl, e⟩ | ⟨x, -, e⟩
 ·exact ⟨2, l, false, .inl rfl, e, (hc.2.1 l hl).1⟩
 ·exact ⟨3, [x], true, .inr rfl, e, by simp⟩
theorem flat_le {l : List Term} (h : ∀ t ∈ l, I64 t.unit ∧ I64 t.mask) : (l.flatMap termF).length ≤ 44 * l.length := by
 induction l with
 | nil => simp
 | cons x l ih =>
  rw [List.flatMap_cons, List.length_append, List.length_cons]
  have h1 := termF_len (h x (List.mem_cons_self ..))
  have h2 := ih fun t ht => h t (List.mem_cons_of_mem _ ht)
  omega
theorem key_A {w5 w6 : World} {x y z : Value} {t : TypeId} (hb : Below w5.heap.size w5 w6) : w6.heap.size < (w6.alloc (.cells #[x, y, z] t)).heap.size ∧ (w6.alloc (.cells #[x, y, z] t)).cell? ⟨w6.heap.size, 0, none⟩ = some x ∧ (w6.alloc (.cells #[x, y, z] t)).cell? ⟨w6.heap.size, 1, none⟩ = some y ∧ (w6.alloc (.cells #[x, y, z] t)).cell? ⟨w6.heap.size, 2, none⟩ = some z ∧ Below w5.heap.size w5 (w6.alloc (.cells #[x, y, z] t)) :=
 ⟨by rw [World.size_alloc]; omega, by rw [alloc_cell]; rfl, by rw [alloc_cell]; rfl, by rw [alloc_cell]; rfl, balloc hb _⟩
theorem key_B {w5 w6 : World} {x y z a b c : Value} (n0 : w6.cell? ⟨w5.heap.size, 0, none⟩ = some a) (n1 : w6.cell? ⟨w5.heap.size, 1, none⟩ = some b) (n2 : w6.cell? ⟨w5.heap.size, 2, none⟩ = some c) (hb : Below w5.heap.size w5 w6) :
  w5.heap.size < (((w6.setCell ⟨w5.heap.size, 0, none⟩ x).setCell ⟨w5.heap.size, 1, none⟩ y).setCell ⟨w5.heap.size, 2, none⟩ z).heap.size ∧ (((w6.setCell ⟨w5.heap.size, 0, none⟩ x).setCell ⟨w5.heap.size, 1, none⟩ y).setCell ⟨w5.heap.size, 2, none⟩ z).cell? ⟨w5.heap.size, 0, none⟩ = some x ∧
  (((w6.setCell ⟨w5.heap.size, 0, none⟩ x).setCell ⟨w5.heap.size, 1, none⟩ y).setCell ⟨w5.heap.size, 2, none⟩ z).cell? ⟨w5.heap.size, 1, none⟩ = some y ∧ (((w6.setCell ⟨w5.heap.size, 0, none⟩ x).setCell ⟨w5.heap.size, 1, none⟩ y).setCell ⟨w5.heap.size, 2, none⟩ z).cell? ⟨w5.heap.size, 2, none⟩ = some z ∧
  Below w5.heap.size w5 (((w6.setCell ⟨w5.heap.size, 0, none⟩ x).setCell ⟨w5.heap.size, 1, none⟩ y).setCell ⟨w5.heap.size, 2, none⟩ z) := by
 have hlt : w5.heap.size < w6.heap.size := World.block_lt_of_cell? w6 _ n0
 have m1 : (w6.setCell ⟨w5.heap.size, 0, none⟩ x).cell? ⟨w5.heap.size, 1, none⟩ = some b := by rw [World.cell?_setCell_other _ _ _ _ (by intro e; cases e)]; exact n1
 have m2 : ((w6.setCell ⟨w5.heap.size, 0, none⟩ x).setCell ⟨w5.heap.size, 1, none⟩ y).cell? ⟨w5.heap.size, 2, none⟩ = some c := by rw [World.cell?_setCell_other _ _ _ _ (by intro e; cases e), World.cell?_setCell_other _ _ _ _ (by intro e; cases e)]; exact n2
 refine ⟨by simp only [World.size_setCell]; exact hlt, ?_, ?_, World.cell?_setCell_same _ _ _ m2, ((hb.setCell (p := ⟨w5.heap.size, 0, none⟩) (Nat.le_refl _) _).setCell (p := ⟨w5.heap.size, 1, none⟩) (Nat.le_refl _) _).setCell (p := ⟨w5.heap.size, 2, none⟩) (Nat.le_refl _) _⟩
 ·rw [World.cell?_setCell_other _ _ _ _ (by intro e; cases e), World.cell?_setCell_other _ _ _ _ (by intro e; cases e)]
  exact World.cell?_setCell_same _ _ _ n0
 ·rw [World.cell?_setCell_other _ _ _ _ (by intro e; cases e)]
  exact World.cell?_setCell_same _ _ _ m1
theorem keep3 {w : World} {g i j k l M : Nat} {x y z v : Value} (hne : g ≠ M) (h : w.cell? ⟨g, i, none⟩ = some v) : (((w.setCell ⟨M, j, none⟩ x).setCell ⟨M, k, none⟩ y).setCell ⟨M, l, none⟩ z).cell? ⟨g, i, none⟩ = some v := by
 rw [World.cell?_of_block (heap_setCell_other _ _ g _ hne)]
 exact keep2 hne h
theorem new_below {W w6 : World} {cs : Array Value} {e : TypeId} (hb : Below (W.alloc (.cells cs e)).heap.size (W.alloc (.cells cs e)).drew w6) {i : Nat} {v : Value} (h : cs[i]? = some v) : w6.cell? ⟨W.heap.size, i, none⟩ = some v :=
 cell_below hb (by rw [World.size_alloc]; omega) (show (W.alloc (.cells cs e)).cell? _ = _ by rw [alloc_cell]; exact h)
theorem new_frozen {W w6 : World} {cs : Array Value} {e : TypeId} (hb : Below (W.alloc (.cells cs e)).heap.size (W.alloc (.cells cs e)).drew w6) (i : Nat) : w6.frozen? ⟨W.heap.size, i, none⟩ = false :=
 (World.frozen?_of_block (a := ⟨W.heap.size, i, none⟩) (hb.block W.heap.size (by rw [World.size_alloc]; omega))).trans (World.frozen?_alloc_new _ _ _ _)
theorem wrap_small {j t : Nat} (h : j < t) (h2 : t ≤ 100) : wrap64 ((j : Int) + 1) = (j : Int) + 1 := IntWalk.wrap64_in _ (by omega)
theorem round_less {j t : Nat} (h : j < t) : t - (intOf (.int .i64 ((j : Int) + 1))).toNat < t - (intOf (.int .i64 (j : Int))).toNat := by
 simp [intOf]
 omega
theorem round_int (j : Nat) : ((j + 1 : Nat) : Int) = (j : Int) + 1 := by omega
theorem place_facts {p : Nat} (hp : p < 4) : ∃ pq : Nat, 2 ^ (p + 1) = pq ∧ pq ≤ 31 ∧ IntKind.i64.wrap ((p : Int) + 1) = (p : Int) + 1 ∧ ((p : Int) + 1).toNat = p + 1 ∧ wrap64 ((2 : Int) ^ (p + 1)) = (pq : Int) ∧ (0 : Int) ≤ ↑p + 1 ∧ ¬ ((↑p : Int) + 1 < 0) := by
 have hpc : p = 0 ∨ p = 1 ∨ p = 2 ∨ p = 3 := by omega
 refine ⟨_, rfl, ?_, IntWalk.i64_in _ (by omega), by omega, ?_, by omega, by omega⟩
 ·rcases hpc with rfl | rfl | rfl | rfl <;> decide
 ·rcases hpc with rfl | rfl | rfl | rfl <;> simp [wrap64]
theorem i64_le31 {m : Nat} (h : m ≤ 31) : I64 (m : Int) := ⟨by omega, by omega⟩
def KeptIn (B1 B2 : Nat) (w w' : World) : Prop := w.heap.size ≤ w'.heap.size ∧ ∀ b, B1 ≤ b → b < B2 → w'.heap[b]? = w.heap[b]?
set_option maxRecDepth 100000 in
set_option maxHeartbeats 8000000 in
theorem pall_any (v : Value) (us : List UnitW) (w : World) (h : WorldRd w (Lt w.heap.size) v us) (ho : UnitsOk us) (h0 : (nsOf us).head? = some 1) (hF : FirstIs w)
  (htab : Lib.TabBelow Tryz.prog w.heap.size w "internal/strconv.uint64pow10" .u64 Lib.pow10Tab) :
  Calls Tryz.prog 5 #[v] w (AllOwn us w) := by
 have HW := hid h
 have HU := hid h.uni
 have HO := hid ho
 have HFI := hid hF
 have HTAB := hid htab
 have HNS := hid ho.ns
 have HST0 := hid (fun W => all_start (us := us) (w := W) ho h0)
 have HROK := hid (fun k (hk : k ≤ us.length) => units_ok ho h0 k hk)
 have h11 : us.length ≤ 11 := by have := ho.ns.hi; simpa [nsOf] using this
 have h4 : ∀ u, (hu : u < us.length) → us[u].cands.length ≤ 4 := fun u hu => by
  have := ho.ns.le u (by simpa [nsOf] using hu)
  simpa [nsOf] using this
 have H4 := hid h4
 obtain ⟨ir, hir⟩ := info_parts rowR_infoN
 have HIR := hid hir
 obtain ⟨g, cap0, rfl, hg, hun⟩ := h.opened
 have HUN := hid hun
 have hgl : g < w.heap.size := hg
 clear h ho h0 hF htab hun h4 hir
 have hmm := @run_makeMap Tryz.prog
 go_enter Tryz.func5, Tryz.ntmps5
 go_wp2_with fail
 go_step3
 go_wp2_with fail
 obtain ⟨w0, hw0⟩ : ∃ w0 : World, w0 = w.alloc (.cells #[.slice (some ⟨g, 0, none⟩) us.length cap0] 25) := ⟨_, rfl⟩
 have hb0 : Below w.heap.size w w0 := hw0 ▸ balloc (b0 w) _
 have hs0 : w0.heap.size = w.heap.size + 1 := by rw [hw0]; simp
 have q0 : w0.cell? ⟨w.heap.size, 0, none⟩ = some (.slice (some ⟨g, 0, none⟩) us.length cap0) := by rw [hw0, alloc_cell]; rfl
 have hst0 := HST0.out w0
 rw [hs0] at hst0
 have HB0 := hid hb0
 rw [← hw0]
 obtain ⟨w1, hw1⟩ : ∃ w1 : World, w1 = ((w0.alloc (.cells #[.int .i64 0, .int .i64 1] 69)).alloc (.cells #[.int .i64 1, .int .i64 0, .int .i64 0, .int .i64 0, .slice (some ⟨w.heap.size + 1, 0, none⟩) 1 1] 32)).alloc (.map #[] 0) := ⟨_, rfl⟩
 rw [← hw1] at hst0 ⊢
 have HST1 := hid (show AllSt (nsOf us) (w.heap.size + 1) w0 w1 (w.heap.size + 1 + 1 + 1) (.slice (some ⟨w.heap.size + 1 + 1, 0, none⟩) 1 1) (rowsAt us 0 0) [.slice (some ⟨w.heap.size + 1, 0, none⟩) 1 1] by rw [rowsAt_zero]; exact hst0)
 clear hw0 hw1 hst0 hb0 hmm
 go_step3
 go_wp2_with fail
 obtain ⟨mb, hmb⟩ : ∃ mb, w.heap.size + 1 + 1 + 1 = mb := ⟨_, rfl⟩
 rw [hmb] at HST1
 rw [hmb]
 have hmbs : w.heap.size + 1 ≤ mb := by omega
 clear hmb
 go_loopw [3, 5, 6] (fun rv uv pv wr => ∃ u p : Nat, u ≤ us.length ∧ uv = .int .i64 u ∧ pv = .int .i64 p ∧ (∀ hu : u < us.length, p ≤ us[u].cands.length) ∧ (u = us.length → p = 0) ∧ Hid (∃ tvs, AllSt (nsOf us) (w.heap.size + 1) w0 wr mb rv (rowsAt us u p) tvs)) (fun _ uv pv _ => (us.length - (intOf uv).toNat) * 6 + (5 - (intOf pv).toNat))
 case atStart => exact ⟨0, 0, Nat.zero_le _, rfl, rfl, fun _ => Nat.zero_le _, fun _ => rfl, hid ⟨_, HST1.out⟩⟩
 case round =>
  obtain ⟨u, p, hu, rfl, rfl, hpl, hp0, hst⟩ := hrel
  obtain ⟨tvs, hst⟩ := hst.out
  have HST := hid hst
  obtain ⟨A3, c3, hv3⟩ := hst.form
  subst hv3
  have HBW := hid (HB0.out.trans (hst.bel.mono (by omega)))
  have qr := cell_below hst.bel (by omega) q0
  have hsz := hst.size
  clear hst
  by_cases hlt : u < us.length
  ·have i0 : (0 : Int) ≤ ↑u := by omega
   have i1 : (↑u : Int) < ↑us.length := by omega
   obtain ⟨Ac, cc, hcu, hcd⟩ := HUN.out u hlt
   have cu := cell_below HBW.out hg hcu
   have hgr : g < wr.heap.size := Nat.lt_of_lt_of_le hg HBW.out.size
   have hpn := hpl hlt
   have hn4 := H4.out u hlt
   have HRA := hid (rowsAt_lt hlt)
   have HUS := hid (units_succ hlt)
   obtain ⟨n, hn⟩ : ∃ n, us[u].cands.length = n := ⟨_, rfl⟩
   have HN := hid hn
   rw [hn] at cu hpn hn4
   clear hcu hcd hn hpl hp0
   by_cases hltp : p < n
   ·have hltn : p < us[u].cands.length := by rw [HN.out]; exact hltp
    have j0 : (↑p : Int) < ↑n := by omega
    have j1 : (0 : Int) ≤ ↑p := by omega
    obtain ⟨cd, hcd⟩ : ∃ cd, us[u].cands[p]'hltn = cd := ⟨_, rfl⟩
    have HCO := hid (HO.out.cands _ (List.getElem_mem hlt) _ (List.getElem_mem hltn))
    have HCL := hid (fun (W : World) (hb : Below w.heap.size w W) => clauses_any (.agg #[.slice (some ⟨g, 0, none⟩) us.length cap0]) us u p W (HW.out.lift hb hb.size) HO.out hlt hltn (HFI.out.below hb))
    have HRS : Hid (rowsAt us u (p + 1) = (clausesN us u p cd).foldl (addC us) (rowsAt us u p)) := hid (by rw [HRA.out, HRA.out, cands_succ hltn, hcd, cand_clauses])
    have HRK := hid (cands_ok hlt (fun c hc => HO.out.cands _ (List.getElem_mem hlt) c hc) (HROK.out u (Nat.le_of_lt hlt)).1 p (Nat.le_of_lt hltn) (by rw [HN.out]; exact hn4))
    have HRL0 := hid (HROK.out u (Nat.le_of_lt hlt)).2
    rw [← HRA.out] at HRK
    rw [hcd] at HCO HCL
    clear hcd
    go_wp2
    go_step3
    go_wp2_with fail
    go_step3
    go_wp2_with (go_at_call 19; refine (HCL.out wr HBW.out).mono ?_; rintro e w2 ⟨lv, lxs, rfl, hown, hb2⟩; have hrl := hown.rdF; have hlf := own_form hown.own; obtain ⟨AL, cL, hlv⟩ := hlf; subst hlv; have HRL := hid hrl; have HB2 := hid hb2; clear hown hrl hb2)
    obtain ⟨L, hL⟩ : ∃ L, clausesN us u p cd = L := ⟨_, rfl⟩
    have HLF := hid (fun (r : RawN) (h : r ∈ clausesN us u p cd) => clause_form HCO.out h)
    have HROKS := hid (addCs_ok (c := cd) hlt (by omega : p < 60) HRK.out.1)
    have HRLEN : Hid ((rowsAt us u p).length ≤ 600) := hid (by have h1 := HRK.out.2; have h2 := HRL0.out; omega)
    rw [hL] at HRL HRS HLF HROKS ⊢
    obtain ⟨nl, hnl⟩ : ∃ nl, L.length = nl := ⟨_, rfl⟩
    have HNL := hid hnl
    have hnl6 : nl ≤ 12 := by
     rw [← hnl, ← hL]
     unfold clausesN needR barR
     rw [List.length_append, List.length_map, List.length_map]
     have h1 := HCO.out.1
     have h2 := HCO.out.2.2.1
     omega
    rw [hnl] at HRL ⊢
    have HST2 := hid (HST.out.later HB2.out)
    have hs2 := HB2.out.size
    have HOUT0 : Hid (Out wr.heap.size w2.heap.size (.slice A3 (rowsAt us u p).length c3) tvs) := hid (fun b h1 h2 => ⟨fun e => by have := (HST.out.cop.lt.1 b e).2; omega, fun tv htv e => by obtain ⟨i, hi, rfl⟩ := List.getElem_of_mem htv; have := (HST.out.cop.lt.2 i hi b e).2; omega⟩)
    obtain ⟨R0, hR0⟩ : ∃ R0, rowsAt us u p = R0 := ⟨_, rfl⟩
    rw [hR0] at HST2 HOUT0 HRS HROKS HRLEN ⊢
    have hmbw : mb < wr.heap.size := hsz.2
    obtain ⟨A0', cap0', hv0, hcapL, hmaxL, hcL⟩ := HRL.out.shape
    injection hv0 with e1 e2 e3
    subst e1 e3
    have HCLL := hid hcL
    unfold maxLen at hmaxL
    rw [HNL.out] at hcapL
    have hHB := HB2.out
    obtain ⟨wo, rfl⟩ : ∃ wo, wo = wr := ⟨_, rfl⟩
    have HBWO := hid HBW.out
    have q2 := cell_below hHB (by omega) qr
    clear hL hnl hR0 hcL e2 HST HRK HRL0 qr cu hHB HCL
    go_loopw [3, 44] (fun rv kv w' => ∃ k : Nat, k ≤ nl ∧ kv = .int .i64 k ∧ Hid (∃ tvs, AllSt (nsOf us) (w.heap.size + 1) w0 w' mb rv ((L.take k).foldl (addC us) R0) tvs ∧ Out wo.heap.size w2.heap.size rv tvs) ∧ Hid (KeptIn wo.heap.size w2.heap.size w2 w')) (fun _ kv _ => nl - (intOf kv).toNat)
    case atStart => exact ⟨0, Nat.zero_le _, rfl, hid ⟨tvs, HST2.out, HOUT0.out⟩, hid ⟨Nat.le_refl _, fun _ _ _ => rfl⟩⟩
    case round =>
     obtain ⟨k, hk, rfl, hst, hkp⟩ := hrel
     obtain ⟨tvs3, hst, hout⟩ := hst.out
     have HST3 := hid hst
     have HOUT := hid hout
     obtain ⟨A4, c4, hv4⟩ := hst.form
     subst hv4
     have HBR := hid (HB0.out.trans (hst.bel.mono (by omega)))
     have qr := cell_below hst.bel (by omega) q0
     have hsz3 := hst.size
     clear hst hout
     by_cases hltk : k < nl
     ·have hkL : k < L.length := by rw [HNL.out]; exact hltk
      obtain ⟨gl, ol, cs, hAL, hFl, hsl, hcell, tv, hcs, htv⟩ := HCLL.out k hkL
      subst hAL hcs
      obtain ⟨kk, ls, bb, hkk, hr, hls⟩ := HLF.out _ (List.getElem_mem hkL)
      have HTK := hid (clauses_take (us := us) (rows := R0) hkL)
      rw [hr] at HTK htv hcell
      dsimp only at htv hcell
      have d0 : wr.cell? ⟨gl, ol + k * 5, none⟩ = some (.int .i64 kk) := (World.cell?_of_block (a := ⟨gl, ol + k * 5, none⟩) (hkp.out.2 gl hFl.1 hFl.2)).trans (hcell 0 (by show 0 < 5; omega))
      have d1 : wr.cell? ⟨gl, ol + k * 5 + 1, none⟩ = some (.int .i64 (u : Int)) := (World.cell?_of_block (a := ⟨gl, ol + k * 5 + 1, none⟩) (hkp.out.2 gl hFl.1 hFl.2)).trans (hcell 1 (by show 1 < 5; omega))
      have d2 : wr.cell? ⟨gl, ol + k * 5 + 2, none⟩ = some (.int .i64 0) := (World.cell?_of_block (a := ⟨gl, ol + k * 5 + 2, none⟩) (hkp.out.2 gl hFl.1 hFl.2)).trans (hcell 2 (by show 2 < 5; omega))
      have d3 : wr.cell? ⟨gl, ol + k * 5 + 3, none⟩ = some (.int .i64 0) := (World.cell?_of_block (a := ⟨gl, ol + k * 5 + 3, none⟩) (hkp.out.2 gl hFl.1 hFl.2)).trans (hcell 3 (by show 3 < 5; omega))
      have d4 : wr.cell? ⟨gl, ol + k * 5 + 4, none⟩ = some (tv) := (World.cell?_of_block (a := ⟨gl, ol + k * 5 + 4, none⟩) (hkp.out.2 gl hFl.1 hFl.2)).trans (hcell 4 (by show 4 < 5; omega))
      have hglr : gl < wr.heap.size := Nat.lt_of_lt_of_le hFl.2 hkp.out.1
      have htv3 : SliceRd tTerm wr (Lt wr.heap.size) tv (clauseL us u p ls bb) := (htv.keep (fun b hb => hkp.out.2 b hb.1 hb.2)).more fun b hb => Nat.lt_of_lt_of_le hb.2 hkp.out.1
      have HTV := hid htv3
      obtain ⟨TA, tc, htf, -, -, -⟩ := htv3.terms
      have htl : (clauseL us u p ls bb).length ≤ 3 := by unfold clauseL; rw [List.length_cons, List.length_map]; omega
      have HMK := hid (fun (W : World) (hb : Below wr.heap.size wr W) => make_own (.agg #[.slice (some ⟨g, 0, none⟩) us.length cap0]) tv (nsOf us) (clauseL us u p ls bb) W (uni_later HU.out (bstep HBR.out hb)) HNS.out (htv3.lift hb hb.size) (by omega))
      have HOWN := hid (fun hs => meet_own (us := us) (u := u) (p := p) (l := ls) (bar := bb) hlt (by omega) hs)
      have HOKR := hid (fun hs => clause_ok (us := us) (u := u) (p := p) (l := ls) (bar := bb) (kind := kk) hlt hkk (by omega) hs)
      generalize (clauseL us u p ls bb).length = tn at htf
      subst htf
      generalize clauseL us u p ls bb = T at *
      have k0 : (0 : Int) ≤ ↑k := by omega
      have k1 : (↑k : Int) < ↑nl := by omega
      have hqz : w.heap.size < wr.heap.size := by omega
      clear htv htv3 hcell hr hls HCLL
      go_wp2_with fail
      obtain ⟨wb, hwb⟩ : ∃ wb : World, wb = wr.alloc (.cells #[.int .i64 kk, .int .i64 u, .int .i64 0, .int .i64 0, .slice TA tn tc] 32) := ⟨_, rfl⟩
      have hbb : Below wr.heap.size wr wb := hwb ▸ balloc (b0 wr) _
      have hsb : wb.heap.size = wr.heap.size + 1 := by rw [hwb]; simp
      have HBOX : Hid (Box 32 wb wr.heap.size ⟨kk, u, 0, 0, T⟩ (.slice TA tn tc)) := hid (by rw [hwb]; exact Box.new _ wr ⟨kk, u, 0, 0, T⟩ _)
      have HBB := hid hbb
      rw [← hwb]
      clear hwb hbb d0 d1 d2 d3 d4
      refine (HMK.out wb HBB.out).mono ?_
      rintro e w4 ⟨sv, rfl, how4, hb4⟩
      have HB4 := hid (bstep HBB.out hb4)
      have HBX4 := hid (HBOX.out.keep (hb4.block wr.heap.size (by omega)))
      have HOW4 := hid how4
      have hs4 := hb4.size
      clear hb4 how4
      cases hmk : makeN (nsOf us) T with
      | none =>
       have HAC : Hid ((L.take (k + 1)).foldl (addC us) R0 = (L.take k).foldl (addC us) R0) := hid (by rw [HTK.out]; unfold addC; dsimp only; rw [hmk]; rfl)
       have HST4 := hid (HST3.out.later HB4.out)
       have HKP : Hid (KeptIn wo.heap.size w2.heap.size w2 w4) := hid ⟨by have := hkp.out.1; omega, fun b h1 h2 => (HB4.out.block b (by have := hkp.out.1; omega)).trans (hkp.out.2 b h1 h2)⟩
       clear hmk
       go_wp2_with fail
       exact ⟨⟨k + 1, by omega, by go_num, hid ⟨tvs3, by rw [HAC.out]; exact HST4.out, HOUT.out⟩, HKP⟩, by simp [intOf]; omega⟩
      | some T' =>
       obtain ⟨hM1, hM2⟩ := make_some hmk
       have hs : (makeN (nsOf us) T).isSome := by rw [hmk]; rfl
       have HMU := hid (HOWN.out hs)
       have HRO := hid (HOKR.out hs)
       have HAC : Hid ((L.take (k + 1)).foldl (addC us) R0 = putN (nsOf us) ((L.take k).foldl (addC us) R0) ⟨kk, u, meetN (nsOf us) T⟩) := hid (by rw [HTK.out]; unfold addC; dsimp only; rw [if_pos hs])
       rw [hmk] at HOW4
       have HOW5 := hid (show OwnF fTerm 69 wb.heap.size w4 sv T' from HOW4.out)
       obtain ⟨At, ct, hsv⟩ := HOW5.out.form
       have htl : T'.length ≤ 11 := by
        rw [hM2]
        have h2 : (nsOf us).length = us.length := by simp [nsOf]
        exact Nat.le_trans (canonTo_len _ _) (by omega)
       obtain ⟨tl, htl2⟩ : ∃ tl, T'.length = tl := ⟨_, rfl⟩
       have HTL := hid htl2
       rw [htl2] at hsv htl
       subst hsv
       have HM2 := hid hM2
       obtain ⟨⟨b0, b1, b2, b3, b4⟩, bf⟩ := HBX4.out.cells
       have hblt := HBX4.out.lt
       clear hM1 hM2 hs hmk htl2 HOW4
       go_wp2_with fail
       obtain ⟨w5, hw5⟩ : ∃ w5 : World, w5 = w4.setCell ⟨wr.heap.size, 4, none⟩ (.slice At tl ct) := ⟨_, rfl⟩
       have HBX5 : Hid (Box 32 w5 wr.heap.size ⟨kk, u, 0, 0, T'⟩ (.slice At tl ct)) := hid (by rw [hw5]; exact (HBX4.out.set).2.2.2.2 _ T')
       have hb5 : Below wr.heap.size wr w5 := by rw [hw5]; exact HB4.out.setCell (p := ⟨wr.heap.size, 4, none⟩) (Nat.le_refl _) _
       have hs5 : w5.heap.size = w4.heap.size := by rw [hw5]; simp
       have HOT5 : Hid (OwnF fTerm 69 wb.heap.size w5 (.slice At tl ct) T') := hid (by
        rw [hw5]
        exact ⟨ownsRow_keep HOW5.out.1 (fun g hg => heap_setCell_other _ _ _ _ (by have := (HOW5.out.lt g hg).1; show g ≠ wr.heap.size; omega)), HOW5.out.2⟩)
       have HB5 := hid hb5
       rw [← hw5]
       clear hw5 hb5 b0 b1 b2 b3 b4 bf hblt HBX4 HOW5
       obtain ⟨⟨b0, b1, b2, b3, b4⟩, bf⟩ := HBX5.out.cells
       dsimp only at b0 b1 b2 b3
       have hblt := HBX5.out.lt
       have hi64 : I64 (u : Int) := ⟨by omega, by omega⟩
       have hz64 : I64 0 := ⟨by decide, by decide⟩
       have hkI : I64 kk := by rcases hkk with rfl | rfl <;> exact ⟨by decide, by decide⟩
       have HKEY : Hid (⟨((restL (u : Int) T').flatMap termF).toArray⟩ = keyT (nsOf us) ⟨kk, u, meetN (nsOf us) T⟩) := hid (by unfold keyT; rw [rest_but, HM2.out])
       have HRS5 := hid (fun (W : World) (hb : Below w5.heap.size w5 W) => rest_any ⟨kk, u, 0, 0, T'⟩ (.slice At tl ct) W (HOT5.out.rd.lift hb hb.size) ⟨hkI, hi64, hz64, hz64, HOT5.out.2⟩ (by show T'.length ≤ 1000; rw [HTL.out]; omega) (fun w' h' => HTAB.out w' (bstep (bstep (bstep HBR.out HB5.out) hb) h')))
       dsimp only at HRS5
       rw [HKEY.out] at HRS5
       have HSZ : Hid ((keyT (nsOf us) ⟨kk, u, meetN (nsOf us) T⟩).size ≤ maxLen) := hid (by
        rw [← HKEY.out]
        show (((restL (u : Int) T').flatMap termF).toArray).size ≤ maxLen
        have h1 := flat_le (l := restL (u : Int) T') (fun t ht => HOT5.out.2 t (List.mem_filter.1 ht).1)
        have h2 : (restL (u : Int) T').length ≤ T'.length := List.length_filter_le _ _
        have h3 := HTL.out
        unfold maxLen
        rw [List.size_toArray]
        omega)
       generalize hkt : keyT (nsOf us) ⟨kk, u, meetN (nsOf us) T⟩ = kt at *
       have HKT := hid hkt
       have HS5 := hid hs5
       have HS4 := hid hs4
       have HSB := hid hsb
       clear hkt hs5 hs4 hsb
       go_cut [11] (fun kv wx => ∃ ka, kv = .pointer (some ⟨ka, 0, none⟩) ∧ ka < wx.heap.size ∧ wx.cell? ⟨ka, 0, none⟩ = some (.int .i64 kk) ∧ wx.cell? ⟨ka, 1, none⟩ = some (.int .i64 u) ∧ wx.cell? ⟨ka, 2, none⟩ = some (.string kt) ∧ Below w5.heap.size w5 wx)
       case first =>
        go_region_held3 (fun w' => w'.cell? ⟨wr.heap.size, 0, none⟩ = some (.int .i64 kk) ∧ w'.cell? ⟨wr.heap.size, 1, none⟩ = some (.int .i64 u) ∧ w'.cell? ⟨wr.heap.size, 2, none⟩ = some (.int .i64 0) ∧ w'.cell? ⟨wr.heap.size, 3, none⟩ = some (.int .i64 0) ∧ w'.cell? ⟨wr.heap.size, 4, none⟩ = some (.slice At tl ct)) (first | exact ⟨by assumption, by assumption, by assumption, by assumption, by assumption⟩ | exact ⟨keep3 hne5 f0, keep3 hne5 f1, keep3 hne5 f2, keep3 hne5 f3, keep3 hne5 f4⟩ | go_keep) (first
         | (go_at_call 21; refine (HRS5.out _ (Go.Proofs.YthneiolcljnbeaaGreatDoor.b0 w5).drew).mono ?_; rintro e w6 ⟨rfl, hb6⟩; have HB6 := hid ((Go.Proofs.YthneiolcljnbeaaGreatDoor.b0 w5).drew.trans (hb6.mono (Nat.le_refl _))); have f0 := cell_below HB6.out hblt b0; have f1 := cell_below HB6.out hblt b1; have f2 := cell_below HB6.out hblt b2; have f3 := cell_below HB6.out hblt b3; have f4 := cell_below HB6.out hblt b4; have hz6 := HB6.out.size; clear hb6)
         | (go_at_call 21; refine (HRS5.out _ (bdrew (balloc (Go.Proofs.YthneiolcljnbeaaGreatDoor.b0 w5) _))).mono ?_; rintro e w6 ⟨rfl, hb6⟩; have hb6' := hb6.mono (Nat.le_refl (w5.alloc (.cells #[.int .i64 0, .int .i64 0, .string ⟨#[]⟩] 76)).heap.size); have HB6 := hid ((bdrew (balloc (Go.Proofs.YthneiolcljnbeaaGreatDoor.b0 w5) (.cells #[.int .i64 0, .int .i64 0, .string ⟨#[]⟩] 76))).trans (hb6'.mono (by rw [World.size_alloc]; omega))); have f0 := cell_below HB6.out hblt b0; have f1 := cell_below HB6.out hblt b1; have f2 := cell_below HB6.out hblt b2; have f3 := cell_below HB6.out hblt b3; have f4 := cell_below HB6.out hblt b4; have hz6 := HB6.out.size; have n0 : w6.cell? ⟨w5.heap.size, 0, none⟩ = some (.int .i64 0) := new_below hb6' rfl; have n1 : w6.cell? ⟨w5.heap.size, 1, none⟩ = some (.int .i64 0) := new_below hb6' rfl; have n2 : w6.cell? ⟨w5.heap.size, 2, none⟩ = some (.string ⟨#[]⟩) := new_below hb6' rfl; have m0 : w6.frozen? ⟨w5.heap.size, 0, none⟩ = false := new_frozen hb6' 0; have m1 : w6.frozen? ⟨w5.heap.size, 1, none⟩ = false := new_frozen hb6' 1; have m2 : w6.frozen? ⟨w5.heap.size, 2, none⟩ = false := new_frozen hb6' 2; have hne5 := Nat.ne_of_lt hblt; clear hb6 hb6'))
        all_goals (go_wp2_with fail)
        all_goals (go_meet; first | exact ⟨_, rfl, key_A HB6.out⟩ | exact ⟨_, rfl, key_B n0 n1 n2 HB6.out⟩)
       case rest =>
        obtain ⟨ka, rfl, hkl, x0, x1, x2, hbc⟩ := hcut
        have HBC := hid hbc
        have HSTC := hid (HST3.out.later (bstep HB5.out hbc))
        have HBXC := hid (HBX5.out.keep (hbc.block wr.heap.size hblt))
        have HOTC := hid (HOT5.out.below hbc (Nat.le_refl _))
        have hsc := hbc.size
        obtain ⟨cm, hmap⟩ := HSTC.out.map
        have HMAP := hid hmap
        obtain ⟨kq, hkq⟩ : ∃ kq : AlikeK, kq = ⟨(kk, (u : Int), kt), hkI, hi64, HSZ.out⟩ := ⟨_, rfl⟩
        have HKV : Hid (alikeV kq = .agg #[.int .i64 kk, .int .i64 u, .string kt]) := hid (by rw [hkq]; rfl)
        have HKQ : Hid (kq.1 = ((⟨kk, u, meetN (nsOf us) T⟩ : RowN).kind, (((⟨kk, u, meetN (nsOf us) T⟩ : RowN).u : Nat) : Int), keyT (nsOf us) ⟨kk, u, meetN (nsOf us) T⟩)) := hid (by rw [hkq, HKT.out])
        have hk1 : kk ≠ 1 := by rcases hkk with rfl | rfl <;> decide
        obtain ⟨R, hR⟩ : ∃ R, (L.take k).foldl (addC us) R0 = R := ⟨_, rfl⟩
        have HRR := hid (HROKS.out k)
        rw [hR] at HSTC HMAP HAC HRR ⊢
        rw [hR] at HOUT
        clear hkq hmap hbc hR b0 b1 b2 b3 b4 bf
        cases hkf : keyF (nsOf us) R kq with
        | none =>
         have HKF := hid hkf
         have HPN := hid (keyF_none (r := ⟨kk, u, meetN (nsOf us) T⟩) HKQ.out hk1 hkf)
         have HKS := hid (fun j => keyF_snoc (r := ⟨kk, u, meetN (nsOf us) T⟩) HKQ.out hk1 hkf j)
         clear hkf
         have hmw := Nat.ne_of_gt hsz3.2
         have HNE : Hid (some wr.heap.size ≠ some mb) := hid (fun e => hmw (Option.some.inj e))
         have HRW := hid (show rowOf (nsOf us) ⟨kk, u, meetN (nsOf us) T⟩ = ⟨kk, u, 0, 0, T'⟩ by unfold rowOf; rw [HM2.out])
         have HRI := hid (show RowI ⟨kk, u, 0, 0, T'⟩ from ⟨hkI, hi64, hz64, hz64, HOT5.out.2⟩)
         have hBw : w.heap.size + 1 ≤ wc.heap.size := by have := HBC.out.size; have := HS5.out; omega
         have hR3 := HRR.out.2
         have hRL := HRLEN.out
         go_wp2_with (first
          | (at_lookup; go_must (refine wpList_lookup2_g rfl _ _ rfl kAlike Tryz.underlying70 (.int .i64 0) (zero_int _) mb cm _ rfl HMAP.out kq HKV.out.symm ?_; rw [HKF.out]; simp only [Option.getD_none, Option.isSome_none]))
          | (at_mapUpdate; go_must (refine wpList_update_g rfl _ _ _ rfl kAlike Tryz.underlying70 mb cm _ rfl HMAP.out kq (.int .i64 (R.length : Int)) HKV.out.symm rfl ?_; intro w6 n6 hm6 hn6a hn6b hg6 hs6; have HT6 := hid (HSTC.out.turned hg6 (hm6.congr HKS.out)); have HBX6 := hid (HBXC.out.keep (hg6.block wr.heap.size (Nat.lt_of_lt_of_le hblt hsc) HNE.out)); obtain ⟨⟨b0, b1, b2, b3, b4⟩, bf⟩ := HBX6.out.cells; dsimp only at b0 b1 b2 b3; have hbl6 := HBX6.out.lt; have HG6 := hid hg6; have HN6 := hid hs6; clear hm6 hn6a hn6b hg6 hs6))
          | (at_builtin; go_must (refine wpList_append_src _ rfl (.tmp 77) (.tmp 79) _ rfl (w.heap.size + 1) 32 ir _ 5 56 Tryz.underlying27 HIR.out.1 HIR.out.2.1 HIR.out.2.2.1 HIR.out.2.2.2 rfl (by omega) (.slice A4 R.length c4) R.length (rowsCells (R.map (rowOf (nsOf us))) tvs3) (by rfl) (by have h5 := HT6.out.1.own; rw [List.length_map] at h5; exact h5.alloc _) (some ⟨w6.heap.size, 0, none⟩) 1 1 [.int .i64 kk, .int .i64 u, .int .i64 0, .int .i64 0, .slice At tl ct] (by rfl) (by exact src_new _ _ rfl 5 _ rfl rfl) (by simp [Value.oneCell']) (by unfold maxLen; omega) (by omega) (by rw [World.size_alloc, HN6.out]; omega) ?_; intro v7 w7 hown7 hg7 hat7; have HOWN7 := hid hown7; have HG7 := hid hg7; have HAT7 := hid hat7; clear hown7 hg7 hat7)))
         have z1 := hkp.out.1
         have z2 := HB5.out.size
         have z3 := HBC.out.size
         have z4 := HN6.out
         have z5 := HSB.out
         have z6 := HG7.out.size
         rw [World.size_alloc] at z6
         have hb8 : ∀ O, Below w6.heap.size w6 (w6.alloc O) := fun O => balloc (Go.Proofs.YthneiolcljnbeaaGreatDoor.b0 w6) O
         have hot : ∀ O, OwnF fTerm 69 (w.heap.size + 1) (w6.alloc O) (.slice At tl ct) (canon (nsOf us) (meetN (nsOf us) T)) := fun O => by
          rw [← HM2.out]
          have h1 : OwnF fTerm 69 wb.heap.size w6 (.slice At tl ct) T' := ⟨ownsRow_keep HOTC.out.1 (fun gg hgg => HG6.out.block gg (HOTC.out.lt gg hgg).2 (fun e => by have e2 := Option.some.inj e; have e3 := (HOTC.out.lt gg hgg).1; have e4 := hsz3.2; omega)), HOTC.out.2⟩
          exact (h1.alloc O).mono (by omega)
         have hend := AllSt.snoc (ns := nsOf us) (B := w.heap.size + 1) (mb := mb) (w0 := w0) (r := ⟨kk, u, meetN (nsOf us) T⟩) (tv := .slice At tl ct) (HT6.out.1.below (hb8 _) (Nat.le_refl _)) (HT6.out.2.1.below (hb8 _) HT6.out.2.1.lt) (HT6.out.2.2.trans ((hb8 _).mono (by omega))) hmbs (by rw [HRW.out]; exact HOWN7.out) HG7.out (by rw [HRW.out]; exact HRI.out) (hot _) (fun j hj gg hgg e => by have e2 := (HST3.out.cop.lt.2 j hj gg hgg).2; have e3 := (HOTC.out.lt gg e).1; omega)
         have hout : Out wo.heap.size w2.heap.size v7 (tvs3 ++ [.slice At tl ct]) := fun bl h1 h2 => ⟨fun e => HAT7.out.elim (fun e2 => (HOUT.out bl h1 h2).1 (e2.symm.trans e)) (fun e2 => by have e3 := Option.some.inj (e2.symm.trans e); rw [World.size_alloc] at e3; omega), fun tv' htv e => by
          rcases List.mem_append.1 htv with h | h
          ·exact (HOUT.out bl h1 h2).2 tv' h e
          ·rw [List.mem_singleton.1 h] at e
           have e3 := (HOTC.out.lt bl e).1
           omega⟩
         have hkin : KeptIn wo.heap.size w2.heap.size w2 w7 := ⟨by omega, fun bl h1 h2 => ((((HG7.out.block bl (by rw [World.size_alloc]; omega) (fun e => (HOUT.out bl h1 h2).1 e.symm)).trans ((hb8 _).block bl (by omega))).trans (HG6.out.block bl (by omega) (fun e => by have e2 := Option.some.inj e; have e4 := hmbw; omega))).trans ((bstep HB5.out HBC.out).block bl (by omega))).trans (hkp.out.2 bl h1 h2)⟩
         exact ⟨⟨k + 1, by omega, by go_num, hid ⟨tvs3 ++ [.slice At tl ct], by rw [HAC.out, HPN.out]; exact hend, hout⟩, hid hkin⟩, by simp [intOf]; omega⟩
        | some v =>
         have HKF := hid hkf
         obtain ⟨i, hi, hv, hlk, hput⟩ := keyF_some (r := ⟨kk, u, meetN (nsOf us) T⟩) HKQ.out hk1 hkf
         have HPUT := hid hput
         have HKS := hid (fun j => keyF_set hi hlk j)
         have HBC2 := hid (both_canon HNS.out (HRR.out.1 _ (List.getElem_mem hi)) HRO.out hk1 hlk HMU.out)
         subst hv
         have hi2 : i < tvs3.length := by rw [HSTC.out.len]; exact hi
         have hi3 : i < (R.map (rowOf (nsOf us))).length := by rw [List.length_map]; exact hi
         obtain ⟨gr, c9, hv9, hgB, hgr, hcell⟩ := HSTC.out.cop.at_row hi3 hi2
         injection hv9 with e1 e2 e3
         subst e1
         have hri : (R.map (rowOf (nsOf us)))[i]'hi3 = rowOf (nsOf us) R[i] := by rw [List.getElem_map]
         have hi0 : (0 : Int) ≤ ↑i := by omega
         have hi1 : (↑i : Int) < ↑R.length := by omega
         have htn : ∃ A c, tvs3[i] = .slice A (canon (nsOf us) R[i].M).length c := by
          have h1 := own_form (HSTC.out.cop.terms i hi3 hi2)
          rw [hri] at h1
          exact h1
         obtain ⟨Ai, ci, hti⟩ := htn
         have hcell2 : wc.cell? ⟨gr, i * 5 + 4, none⟩ = some (.slice Ai (canon (nsOf us) R[i].M).length ci) := by rw [← hti]; exact hcell
         obtain ⟨tn9, htn9⟩ : ∃ tn9, (canon (nsOf us) R[i].M).length = tn9 := ⟨_, rfl⟩
         have HTN9 := hid htn9
         have HTI := hid hti
         rw [htn9] at hcell2
         clear hkf hput hlk e2 e3 hcell hti htn9
         go_wp2_with (first
          | (at_lookup; go_must (refine wpList_lookup2_g rfl _ _ rfl kAlike Tryz.underlying70 (.int .i64 0) (zero_int _) mb cm _ rfl HMAP.out kq HKV.out.symm ?_; rw [HKF.out]; simp only [Option.getD_some, Option.isSome_some])))
         have HTS : Hid (∀ t ∈ canon (nsOf us) R[i].M, ∃ a : Nat, a ≤ 31 ∧ t.mask = (a : Int)) := hid (fun t ht => by
          unfold canon canonTo at ht
          obtain ⟨v, hv, e⟩ := List.mem_filterMap.1 ht
          unfold tm at e
          split at e
          ·cases e
          ·have e2 := Option.some.inj e
           rw [← e2]
           have hx := (HRR.out.1 _ (List.getElem_mem hi)).inc.sub v (List.mem_range.1 hv)
           exact ⟨_, Nat.le_trans (by rw [← hx]; exact Nat.and_le_right) (fullN_le HNS.out v), rfl⟩)
         obtain ⟨TS, hTS⟩ : ∃ TS, canon (nsOf us) R[i].M = TS := ⟨_, rfl⟩
         have HTSE := hid hTS
         rw [hTS] at HTS HBC2 HTN9 HTI
         have hrow : rowOf (nsOf us) R[i] = { rowOf (nsOf us) R[i] with terms := turnT (orT (u : Int) (2 ^ (p + 1))) TS 0 } := by rw [turnT_zero, ← hTS]; rfl
         have HC0 : Hid (Copied 32 69 wc (w.heap.size + 1) (.slice (some ⟨gr, 0, none⟩) R.length c4) ((R.map (rowOf (nsOf us))).set i { rowOf (nsOf us) R[i] with terms := turnT (orT (u : Int) (2 ^ (p + 1))) TS 0 }) tvs3) := hid (by
          rw [← hrow, ← hri, List.set_getElem_self]
          exact HSTC.out.cop)
         have HKC : Hid (KeptIn wo.heap.size w2.heap.size w2 wc) := hid ⟨by have := hkp.out.1; have := HB5.out.size; omega, fun bl h1 h2 => ((bstep HB5.out HBC.out).block bl (by have := hkp.out.1; omega)).trans (hkp.out.2 bl h1 h2)⟩
         have HBLC := hid HSTC.out.bel
         have HMC := hid HSTC.out.map
         clear hTS hrow
         go_loopw [87] (fun jv wq => ∃ j : Nat, j ≤ tn9 ∧ jv = .int .i64 j ∧ Hid (Copied 32 69 wq (w.heap.size + 1) (.slice (some ⟨gr, 0, none⟩) R.length c4) ((R.map (rowOf (nsOf us))).set i { rowOf (nsOf us) R[i] with terms := turnT (orT (u : Int) (2 ^ (p + 1))) TS j }) tvs3) ∧ Hid (∃ c, MapG kAlike wq mb c (keyF (nsOf us) R)) ∧ Hid (Below (w.heap.size + 1) w0 wq) ∧ Hid (KeptIn wo.heap.size w2.heap.size w2 wq)) (fun jv _ => tn9 - (intOf jv).toNat)
         case atStart => exact ⟨0, Nat.zero_le _, rfl, HC0, HMC, HBLC, HKC⟩
         case round =>
          obtain ⟨j, hj, rfl, hcq, hmq, hbq, hkq⟩ := hrel
          by_cases hltj : j < tn9
          ·have hjT : j < TS.length := by rw [HTN9.out]; exact hltj
           have hjt2 : j < (turnT (orT (u : Int) (2 ^ (p + 1))) TS j).length := by rw [turnT_len]; exact hjT
           obtain ⟨gt, ct2, hta, htb, htB, htlt, htf, hu0, hm0⟩ := hcq.out.at_term_set hi3 hi2 hjt2
           obtain ⟨gr2, c92, hv92, -, hgr2, hcq4⟩ := hcq.out.at_row (i := i) (by rw [List.length_set]; exact hi3) hi2
           dsimp only at hta hu0 hm0
           rw [turnT_at _ _ hjT] at hu0 hm0
           rw [turnT_len, HTN9.out] at hta
           rw [hta] at hcq4
           injection hv92 with q1 q2 q3
           injection q1 with q1
           injection q1 with q1 _
           subst q1
           obtain ⟨am, ham, hame⟩ := HTS.out _ (List.getElem_mem hjT)
           rw [hame] at hm0
           have HSM := hid (fun m hm => hcq.out.setMask_set hi3 hi2 htb hjt2 m hm)
           have HTU := hid (turnT_succ (orT (u : Int) (2 ^ (p + 1))) TS hjT)
           obtain ⟨au, hau⟩ : ∃ au, TS[j].unit = au := ⟨_, rfl⟩
           have HAU := hid hau
           have HAM := hid hame
           rw [hau] at hu0
           have htn11 : tn9 ≤ 100 := by
            rw [← HTN9.out, ← HTSE.out]
            exact Nat.le_trans (canonTo_len _ _) (by simp [nsOf]; omega)
           have hwj := wrap_small hltj htn11
           have k2 : (0 : Int) ≤ ↑j := Int.natCast_nonneg j
           have k3 : (↑j : Int) < ↑tn9 := Int.ofNat_lt.2 hltj
           clear q2 q3 hta hau hame
           by_cases hue : au = (u : Int)
           ·have hz9 : (au == (u : Int)) = true := beq_iff_eq.2 hue
            subst hue
            obtain ⟨pq, hpq, hpq31, hw1, hw2, hw3, i4, i5⟩ := place_facts (Nat.lt_of_lt_of_le hltp hn4)
            have hor := or_fact am pq ham hpq31
            have hor31 := or_le31 ham hpq31
            have htf1 := htf (j * 2 + 1)
            have HCF : Hid (Copied 32 69 (wr.setCell ⟨gt, j * 2 + 1, none⟩ (.int .i64 ((am ||| pq : Nat) : Int))).drew (w.heap.size + 1) (.slice (some ⟨gr, 0, none⟩) R.length c4) ((R.map (rowOf (nsOf us))).set i { rowOf (nsOf us) R[i] with terms := turnT (orT (u : Int) (2 ^ (p + 1))) TS (j + 1) }) tvs3) := hid (by
             have h1 := HSM.out ((am ||| pq : Nat) : Int) (i64_le31 hor31)
             have h2 : turnT (orT (u : Int) (2 ^ (p + 1))) TS (j + 1) = (turnT (orT (u : Int) (2 ^ (p + 1))) TS j).set j ⟨((turnT (orT (u : Int) (2 ^ (p + 1))) TS j)[j]'hjt2).unit, ((am ||| pq : Nat) : Int)⟩ := by
              rw [HTU.out, turnT_at _ _ hjT]
              congr 1
              unfold orT
              rw [if_pos HAU.out, HAM.out, nm_nat (Nat.lt_of_le_of_lt ham (by decide)), hpq]
             rw [h2]
             exact h1.below (Go.Proofs.YthneiolcljnbeaaGreatDoor.b0 _).drew (Nat.le_refl _))
            have HMF : Hid (∃ c, MapG kAlike (wr.setCell ⟨gt, j * 2 + 1, none⟩ (.int .i64 ((am ||| pq : Nat) : Int))).drew mb c (keyF (nsOf us) R)) := hid (by
             obtain ⟨cq, hq⟩ := hmq.out
             have hne := hq.ne_own (hcq.out.terms i (by rw [List.length_set]; exact hi3) hi2) htb
             have h1 := hq.keep (w' := wr.setCell ⟨gt, j * 2 + 1, none⟩ (.int .i64 ((am ||| pq : Nat) : Int))) (heap_setCell_other _ _ _ _ hne.symm)
             exact ⟨cq, h1.below (Go.Proofs.YthneiolcljnbeaaGreatDoor.b0 _).drew h1.lt⟩)
            have HBF : Hid (Below (w.heap.size + 1) w0 (wr.setCell ⟨gt, j * 2 + 1, none⟩ (.int .i64 ((am ||| pq : Nat) : Int))).drew) := hid (hbq.out.setCell (p := ⟨gt, j * 2 + 1, none⟩) htB _).drew
            have HKF2 : Hid (KeptIn wo.heap.size w2.heap.size w2 (wr.setCell ⟨gt, j * 2 + 1, none⟩ (.int .i64 ((am ||| pq : Nat) : Int))).drew) := hid ⟨by
             show w2.heap.size ≤ (wr.setCell _ _).heap.size
             rw [World.size_setCell]
             exact hkq.out.1, fun b h1 h2 => (heap_setCell_other _ _ _ _ (fun e => (HOUT.out b h1 h2).2 tvs3[i] (List.getElem_mem hi2) (htb.trans (congrArg some e.symm)))).trans (hkq.out.2 b h1 h2)⟩
            clear hpq
            go_wp2_with fail
            go_region
            go_wp2_with fail
            exact ⟨⟨j + 1, hltj, by rw [hwj, round_int], HCF, HMF, HBF, HKF2⟩, by rw [hwj]; exact round_less hltj⟩
           ·have hz9 : (au == (u : Int)) = false := beq_false_of_ne hue
            have HST9 : Hid (turnT (orT (u : Int) (2 ^ (p + 1))) TS (j + 1) = turnT (orT (u : Int) (2 ^ (p + 1))) TS j) := hid (by
             rw [HTU.out]
             have e1 : orT (u : Int) (2 ^ (p + 1)) TS[j] = (turnT (orT (u : Int) (2 ^ (p + 1))) TS j)[j]'hjt2 := by
              rw [turnT_at _ _ hjT]
              unfold orT
              rw [if_neg (by rw [HAU.out]; exact hue)]
             rw [e1, List.set_getElem_self])
            clear hue
            go_wp2_with fail
            exact ⟨⟨j + 1, hltj, by rw [hwj, round_int], hid (by rw [HST9.out]; exact hcq.out), hmq, hbq, hkq⟩, by rw [hwj]; exact round_less hltj⟩
          ·have hje : j = tn9 := by omega
           subst hje
           have HFIN : Hid (AllSt (nsOf us) (w.heap.size + 1) w0 wr mb (.slice (some ⟨gr, 0, none⟩) R.length c4) ((L.take (k + 1)).foldl (addC us) R0) tvs3) := hid (by
            rw [HAC.out, HPUT.out]
            refine ⟨?_, ?_, hbq.out, hmbs⟩
            ·have h1 := hcq.out
             rw [← HTN9.out, turnT_all, ← HBC2.out] at h1
             rw [List.map_set]
             exact h1
            ·obtain ⟨cq, hq⟩ := hmq.out
             exact ⟨cq, hq.congr HKS.out⟩)
           clear hltj
           go_wp2_with fail
           exact ⟨⟨k + 1, by omega, by go_num, hid ⟨tvs3, HFIN.out, HOUT.out⟩, hkq⟩, by simp [intOf]; omega⟩
     ·have hke : k = nl := by omega
      subst hke
      have HRF : Hid ((L.take k).foldl (addC us) R0 = rowsAt us u (p + 1)) := hid (by rw [HRS.out, ← HNL.out, List.take_length])
      rw [HRF.out] at HST3 ⊢
      clear hltk
      go_wp2_with fail
      simp only [Exit.noGoto]
      go_wp2
      exact ⟨⟨u, p + 1, by omega, rfl, by go_num, fun _ => by rw [HN.out]; omega, fun e => absurd e (by omega), hid ⟨tvs3, HST3.out⟩⟩, by simp [intOf]; omega⟩
   ·have hpe : p = n := by omega
    subst hpe
    have j0 : ¬ (↑p : Int) < ↑p := by omega
    have HR2 : Hid (rowsAt us (u + 1) 0 = rowsAt us u p) := hid (by rw [rowsAt_zero, HRA.out, HUS.out, HN.out])
    go_wp2
    go_step3
    go_wp2
    simp only [Exit.noGoto]
    go_wp2
    exact ⟨⟨u + 1, 0, by omega, by go_num, rfl, fun _ => Nat.zero_le _, fun _ => rfl, hid ⟨tvs, by rw [HR2.out]; exact HST.out⟩⟩, by simp [intOf]; omega⟩
  ·have hue : u = us.length := by omega
   have hpz := hp0 hue
   subst hpz
   have i1 : ¬ (↑u : Int) < ↑us.length := by omega
   have HE : Hid (rowsAt us u 0 = allN us) := hid (by rw [rowsAt_zero, hue]; rfl)
   clear hpl hp0 hue hlt
   go_wp2
   go_ret
   exact ⟨_, tvs, rfl, by rw [← HE.out]; exact HST.out.cop.mono (by omega), HBW.out⟩
end Go.Proofs.YthneiolcljnbeaaGreatDoor
