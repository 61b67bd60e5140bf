import Derived.Test.YthneiolcljnbeaaGreatDoorzN10
import Derived.Test.YthneiolcljnbeaaGreatDoorzY16
import Derived.Outline
import Derived.Deep.RegionHeld3
import Derived.Deep.DeepCutAuto
import Derived.Deep.RegionLaw
namespace Go.Proofs.YthneiolcljnbeaaGreatDoor
open Go Go.RowKit
section
theorem zero_int (w : World) : (zeroValue 3).run Tryz.prog w = .ok (.int .i64 0) w := by kernel_rfl
theorem own_ints_at {e : TypeId} {B : Nat} {w : World} {l : List Int} {A : Option Addr} {n c : Nat} (h : OwnF fInt e B w (.slice A n c) l) {j : Nat} (hj : j < l.length) : ∃ g o, A = some ⟨g, o, none⟩ ∧ g < w.heap.size ∧ w.cell? ⟨g, o + j, none⟩ = some (.int .i64 l[j]) ∧ I64 l[j] := by
 obtain ⟨A', cap', hkv, -, -, hkc⟩ := SliceRd.ints h.rd
 obtain ⟨gk, ok, hA', hFk, kc, ki⟩ := hkc j hj
 have e1 : A = A' := by injection hkv
 exact ⟨gk, ok, e1.trans hA', hFk, kc, ki⟩
def MapAt (ns : List Nat) (l : List Term) (mb k : Nat) (w : World) : Prop := ∃ n, n ≤ k ∧ MapI Tryz.prog 3 w mb n (mapOf ns (l.take k))
def TermsOwn (r : Option (List Term)) (w : World) (e : Ending) (w' : World) : Prop := ∃ sv, e = .returned (.tuple #[sv, .bool r.isSome]) ∧ OwnF fTerm 69 w.heap.size w' sv (r.getD []) ∧ Below w.heap.size w w'
theorem TermsOwn.new {r : Option (List Term)} {w w' : World} {e : Ending} (h : TermsOwn r w e w') : TermsNew r w e w' := by
 obtain ⟨sv, h1, h2, h3⟩ := h
 exact ⟨sv, h1, own_new_terms h2 (Nat.le_refl _), h3⟩
set_option maxRecDepth 100000 in
set_option maxHeartbeats 4000000 in
theorem make_own (v lv : Value) (ns : List Nat) (l : List Term) (w : World) (h : UniRd w (Lt w.heap.size) v ns) (ho : NsOk ns) (hl : SliceRd tTerm w (Lt w.heap.size) lv l) (hlen : l.length ≤ 1000) :
  Calls Tryz.prog 20 #[v, lv] w (TermsOwn (makeN ns l) w) := by
 have HH := hid h
 have HO := hid ho
 obtain ⟨g, cap0, rfl, hg, -⟩ := h
 obtain ⟨it, hit⟩ := info_parts term_info
 have HIT := hid hit
 obtain ⟨A, cap, rfl, hcap, hmax, hc⟩ := hl.terms
 unfold maxLen at hmax
 have HC := hid hc
 clear ho hc hl hit
 go_enter Tryz.func20, Tryz.ntmps20
 have hmm := @run_makeMap Tryz.prog
 go_wp2_with fail
 clear hmm
 obtain ⟨w0, hw0⟩ : ∃ w0 : World, w0 = w.alloc (.cells #[.slice (some ⟨g, 0, none⟩) ns.length cap0] 25) := ⟨_, rfl⟩
 have hb0 : Below w.heap.size w w0 := hw0 ▸ balloc (b0 w) _
 have hs0 : w0.heap.size = w.heap.size + 1 := by rw [hw0]; simp
 have q0 : w0.cell? ⟨w.heap.size, 0, none⟩ = some (.slice (some ⟨g, 0, none⟩) ns.length cap0) := by rw [hw0, alloc_cell]; rfl
 have HB0 := hid hb0
 have HQ := hid q0
 have HU0 := hid (uni_later HH.out hb0)
 have HBM := hid (balloc (b0 w0) (.map #[] 0))
 rw [← hw0]
 clear hw0 hb0 q0
 obtain ⟨mb, hmbe⟩ : ∃ mb, mb = w.heap.size + 1 := ⟨_, rfl⟩
 have HMP0 : Hid (MapI Tryz.prog 3 (w0.alloc (.map #[] 0)) mb 0 (fun _ => none)) := hid (by rw [hmbe, ← hs0]; exact MapI.made _ _ _)
 have hmbg : w0.heap.size ≤ mb := by omega
 rw [← hmbe]
 clear hmbe
 go_loopw [8, 9, 10, 17] (fun _ _ _ iv wr => ∃ k : Nat, k ≤ l.length ∧ iv = .int .i64 k ∧ Hid (MapAt ns l mb k wr) ∧ Hid (Below w0.heap.size w0 wr) ∧ Hid (∀ j, (hj : j < l.length) → j < k → meetI ns (l.take k) l[j].unit ≠ 0)) (fun _ _ _ iv _ => l.length - (intOf iv).toNat)
 case atStart => exact ⟨0, Nat.zero_le _, rfl, hid ⟨0, Nat.le_refl _, HMP0.out.congr (fun u _ => by rw [List.take_zero]; rfl)⟩, HBM, hid (fun j _ hj => absurd hj (by omega))⟩
 case round =>
  obtain ⟨k, hk, rfl, hmap, hb, hnz⟩ := hrel
  by_cases hlt : k < l.length
  ·obtain ⟨gg, o, hA, hF, g0, g1, i64u, i64m⟩ := HC.out k hlt
   subst hA
   obtain ⟨n, hn, hM⟩ := hmap.out
   have hmlt := hM.lt
   have c0 := cell_below hb.out (Nat.lt_of_lt_of_le hF HB0.out.size) (cell_below HB0.out hF g0)
   have c1 := cell_below hb.out (Nat.lt_of_lt_of_le hF HB0.out.size) (cell_below HB0.out hF g1)
   have i1 : (0 : Int) ≤ ↑k := by omega
   have i2 : (↑k : Int) < ↑l.length := by omega
   have hX := meetI_le HO.out (l.take k) l[k].unit
   have hbits := and_fact (meetI ns (l.take k) l[k].unit) l[k].mask hX
   have hNEW := meetI_take (ns := ns) hlt l[k].unit
   rw [if_pos rfl] at hNEW
   have HMO := hid (fun u => mapOf_step (ns := ns) hlt u)
   have hX2 : meetI ns (l.take k) l[k].unit &&& nm l[k].mask ≤ 31 := Nat.le_trans Nat.and_le_left hX
   have HNAMED := hid (fun h : named (l.take k) l[k].unit = true => have_named (ns := ns) h)
   have HUNNAMED := hid (fun h : named (l.take k) l[k].unit = false => have_unnamed (ns := ns) h)
   have HUNF := hid (fun h : named (l.take k) l[k].unit = false => meetI_unnamed (ns := ns) h)
   have HZERO := hid (fun h : meetI ns (l.take (k + 1)) l[k].unit = 0 => make_zero hlt h)
   have HNZ : Hid (meetI ns (l.take (k + 1)) l[k].unit ≠ 0 → ∀ j, (hj : j < l.length) → j < k + 1 → meetI ns (l.take (k + 1)) l[j].unit ≠ 0) := hid (fun h0 j hj hjk => by
    by_cases e : l[j].unit = l[k].unit
    ·rw [e]; exact h0
    ·rw [meetI_take hlt, if_neg (fun h => e h.symm)]
     exact hnz.out j hj (by
      rcases Nat.lt_or_ge j k with h1 | h1
      ·exact h1
      ·have : j = k := by omega
       subst this
       exact absurd rfl e))
   rw [hNEW] at HZERO HNZ
   obtain ⟨a, ha⟩ : ∃ a, l[k].unit = a := ⟨_, rfl⟩
   obtain ⟨m, hm⟩ : ∃ m, l[k].mask = m := ⟨_, rfl⟩
   rw [ha] at c0 i64u hX hbits HMO hX2 HNAMED HUNNAMED HUNF HZERO HNZ
   rw [hm] at c1 i64m hbits HMO hX2 HZERO HNZ
   generalize hnw : meetI ns (l.take k) a &&& nm m = nw at hbits HMO hX2 HZERO HNZ
   generalize meetI ns (l.take k) a = X at *
   have HM := hid hM
   have HI := hid (And.intro i64u i64m)
   have hne : mb ≠ wr.heap.size := by omega
   have hnm : n < maxLen := by unfold maxLen; omega
   have hlr := Nat.lt_of_lt_of_le (show w.heap.size < w0.heap.size by omega) hb.out.size
   have hd := cell_below hb.out (show w.heap.size < w0.heap.size by omega) HQ.out
   have hnw64 : Hid (I64 (nw : Int)) := hid (i64_small hX2)
   have hMA : ∀ ob, Hid (MapI Tryz.prog 3 (wr.alloc ob) mb n (mapOf ns (l.take k))) := fun ob => hid (hM.below (balloc (b0 wr) ob) hmlt)
   clear g0 g1 ha hm hM i64u i64m hNEW hnw hmap
   cases hnd : named (l.take k) a with
   | true =>
    have hf := HNAMED.out hnd
    have HF := hid hf
    clear hnd hf
    by_cases hz : nw = 0
    ·have HN := hid (HZERO.out hz)
     subst hz
     go_wp2_with (at_lookup; go_must (refine wpList_look2_i rfl _ _ rfl Tryz.underlying112 Tryz.underlying3 (zero_int _) mb n _ rfl (hMA _).out a rfl HI.out.1 ?_; rw [HF.out]; simp only [Option.getD_some, Option.isSome_some]))
     go_ret2
     exact ⟨_, by rw [HN.out]; rfl, by rw [HN.out]; exact OwnF.nil _ _ _ _, bstep HB0.out (balloc hb.out _)⟩
    ·have z1 : ((nw : Int) == 0) = false := by simp; omega
     have HZ := hid (HNZ.out hz)
     clear hz
     go_wp2_with (first
      | (at_lookup; go_must (refine wpList_look2_i rfl _ _ rfl Tryz.underlying112 Tryz.underlying3 (zero_int _) mb n _ rfl (hMA _).out a rfl HI.out.1 ?_; rw [HF.out]; simp only [Option.getD_some, Option.isSome_some]))
      | (at_mapUpdate; go_must (refine wpList_upd_i rfl _ _ _ rfl Tryz.underlying112 Tryz.underlying3 mb n _ rfl (hMA _).out hnm a (nw : Int) rfl rfl HI.out.1 hnw64.out ?_; intro w5 hm5 hg5; have HM5 := hid hm5; have HB5 := hid (below_map' (balloc hb.out _) hg5 hmbg); clear hm5 hg5)))
     exact ⟨⟨k + 1, by omega, by go_num, hid ⟨n + 1, by omega, HM5.out.congr (fun u _ => (HMO.out u).symm)⟩, HB5, HZ⟩, by simp [intOf]; omega⟩
   | false =>
    have hf := HUNNAMED.out hnd
    have HF := hid hf
    have HFF := hid (HUNF.out hnd)
    clear hnd hf
    have hUA : ∀ ob, Hid (UniRd (wr.alloc ob) (Lt (wr.alloc ob).heap.size) (.agg #[.slice (some ⟨g, 0, none⟩) ns.length cap0]) ns) := fun ob => hid (uni_later HU0.out (balloc hb.out ob))
    have hda : ∀ ob, (wr.alloc ob).cell? ⟨w.heap.size, 0, none⟩ = some (.slice (some ⟨g, 0, none⟩) ns.length cap0) := fun ob => cell_below (balloc (b0 wr) ob) hlr hd
    by_cases hz : nw = 0
    ·have HN := hid (HZERO.out hz)
     subst hz
     go_wp2_with (first
      | (at_lookup; go_must (refine wpList_look2_i rfl _ _ rfl Tryz.underlying112 Tryz.underlying3 (zero_int _) mb n _ rfl (hMA _).out a rfl HI.out.1 ?_; rw [HF.out]; simp only [Option.getD_none, Option.isSome_none]))
      | (go_at_call 47; go_must (refine (full_any _ ns a _ _ (hUA _).out HO.out (fun _ h => h)).mono ?_; rintro e w2 ⟨rfl, hb2⟩; rw [← HFF.out]; have e0 := cell_below hb2 (by simp) ((alloc_cell wr #[.int .i64 a, .int .i64 m] 69 0).trans rfl); have e1 := cell_below hb2 (by simp) ((alloc_cell wr #[.int .i64 a, .int .i64 m] 69 1).trans rfl); have HB2 := hid (bstep (balloc hb.out _) hb2); clear hb2)))
     go_ret2
     exact ⟨_, by rw [HN.out]; rfl, by rw [HN.out]; exact OwnF.nil _ _ _ _, bstep HB0.out HB2.out⟩
    ·have z1 : ((nw : Int) == 0) = false := by simp; omega
     have HZ := hid (HNZ.out hz)
     clear hz
     go_wp2_with (first
      | (at_lookup; go_must (refine wpList_look2_i rfl _ _ rfl Tryz.underlying112 Tryz.underlying3 (zero_int _) mb n _ rfl (hMA _).out a rfl HI.out.1 ?_; rw [HF.out]; simp only [Option.getD_none, Option.isSome_none]))
      | (go_at_call 47; go_must (refine (full_any _ ns a _ _ (hUA _).out HO.out (fun _ h => h)).mono ?_; rintro e w2 ⟨rfl, hb2⟩; rw [← HFF.out]; have e0 := cell_below hb2 (by simp) ((alloc_cell wr #[.int .i64 a, .int .i64 m] 69 0).trans rfl); have e1 := cell_below hb2 (by simp) ((alloc_cell wr #[.int .i64 a, .int .i64 m] 69 1).trans rfl); have HM2 := hid ((hMA _).out.below hb2 (by simp; omega)); have HB2 := hid (bstep (balloc hb.out _) hb2); clear hb2))
      | (at_mapUpdate; go_must (refine wpList_upd_i rfl _ _ _ rfl Tryz.underlying112 Tryz.underlying3 mb n _ rfl HM2.out hnm a (nw : Int) rfl rfl HI.out.1 hnw64.out ?_; intro w5 hm5 hg5; have HM5 := hid hm5; have HB5 := hid (below_map' HB2.out hg5 hmbg); clear hm5 hg5)))
     exact ⟨⟨k + 1, by omega, by go_num, hid ⟨n + 1, by omega, HM5.out.congr (fun u _ => (HMO.out u).symm)⟩, HB5, HZ⟩, by simp [intOf]; omega⟩
  ·have hkl : k = l.length := by omega
   have hmk := make_all (ns := ns) (l := l) (fun j hj => by
    have := hnz.out j hj (by omega)
    rwa [List.take_of_length_le (by omega)] at this)
   have HN := hid hmk
   have HIN : Hid (inR ns l = true) := hid (by
    cases hr : inR ns l with
    | true => rfl
    | false => rw [makeN_bad hr] at hmk; cases hmk)
   obtain ⟨n, hn, hM0⟩ := hmap.out
   rw [List.take_of_length_le (by omega)] at hM0
   have hmlt := hM0.lt
   have HM := hid hM0
   have hn1000 : n ≤ 10000 := by omega
   have HNN := hid (show n ≤ 1000 by omega)
   have HBW := hb
   clear hmk hmap hnz hM0 hn
   go_wp2_with (first
    | (go_at_call 49; go_must (refine (keys_any _ _).mono ?_; rintro e w2 ⟨rfl, hw2⟩; have hkb : wr.heap.size < w2.heap.size := (by rw [hw2]; simp); have hkc : w2.cell? ⟨wr.heap.size, 0, none⟩ = some (.map (some mb)) := (by rw [hw2, alloc_cell]; rfl); have hb2 : Below wr.heap.size wr w2 := hw2 ▸ balloc (b0 wr) _; have HS := hid (sorted_any wr.heap.size mb n _ w2 hkc hkb (HM.out.below hb2 hmlt) hn1000); have HB2 := hid (bstep HBW.out hb2); have HM2 := hid (HM.out.below hb2 hmlt); clear hkb hkc hb2 hw2))
    | (go_at_call 48; go_must (refine HS.out.mono ?_; rintro e w3 ⟨kv, ks, rfl, hks, hris, hmem, hkl2, hb3⟩; have HKS := hid hks; obtain ⟨Ak, ck, rfl⟩ := hks.form; have HRIS := hid hris; have HMEM := hid hmem; have HM3 := hid (HM2.out.below hb3 HM2.out.lt); have HB3 := hid (bstep HB2.out hb3); clear hks hris hmem hb3 HS)))
   have hks1000 : ks.length ≤ 1000 := by have := HNN.out; omega
   have hml3 := HM3.out.lt
   go_loopw [11, 13, 49] (fun ov _ jv wr => ∃ j : Nat, j ≤ ks.length ∧ jv = .int .i64 j ∧ Hid (OwnF fTerm 69 w3.heap.size wr ov ((ks.take j).filterMap (gI ns l))) ∧ Hid (Below w3.heap.size w3 wr)) (fun _ _ jv _ => ks.length - (intOf jv).toNat)
   case atStart => exact ⟨0, Nat.zero_le _, rfl, hid (OwnF.nil _ _ _ _), hid (b0 w3)⟩
   case round =>
    obtain ⟨j, hj, rfl, hown, hbq⟩ := hrel
    obtain ⟨Ao, co, rfl⟩ := hown.out.form
    by_cases hjl : j < ks.length
    ·obtain ⟨gk, ok, hA', hFk, kc, ki⟩ := own_ints_at HKS.out hjl
     subst hA'
     have c0 := cell_below hbq.out hFk kc
     have hnm := (HMEM.out ks[j]).1 (List.getElem_mem hjl)
     have hnd : named l ks[j] = true := by
      cases hx : named l ks[j] with
      | true => rfl
      | false => have := hnm.2; rw [have_unnamed hx] at this; cases this
     have hmv := have_named (ns := ns) hnd
     have hX := meetI_le HO.out l ks[j]
     have HTK : Hid ((ks.take (j + 1)).filterMap (gI ns l) = (ks.take j).filterMap (gI ns l) ++ (gI ns l ks[j]).toList) := hid (by
      rw [List.take_succ_eq_append_getElem hjl, List.filterMap_append]
      cases hg : gI ns l ks[j] <;> simp [hg])
     have hg1 : gI ns l ks[j] = if ((meetI ns l ks[j] : Nat) : Int) = fullF ns ks[j] then none else some ⟨ks[j], ((meetI ns l ks[j] : Nat) : Int)⟩ := rfl
     rw [hg1] at HTK
     have hlen2 : ((ks.take j).filterMap (gI ns l)).length ≤ 1000 := Nat.le_trans (List.length_filterMap_le _ _) (by rw [List.length_take]; omega)
     obtain ⟨u, hu⟩ : ∃ u, ks[j] = u := ⟨_, rfl⟩
     rw [hu] at c0 hmv hX HTK ki
     generalize meetI ns l u = X at hmv hX HTK
     have hMq := HM3.out.below hbq.out hml3
     have HMQ := hid hMq
     have hlook := fun e : Later wr => (hMq.below e.below hMq.lt).run_look Tryz.underlying112 Tryz.underlying3 (zero_int e.w) u ki
     rw [hmv] at hlook
     simp only [Option.getD_some] at hlook
     have HMV := hid hmv
     have hlr : w.heap.size < wr.heap.size := Nat.lt_of_lt_of_le (show w.heap.size < w0.heap.size by omega) (Nat.le_trans HB3.out.size hbq.out.size)
     have hb0q := bstep HB3.out hbq.out
     have l0 := later_cell hlr (cell_below hb0q (show w.heap.size < w0.heap.size by omega) HQ.out)
     have hur := uni_later HU0.out hb0q
     have HCALL := hid (fun e : Later wr => full_any _ ns u e.w _ (uni_lat hur e) HO.out (fun _ h => h))
     have i1 : (0 : Int) ≤ ↑j := by omega
     have i2 : (↑j : Int) < ↑ks.length := by omega
     have hgk : gk < wr.heap.size := Nat.lt_of_lt_of_le hFk hbq.out.size
     have HI64 := hid (And.intro ki (i64_small hX))
     clear kc hnm hnd hu hMq hmv hur ki hg1
     by_cases hf : (X : Int) = fullF ns u
     ·rw [← hf] at HCALL
      have HS2 : Hid ((ks.take (j + 1)).filterMap (gI ns l) = (ks.take j).filterMap (gI ns l)) := hid (by rw [HTK.out, if_pos hf]; simp)
      have z1 : ((X : Int) != X) = false := by simp
      clear hf
      go_wp2_with fail
      (refine wp_region_later (by kernel_rfl) (by kernel_rfl) ?_; (repeat (go_big_quiet_step (((go_at_call 47; exact Calls.later (HCALL.out _) rfl))))); refine wpQuiet_nil ?_; rintro _ ⟨e1, rfl⟩)
      obtain ⟨w4, hw4⟩ : ∃ w4 : World, w4 = e1.w := ⟨_, rfl⟩
      have hb4 : Below wr.heap.size wr w4 := hw4 ▸ e1.below
      rw [← hw4]
      clear hw4 l0 hlook
      go_wp2
      exact ⟨⟨j + 1, by omega, by go_num, hid (by rw [HS2.out]; exact hown.out.below hb4 (Nat.le_refl _)), hid (bstep hbq.out hb4)⟩, by simp [intOf]; omega⟩
     ·have HS2 : Hid ((ks.take (j + 1)).filterMap (gI ns l) = (ks.take j).filterMap (gI ns l) ++ [⟨u, (X : Int)⟩]) := hid (by rw [HTK.out, if_neg hf]; simp)
      have z1 : ((X : Int) != fullF ns u) = true := by simp [hf]
      generalize fullF ns u = ff at HCALL z1
      generalize (ks.take j).filterMap (gI ns l) = L at hown hlen2 HS2
      clear hf
      go_wp2_with fail
      (refine wp_region_later (by kernel_rfl) (by kernel_rfl) ?_; (repeat (go_big_quiet_step (((go_at_call 47; exact Calls.later (HCALL.out _) rfl))))); refine wpQuiet_nil ?_; rintro _ ⟨e1, rfl⟩)
      obtain ⟨w4, hw4⟩ : ∃ w4 : World, w4 = e1.w := ⟨_, rfl⟩
      have hb4 : Below wr.heap.size wr w4 := hw4 ▸ e1.below
      rw [← hw4]
      have HM4 := hid (HMQ.out.below hb4 HMQ.out.lt)
      have HO4 := hid (hown.out.below hb4 (Nat.le_refl _))
      have HB4 := hid (bstep hbq.out hb4)
      have HB04 := hid (bstep hb0q hb4)
      clear hw4 l0 hlook
      go_wp2_with (first
       | (at_lookup; go_must (refine wpList_look_i rfl _ _ rfl Tryz.underlying112 Tryz.underlying3 (zero_int _) mb n _ rfl HM4.out u rfl HI64.out.1 ?_; rw [HMV.out]; simp only [Option.getD_some]))
       | (at_builtin; go_must (refine wpList_append_src _ rfl (.tmp 60) (.tmp 66) _ rfl w3.heap.size 69 it _ 2 16 Tryz.underlying30 HIT.out.1 HIT.out.2.1 HIT.out.2.2.1 HIT.out.2.2.2 rfl (by omega) (.slice Ao L.length co) L.length (fTerm.all L) (by rfl) (by exact HO4.out.1.alloc _) (some ⟨w4.heap.size, 0, none⟩) 1 1 (fTerm.cells ⟨u, (X : Int)⟩) (by rfl) (by exact src_one (f := fTerm) rfl) (by simp [fTerm, Value.oneCell']) (by unfold maxLen; omega) (by omega) (by have := HB4.out.size; simp; omega) ?_; intro v5 w5 hown5 hg5 hat5; have HO5 := hid (HO4.out.snoc (e := 69) (B := w3.heap.size) (v' := v5) (show fTerm.ok ⟨u, (X : Int)⟩ from HI64.out) hown5); have HB5 := hid (own_app (v2 := v5) (balloc HB4.out _) (HO4.out.alloc _) (by have := HB4.out.size; simp; omega) hg5 rfl); clear hown5 hg5 hat5)))
      exact ⟨⟨j + 1, by omega, by go_num, hid (by rw [HS2.out]; exact HO5.out), HB5⟩, by simp [intOf]; omega⟩
    ·have hjl2 : j = ks.length := by omega
     have HF : Hid ((ks.take j).filterMap (gI ns l) = canon ns (meetN ns l)) := hid (by
      rw [List.take_of_length_le (by omega)]
      refine keys_canon HIN.out HRIS.out fun u => ?_
      rw [HMEM.out]
      constructor
      ·intro h2
       cases hx : named l u with
       | true => rfl
       | false => have := h2.2; rw [have_unnamed hx] at this; cases this
      ·intro h2
       refine ⟨?_, by rw [have_named h2]; rfl⟩
       unfold named at h2
       rw [List.any_eq_true] at h2
       obtain ⟨t, ht, e⟩ := h2
       obtain ⟨i, hi, rfl⟩ := List.getElem_of_mem ht
       simp at e
       obtain ⟨_, _, _, _, _, _, i5, _⟩ := HC.out i hi
       rw [← e]; exact i5)
     rw [HF.out] at hown ⊢
     have HOF := hid (hown.out.mono (bstep HB0.out HB3.out).size)
     clear HF
     generalize canon ns (meetN ns l) = R at hown HN HOF ⊢
     go_wp2
     go_ret2
     exact ⟨_, by rw [HN.out]; rfl, by rw [HN.out]; exact HOF.out, bstep HB0.out (bstep HB3.out hbq.out)⟩
end
section
def AllOwn (us : List UnitW) (w : World) (e : Ending) (w' : World) : Prop := ∃ rv tvs, e = .returned rv ∧ Copied 32 69 w' w.heap.size rv ((allN us).map (rowOf (nsOf us))) tvs ∧ Below w.heap.size w w'
def rowsAt (us : List UnitW) (u p : Nat) : List RowN := match us[u]? with
 | some x => candsN us u (unitsN us u) x.cands p
 | none => unitsN us u
theorem rowsAt_lt {us : List UnitW} {u : Nat} (h : u < us.length) (p : Nat) : rowsAt us u p = candsN us u (unitsN us u) us[u].cands p := by
 unfold rowsAt
 rw [List.getElem?_eq_getElem h]
theorem rowsAt_zero (us : List UnitW) (u : Nat) : rowsAt us u 0 = unitsN us u := by
 unfold rowsAt
 split <;> rfl
theorem all_start {us : List UnitW} {w : World} (ho : UnitsOk us) (h0 : (nsOf us).head? = some 1) : AllSt (nsOf us) w.heap.size w (((w.alloc (.cells #[.int .i64 0, .int .i64 1] 69)).alloc (.cells #[.int .i64 1, .int .i64 0, .int .i64 0, .int .i64 0, .slice (some ⟨w.heap.size, 0, none⟩) 1 1] 32)).alloc (.map #[] 0)) (w.heap.size + 2) (.slice (some ⟨w.heap.size + 1, 0, none⟩) 1 1) (unitsN us 0) [.slice (some ⟨w.heap.size, 0, none⟩) 1 1] := by
 obtain ⟨hr, hc⟩ := root_ok ho.ns h0
 obtain ⟨w1, hw1⟩ : ∃ w1 : World, w1 = w.alloc (.cells #[.int .i64 0, .int .i64 1] 69) := ⟨_, rfl⟩
 have hn := own_new (f := fTerm) (e := 69) (w := w) (l := [⟨0, 1⟩]) (cs := #[.int .i64 0, .int .i64 1]) rfl (fun x hx => by rw [List.mem_singleton.1 hx]; exact ⟨⟨by decide, by decide⟩, ⟨by decide, by decide⟩⟩) (by simp [maxLen])
 rw [← hw1] at hn ⊢
 have hs1 : w1.heap.size = w.heap.size + 1 := by rw [hw1]; simp
 have hb1 : Below w.heap.size w w1 := hw1 ▸ balloc (b0 w) _
 obtain ⟨w2, hw2⟩ : ∃ w2 : World, w2 = w1.alloc (.cells #[.int .i64 1, .int .i64 0, .int .i64 0, .int .i64 0, .slice (some ⟨w.heap.size, 0, none⟩) 1 1] 32) := ⟨_, rfl⟩
 have hs2 : w2.heap.size = w.heap.size + 2 := by rw [hw2]; simp [hs1]
 have hb2 : Below w1.heap.size w1 w2 := hw2 ▸ balloc (b0 w1) _
 have ho1 : w2.ownsRow w.heap.size 32 5 (.slice (some ⟨w.heap.size + 1, 0, none⟩) 1 1) 1 [.int .i64 1, .int .i64 0, .int .i64 0, .int .i64 0, .slice (some ⟨w.heap.size, 0, none⟩) 1 1] := by
  rw [hw2, ← hs1]
  exact ⟨by simp, .inr ⟨w1.heap.size, 1, #[.int .i64 1, .int .i64 0, .int .i64 0, .int .i64 0, .slice (some ⟨w.heap.size, 0, none⟩) 1 1], rfl, by omega, heap_alloc_new w1 _, by omega, by unfold maxLen; omega, by simp, by simp⟩⟩
 have hg : w1.grownBy w2 (Value.slice none 0 0).ownBlock := by rw [hw2]; exact World.grownBy_alloc w1 _ none
 have hrow : rowOf (nsOf us) (rootN (nsOf us)) = ⟨1, 0, 0, 0, [⟨0, 1⟩]⟩ := by
  unfold rowOf
  rw [hc]
  rfl
 have ht : w1.ownsRow w.heap.size 69 2 (.slice (some ⟨w.heap.size, 0, none⟩) 1 1) 1 (termCells [⟨0, 1⟩]) := by
  have h3 := hn.1
  rw [fTerm_all] at h3
  exact h3
 have hcop := (Copied.nil (eR := 32) (eT := 69) (by decide) w1 w.heap.size).snoc (r := ⟨1, 0, 0, 0, [⟨0, 1⟩]⟩) (tv := .slice (some ⟨w.heap.size, 0, none⟩) 1 1) (v' := .slice (some ⟨w.heap.size + 1, 0, none⟩) 1 1) (w' := w2) ho1 hg
  ⟨⟨by decide, by decide⟩, ⟨by decide, by decide⟩, ⟨by decide, by decide⟩, ⟨by decide, by decide⟩, fun t ht => by rw [List.mem_singleton.1 ht]; exact ⟨⟨by decide, by decide⟩, ⟨by decide, by decide⟩⟩⟩ ht (fun k hk => absurd hk (by simp))
 rw [← hw2]
 have hb3 : Below w2.heap.size w2 (w2.alloc (.map #[] 0)) := balloc (b0 w2) _
 refine ⟨?_, ⟨0, ?_⟩, bstep (bstep hb1 hb2) hb3, by omega⟩
 ·show Copied _ _ _ _ _ [rowOf (nsOf us) (rootN (nsOf us))] _
  rw [hrow]
  exact hcop.below hb3 (Nat.le_refl _)
 ·rw [← hs2]
  refine (MapG.made kAlike w2).congr fun k => ?_
  exact (keyF_root (fun x hx => by rw [List.mem_singleton.1 hx]; rfl) k).symm
end
section
theorem Copied.at_row {eR eT : TypeId} {w : World} {B : Nat} {v : Value} {l : List Row} {tvs : List Value} (h : Copied eR eT w B v l tvs) {i : Nat} (hi : i < l.length) (hi' : i < tvs.length) :
  ∃ gr c, v = .slice (some ⟨gr, 0, none⟩) l.length c ∧ B ≤ gr ∧ gr < w.heap.size ∧ w.cell? ⟨gr, i * 5 + 4, none⟩ = some tvs[i] := by
 rcases h.own.2 with ⟨_, h0⟩ | ⟨g, cap, cur, hv, hb, hg, h1, h2, h3, h4⟩
 ·omega
 ·refine ⟨g, cap, hv, hb, (Array.getElem?_eq_some_iff.1 hg).1, ?_⟩
  rw [cell_of_row w g _ cur eR (0, 0) hg]
  have h5 := rowsCells_get h.len hi hi' 4 (by omega)
  rw [← h4, List.getElem?_take_of_lt (by omega), Array.getElem?_toList] at h5
  rw [h5]
  rfl
theorem Copied.at_term {eR eT : TypeId} {w : World} {B : Nat} {v : Value} {l : List Row} {tvs : List Value} (h : Copied eR eT w B v l tvs) {i : Nat} (hi : i < l.length) (hi' : i < tvs.length) (hpos : 0 < l[i].terms.length) :
  ∃ gt c, tvs[i] = .slice (some ⟨gt, 0, none⟩) l[i].terms.length c ∧ tvs[i].ownBlock = some gt ∧ B ≤ gt ∧ gt < w.heap.size ∧ (∀ o, w.frozen? ⟨gt, o, none⟩ = false) ∧
   ∀ j, (hj : j < l[i].terms.length) → w.cell? ⟨gt, j * 2, none⟩ = some (.int .i64 l[i].terms[j].unit) ∧ w.cell? ⟨gt, j * 2 + 1, none⟩ = some (.int .i64 l[i].terms[j].mask) := by
 rcases (h.terms i hi hi').2 with ⟨_, h0⟩ | ⟨g, cap, cur, hv, hb, hg, h1, h2, h3, h4⟩
 ·omega
 ·refine ⟨g, cap, hv, by rw [hv]; rfl, hb, (Array.getElem?_eq_some_iff.1 hg).1, fun o => frozen_of_row w g o _ eT hg, fun j hj => ?_⟩
  obtain ⟨t1, t2⟩ := termCells_get (l := l[i].terms) hj
  rw [← h4, List.getElem?_take_of_lt (by omega), Array.getElem?_toList] at t1 t2
  exact ⟨by rw [cell_of_row w g _ cur eT (0, 0) hg, t1], by rw [cell_of_row w g _ cur eT (0, 0) hg, t2]⟩
theorem Copied.at_term_set {eR eT : TypeId} {w : World} {B : Nat} {v : Value} {l : List Row} {tvs : List Value} {i : Nat} {r : Row} (h : Copied eR eT w B v (l.set i r) tvs) (hi : i < l.length) (hi' : i < tvs.length) {j : Nat} (hj : j < r.terms.length) :
  ∃ gt c, tvs[i] = .slice (some ⟨gt, 0, none⟩) r.terms.length c ∧ tvs[i].ownBlock = some gt ∧ B ≤ gt ∧ gt < w.heap.size ∧ (∀ o, w.frozen? ⟨gt, o, none⟩ = false) ∧ w.cell? ⟨gt, j * 2, none⟩ = some (.int .i64 r.terms[j].unit) ∧ w.cell? ⟨gt, j * 2 + 1, none⟩ = some (.int .i64 r.terms[j].mask) := by
 have e : (l.set i r)[i]'(by rw [List.length_set]; exact hi) = r := by simp
 have key := h.at_term (i := i) (by rw [List.length_set]; exact hi) hi'
 rw [e] at key
 obtain ⟨gt, c, h1, h2, h3, h4, h5, h6⟩ := key (by omega)
 exact ⟨gt, c, h1, h2, h3, h4, h5, h6 j hj⟩
theorem Copied.setMask_set {eR eT : TypeId} {w : World} {B : Nat} {v : Value} {l : List Row} {tvs : List Value} {i : Nat} {r : Row} (h : Copied eR eT w B v (l.set i r) tvs) (hi : i < l.length) (hi' : i < tvs.length) {g : Nat} (hg : tvs[i].ownBlock = some g) {j : Nat} (hj : j < r.terms.length) (m : Int) (hm : I64 m) :
  Copied eR eT (w.setCell ⟨g, j * 2 + 1, none⟩ (.int .i64 m)) B v (l.set i { r with terms := r.terms.set j ⟨r.terms[j].unit, m⟩ }) tvs := by
 have e : (l.set i r)[i]'(by rw [List.length_set]; exact hi) = r := by simp
 have key := fun hj => h.setMask (i := i) (by rw [List.length_set]; exact hi) hi' hg (j := j) hj m hm
 simp only [List.set_set] at key
 rw [e] at key
 exact key hj
def turnT (f : Term → Term) (l : List Term) (j : Nat) : List Term := (l.take j).map f ++ l.drop j
theorem turnT_zero (f : Term → Term) (l : List Term) : turnT f l 0 = l := by simp [turnT]
theorem turnT_all (f : Term → Term) (l : List Term) : turnT f l l.length = l.map f := by simp [turnT]
theorem turnT_len (f : Term → Term) (l : List Term) (j : Nat) : (turnT f l j).length = l.length := by
 unfold turnT
 rw [List.length_append, List.length_map, List.length_take, List.length_drop]
 omega
theorem turnT_at (f : Term → Term) (l : List Term) {j : Nat} (hj : j < l.length) : (turnT f l j)[j]'(by rw [turnT_len]; exact hj) = l[j] := by
 unfold turnT
 rw [List.getElem_append_right (by simp; omega)]
 simp [show min j l.length = j by omega]
theorem turnT_get (f : Term → Term) (l : List Term) (j k : Nat) (hj : j ≤ l.length) : (turnT f l j)[k]? = if k < j then l[k]?.map f else l[k]? := by
 unfold turnT
 have hl : ((l.take j).map f).length = j := by rw [List.length_map, List.length_take]; omega
 by_cases h : k < j
 ·rw [if_pos h, List.getElem?_append_left (by omega), List.getElem?_map, List.getElem?_take_of_lt h]
 ·rw [if_neg h, List.getElem?_append_right (by omega), hl, List.getElem?_drop]
  congr 1
  omega
theorem turnT_succ (f : Term → Term) (l : List Term) {j : Nat} (hj : j < l.length) : turnT f l (j + 1) = (turnT f l j).set j (f l[j]) := by
 apply List.ext_getElem?
 intro k
 rw [turnT_get f l (j + 1) k hj, List.getElem?_set, turnT_len, turnT_get f l j k (by omega)]
 by_cases e : j = k
 ·subst e
  rw [if_pos (by omega), if_pos rfl, if_pos hj, List.getElem?_eq_getElem hj]
  rfl
 ·rw [if_neg e]
  by_cases h : k < j
  ·rw [if_pos h, if_pos (by omega)]
  ·rw [if_neg h, if_neg (by omega)]
end
end Go.Proofs.YthneiolcljnbeaaGreatDoor
