import Derived.Test.YtilgijmokjekgaaGreatDoorShelf
import Derived.Test.YtilgijmokjekgaaGreatDoorzP3
import Derived.Test.YtilgijmokjekgaaGreatDoorzBase
import Derived.Test.YtilgijmokjekgaaGreatDoorzN9
import Derived.Outline
section
/- Contracts: maps.Keys, slices.Sorted of it. -/
namespace Go.Proofs.YtilgijmokjekgaaGreatDoor
open Go Go.RowKit Go.Maps Go.Sort Go.Shelf

theorem keys_any (mb : Option Nat) (W : World) : Calls Tryz.prog 80 #[.map mb] W fun e w' => e = .returned (.func (.func 119) #[] #[.pointer (some ⟨W.heap.size, 0, none⟩)]) ∧ w' = W.alloc (.cells #[.map mb] 133) :=
  callsIn_wide.1 (AnyZI.keys_in Tryz.keysA Fence.wide 5 trivial rfl mb W)
theorem sorts_wide (m : Nat) : AnyZI.SortsIn Tryz.prog Tryz.sortedA_ren Fence.wide m :=
  ⟨fun blk off cap ss W hH hblk hsz => callsIn_wide.2 (AnyM.slices_Sort_int Tryz.sortA blk off cap ss W hH hblk hsz),
   fun p cap W => callsIn_wide.2 (AnyM.slices_Sort_int_none Tryz.sortA p cap W)⟩
def SortedPost (f : Int → Option Int) (nn : Nat) (w : World) (e : Ending) (w' : World) : Prop := ∃ v ks, e = .returned v ∧ OwnF fInt 3 w.heap.size w' v ks ∧ ks.Pairwise (· < ·) ∧ (∀ u, u ∈ ks ↔ I64 u ∧ (f u).isSome = true) ∧ ks.length ≤ nn ∧ Below w.heap.size w w'
set_option maxHeartbeats 1000000 in
theorem sorted_any (kb mb nn : Nat) (f : Int → Option Int) (w : World) (hcell : w.cell? ⟨kb, 0, none⟩ = some (.map (some mb))) (hkb : kb < w.heap.size) (hM : MapI Tryz.prog 3 w mb nn f) (hn : nn ≤ 10000) :
    Calls Tryz.prog 79 #[.func (.func 119) #[] #[.pointer (some ⟨kb, 0, none⟩)]] w (SortedPost f nn w) := by
  obtain ⟨D, hown, hsz, hkeys⟩ := hM.keys Tryz.underlying3
  have hseq : SeqGives Fence.wide 2 Tryz.prog 119 #[.pointer (some ⟨kb, 0, none⟩)] encZ (fun ss => ss.Perm (intKeys D)) (Maps.size D) w :=
    AnyZI.keys_gives (ρ := Tryz.keysA_ren) { Tryz.keysA with } Fence.wide _ trivial rfl (by omega) kb mb nn D _ hkb hcell hown
  have cS := AnyZI.sorted_in Tryz.sortedA Fence.wide 5 trivial trivial trivial trivial rfl (by omega) (sorts_wide _) (enters_of Tryz.func118 (by kernel_rfl) rfl) 119 #[.pointer (some ⟨kb, 0, none⟩)] trivial (enters_of Tryz.func119 (by kernel_rfl) rfl) _ _ (by unfold maxLen; omega) (by omega) _ hseq
  change CallsIn _ _ Tryz.prog 79 _ _ _ at cS
  refine (callsIn_wide.1 cS).mono ?_
  rintro e w' ⟨v, ss, rfl, hS, hrow, -, hb⟩
  obtain ⟨hnd, hmem⟩ := hkeys ss hS
  have hlen : (ss.mergeSort fun x y => decide (x ≤ y)).length = ss.length := (List.mergeSort_perm ss _).length_eq
  refine ⟨v, ss.mergeSort fun x y => decide (x ≤ y), rfl, ⟨?_, fun x hx => ?_⟩, sorted_rising hnd, fun u => ?_, ?_, hb⟩
  · rw [ints_all, hlen]
    exact hrow
  · exact ((hmem x).1 ((List.mergeSort_perm ss _).mem_iff.1 hx)).1
  · rw [(List.mergeSort_perm ss _).mem_iff]
    exact hmem u
  · rw [hlen, hS.length_eq]
    refine Nat.le_trans ?_ hsz
    cases D <;> simp [intKeys, Maps.size]
end Go.Proofs.YtilgijmokjekgaaGreatDoor
end
section
/- Contract: incomp.Make. -/
namespace Go.Proofs.YtilgijmokjekgaaGreatDoor
open Go Go.RowKit

theorem zero_int (w : World) : (zeroValue 3).run Tryz.prog w = .ok (.int .i64 0) w := by kernel_rfl
theorem own_ints_at {e : TypeId} {B : Nat} {w : World} {l : List Int} {A : Option Addr} {n c : Nat} (h : OwnF fInt e B w (.slice A n c) l) {j : Nat} (hj : j < l.length) : ∃ g o, A = some ⟨g, o, none⟩ ∧ g < w.heap.size ∧ w.cell? ⟨g, o + j, none⟩ = some (.int .i64 l[j]) ∧ I64 l[j] := by
  obtain ⟨A', cap', hkv, -, -, hkc⟩ := SliceRd.ints h.rd
  obtain ⟨gk, ok, hA', hFk, kc, ki⟩ := hkc j hj
  have e1 : A = A' := by injection hkv
  exact ⟨gk, ok, e1.trans hA', hFk, kc, ki⟩
/-- A map under way: of so many terms, at most as many entries. -/
def MapAt (ns : List Nat) (l : List Term) (mb k : Nat) (w : World) : Prop := ∃ n, n ≤ k ∧ MapI Tryz.prog 3 w mb n (mapOf ns (l.take k))
/-- As TermsNew: and the terms are the call's own. -/
def TermsOwn (r : Option (List Term)) (w : World) (e : Ending) (w' : World) : Prop := ∃ sv, e = .returned (.tuple #[sv, .bool r.isSome]) ∧ OwnF fTerm 55 w.heap.size w' sv (r.getD []) ∧ Below w.heap.size w w'
theorem TermsOwn.new {r : Option (List Term)} {w w' : World} {e : Ending} (h : TermsOwn r w e w') : TermsNew r w e w' := by
  obtain ⟨sv, h1, h2, h3⟩ := h
  exact ⟨sv, h1, own_new_terms h2 (Nat.le_refl _), h3⟩
set_option maxRecDepth 100000 in
set_option maxHeartbeats 4000000 in
theorem make_own (v lv : Value) (ns : List Nat) (l : List Term) (w : World) (h : UniRd w (Lt w.heap.size) v ns) (ho : NsOk ns) (hl : SliceRd tTerm w (Lt w.heap.size) lv l) (hlen : l.length ≤ 1000) :
    Calls Tryz.prog 42 #[v, lv] w (TermsOwn (makeN ns l) w) := by
  have HH := hid h
  have HO := hid ho
  obtain ⟨g, cap0, rfl, hg, -⟩ := h
  obtain ⟨it, hit⟩ := info_parts term_info
  have HIT := hid hit
  obtain ⟨A, cap, rfl, hcap, hmax, hc⟩ := hl.terms
  unfold maxLen at hmax
  have HC := hid hc
  clear ho hc hl hit
  go_enter Tryz.func42, Tryz.ntmps42
  have hmm := @run_makeMap Tryz.prog
  go_wp2_with fail
  clear hmm
  obtain ⟨w0, hw0⟩ : ∃ w0 : World, w0 = w.alloc (.cells #[.slice (some ⟨g, 0, none⟩) ns.length cap0] 25) := ⟨_, rfl⟩
  have hb0 : Below w.heap.size w w0 := hw0 ▸ balloc (b0 w) _
  have hs0 : w0.heap.size = w.heap.size + 1 := by rw [hw0]; simp
  have q0 : w0.cell? ⟨w.heap.size, 0, none⟩ = some (.slice (some ⟨g, 0, none⟩) ns.length cap0) := by rw [hw0, alloc_cell]; rfl
  have HB0 := hid hb0
  have HQ := hid q0
  have HU0 := hid (uni_later HH.out hb0)
  have HBM := hid (balloc (b0 w0) (.map #[] 0))
  rw [← hw0]
  clear hw0 hb0 q0
  obtain ⟨mb, hmbe⟩ : ∃ mb, mb = w.heap.size + 1 := ⟨_, rfl⟩
  have HMP0 : Hid (MapI Tryz.prog 3 (w0.alloc (.map #[] 0)) mb 0 (fun _ => none)) := hid (by rw [hmbe, ← hs0]; exact MapI.made _ _ _)
  have hmbg : w0.heap.size ≤ mb := by omega
  rw [← hmbe]
  clear hmbe
  go_loopw [8, 9, 10, 17] (fun _ _ _ iv wr => ∃ k : Nat, k ≤ l.length ∧ iv = .int .i64 k ∧ Hid (MapAt ns l mb k wr) ∧ Hid (Below w0.heap.size w0 wr) ∧ Hid (∀ j, (hj : j < l.length) → j < k → meetI ns (l.take k) l[j].unit ≠ 0)) (fun _ _ _ iv _ => l.length - (intOf iv).toNat)
  case atStart => exact ⟨0, Nat.zero_le _, rfl, hid ⟨0, Nat.le_refl _, HMP0.out.congr (fun u _ => by rw [List.take_zero]; rfl)⟩, HBM, hid (fun j _ hj => absurd hj (by omega))⟩
  case round =>
    obtain ⟨k, hk, rfl, hmap, hb, hnz⟩ := hrel
    by_cases hlt : k < l.length
    · obtain ⟨gg, o, hA, hF, g0, g1, i64u, i64m⟩ := HC.out k hlt
      subst hA
      obtain ⟨n, hn, hM⟩ := hmap.out
      have hmlt := hM.lt
      have c0 := cell_below hb.out (Nat.lt_of_lt_of_le hF HB0.out.size) (cell_below HB0.out hF g0)
      have c1 := cell_below hb.out (Nat.lt_of_lt_of_le hF HB0.out.size) (cell_below HB0.out hF g1)
      have i1 : (0 : Int) ≤ ↑k := by omega
      have i2 : (↑k : Int) < ↑l.length := by omega
      have hX := meetI_le HO.out (l.take k) l[k].unit
      have hbits := and_fact (meetI ns (l.take k) l[k].unit) l[k].mask hX
      have hNEW := meetI_take (ns := ns) hlt l[k].unit
      rw [if_pos rfl] at hNEW
      have HMO := hid (fun u => mapOf_step (ns := ns) hlt u)
      have hX2 : meetI ns (l.take k) l[k].unit &&& nm l[k].mask ≤ 31 := Nat.le_trans Nat.and_le_left hX
      have HNAMED := hid (fun h : named (l.take k) l[k].unit = true => have_named (ns := ns) h)
      have HUNNAMED := hid (fun h : named (l.take k) l[k].unit = false => have_unnamed (ns := ns) h)
      have HUNF := hid (fun h : named (l.take k) l[k].unit = false => meetI_unnamed (ns := ns) h)
      have HZERO := hid (fun h : meetI ns (l.take (k + 1)) l[k].unit = 0 => make_zero hlt h)
      have HNZ : Hid (meetI ns (l.take (k + 1)) l[k].unit ≠ 0 → ∀ j, (hj : j < l.length) → j < k + 1 → meetI ns (l.take (k + 1)) l[j].unit ≠ 0) := hid (fun h0 j hj hjk => by
        by_cases e : l[j].unit = l[k].unit
        · rw [e]; exact h0
        · rw [meetI_take hlt, if_neg (fun h => e h.symm)]
          exact hnz.out j hj (by
            rcases Nat.lt_or_ge j k with h1 | h1
            · exact h1
            · have : j = k := by omega
              subst this
              exact absurd rfl e))
      rw [hNEW] at HZERO HNZ
      obtain ⟨a, ha⟩ : ∃ a, l[k].unit = a := ⟨_, rfl⟩
      obtain ⟨m, hm⟩ : ∃ m, l[k].mask = m := ⟨_, rfl⟩
      rw [ha] at c0 i64u hX hbits HMO hX2 HNAMED HUNNAMED HUNF HZERO HNZ
      rw [hm] at c1 i64m hbits HMO hX2 HZERO HNZ
      generalize hnw : meetI ns (l.take k) a &&& nm m = nw at hbits HMO hX2 HZERO HNZ
      generalize meetI ns (l.take k) a = X at *
      have HM := hid hM
      have HI := hid (And.intro i64u i64m)
      have hne : mb ≠ wr.heap.size := by omega
      have hnm : n < maxLen := by unfold maxLen; omega
      have hlr := Nat.lt_of_lt_of_le (show w.heap.size < w0.heap.size by omega) hb.out.size
      have hd := cell_below hb.out (show w.heap.size < w0.heap.size by omega) HQ.out
      have hnw64 : Hid (I64 (nw : Int)) := hid (i64_small hX2)
      have hMA : ∀ ob, Hid (MapI Tryz.prog 3 (wr.alloc ob) mb n (mapOf ns (l.take k))) := fun ob => hid (hM.below (balloc (b0 wr) ob) hmlt)
      clear g0 g1 ha hm hM i64u i64m hNEW hnw hmap
      cases hnd : named (l.take k) a with
      | true =>
        have hf := HNAMED.out hnd
        have HF := hid hf
        clear hnd hf
        by_cases hz : nw = 0
        · have HN := hid (HZERO.out hz)
          subst hz
          go_wp2_with (at_lookup; go_must (refine wpList_look2_i rfl _ _ rfl Tryz.underlying133 Tryz.underlying3 (zero_int _) mb n _ rfl (hMA _).out a rfl HI.out.1 ?_; rw [HF.out]; simp only [Option.getD_some, Option.isSome_some]))
          go_ret2
          exact ⟨_, by rw [HN.out]; rfl, by rw [HN.out]; exact OwnF.nil _ _ _ _, bstep HB0.out (balloc hb.out _)⟩
        · have z1 : ((nw : Int) == 0) = false := by simp; omega
          have HZ := hid (HNZ.out hz)
          clear hz
          go_wp2_with (first
            | (at_lookup; go_must (refine wpList_look2_i rfl _ _ rfl Tryz.underlying133 Tryz.underlying3 (zero_int _) mb n _ rfl (hMA _).out a rfl HI.out.1 ?_; rw [HF.out]; simp only [Option.getD_some, Option.isSome_some]))
            | (at_mapUpdate; go_must (refine wpList_upd_i rfl _ _ _ rfl Tryz.underlying133 Tryz.underlying3 mb n _ rfl (hMA _).out hnm a (nw : Int) rfl rfl HI.out.1 hnw64.out ?_; intro w5 hm5 hg5; have HM5 := hid hm5; have HB5 := hid (below_map' (balloc hb.out _) hg5 hmbg); clear hm5 hg5)))
          exact ⟨⟨k + 1, by omega, by go_num, hid ⟨n + 1, by omega, HM5.out.congr (fun u _ => (HMO.out u).symm)⟩, HB5, HZ⟩, by simp [intOf]; omega⟩
      | false =>
        have hf := HUNNAMED.out hnd
        have HF := hid hf
        have HFF := hid (HUNF.out hnd)
        clear hnd hf
        have hUA : ∀ ob, Hid (UniRd (wr.alloc ob) (Lt (wr.alloc ob).heap.size) (.agg #[.slice (some ⟨g, 0, none⟩) ns.length cap0]) ns) := fun ob => hid (uni_later HU0.out (balloc hb.out ob))
        have hda : ∀ ob, (wr.alloc ob).cell? ⟨w.heap.size, 0, none⟩ = some (.slice (some ⟨g, 0, none⟩) ns.length cap0) := fun ob => cell_below (balloc (b0 wr) ob) hlr hd
        by_cases hz : nw = 0
        · have HN := hid (HZERO.out hz)
          subst hz
          go_wp2_with (first
            | (at_lookup; go_must (refine wpList_look2_i rfl _ _ rfl Tryz.underlying133 Tryz.underlying3 (zero_int _) mb n _ rfl (hMA _).out a rfl HI.out.1 ?_; rw [HF.out]; simp only [Option.getD_none, Option.isSome_none]))
            | (go_at_call 78; go_must (refine (full_any _ ns a _ _ (hUA _).out HO.out (fun _ h => h)).mono ?_; rintro e w2 ⟨rfl, hb2⟩; rw [← HFF.out]; have e0 := cell_below hb2 (by simp) ((alloc_cell wr #[.int .i64 a, .int .i64 m] 55 0).trans rfl); have e1 := cell_below hb2 (by simp) ((alloc_cell wr #[.int .i64 a, .int .i64 m] 55 1).trans rfl); have HB2 := hid (bstep (balloc hb.out _) hb2); clear hb2)))
          go_ret2
          exact ⟨_, by rw [HN.out]; rfl, by rw [HN.out]; exact OwnF.nil _ _ _ _, bstep HB0.out HB2.out⟩
        · have z1 : ((nw : Int) == 0) = false := by simp; omega
          have HZ := hid (HNZ.out hz)
          clear hz
          go_wp2_with (first
            | (at_lookup; go_must (refine wpList_look2_i rfl _ _ rfl Tryz.underlying133 Tryz.underlying3 (zero_int _) mb n _ rfl (hMA _).out a rfl HI.out.1 ?_; rw [HF.out]; simp only [Option.getD_none, Option.isSome_none]))
            | (go_at_call 78; go_must (refine (full_any _ ns a _ _ (hUA _).out HO.out (fun _ h => h)).mono ?_; rintro e w2 ⟨rfl, hb2⟩; rw [← HFF.out]; have e0 := cell_below hb2 (by simp) ((alloc_cell wr #[.int .i64 a, .int .i64 m] 55 0).trans rfl); have e1 := cell_below hb2 (by simp) ((alloc_cell wr #[.int .i64 a, .int .i64 m] 55 1).trans rfl); have HM2 := hid ((hMA _).out.below hb2 (by simp; omega)); have HB2 := hid (bstep (balloc hb.out _) hb2); clear hb2))
            | (at_mapUpdate; go_must (refine wpList_upd_i rfl _ _ _ rfl Tryz.underlying133 Tryz.underlying3 mb n _ rfl HM2.out hnm a (nw : Int) rfl rfl HI.out.1 hnw64.out ?_; intro w5 hm5 hg5; have HM5 := hid hm5; have HB5 := hid (below_map' HB2.out hg5 hmbg); clear hm5 hg5)))
          exact ⟨⟨k + 1, by omega, by go_num, hid ⟨n + 1, by omega, HM5.out.congr (fun u _ => (HMO.out u).symm)⟩, HB5, HZ⟩, by simp [intOf]; omega⟩
    · have hkl : k = l.length := by omega
      have hmk := make_all (ns := ns) (l := l) (fun j hj => by
        have := hnz.out j hj (by omega)
        rwa [List.take_of_length_le (by omega)] at this)
      have HN := hid hmk
      have HIN : Hid (inR ns l = true) := hid (by
        cases hr : inR ns l with
        | true => rfl
        | false => rw [makeN_bad hr] at hmk; cases hmk)
      obtain ⟨n, hn, hM0⟩ := hmap.out
      rw [List.take_of_length_le (by omega)] at hM0
      have hmlt := hM0.lt
      have HM := hid hM0
      have hn1000 : n ≤ 10000 := by omega
      have HNN := hid (show n ≤ 1000 by omega)
      have HBW := hb
      clear hmk hmap hnz hM0 hn
      go_wp2_with (first
        | (go_at_call 80; go_must (refine (keys_any _ _).mono ?_; rintro e w2 ⟨rfl, hw2⟩; have hkb : wr.heap.size < w2.heap.size := (by rw [hw2]; simp); have hkc : w2.cell? ⟨wr.heap.size, 0, none⟩ = some (.map (some mb)) := (by rw [hw2, alloc_cell]; rfl); have hb2 : Below wr.heap.size wr w2 := hw2 ▸ balloc (b0 wr) _; have HS := hid (sorted_any wr.heap.size mb n _ w2 hkc hkb (HM.out.below hb2 hmlt) hn1000); have HB2 := hid (bstep HBW.out hb2); have HM2 := hid (HM.out.below hb2 hmlt); clear hkb hkc hb2 hw2))
        | (go_at_call 79; go_must (refine HS.out.mono ?_; rintro e w3 ⟨kv, ks, rfl, hks, hris, hmem, hkl2, hb3⟩; have HKS := hid hks; obtain ⟨Ak, ck, rfl⟩ := hks.form; have HRIS := hid hris; have HMEM := hid hmem; have HM3 := hid (HM2.out.below hb3 HM2.out.lt); have HB3 := hid (bstep HB2.out hb3); clear hks hris hmem hb3 HS)))
      have hks1000 : ks.length ≤ 1000 := by have := HNN.out; omega
      have hml3 := HM3.out.lt
      go_loopw [11, 13, 49] (fun ov _ jv wr => ∃ j : Nat, j ≤ ks.length ∧ jv = .int .i64 j ∧ Hid (OwnF fTerm 55 w3.heap.size wr ov ((ks.take j).filterMap (gI ns l))) ∧ Hid (Below w3.heap.size w3 wr)) (fun _ _ jv _ => ks.length - (intOf jv).toNat)
      case atStart => exact ⟨0, Nat.zero_le _, rfl, hid (OwnF.nil _ _ _ _), hid (b0 w3)⟩
      case round =>
        obtain ⟨j, hj, rfl, hown, hbq⟩ := hrel
        obtain ⟨Ao, co, rfl⟩ := hown.out.form
        by_cases hjl : j < ks.length
        · obtain ⟨gk, ok, hA', hFk, kc, ki⟩ := own_ints_at HKS.out hjl
          subst hA'
          have c0 := cell_below hbq.out hFk kc
          have hnm := (HMEM.out ks[j]).1 (List.getElem_mem hjl)
          have hnd : named l ks[j] = true := by
            cases hx : named l ks[j] with
            | true => rfl
            | false => have := hnm.2; rw [have_unnamed hx] at this; cases this
          have hmv := have_named (ns := ns) hnd
          have hX := meetI_le HO.out l ks[j]
          have HTK : Hid ((ks.take (j + 1)).filterMap (gI ns l) = (ks.take j).filterMap (gI ns l) ++ (gI ns l ks[j]).toList) := hid (by
            rw [List.take_succ_eq_append_getElem hjl, List.filterMap_append]
            cases hg : gI ns l ks[j] <;> simp [hg])
          have hg1 : gI ns l ks[j] = if ((meetI ns l ks[j] : Nat) : Int) = fullF ns ks[j] then none else some ⟨ks[j], ((meetI ns l ks[j] : Nat) : Int)⟩ := rfl
          rw [hg1] at HTK
          have hlen2 : ((ks.take j).filterMap (gI ns l)).length ≤ 1000 := Nat.le_trans (List.length_filterMap_le _ _) (by rw [List.length_take]; omega)
          obtain ⟨u, hu⟩ : ∃ u, ks[j] = u := ⟨_, rfl⟩
          rw [hu] at c0 hmv hX HTK ki
          generalize meetI ns l u = X at hmv hX HTK
          have hMq := HM3.out.below hbq.out hml3
          have HMQ := hid hMq
          have hlook := fun e : Later wr => (hMq.below e.below hMq.lt).run_look Tryz.underlying133 Tryz.underlying3 (zero_int e.w) u ki
          rw [hmv] at hlook
          simp only [Option.getD_some] at hlook
          have HMV := hid hmv
          have hlr : w.heap.size < wr.heap.size := Nat.lt_of_lt_of_le (show w.heap.size < w0.heap.size by omega) (Nat.le_trans HB3.out.size hbq.out.size)
          have hb0q := bstep HB3.out hbq.out
          have l0 := later_cell hlr (cell_below hb0q (show w.heap.size < w0.heap.size by omega) HQ.out)
          have hur := uni_later HU0.out hb0q
          have HCALL := hid (fun e : Later wr => full_any _ ns u e.w _ (uni_lat hur e) HO.out (fun _ h => h))
          have i1 : (0 : Int) ≤ ↑j := by omega
          have i2 : (↑j : Int) < ↑ks.length := by omega
          have hgk : gk < wr.heap.size := Nat.lt_of_lt_of_le hFk hbq.out.size
          have HI64 := hid (And.intro ki (i64_small hX))
          clear kc hnm hnd hu hMq hmv hur ki hg1
          by_cases hf : (X : Int) = fullF ns u
          · rw [← hf] at HCALL
            have HS2 : Hid ((ks.take (j + 1)).filterMap (gI ns l) = (ks.take j).filterMap (gI ns l)) := hid (by rw [HTK.out, if_pos hf]; simp)
            have z1 : ((X : Int) != X) = false := by simp
            clear hf
            go_wp2_with fail
            (refine wp_region_later (by kernel_rfl) (by kernel_rfl) ?_; (repeat (go_big_quiet_step (((go_at_call 78; exact Calls.later (HCALL.out _) rfl))))); refine wpQuiet_nil ?_; rintro _ ⟨e1, rfl⟩)
            obtain ⟨w4, hw4⟩ : ∃ w4 : World, w4 = e1.w := ⟨_, rfl⟩
            have hb4 : Below wr.heap.size wr w4 := hw4 ▸ e1.below
            rw [← hw4]
            clear hw4 l0 hlook
            go_wp2
            exact ⟨⟨j + 1, by omega, by go_num, hid (by rw [HS2.out]; exact hown.out.below hb4 (Nat.le_refl _)), hid (bstep hbq.out hb4)⟩, by simp [intOf]; omega⟩
          · have HS2 : Hid ((ks.take (j + 1)).filterMap (gI ns l) = (ks.take j).filterMap (gI ns l) ++ [⟨u, (X : Int)⟩]) := hid (by rw [HTK.out, if_neg hf]; simp)
            have z1 : ((X : Int) != fullF ns u) = true := by simp [hf]
            generalize fullF ns u = ff at HCALL z1
            generalize (ks.take j).filterMap (gI ns l) = L at hown hlen2 HS2
            clear hf
            go_wp2_with fail
            (refine wp_region_later (by kernel_rfl) (by kernel_rfl) ?_; (repeat (go_big_quiet_step (((go_at_call 78; exact Calls.later (HCALL.out _) rfl))))); refine wpQuiet_nil ?_; rintro _ ⟨e1, rfl⟩)
            obtain ⟨w4, hw4⟩ : ∃ w4 : World, w4 = e1.w := ⟨_, rfl⟩
            have hb4 : Below wr.heap.size wr w4 := hw4 ▸ e1.below
            rw [← hw4]
            have HM4 := hid (HMQ.out.below hb4 HMQ.out.lt)
            have HO4 := hid (hown.out.below hb4 (Nat.le_refl _))
            have HB4 := hid (bstep hbq.out hb4)
            have HB04 := hid (bstep hb0q hb4)
            clear hw4 l0 hlook
            go_wp2_with (first
              | (at_lookup; go_must (refine wpList_look_i rfl _ _ rfl Tryz.underlying133 Tryz.underlying3 (zero_int _) mb n _ rfl HM4.out u rfl HI64.out.1 ?_; rw [HMV.out]; simp only [Option.getD_some]))
              | (at_builtin; go_must (refine wpList_append_src _ rfl (.tmp 60) (.tmp 66) _ rfl w3.heap.size 55 it _ 2 16 Tryz.underlying34 HIT.out.1 HIT.out.2.1 HIT.out.2.2.1 HIT.out.2.2.2 rfl (by omega) (.slice Ao L.length co) L.length (fTerm.all L) (by rfl) (by exact HO4.out.1.alloc _) (some ⟨w4.heap.size, 0, none⟩) 1 1 (fTerm.cells ⟨u, (X : Int)⟩) (by rfl) (by exact src_one (f := fTerm) rfl) (by simp [fTerm, Value.oneCell']) (by unfold maxLen; omega) (by omega) (by have := HB4.out.size; simp; omega) ?_; intro v5 w5 hown5 hg5 hat5; have HO5 := hid (HO4.out.snoc (e := 55) (B := w3.heap.size) (v' := v5) (show fTerm.ok ⟨u, (X : Int)⟩ from HI64.out) hown5); have HB5 := hid (own_app (v2 := v5) (balloc HB4.out _) (HO4.out.alloc _) (by have := HB4.out.size; simp; omega) hg5 rfl); clear hown5 hg5 hat5)))
            exact ⟨⟨j + 1, by omega, by go_num, hid (by rw [HS2.out]; exact HO5.out), HB5⟩, by simp [intOf]; omega⟩
        · have hjl2 : j = ks.length := by omega
          have HF : Hid ((ks.take j).filterMap (gI ns l) = canon ns (meetN ns l)) := hid (by
            rw [List.take_of_length_le (by omega)]
            refine keys_canon HIN.out HRIS.out fun u => ?_
            rw [HMEM.out]
            constructor
            · intro h2
              cases hx : named l u with
              | true => rfl
              | false => have := h2.2; rw [have_unnamed hx] at this; cases this
            · intro h2
              refine ⟨?_, by rw [have_named h2]; rfl⟩
              unfold named at h2
              rw [List.any_eq_true] at h2
              obtain ⟨t, ht, e⟩ := h2
              obtain ⟨i, hi, rfl⟩ := List.getElem_of_mem ht
              simp at e
              obtain ⟨_, _, _, _, _, _, i5, _⟩ := HC.out i hi
              rw [← e]; exact i5)
          rw [HF.out] at hown ⊢
          have HOF := hid (hown.out.mono (bstep HB0.out HB3.out).size)
          clear HF
          generalize canon ns (meetN ns l) = R at hown HN HOF ⊢
          go_wp2
          go_ret2
          exact ⟨_, by rw [HN.out]; rfl, by rw [HN.out]; exact HOF.out, bstep HB0.out (bstep HB3.out hbq.out)⟩
theorem make_new (v lv : Value) (ns : List Nat) (l : List Term) (w : World) (h : UniRd w (Lt w.heap.size) v ns) (ho : NsOk ns) (hl : SliceRd tTerm w (Lt w.heap.size) lv l) (hlen : l.length ≤ 1000) :
    Calls Tryz.prog 42 #[v, lv] w (TermsNew (makeN ns l) w) :=
  (make_own v lv ns l w h ho hl hlen).mono fun _ _ h => h.new
theorem make_any (v lv : Value) (ns : List Nat) (l : List Term) (w : World) (h : UniRd w (Lt w.heap.size) v ns) (ho : NsOk ns) (hl : SliceRd tTerm w (Lt w.heap.size) lv l) (hlen : l.length ≤ 1000) :
    Calls Tryz.prog 42 #[v, lv] w (TermsPost (makeN ns l) w) :=
  (make_new v lv ns l w h ho hl hlen).mono fun _ _ h => h.post
end Go.Proofs.YtilgijmokjekgaaGreatDoor
end
