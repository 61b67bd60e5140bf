/- Contract: mark.answers. -/
import Derived.Test.YtmdnleafpmondaaDoorU9
import Derived.Test.YtmdnleafpmondaaDoorU12
namespace Go.Proofs.YtmdnleafpmondaaDoor
open Go Go.RowKit

theorem drew_cell (w : World) (p : Addr) : w.drew.cell? p = w.cell? p := rfl
/-- The answers after so many nodes. -/
def rowV (E : Frm → Int) (G : List Frm) (k : Nat) : List Int := (G.take k).map E ++ List.replicate (G.length - k) 0
theorem rowV_len (E : Frm → Int) (G : List Frm) {k : Nat} (hk : k ≤ G.length) : (rowV E G k).length = G.length := by simp [rowV]; omega
theorem rowV_get (E : Frm → Int) {G : List Frm} {k j : Nat} {f : Frm} (hj : j < k) (h : G[j]? = some f) : (rowV E G k)[j]? = some (E f) := by
  have hl := get_lt h
  unfold rowV
  rw [List.getElem?_append_left (by simp; omega), List.getElem?_map, List.getElem?_take_of_lt hj, h]
  rfl
theorem rowV_set (E : Frm → Int) {G : List Frm} {k : Nat} {f : Frm} (h : G[k]? = some f) : (rowV E G k).set k (E f) = rowV E G (k + 1) := by
  have hl := get_lt h
  have he : G[k] = f := by have := List.getElem?_eq_getElem hl; rw [this] at h; exact Option.some.inj h
  unfold rowV
  have e1 : ((G.take k).map E).length = k := by simp; omega
  rw [List.set_append_right _ _ (by omega), e1, Nat.sub_self, List.take_succ_eq_append_getElem hl, List.map_append, he]
  rw [show G.length - k = (G.length - (k + 1)) + 1 by omega, List.replicate_succ]
  simp
theorem rowV_end (E : Frm → Int) (G : List Frm) : rowV E G G.length = G.map E := by simp [rowV]
theorem rowV_zero (E : Frm → Int) (G : List Frm) : rowV E G 0 = List.replicate G.length 0 := by simp [rowV]
def AnsPost (w : World) (E : Frm → Int) (G : List Frm) (e : Ending) (w' : World) : Prop :=
  ∃ b, e = .returned (.slice (some ⟨b, 0, none⟩) G.length G.length) ∧ Arr 3 w' b (iv (G.map E)) ∧ w.heap.size ≤ b ∧ Below w.heap.size w w'

set_option maxRecDepth 100000 in
set_option maxHeartbeats 8000000 in
theorem answers_any (v : Value) (l : List Node) (G : List Frm) (en : EnvT) (w : World) (h : SliceRd tNode w (Lt w.heap.size) v l) (ht : TreeAt l G) (hp : 0 < l.length) (h15 : l.length ≤ 15) :
    Calls Tryd.prog 38 #[v, en.val] w (AnsPost w (evalF en.at) G) := by
  obtain ⟨g, o, cap, rfl, hcap, hmax, hF, hc⟩ := open_nodes h ht hp
  have HC := hid hc
  have HT := hid ht
  have hlG := ht.len
  unfold maxLen at hmax
  clear h hc ht
  have HLG := hid hlG
  obtain ⟨n, hn⟩ : ∃ n, n = l.length := ⟨_, rfl⟩
  rw [← hn] at hcap h15 hp
  rw [← hn]
  have HN := hid hn
  have HGN : Hid (G.length = n) := hid (by rw [hn, hlG])
  clear hn hlG
  obtain ⟨ii, hii⟩ := info_parts int_info
  have hmk := run_make_arr (P := Tryd.prog) Tryd.underlying31 hii.1 hii.2.1 hii.2.2.1 hii.2.2.2 rfl n (by omega) (by omega)
  clear hii
  unfold EnvT.val
  go_enter Tryd.func38, Tryd.ntmps38
  go_wp2
  clear hmk
  obtain ⟨w0, hw0⟩ : ∃ w0, w0 = w.alloc (.cells #[.string en.a, .string en.b, .string en.c] 38) := ⟨_, rfl⟩
  have hz0 : w0.heap.size = w.heap.size + 1 := by rw [hw0]; simp
  rw [← hw0]
  have ha0 := hid ((Arr.zeros 3 w0 n (.int .i64 0)).congr (show _ = iv (rowV (evalF en.at) G 0) by rw [iv_zeros, rowV_zero, HGN.out]))
  obtain ⟨b, hb⟩ : ∃ b, b = w0.heap.size := ⟨_, rfl⟩
  have hge : w.heap.size < b := by omega
  obtain ⟨w1, hw1⟩ : ∃ w1, w1 = w0.alloc (.cells (zeros n (.int .i64 0)) 3) := ⟨_, rfl⟩
  have HE : Hid (∀ k, k < 3 → w1.cell? ⟨w.heap.size, k, none⟩ = some (.string (en.at k))) := hid (fun k hk => by
    have h0 : w0.cell? ⟨w.heap.size, k, none⟩ = some (.string (en.at k)) := by
      rw [hw0, World.cell?_alloc_new]
      match k, hk with
      | 0, _ => rfl
      | 1, _ => rfl
      | 2, _ => rfl
    rw [hw1]
    exact cell_below (balloc (b0 w0) _) (by omega) h0)
  have HB1 := hid (show Below w.heap.size w w1 by rw [hw1, hw0]; exact balloc (balloc (b0 w) _) _)
  rw [← hw1, ← hb] at ha0
  rw [show w.heap.size + 1 = b by omega, ← hw1]
  have hz1 : b < w1.heap.size := by rw [hw1, hb]; simp
  clear hb hw1 hw0 hz0
  go_loopw [13] (fun iv' wr => ∃ k : Nat, k ≤ n ∧ iv' = .int .i64 k ∧ Hid (Arr 3 wr b (iv (rowV (evalF en.at) G k))) ∧ Hid (Below b w1 wr)) (fun iv _ => n - (intOf iv).toNat)
  case atStart => exact ⟨0, Nat.zero_le _, rfl, ha0, hid ((b0 w1).mono (by omega))⟩
  case round =>
    clear ha0
    obtain ⟨k, hk, rfl, har, hb⟩ := hrel
    have HBW := hid (show Below w.heap.size w wr from HB1.out.trans (hb.out.mono (by omega)))
    by_cases hlt : k < n
    · obtain ⟨f, hf⟩ : ∃ f, G[k]? = some f := ⟨_, List.getElem?_eq_getElem (by rw [HGN.out]; exact hlt)⟩
      obtain ⟨-, g0, g1, g2, g3, g4⟩ := HC.out k f hf
      obtain ⟨c0, c1, c2, c3, c4⟩ := cells5 HBW.out hF ⟨g0, g1, g2, g3, g4⟩
      clear g0 g1 g2 g3 g4
      have hbl := har.out.lt
      have hfr := har.out.free
      have hck := har.out.cell (i := k) (by rw [iv_len, rowV_len _ _ (by rw [HGN.out]; exact hk), HGN.out]; exact hlt)
      have i1 : (0 : Int) ≤ ↑k := by omega
      have i2 : (↑k : Int) < ↑n := by omega
      have HS := hid (rowV_set (evalF en.at) hf)
      have HG := hid (fun (j : Nat) (x : Frm) (hj : j < k) (hx : G[j]? = some x) => iv_cell har.out (rowV_get (evalF en.at) hj hx))
      have HOK := hid (HT.out.ok k f hf)
      have hne : b ≠ wr.heap.size := by omega
      cases f with
      | is kk s =>
        have h3 := HOK.out.1
        have i3 : (0 : Int) ≤ ↑kk := by omega
        have i4 : (↑kk : Int) < 3 := by omega
        simp only [opI, nA, nB, nK, nT] at c0 c1 c2 c3 c4
        go_upto_if 34 with (fail)
        obtain ⟨wt, hwt⟩ : ∃ wt : World, wt = wr.alloc (.cells #[.int .i64 (1), .int .i64 (0), .int .i64 (0), .int .i64 (kk), .string (s)] 49) := ⟨_, rfl⟩
        have HAR := hid (show Arr 3 wt b (iv (rowV (evalF en.at) G k)) by rw [hwt]; exact har.out.alloc _)
        have HBT := hid (show Below b w1 wt by rw [hwt]; exact hb.out.alloc (by omega) _)
        have hbx : wr.heap.size < wt.heap.size := by rw [hwt]; simp
        have d1 : wt.cell? ⟨wr.heap.size, 1, none⟩ = some (.int .i64 (0)) := by rw [hwt]; exact World.cell?_alloc_new ..
        have d2 : wt.cell? ⟨wr.heap.size, 2, none⟩ = some (.int .i64 (0)) := by rw [hwt]; exact World.cell?_alloc_new ..
        have d3 : wt.cell? ⟨wr.heap.size, 3, none⟩ = some (.int .i64 (kk)) := by rw [hwt]; exact World.cell?_alloc_new ..
        have d4 : wt.cell? ⟨wr.heap.size, 4, none⟩ = some (.string (s)) := by rw [hwt]; exact World.cell?_alloc_new ..
        have hbl2 := HAR.out.lt
        have hfr2 := HAR.out.free
        have hk2 : wt.cell? ⟨b, k, none⟩ = some _ := HAR.out.cell (i := k) (by rw [iv_len, rowV_len _ _ (by rw [HGN.out]; exact hk), HGN.out]; exact hlt)
        have hcell : wt.cell? ⟨w.heap.size, kk, none⟩ = some (.string (en.at kk)) := by rw [hwt]; exact (cell_below (hb.out.alloc (by omega) _) (by omega) (HE.out kk HOK.out.1))
        rw [← hwt]
        clear hwt c0 c1 c2 c3 c4 hck hfr hbl
        obtain ⟨x, hx⟩ : ∃ x, x = en.at kk := ⟨_, rfl⟩
        rw [← hx] at hcell
        have HV := hid (show evalF en.at (.is kk s) = valK x s by rw [hx]; rfl)
        replace hx := hid hx
        rcases empty_eq x with ⟨tx, ptx⟩ | ⟨tx, ptx⟩
        · have HVV := hid (show valK x s = 1 by unfold valK; rw [if_pos ptx])
          replace ptx := hid ptx
          go_wp2
          refine ⟨⟨k + 1, by omega, by go_num, hid ?_, hid (HBT.out.setCell (p := ⟨b, k, none⟩) (Nat.le_refl _) _)⟩, by simp [intOf]; omega⟩
          have h9 := iv_set HAR.out k (1)
          rw [show (rowV (evalF en.at) G k).set k (1) = rowV (evalF en.at) G (k + 1) from (congrArg ((rowV (evalF en.at) G k).set k) (show _ = evalF en.at (.is kk s) from (HV.out.trans HVV.out).symm)).trans HS.out] at h9
          exact h9
        · by_cases hxs : x = s
          · have HVV := hid (show valK x s = 2 by unfold valK; rw [if_neg ptx, if_pos hxs])
            have e9 := eqS_t hxs
            replace hxs := hid hxs
            replace ptx := hid ptx
            go_wp2
            refine ⟨⟨k + 1, by omega, by go_num, hid ?_, hid (HBT.out.setCell (p := ⟨b, k, none⟩) (Nat.le_refl _) _)⟩, by simp [intOf]; omega⟩
            have h9 := iv_set HAR.out k (2)
            rw [show (rowV (evalF en.at) G k).set k (2) = rowV (evalF en.at) G (k + 1) from (congrArg ((rowV (evalF en.at) G k).set k) (show _ = evalF en.at (.is kk s) from (HV.out.trans HVV.out).symm)).trans HS.out] at h9
            exact h9
          · have HVV := hid (show valK x s = 0 by unfold valK; rw [if_neg ptx, if_neg hxs])
            have e9 := eqS_f hxs
            replace hxs := hid hxs
            replace ptx := hid ptx
            go_wp2
            refine ⟨⟨k + 1, by omega, by go_num, hid ?_, hid (HBT.out.setCell (p := ⟨b, k, none⟩) (Nat.le_refl _) _)⟩, by simp [intOf]; omega⟩
            have h9 := iv_set HAR.out k (0)
            rw [show (rowV (evalF en.at) G k).set k (0) = rowV (evalF en.at) G (k + 1) from (congrArg ((rowV (evalF en.at) G k).set k) (show _ = evalF en.at (.is kk s) from (HV.out.trans HVV.out).symm)).trans HS.out] at h9
            exact h9
      | no a =>
        obtain ⟨q1, hga⟩ := HT.out.no k a hf
        obtain ⟨ja, hja⟩ : ∃ ja, ja = k - 1 := ⟨_, rfl⟩
        rw [← hja] at hga
        rw [show nA (Frm.no a) k = (ja : Int) by simp only [nA]; omega] at c1
        simp only [opI, nB, nK, nT] at c0 c2 c3 c4
        have i3 : (0 : Int) ≤ ↑ja := by omega
        have i4 : (↑ja : Int) < ↑n := by omega
        have hva := HG.out ja a (by omega) hga
        have hv3 := evalF_three en.at a
        obtain ⟨va, hvv⟩ : ∃ va, va = evalF en.at a := ⟨_, rfl⟩
        rw [← hvv] at hva hv3
        have HVV := hid hvv
        have hv1 : (0 : Int) ≤ va := by omega
        have hv2 : va ≤ 2 := by omega
        clear hv3 hvv hja
        go_upto_if 34 with (fail)
        obtain ⟨wt, hwt⟩ : ∃ wt : World, wt = wr.alloc (.cells #[.int .i64 (2), .int .i64 (↑ja), .int .i64 (0), .int .i64 (0), .string (ByteArray.empty)] 49) := ⟨_, rfl⟩
        have HAR := hid (show Arr 3 wt b (iv (rowV (evalF en.at) G k)) by rw [hwt]; exact har.out.alloc _)
        have HBT := hid (show Below b w1 wt by rw [hwt]; exact hb.out.alloc (by omega) _)
        have hbx : wr.heap.size < wt.heap.size := by rw [hwt]; simp
        have d1 : wt.cell? ⟨wr.heap.size, 1, none⟩ = some (.int .i64 (↑ja)) := by rw [hwt]; exact World.cell?_alloc_new ..
        have d2 : wt.cell? ⟨wr.heap.size, 2, none⟩ = some (.int .i64 (0)) := by rw [hwt]; exact World.cell?_alloc_new ..
        have d3 : wt.cell? ⟨wr.heap.size, 3, none⟩ = some (.int .i64 (0)) := by rw [hwt]; exact World.cell?_alloc_new ..
        have d4 : wt.cell? ⟨wr.heap.size, 4, none⟩ = some (.string (ByteArray.empty)) := by rw [hwt]; exact World.cell?_alloc_new ..
        have hbl2 := HAR.out.lt
        have hfr2 := HAR.out.free
        have hk2 : wt.cell? ⟨b, k, none⟩ = some _ := HAR.out.cell (i := k) (by rw [iv_len, rowV_len _ _ (by rw [HGN.out]; exact hk), HGN.out]; exact hlt)
        have hcell : wt.cell? ⟨b, ja, none⟩ = some (.int .i64 va) := by rw [hwt]; exact (World.cell?_alloc_old _ _ _ (by show b ≠ _; exact hne)).trans hva
        clear hva
        rw [← hwt]
        clear hwt c0 c1 c2 c3 c4 hck hfr hbl
        go_wp2
        refine ⟨⟨k + 1, by omega, by go_num, hid ?_, hid (HBT.out.setCell (p := ⟨b, k, none⟩) (Nat.le_refl _) _)⟩, by simp [intOf]; omega⟩
        have h9 := iv_set HAR.out k (2 - va)
        rw [show (rowV (evalF en.at) G k).set k (2 - va) = rowV (evalF en.at) G (k + 1) from (congrArg ((rowV (evalF en.at) G k).set k) (show _ = evalF en.at (.no a) from by rw [HVV.out]; rfl)).trans HS.out] at h9
        exact h9
      | two c a bb =>
        cases c with
        | false =>
          obtain ⟨q1, hgb, hga⟩ := HT.out.two k _ _ _ hf
          obtain ⟨jb, hjb⟩ : ∃ jb, jb = k - 1 := ⟨_, rfl⟩
          obtain ⟨ja, hja⟩ : ∃ ja, ja = k - 1 - bb.size := ⟨_, rfl⟩
          rw [← hja] at hga
          rw [← hjb] at hgb
          rw [show nA (Frm.two false a bb) k = (ja : Int) by simp only [nA]; omega] at c1
          rw [show nB (Frm.two false a bb) k = (jb : Int) by simp only [nB]; omega] at c2
          simp only [opI, nK, nT] at c0 c3 c4
          have i3 : (0 : Int) ≤ ↑ja := by omega
          have i4 : (↑ja : Int) < ↑n := by omega
          have i5 : (0 : Int) ≤ ↑jb := by omega
          have i6 : (↑jb : Int) < ↑n := by omega
          have hva := HG.out ja a (by omega) hga
          have hvb := HG.out jb bb (by omega) hgb
          obtain ⟨va, hvv⟩ : ∃ va, va = evalF en.at a := ⟨_, rfl⟩
          obtain ⟨vb, hvw⟩ : ∃ vb, vb = evalF en.at bb := ⟨_, rfl⟩
          rw [← hvv] at hva
          rw [← hvw] at hvb
          have HVV := hid hvv
          have HVW := hid hvw
          have hjk : ja ≠ k := by omega
          have hjk2 : jb ≠ k := by omega
          clear hvv hvw hja hjb
          go_upto_if 34 with (fail)
          obtain ⟨wt, hwt⟩ : ∃ wt : World, wt = wr.alloc (.cells #[.int .i64 (3), .int .i64 (↑ja), .int .i64 (↑jb), .int .i64 (0), .string (ByteArray.empty)] 49) := ⟨_, rfl⟩
          have HAR := hid (show Arr 3 wt b (iv (rowV (evalF en.at) G k)) by rw [hwt]; exact har.out.alloc _)
          have HBT := hid (show Below b w1 wt by rw [hwt]; exact hb.out.alloc (by omega) _)
          have hbx : wr.heap.size < wt.heap.size := by rw [hwt]; simp
          have d1 : wt.cell? ⟨wr.heap.size, 1, none⟩ = some (.int .i64 (↑ja)) := by rw [hwt]; exact World.cell?_alloc_new ..
          have d2 : wt.cell? ⟨wr.heap.size, 2, none⟩ = some (.int .i64 (↑jb)) := by rw [hwt]; exact World.cell?_alloc_new ..
          have d3 : wt.cell? ⟨wr.heap.size, 3, none⟩ = some (.int .i64 (0)) := by rw [hwt]; exact World.cell?_alloc_new ..
          have d4 : wt.cell? ⟨wr.heap.size, 4, none⟩ = some (.string (ByteArray.empty)) := by rw [hwt]; exact World.cell?_alloc_new ..
          have hbl2 := HAR.out.lt
          have hfr2 := HAR.out.free
          have hk2 : wt.cell? ⟨b, k, none⟩ = some _ := HAR.out.cell (i := k) (by rw [iv_len, rowV_len _ _ (by rw [HGN.out]; exact hk), HGN.out]; exact hlt)
          have e1 : wt.cell? ⟨b, ja, none⟩ = some (.int .i64 va) := by rw [hwt]; exact (World.cell?_alloc_old _ _ _ (by show b ≠ _; exact hne)).trans hva
          have e2 : wt.cell? ⟨b, jb, none⟩ = some (.int .i64 vb) := by rw [hwt]; exact (World.cell?_alloc_old _ _ _ (by show b ≠ _; exact hne)).trans hvb
          clear hva hvb
          rw [← hwt]
          clear hwt c0 c1 c2 c3 c4 hck hfr hbl
          have HSA := hid (fun x => show (wt.setCell ⟨b, k, none⟩ x).cell? ⟨b, ja, none⟩ = some (.int .i64 va) from (World.cell?_setCell_other _ _ _ _ (fun e => by injection e with _ e; omega)).trans e1)
          have HSB := hid (fun x => show (wt.setCell ⟨b, k, none⟩ x).cell? ⟨b, jb, none⟩ = some (.int .i64 vb) from (World.cell?_setCell_other _ _ _ _ (fun e => by injection e with _ e; omega)).trans e2)
          go_wp2_with fail
          go_region_held3 (fun w' => w'.cell? ⟨wr.heap.size, 1, none⟩ = some (.int .i64 ↑ja) ∧ w'.cell? ⟨wr.heap.size, 2, none⟩ = some (.int .i64 ↑jb) ∧ w'.cell? ⟨b, ja, none⟩ = some (.int .i64 va) ∧ w'.cell? ⟨b, jb, none⟩ = some (.int .i64 vb)) (first | (go_keep; done) | (refine ⟨?_, ?_, (drew_cell _ _).trans (HSA.out _), (drew_cell _ _).trans (HSB.out _)⟩ <;> go_keep)) (fail)
          all_goals (go_wp2_with fail)
          all_goals
            refine ⟨⟨k + 1, by omega, by go_num, hid ?_, hid (HBT.out.setCell (p := ⟨b, k, none⟩) (Nat.le_refl _) _).drew⟩, by simp [intOf]; omega⟩
            have h9 := iv_set HAR.out k (if vb < va then vb else va)
            rw [show (rowV (evalF en.at) G k).set k (if vb < va then vb else va) = rowV (evalF en.at) G (k + 1) from (congrArg ((rowV (evalF en.at) G k).set k) (show _ = evalF en.at (.two false a bb) from by simp only [evalF]; rw [← HVV.out, ← HVW.out]; split <;> omega)).trans HS.out] at h9
            exact (show Arr 3 (World.drew _) b _ from h9)
        | true =>
          obtain ⟨q1, hgb, hga⟩ := HT.out.two k _ _ _ hf
          obtain ⟨jb, hjb⟩ : ∃ jb, jb = k - 1 := ⟨_, rfl⟩
          obtain ⟨ja, hja⟩ : ∃ ja, ja = k - 1 - bb.size := ⟨_, rfl⟩
          rw [← hja] at hga
          rw [← hjb] at hgb
          rw [show nA (Frm.two true a bb) k = (ja : Int) by simp only [nA]; omega] at c1
          rw [show nB (Frm.two true a bb) k = (jb : Int) by simp only [nB]; omega] at c2
          simp only [opI, nK, nT] at c0 c3 c4
          have i3 : (0 : Int) ≤ ↑ja := by omega
          have i4 : (↑ja : Int) < ↑n := by omega
          have i5 : (0 : Int) ≤ ↑jb := by omega
          have i6 : (↑jb : Int) < ↑n := by omega
          have hva := HG.out ja a (by omega) hga
          have hvb := HG.out jb bb (by omega) hgb
          obtain ⟨va, hvv⟩ : ∃ va, va = evalF en.at a := ⟨_, rfl⟩
          obtain ⟨vb, hvw⟩ : ∃ vb, vb = evalF en.at bb := ⟨_, rfl⟩
          rw [← hvv] at hva
          rw [← hvw] at hvb
          have HVV := hid hvv
          have HVW := hid hvw
          have hjk : ja ≠ k := by omega
          have hjk2 : jb ≠ k := by omega
          clear hvv hvw hja hjb
          go_upto_if 34 with (fail)
          obtain ⟨wt, hwt⟩ : ∃ wt : World, wt = wr.alloc (.cells #[.int .i64 (4), .int .i64 (↑ja), .int .i64 (↑jb), .int .i64 (0), .string (ByteArray.empty)] 49) := ⟨_, rfl⟩
          have HAR := hid (show Arr 3 wt b (iv (rowV (evalF en.at) G k)) by rw [hwt]; exact har.out.alloc _)
          have HBT := hid (show Below b w1 wt by rw [hwt]; exact hb.out.alloc (by omega) _)
          have hbx : wr.heap.size < wt.heap.size := by rw [hwt]; simp
          have d1 : wt.cell? ⟨wr.heap.size, 1, none⟩ = some (.int .i64 (↑ja)) := by rw [hwt]; exact World.cell?_alloc_new ..
          have d2 : wt.cell? ⟨wr.heap.size, 2, none⟩ = some (.int .i64 (↑jb)) := by rw [hwt]; exact World.cell?_alloc_new ..
          have d3 : wt.cell? ⟨wr.heap.size, 3, none⟩ = some (.int .i64 (0)) := by rw [hwt]; exact World.cell?_alloc_new ..
          have d4 : wt.cell? ⟨wr.heap.size, 4, none⟩ = some (.string (ByteArray.empty)) := by rw [hwt]; exact World.cell?_alloc_new ..
          have hbl2 := HAR.out.lt
          have hfr2 := HAR.out.free
          have hk2 : wt.cell? ⟨b, k, none⟩ = some _ := HAR.out.cell (i := k) (by rw [iv_len, rowV_len _ _ (by rw [HGN.out]; exact hk), HGN.out]; exact hlt)
          have e1 : wt.cell? ⟨b, ja, none⟩ = some (.int .i64 va) := by rw [hwt]; exact (World.cell?_alloc_old _ _ _ (by show b ≠ _; exact hne)).trans hva
          have e2 : wt.cell? ⟨b, jb, none⟩ = some (.int .i64 vb) := by rw [hwt]; exact (World.cell?_alloc_old _ _ _ (by show b ≠ _; exact hne)).trans hvb
          clear hva hvb
          rw [← hwt]
          clear hwt c0 c1 c2 c3 c4 hck hfr hbl
          have HSA := hid (fun x => show (wt.setCell ⟨b, k, none⟩ x).cell? ⟨b, ja, none⟩ = some (.int .i64 va) from (World.cell?_setCell_other _ _ _ _ (fun e => by injection e with _ e; omega)).trans e1)
          have HSB := hid (fun x => show (wt.setCell ⟨b, k, none⟩ x).cell? ⟨b, jb, none⟩ = some (.int .i64 vb) from (World.cell?_setCell_other _ _ _ _ (fun e => by injection e with _ e; omega)).trans e2)
          go_wp2_with fail
          go_region_held3 (fun w' => w'.cell? ⟨wr.heap.size, 1, none⟩ = some (.int .i64 ↑ja) ∧ w'.cell? ⟨wr.heap.size, 2, none⟩ = some (.int .i64 ↑jb) ∧ w'.cell? ⟨b, ja, none⟩ = some (.int .i64 va) ∧ w'.cell? ⟨b, jb, none⟩ = some (.int .i64 vb)) (first | (go_keep; done) | (refine ⟨?_, ?_, (drew_cell _ _).trans (HSA.out _), (drew_cell _ _).trans (HSB.out _)⟩ <;> go_keep)) (fail)
          all_goals (go_wp2_with fail)
          all_goals
            refine ⟨⟨k + 1, by omega, by go_num, hid ?_, hid (HBT.out.setCell (p := ⟨b, k, none⟩) (Nat.le_refl _) _).drew⟩, by simp [intOf]; omega⟩
            have h9 := iv_set HAR.out k (if va < vb then vb else va)
            rw [show (rowV (evalF en.at) G k).set k (if va < vb then vb else va) = rowV (evalF en.at) G (k + 1) from (congrArg ((rowV (evalF en.at) G k).set k) (show _ = evalF en.at (.two true a bb) from by simp only [evalF]; rw [← HVV.out, ← HVW.out]; split <;> omega)).trans HS.out] at h9
            exact (show Arr 3 (World.drew _) b _ from h9)
    · have hk' : k = n := by omega
      subst hk'
      have i2 : ¬ (↑k : Int) < ↑k := by omega
      go_wp2
      go_ret
      refine ⟨b, by rw [HGN.out]; rfl, ?_, by omega, HBW.out⟩
      have := har.out
      rw [← HGN.out, rowV_end] at this
      exact this
end Go.Proofs.YtmdnleafpmondaaDoor
