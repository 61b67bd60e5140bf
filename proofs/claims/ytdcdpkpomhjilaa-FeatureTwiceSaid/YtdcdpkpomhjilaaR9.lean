/- Contract: linchpinlaw0.features. -/
import Derived.Test.YtdcdpkpomhjilaaR8
namespace Go.Proofs.Ytdcdpkpomhjilaa
open Go Go.RowKit

def FeatsPost (l : List Int) (i : Int) (w : World) (e : Ending) (w' : World) : Prop := Below w.heap.size w w' ∧ ∃ v fs, e = .returned v ∧ SliceRd tFeat w' (fun b => w.heap.size ≤ b ∧ b < w'.heap.size) v fs ∧ FsOk l i 4 fs
theorem names_cell {w : World} {b : Nat} (h : w.heap[b]? = some (.cells #[.string ⟨#[100, 101, 102, 97, 117, 108, 116]⟩, .string ⟨#[120]⟩, .string ⟨#[121]⟩, .string ⟨#[122]⟩] 90 (0, 0))) {k : Nat} (hk : k < 4) : w.cell? ⟨b, k, none⟩ = some (.string (nmAt k)) := by
  rw [cell_of_row _ _ _ _ _ _ h]
  rcases (by omega : k = 0 ∨ k = 1 ∨ k = 2 ∨ k = 3) with rfl | rfl | rfl | rfl <;> rfl
theorem nmAt_size {k : Nat} (hk : k < 4) : (nmAt k).size ≤ maxLen := by have := nm4_size _ (nmAt_mem hk); unfold maxLen; omega
theorem slash_x {n : ByteArray} : n ++ ⟨#[47]⟩ ++ ⟨#[120]⟩ = n ++ ⟨#[47]⟩ ++ ⟨#[120]⟩ := rfl

theorem word_some {o : ByteArray} (h : o ∈ wordL) : o.toList.isEmpty = false := by
  simp only [wordL, List.mem_cons, List.not_mem_nil, or_false] at h
  rcases h with rfl | rfl | rfl | rfl <;> (rw [ByteArray.toList_eq]; rfl)
theorem wordsize {o : ByteArray} (h : o = ⟨#[]⟩ ∨ o ∈ wordL) : o.size ≤ 100 := by
  rcases h with rfl | h
  · decide
  · simp only [wordL, List.mem_cons, List.not_mem_nil, or_false] at h
    rcases h with rfl | rfl | rfl | rfl <;> decide
theorem namesize {o : ByteArray} (h : o ∈ nameL) : o.size ≤ 100 := by
  simp only [nameL, List.mem_cons, List.not_mem_nil, or_false] at h
  rcases h with rfl | rfl | rfl | rfl | rfl <;> decide

set_option maxRecDepth 100000 in
set_option maxHeartbeats 8000000 in
theorem features_any (v : Value) (l : List Int) (i : Int) (a0 c0 c1 : ByteArray) (b0' b1' b2' : Int) (nv bv fv : Value) (needs : List NeedD) (w : World) (h : SliceRd tInt w (Lt w.heap.size) v l) (hn : SliceRd tNeed w (Lt w.heap.size) nv needs) (hi0 : 0 ≤ i) (hi1 : i ≤ 800) :
    Calls Try.prog 46 #[v, .int .i64 i, .agg #[.string a0, .int .i64 b0', .int .i64 b1', .int .i64 b2', .string c0, .string c1, nv, bv, fv]] w (FeatsPost l i w) := by
  obtain ⟨A, cap, rfl, hcap, hmax, hc⟩ := hn.needs
  unfold maxLen at hmax
  have HC := hid hc
  have HA := hid (atAll h)
  have HAI := hid (fun j => atF_i64 (i := j) (ints_i64 h))
  obtain ⟨ii, hii⟩ := info_parts feat_info
  have HII := hid hii
  clear h hn hc hii
  go_enter Try.func46, Try.ntmps46
  go_wp2_with fail
  obtain ⟨w0, hw0⟩ : ∃ w0 : World, w0 = (w.alloc (.cells #[.string a0, .int .i64 b0', .int .i64 b1', .int .i64 b2', .string c0, .string c1, .slice A needs.length cap, bv, fv] 42)).alloc (.cells #[.string ⟨#[100, 101, 102, 97, 117, 108, 116]⟩, .string ⟨#[120]⟩, .string ⟨#[121]⟩, .string ⟨#[122]⟩] 90) := ⟨_, rfl⟩
  have e1 : (w.alloc (.cells #[.string a0, .int .i64 b0', .int .i64 b1', .int .i64 b2', .string c0, .string c1, .slice A needs.length cap, bv, fv] 42)).heap.size = w.heap.size + 1 := by simp
  have hb0w : Below w.heap.size w w0 := hw0 ▸ balloc (balloc (b0 w) _) _
  have hz0 : w0.heap.size = w.heap.size + 2 := by rw [hw0]; simp
  have hrc : w0.cell? ⟨w.heap.size, 6, none⟩ = some (.slice A needs.length cap) := by
    have hrb : w0.heap[w.heap.size]? = some (.cells #[.string a0, .int .i64 b0', .int .i64 b1', .int .i64 b2', .string c0, .string c1, .slice A needs.length cap, bv, fv] 42 (0, 0)) := by
      rw [hw0]; exact ((balloc (b0 _) _).block _ (by omega)).trans (heap_alloc_new w _)
    rw [cell_of_row _ _ _ _ _ _ hrb]; rfl
  have hnb : w0.heap[w.heap.size + 1]? = some (.cells #[.string ⟨#[100, 101, 102, 97, 117, 108, 116]⟩, .string ⟨#[120]⟩, .string ⟨#[121]⟩, .string ⟨#[122]⟩] 90 (0, 0)) := by
    rw [hw0, ← e1]; exact heap_alloc_new _ _
  have HNC := hid (fun (k : Nat) (hk : k < 4) => names_cell hnb hk)
  have HRC := hid hrc
  have HB0 := hid hb0w
  have HZ0 := hid hz0
  rw [← hw0]
  clear hw0 e1 hb0w hz0 hrc hnb
  go_loopw [7, 9] (fun ov kv wr => ∃ (k : Nat) (fs : List Feat) (xs : List Value), k ≤ 4 ∧ kv = .int .i64 k ∧ Hid (OutRd wr w0.heap.size ov fs xs) ∧ Hid (FsOk l i k fs) ∧ Hid (Below w0.heap.size w0 wr)) (fun _ kv _ => 4 - (intOf kv).toNat)
  case atStart => exact ⟨0, [], [], by omega, rfl, hid (OutRd.nil _ _), hid (FsOk.nil l i), hid (b0 _)⟩
  case round =>
    obtain ⟨k, fs, xs, hk, rfl, HO, HF, hb⟩ := hrel
    have i1 : (0 : Int) ≤ ↑k := by omega
    have HBW := hid (bstep HB0.out hb.out)
    obtain ⟨OA, oc, rfl⟩ := own_form HO.out.own
    by_cases hlt : k < 4
    · have i2 : (↑k : Int) < 4 := by omega
      have hq := HZ0.out
      have CA := hid (at0_any v l (i + ↑k) wr (HA.out _ HBW.out) ⟨by omega, by omega⟩)
      have CP := hid (fun w' => place0_any (atF l (i + ↑k)) 3 w' (HAI.out _) (by decide) (by decide))
      have HPB : Hid (presB l i k = !(atF l (i + ↑k) % 3 == 0)) := hid rfl
      have xN := cell_below hb.out (by omega) (HNC.out k hlt)
      have xR := cell_below hb.out (by omega) HRC.out
      generalize atF l (i + ↑k) = n0 at *
      clear hq
      rcases bc (n0 % 3 == 0) with ⟨hp, HP⟩ | ⟨hp, HP⟩
      · go_wp2_with (first
          | (go_at_call 53; (with_reducible refine CA.out.mono ?_); rintro e w' ⟨rfl, rfl⟩)
          | (go_at_call 52; (with_reducible refine (CP.out _).mono ?_); rintro e w' ⟨rfl, rfl⟩))
        exact ⟨⟨k + 1, fs, xs, by omega, by go_num, HO, hid (HF.out.skip (by rw [HPB.out, HP.out]; rfl)), hb⟩, by simp [intOf]; omega⟩
      · have HPK := hid (show presB l i k = true by rw [HPB.out, HP.out]; rfl)
        go_wp2_with (first
          | (go_at_call 53; (with_reducible refine CA.out.mono ?_); rintro e w' ⟨rfl, rfl⟩)
          | (go_at_call 52; (with_reducible refine (CP.out _).mono ?_); rintro e w' ⟨rfl, rfl⟩))
        clear hp HP HPB CA CP
        obtain ⟨wT, hwT⟩ : ∃ wT : World, wT = wr.alloc (.cells #[.string (nmAt k), .slice none 0 0] 56) := ⟨_, rfl⟩
        obtain ⟨T, hT⟩ : ∃ T, T = wr.heap.size := ⟨_, rfl⟩
        have HT := hid hT
        have HF0 : Hid (FBox wT T (nmAt k) (.slice none 0 0) []) := hid ⟨by rw [hwT, hT]; exact heap_alloc_new _ _, PutOk.nil _, fun g hg => by cases hg⟩
        have HBT : Hid (Below T wr wT) := hid (by rw [hwT, hT]; exact balloc (b0 _) _)
        rw [← hwT, ← hT]
        clear hwT hT
        have xRT := fun (wy : World) (hy : Below T wr wy) => cell_below hy (HT.out ▸ World.block_lt_of_cell? _ _ xR) xR
        have HXR := hid xRT
        clear xRT xN xR
        obtain ⟨wo, hwo⟩ : ∃ wo : World, wo = wr := ⟨_, rfl⟩
        subst hwo
        go_loopw [12] (fun jv wr' => ∃ (j : Nat) (tv : Value) (of : List ByteArray), j ≤ 2 ∧ jv = .int .i64 j ∧ Hid (FBox wr' T (nmAt k) tv of) ∧ Hid (OfOk l i k (2 * j) of) ∧ Hid (Below T wo wr')) (fun jv _ => 2 - (intOf jv).toNat)
        case atStart => exact ⟨0, _, _, by omega, rfl, HF0, hid (OfOk.nil l i k), HBT⟩
        case round =>
          obtain ⟨j, tv, of, hj, rfl, HFB, HOF, hy⟩ := hrel
          have xR := HXR.out _ hy.out
          by_cases hjl : j < needs.length ∧ j < 2
          · obtain ⟨hj1, hj2⟩ := hjl
            obtain ⟨g, o, g', n, c, wh, hA, hF, y0, y1, y2, hn1, hF', y3, hnm, hop⟩ := HC.out j hj1
            generalize (needs[j]).name = nm at *
            generalize (needs[j]).opt = opt at *
            subst hA
            rcases (by omega : j = 0 ∨ j = 1) with rfl | rfl
            · simp only [Nat.zero_mul, Nat.add_zero] at y0 y1 y2
              have HBY := hid (HBW.out.trans ((HT.out ▸ hy.out : Below wo.heap.size wo wr).mono HBW.out.size))
              have z0 := cell_below HBY.out hF y0
              have z1 := cell_below HBY.out hF y1
              have z2 := cell_below HBY.out hF y2
              have z3 := cell_below HBY.out hF' y3
              have HX1 := hid (show ∀ x ∈ wordL, ((⟨#[63]⟩ : ByteArray) ++ x).size ≤ maxLen from fun x hx => by have := (item_opt l i k hx).1; unfold maxLen; omega)
              have HX2 := hid (show (nm ++ ⟨#[47]⟩ ++ ⟨#[120]⟩ : ByteArray).size ≤ maxLen by have := (item_pull l i k hnm).1; unfold maxLen; omega)
              have q1 : ¬ 9223372036854775807 < (⟨#[63]⟩ : ByteArray).size + opt.size := by
                have : (⟨#[63]⟩ : ByteArray).size = 1 := rfl
                have := wordsize hop
                omega
              have q2 : ¬ 9223372036854775807 < nm.size + (⟨#[47]⟩ : ByteArray).size := by
                have : (⟨#[47]⟩ : ByteArray).size = 1 := rfl
                have := namesize hnm
                omega
              have q3 : ¬ 9223372036854775807 < (nm ++ ⟨#[47]⟩ : ByteArray).size + (⟨#[120]⟩ : ByteArray).size := by
                have h1 : (⟨#[47]⟩ : ByteArray).size = 1 := rfl
                have h2 : (⟨#[120]⟩ : ByteArray).size = 1 := rfl
                have := namesize hnm
                rw [ByteArray.size_append, h1, h2]
                omega
              have q4 : ¬ 9223372036854775807 < 1 + opt.size := by have := wordsize hop; omega
              have q5 : ¬ 9223372036854775807 < nm.size + 1 := by have := namesize hnm; omega
              have q6 : ¬ 9223372036854775807 < nm.size + 1 + 1 := by have := namesize hnm; omega
              clear y0 y1 y2 y3
              obtain ⟨t0, t1, tf, tl⟩ := HFB.out.cells
              have hMT : wr.heap.size ≠ T := by omega
              have hMT' : T ≠ wr.heap.size := by omega
              have hn0 : (0 : Int) < ↑n := by omega
              have hgl : g' < wr.heap.size := World.block_lt_of_cell? _ _ z3
              have hgg : g < wr.heap.size := World.block_lt_of_cell? _ _ z0
              obtain ⟨tA, tcc, rfl⟩ := HFB.out.put.formS
              rcases hop with rfl | hop
              · go_wp2_with fail
                all_goals
                  first
                    | exact ⟨⟨1, _, _, by omega, by go_num, hid (HFB.out.later (balloc (b0 _) _)), hid (HOF.out.mono (Nat.le_refl _) (by omega)), hid (hy.out.alloc (by have := hy.out.size; omega) _)⟩, by simp [intOf]⟩
                    | skip
                all_goals
                  obtain ⟨wm, hwm⟩ : ∃ wm : World, wm = wr.alloc (.cells #[.slice (some ⟨g', 0, none⟩) n c, .string wh, .string ⟨#[]⟩] 69) := ⟨_, rfl⟩
                  have HFm : Hid (FBox wm T (nmAt k) (.slice tA of.length tcc) of) := hid (hwm ▸ HFB.out.later (balloc (b0 wr) _))
                  have HYm : Hid (Below T wo wm) := hid (by rw [hwm]; exact hy.out.alloc (by have := hy.out.size; omega) _)
                  have zm3 : wm.cell? ⟨g', 0, none⟩ = some (.string nm) := by rw [hwm]; exact cell_below (balloc (b0 wr) _) hgl z3
                  have zm0 : wm.cell? ⟨wr.heap.size, 0, none⟩ = some (.slice (some ⟨g', 0, none⟩) n c) := by rw [hwm]; exact World.cell?_alloc_new ..
                  obtain ⟨tm0, tm1, tmf, tml⟩ := HFm.out.cells
                  rw [← hwm]
                  clear hwm t0 t1 tf tl
                  (have HQ := hid (put0_any _ of (nm ++ ⟨#[47]⟩ ++ ⟨#[120]⟩) wm.drew (HFm.out.put.lift (b0 _).drew) HX2.out (by have := HOF.out.n; omega))
                   have HFBD := hid (HFm.out.later (b0 _).drew)
                   first
                    | go_must (go_region_law ((go_simp; go_at_call 57; refine HQ.out.mono ?_; rintro e w7 ⟨v7, rfl, hp7, hb7, ho7⟩; have HFB7 := hid (HFBD.out.later hb7); have hw7 : Below wm.heap.size wm w7 := (b0 wm).drew.trans hb7; have HW7 := hid hw7; have HFB8 := hid (HFB7.out.set hp7 (fun g hg => by
                        rcases ho7 with rfl | ho7
                        · exact HFm.out.own g hg
                        · exact Nat.lt_of_lt_of_le HFm.out.lt (ho7 g hg))); obtain ⟨A7, c7, rfl⟩ := hp7.formS; obtain ⟨u0, u1, uf, ul⟩ := HFB7.out.cells; clear hp7 hb7 ho7 hw7)))
                    | fail
                   all_goals go_wp2
                   all_goals exact ⟨⟨1, _, _, by omega, by go_num, HFB8, hid ((HOF.out.put (item_pull l i k hnm)).mono (Nat.le_refl _) (by omega)), hid (((HYm.out).trans (HW7.out.mono (by have := HYm.out.size; have := HFm.out.lt; omega))).setCell (p := ⟨T, 1, none⟩) (Nat.le_refl _) _)⟩, by simp [intOf]⟩)
              · have he := word_some hop
                have HO1 := hid hop
                clear hop
                obtain ⟨wm0, hwm0⟩ : ∃ wm : World, wm = wr.alloc (.cells #[.slice (some ⟨g', 0, none⟩) n c, .string wh, .string opt] 69) := ⟨_, rfl⟩
                have HFm0 := hid (HFB.out.later (balloc (b0 wr) (.cells #[.slice (some ⟨g', 0, none⟩) n c, .string wh, .string opt] 69)))
                have HP1 := hid (put0_any (.slice tA of.length tcc) of (⟨#[63]⟩ ++ opt) wm0 (hwm0 ▸ HFm0.out.put) (HX1.out _ HO1.out) (by have := HOF.out.n; omega))
                have HFM0 : Hid (FBox wm0 T (nmAt k) (.slice tA of.length tcc) of) := hid (hwm0 ▸ HFm0.out)
                have hzm : wm0.heap.size = wr.heap.size + 1 := by rw [hwm0]; simp
                have HM0 : Hid (wm0.heap[wr.heap.size]? = some (.cells #[.slice (some ⟨g', 0, none⟩) n c, .string wh, .string opt] 69 (0, 0))) := hid (by rw [hwm0]; exact heap_alloc_new _ _)
                have HZ3 : Hid (wm0.cell? ⟨g', 0, none⟩ = some (.string nm)) := hid (by rw [hwm0]; exact cell_below (balloc (b0 wr) _) hgl z3)
                have HYM0 : Hid (Below T wo wm0) := hid (by rw [hwm0]; exact hy.out.alloc (by have := hy.out.size; omega) _)
                rw [hwm0] at HP1
                go_wp2_with (first
                  | (go_at_call 57; refine HP1.out.mono ?_; rintro e w5 ⟨v5, rfl, hp5, hb5, ho5⟩; rw [← hwm0] at hb5 ho5; have HFB5 := hid (HFM0.out.later hb5); have HFB6 := hid (HFB5.out.set hp5 (fun g hg => by
                      rcases ho5 with rfl | ho5
                      · exact HFM0.out.own g hg
                      · exact Nat.lt_of_lt_of_le HFM0.out.lt (ho5 g hg))); have HW5 := hid hb5; obtain ⟨A5, c5, rfl⟩ := hp5.formS; obtain ⟨u0, u1, uf, ul⟩ := HFB5.out.cells; have m5 : w5.cell? ⟨wr.heap.size, 0, none⟩ = some (.slice (some ⟨g', 0, none⟩) n c) := (by rw [cell_of_row _ _ _ _ _ _ ((hb5.block _ (by omega)).trans HM0.out)]; rfl); have z5 := cell_below hb5 (World.block_lt_of_cell? _ _ HZ3.out) HZ3.out; clear hp5 hb5 ho5)
                  | fail)
                all_goals
                  first
                    | exact ⟨⟨1, _, _, by omega, by go_num, hid (HFB.out.later (balloc (b0 _) _)), hid (HOF.out.mono (Nat.le_refl _) (by omega)), hid (hy.out.alloc (by have := hy.out.size; omega) _)⟩, by simp [intOf]⟩
                    | exact ⟨⟨1, _, _, by omega, by go_num, HFB6, hid ((HOF.out.put (item_opt l i k HO1.out)).mono (Nat.le_refl _) (by omega)), hid ((HYM0.out.trans (HW5.out.mono (by have := HYM0.out.size; have := HFM0.out.lt; omega))).setCell (p := ⟨T, 1, none⟩) (Nat.le_refl _) _)⟩, by simp [intOf]⟩
                    | skip
                all_goals
                  first
                    | (have HFS0 := HFB6
                       obtain ⟨wS, hwS⟩ : ∃ wS : World, wS = w5.setCell ⟨T, 1, none⟩ (.slice A5 (putF of (⟨#[63]⟩ ++ opt)).length c5) := ⟨_, rfl⟩
                       have HFS : Hid (FBox wS T (nmAt k) (.slice A5 (putF of (⟨#[63]⟩ ++ opt)).length c5) (putF of (⟨#[63]⟩ ++ opt))) := hid (hwS ▸ HFB6.out)
                       have HOS := hid (HOF.out.put (item_opt l i k HO1.out))
                       have HYS : Hid (Below T wo wS) := hid (by rw [hwS]; exact (HYM0.out.trans (HW5.out.mono (by have := HYM0.out.size; have := HFM0.out.lt; omega))).setCell (p := ⟨T, 1, none⟩) (Nat.le_refl _) _)
                       have hgT : g' ≠ T := by have := HT.out; have := HBW.out.size; have : g' < w.heap.size := hF'; omega
                       have zS3 : wS.cell? ⟨g', 0, none⟩ = some (.string nm) := by rw [hwS]; exact (World.cell?_of_block (heap_setCell_other _ _ _ _ hgT)).trans z5
                       have zS0 : wS.cell? ⟨wr.heap.size, 0, none⟩ = some (.slice (some ⟨g', 0, none⟩) n c) := by rw [hwS]; exact (World.cell?_of_block (heap_setCell_other _ _ _ _ hMT)).trans m5
                       obtain ⟨tm0, tm1, tmf, tml⟩ := HFS.out.cells
                       rw [← hwS]
                       clear hwS t0 t1 tf tl u0 u1 uf ul m5 z5
                       (have HQ := hid (put0_any _ (putF of (⟨#[63]⟩ ++ opt)) (nm ++ ⟨#[47]⟩ ++ ⟨#[120]⟩) wS.drew (HFS.out.put.lift (b0 _).drew) HX2.out (by have := HOS.out.n; omega))
                        have HFBD := hid (HFS.out.later (b0 _).drew)
                        first
                         | go_must (go_region_law ((go_simp; go_at_call 57; refine HQ.out.mono ?_; rintro e w7 ⟨v7, rfl, hp7, hb7, ho7⟩; have HFB7 := hid (HFBD.out.later hb7); have hw7 : Below wS.heap.size wS w7 := (b0 wS).drew.trans hb7; have HW7 := hid hw7; have HFB8 := hid (HFB7.out.set hp7 (fun g hg => by
                             rcases ho7 with rfl | ho7
                             · exact HFS.out.own g hg
                             · exact Nat.lt_of_lt_of_le HFS.out.lt (ho7 g hg))); obtain ⟨A7, c7, rfl⟩ := hp7.formS; obtain ⟨u0, u1, uf, ul⟩ := HFB7.out.cells; clear hp7 hb7 ho7 hw7)))
                         | fail
                        all_goals go_wp2
                        all_goals exact ⟨⟨1, _, _, by omega, by go_num, HFB8, hid ((HOS.out.put (item_pull l i k hnm)).mono (Nat.le_refl _) (by omega)), hid (((HYS.out).trans (HW7.out.mono (by have := HYS.out.size; have := HFS.out.lt; omega))).setCell (p := ⟨T, 1, none⟩) (Nat.le_refl _) _)⟩, by simp [intOf]⟩))
                    | (skip
                       skip
                       obtain ⟨wm, hwm⟩ : ∃ wm : World, wm = wr.alloc (.cells #[.slice (some ⟨g', 0, none⟩) n c, .string wh, .string opt] 69) := ⟨_, rfl⟩
                       have HFm : Hid (FBox wm T (nmAt k) (.slice tA of.length tcc) of) := hid (hwm ▸ HFB.out.later (balloc (b0 wr) _))
                       have HYm : Hid (Below T wo wm) := hid (by rw [hwm]; exact hy.out.alloc (by have := hy.out.size; omega) _)
                       have zm3 : wm.cell? ⟨g', 0, none⟩ = some (.string nm) := by rw [hwm]; exact cell_below (balloc (b0 wr) _) hgl z3
                       have zm0 : wm.cell? ⟨wr.heap.size, 0, none⟩ = some (.slice (some ⟨g', 0, none⟩) n c) := by rw [hwm]; exact World.cell?_alloc_new ..
                       obtain ⟨tm0, tm1, tmf, tml⟩ := HFm.out.cells
                       rw [← hwm]
                       clear hwm t0 t1 tf tl
                       (have HQ := hid (put0_any _ of (nm ++ ⟨#[47]⟩ ++ ⟨#[120]⟩) wm.drew (HFm.out.put.lift (b0 _).drew) HX2.out (by have := HOF.out.n; omega))
                        have HFBD := hid (HFm.out.later (b0 _).drew)
                        first
                         | go_must (go_region_law ((go_simp; go_at_call 57; refine HQ.out.mono ?_; rintro e w7 ⟨v7, rfl, hp7, hb7, ho7⟩; have HFB7 := hid (HFBD.out.later hb7); have hw7 : Below wm.heap.size wm w7 := (b0 wm).drew.trans hb7; have HW7 := hid hw7; have HFB8 := hid (HFB7.out.set hp7 (fun g hg => by
                             rcases ho7 with rfl | ho7
                             · exact HFm.out.own g hg
                             · exact Nat.lt_of_lt_of_le HFm.out.lt (ho7 g hg))); obtain ⟨A7, c7, rfl⟩ := hp7.formS; obtain ⟨u0, u1, uf, ul⟩ := HFB7.out.cells; clear hp7 hb7 ho7 hw7)))
                         | fail
                        all_goals go_wp2
                        all_goals exact ⟨⟨1, _, _, by omega, by go_num, HFB8, hid ((HOF.out.put (item_pull l i k hnm)).mono (Nat.le_refl _) (by omega)), hid (((HYm.out).trans (HW7.out.mono (by have := HYm.out.size; have := HFm.out.lt; omega))).setCell (p := ⟨T, 1, none⟩) (Nat.le_refl _) _)⟩, by simp [intOf]⟩))
            · simp only [Nat.one_mul] at y0 y1 y2
              have HBY := hid (HBW.out.trans ((HT.out ▸ hy.out : Below wo.heap.size wo wr).mono HBW.out.size))
              have z0 := cell_below HBY.out hF y0
              have z1 := cell_below HBY.out hF y1
              have z2 := cell_below HBY.out hF y2
              have z3 := cell_below HBY.out hF' y3
              have HX1 := hid (show ∀ x ∈ wordL, ((⟨#[63]⟩ : ByteArray) ++ x).size ≤ maxLen from fun x hx => by have := (item_opt l i k hx).1; unfold maxLen; omega)
              have HX2 := hid (show (nm ++ ⟨#[47]⟩ ++ ⟨#[120]⟩ : ByteArray).size ≤ maxLen by have := (item_pull l i k hnm).1; unfold maxLen; omega)
              have q1 : ¬ 9223372036854775807 < (⟨#[63]⟩ : ByteArray).size + opt.size := by
                have : (⟨#[63]⟩ : ByteArray).size = 1 := rfl
                have := wordsize hop
                omega
              have q2 : ¬ 9223372036854775807 < nm.size + (⟨#[47]⟩ : ByteArray).size := by
                have : (⟨#[47]⟩ : ByteArray).size = 1 := rfl
                have := namesize hnm
                omega
              have q3 : ¬ 9223372036854775807 < (nm ++ ⟨#[47]⟩ : ByteArray).size + (⟨#[120]⟩ : ByteArray).size := by
                have h1 : (⟨#[47]⟩ : ByteArray).size = 1 := rfl
                have h2 : (⟨#[120]⟩ : ByteArray).size = 1 := rfl
                have := namesize hnm
                rw [ByteArray.size_append, h1, h2]
                omega
              have q4 : ¬ 9223372036854775807 < 1 + opt.size := by have := wordsize hop; omega
              have q5 : ¬ 9223372036854775807 < nm.size + 1 := by have := namesize hnm; omega
              have q6 : ¬ 9223372036854775807 < nm.size + 1 + 1 := by have := namesize hnm; omega
              clear y0 y1 y2 y3
              obtain ⟨t0, t1, tf, tl⟩ := HFB.out.cells
              have hMT : wr.heap.size ≠ T := by omega
              have hMT' : T ≠ wr.heap.size := by omega
              have hn0 : (0 : Int) < ↑n := by omega
              have hgl : g' < wr.heap.size := World.block_lt_of_cell? _ _ z3
              have hgg : g < wr.heap.size := World.block_lt_of_cell? _ _ z0
              obtain ⟨tA, tcc, rfl⟩ := HFB.out.put.formS
              rcases hop with rfl | hop
              · go_wp2_with fail
                all_goals
                  first
                    | exact ⟨⟨2, _, _, by omega, by go_num, hid (HFB.out.later (balloc (b0 _) _)), hid (HOF.out.mono (Nat.le_refl _) (by omega)), hid (hy.out.alloc (by have := hy.out.size; omega) _)⟩, by simp [intOf]⟩
                    | skip
                all_goals
                  obtain ⟨wm, hwm⟩ : ∃ wm : World, wm = wr.alloc (.cells #[.slice (some ⟨g', 0, none⟩) n c, .string wh, .string ⟨#[]⟩] 69) := ⟨_, rfl⟩
                  have HFm : Hid (FBox wm T (nmAt k) (.slice tA of.length tcc) of) := hid (hwm ▸ HFB.out.later (balloc (b0 wr) _))
                  have HYm : Hid (Below T wo wm) := hid (by rw [hwm]; exact hy.out.alloc (by have := hy.out.size; omega) _)
                  have zm3 : wm.cell? ⟨g', 0, none⟩ = some (.string nm) := by rw [hwm]; exact cell_below (balloc (b0 wr) _) hgl z3
                  have zm0 : wm.cell? ⟨wr.heap.size, 0, none⟩ = some (.slice (some ⟨g', 0, none⟩) n c) := by rw [hwm]; exact World.cell?_alloc_new ..
                  obtain ⟨tm0, tm1, tmf, tml⟩ := HFm.out.cells
                  rw [← hwm]
                  clear hwm t0 t1 tf tl
                  (have HQ := hid (put0_any _ of (nm ++ ⟨#[47]⟩ ++ ⟨#[120]⟩) wm.drew (HFm.out.put.lift (b0 _).drew) HX2.out (by have := HOF.out.n; omega))
                   have HFBD := hid (HFm.out.later (b0 _).drew)
                   first
                    | go_must (go_region_law ((go_simp; go_at_call 57; refine HQ.out.mono ?_; rintro e w7 ⟨v7, rfl, hp7, hb7, ho7⟩; have HFB7 := hid (HFBD.out.later hb7); have hw7 : Below wm.heap.size wm w7 := (b0 wm).drew.trans hb7; have HW7 := hid hw7; have HFB8 := hid (HFB7.out.set hp7 (fun g hg => by
                        rcases ho7 with rfl | ho7
                        · exact HFm.out.own g hg
                        · exact Nat.lt_of_lt_of_le HFm.out.lt (ho7 g hg))); obtain ⟨A7, c7, rfl⟩ := hp7.formS; obtain ⟨u0, u1, uf, ul⟩ := HFB7.out.cells; clear hp7 hb7 ho7 hw7)))
                    | fail
                   all_goals go_wp2
                   all_goals exact ⟨⟨2, _, _, by omega, by go_num, HFB8, hid ((HOF.out.put (item_pull l i k hnm)).mono (Nat.le_refl _) (by omega)), hid (((HYm.out).trans (HW7.out.mono (by have := HYm.out.size; have := HFm.out.lt; omega))).setCell (p := ⟨T, 1, none⟩) (Nat.le_refl _) _)⟩, by simp [intOf]⟩)
              · have he := word_some hop
                have HO1 := hid hop
                clear hop
                obtain ⟨wm0, hwm0⟩ : ∃ wm : World, wm = wr.alloc (.cells #[.slice (some ⟨g', 0, none⟩) n c, .string wh, .string opt] 69) := ⟨_, rfl⟩
                have HFm0 := hid (HFB.out.later (balloc (b0 wr) (.cells #[.slice (some ⟨g', 0, none⟩) n c, .string wh, .string opt] 69)))
                have HP1 := hid (put0_any (.slice tA of.length tcc) of (⟨#[63]⟩ ++ opt) wm0 (hwm0 ▸ HFm0.out.put) (HX1.out _ HO1.out) (by have := HOF.out.n; omega))
                have HFM0 : Hid (FBox wm0 T (nmAt k) (.slice tA of.length tcc) of) := hid (hwm0 ▸ HFm0.out)
                have hzm : wm0.heap.size = wr.heap.size + 1 := by rw [hwm0]; simp
                have HM0 : Hid (wm0.heap[wr.heap.size]? = some (.cells #[.slice (some ⟨g', 0, none⟩) n c, .string wh, .string opt] 69 (0, 0))) := hid (by rw [hwm0]; exact heap_alloc_new _ _)
                have HZ3 : Hid (wm0.cell? ⟨g', 0, none⟩ = some (.string nm)) := hid (by rw [hwm0]; exact cell_below (balloc (b0 wr) _) hgl z3)
                have HYM0 : Hid (Below T wo wm0) := hid (by rw [hwm0]; exact hy.out.alloc (by have := hy.out.size; omega) _)
                rw [hwm0] at HP1
                go_wp2_with (first
                  | (go_at_call 57; refine HP1.out.mono ?_; rintro e w5 ⟨v5, rfl, hp5, hb5, ho5⟩; rw [← hwm0] at hb5 ho5; have HFB5 := hid (HFM0.out.later hb5); have HFB6 := hid (HFB5.out.set hp5 (fun g hg => by
                      rcases ho5 with rfl | ho5
                      · exact HFM0.out.own g hg
                      · exact Nat.lt_of_lt_of_le HFM0.out.lt (ho5 g hg))); have HW5 := hid hb5; obtain ⟨A5, c5, rfl⟩ := hp5.formS; obtain ⟨u0, u1, uf, ul⟩ := HFB5.out.cells; have m5 : w5.cell? ⟨wr.heap.size, 0, none⟩ = some (.slice (some ⟨g', 0, none⟩) n c) := (by rw [cell_of_row _ _ _ _ _ _ ((hb5.block _ (by omega)).trans HM0.out)]; rfl); have z5 := cell_below hb5 (World.block_lt_of_cell? _ _ HZ3.out) HZ3.out; clear hp5 hb5 ho5)
                  | fail)
                all_goals
                  first
                    | exact ⟨⟨2, _, _, by omega, by go_num, hid (HFB.out.later (balloc (b0 _) _)), hid (HOF.out.mono (Nat.le_refl _) (by omega)), hid (hy.out.alloc (by have := hy.out.size; omega) _)⟩, by simp [intOf]⟩
                    | exact ⟨⟨2, _, _, by omega, by go_num, HFB6, hid ((HOF.out.put (item_opt l i k HO1.out)).mono (Nat.le_refl _) (by omega)), hid ((HYM0.out.trans (HW5.out.mono (by have := HYM0.out.size; have := HFM0.out.lt; omega))).setCell (p := ⟨T, 1, none⟩) (Nat.le_refl _) _)⟩, by simp [intOf]⟩
                    | skip
                all_goals
                  first
                    | (have HFS0 := HFB6
                       obtain ⟨wS, hwS⟩ : ∃ wS : World, wS = w5.setCell ⟨T, 1, none⟩ (.slice A5 (putF of (⟨#[63]⟩ ++ opt)).length c5) := ⟨_, rfl⟩
                       have HFS : Hid (FBox wS T (nmAt k) (.slice A5 (putF of (⟨#[63]⟩ ++ opt)).length c5) (putF of (⟨#[63]⟩ ++ opt))) := hid (hwS ▸ HFB6.out)
                       have HOS := hid (HOF.out.put (item_opt l i k HO1.out))
                       have HYS : Hid (Below T wo wS) := hid (by rw [hwS]; exact (HYM0.out.trans (HW5.out.mono (by have := HYM0.out.size; have := HFM0.out.lt; omega))).setCell (p := ⟨T, 1, none⟩) (Nat.le_refl _) _)
                       have hgT : g' ≠ T := by have := HT.out; have := HBW.out.size; have : g' < w.heap.size := hF'; omega
                       have zS3 : wS.cell? ⟨g', 0, none⟩ = some (.string nm) := by rw [hwS]; exact (World.cell?_of_block (heap_setCell_other _ _ _ _ hgT)).trans z5
                       have zS0 : wS.cell? ⟨wr.heap.size, 0, none⟩ = some (.slice (some ⟨g', 0, none⟩) n c) := by rw [hwS]; exact (World.cell?_of_block (heap_setCell_other _ _ _ _ hMT)).trans m5
                       obtain ⟨tm0, tm1, tmf, tml⟩ := HFS.out.cells
                       rw [← hwS]
                       clear hwS t0 t1 tf tl u0 u1 uf ul m5 z5
                       (have HQ := hid (put0_any _ (putF of (⟨#[63]⟩ ++ opt)) (nm ++ ⟨#[47]⟩ ++ ⟨#[120]⟩) wS.drew (HFS.out.put.lift (b0 _).drew) HX2.out (by have := HOS.out.n; omega))
                        have HFBD := hid (HFS.out.later (b0 _).drew)
                        first
                         | go_must (go_region_law ((go_simp; go_at_call 57; refine HQ.out.mono ?_; rintro e w7 ⟨v7, rfl, hp7, hb7, ho7⟩; have HFB7 := hid (HFBD.out.later hb7); have hw7 : Below wS.heap.size wS w7 := (b0 wS).drew.trans hb7; have HW7 := hid hw7; have HFB8 := hid (HFB7.out.set hp7 (fun g hg => by
                             rcases ho7 with rfl | ho7
                             · exact HFS.out.own g hg
                             · exact Nat.lt_of_lt_of_le HFS.out.lt (ho7 g hg))); obtain ⟨A7, c7, rfl⟩ := hp7.formS; obtain ⟨u0, u1, uf, ul⟩ := HFB7.out.cells; clear hp7 hb7 ho7 hw7)))
                         | fail
                        all_goals go_wp2
                        all_goals exact ⟨⟨2, _, _, by omega, by go_num, HFB8, hid ((HOS.out.put (item_pull l i k hnm)).mono (Nat.le_refl _) (by omega)), hid (((HYS.out).trans (HW7.out.mono (by have := HYS.out.size; have := HFS.out.lt; omega))).setCell (p := ⟨T, 1, none⟩) (Nat.le_refl _) _)⟩, by simp [intOf]⟩))
                    | (skip
                       skip
                       obtain ⟨wm, hwm⟩ : ∃ wm : World, wm = wr.alloc (.cells #[.slice (some ⟨g', 0, none⟩) n c, .string wh, .string opt] 69) := ⟨_, rfl⟩
                       have HFm : Hid (FBox wm T (nmAt k) (.slice tA of.length tcc) of) := hid (hwm ▸ HFB.out.later (balloc (b0 wr) _))
                       have HYm : Hid (Below T wo wm) := hid (by rw [hwm]; exact hy.out.alloc (by have := hy.out.size; omega) _)
                       have zm3 : wm.cell? ⟨g', 0, none⟩ = some (.string nm) := by rw [hwm]; exact cell_below (balloc (b0 wr) _) hgl z3
                       have zm0 : wm.cell? ⟨wr.heap.size, 0, none⟩ = some (.slice (some ⟨g', 0, none⟩) n c) := by rw [hwm]; exact World.cell?_alloc_new ..
                       obtain ⟨tm0, tm1, tmf, tml⟩ := HFm.out.cells
                       rw [← hwm]
                       clear hwm t0 t1 tf tl
                       (have HQ := hid (put0_any _ of (nm ++ ⟨#[47]⟩ ++ ⟨#[120]⟩) wm.drew (HFm.out.put.lift (b0 _).drew) HX2.out (by have := HOF.out.n; omega))
                        have HFBD := hid (HFm.out.later (b0 _).drew)
                        first
                         | go_must (go_region_law ((go_simp; go_at_call 57; refine HQ.out.mono ?_; rintro e w7 ⟨v7, rfl, hp7, hb7, ho7⟩; have HFB7 := hid (HFBD.out.later hb7); have hw7 : Below wm.heap.size wm w7 := (b0 wm).drew.trans hb7; have HW7 := hid hw7; have HFB8 := hid (HFB7.out.set hp7 (fun g hg => by
                             rcases ho7 with rfl | ho7
                             · exact HFm.out.own g hg
                             · exact Nat.lt_of_lt_of_le HFm.out.lt (ho7 g hg))); obtain ⟨A7, c7, rfl⟩ := hp7.formS; obtain ⟨u0, u1, uf, ul⟩ := HFB7.out.cells; clear hp7 hb7 ho7 hw7)))
                         | fail
                        all_goals go_wp2
                        all_goals exact ⟨⟨2, _, _, by omega, by go_num, HFB8, hid ((HOF.out.put (item_pull l i k hnm)).mono (Nat.le_refl _) (by omega)), hid (((HYm.out).trans (HW7.out.mono (by have := HYm.out.size; have := HFm.out.lt; omega))).setCell (p := ⟨T, 1, none⟩) (Nat.le_refl _) _)⟩, by simp [intOf]⟩))
          · have hje : (j < needs.length ∧ ¬ (↑j : Int) < 2) ∨ ¬ j < needs.length := by omega
            obtain ⟨tA, tcc, rfl⟩ := HFB.out.put.formS
            obtain ⟨t0, t1, tf, tl⟩ := HFB.out.cells
            have HBS := hid (show w0.heap.size ≤ wo.heap.size from hb.out.size)
            have HOW := hid (HO.out.belowT HT.out hy.out)
            have HTV := hid (fun o => (HFB.out.later (balloc (b0 wr) o)).outS HO.out HT.out HBS.out)
            have HBY := hid (HBW.out.trans ((HT.out ▸ hy.out : Below wo.heap.size wo wr).mono HBW.out.size))
            have OFK := hid (HOF.out.mono (k' := k + 1) (m' := 5) (by omega) (by omega))
            have hfl : fs.length ≤ 4 := by have := HO.out.own.1; have := HF.out.nm; have h2 := congrArg List.length this; rw [List.length_map, List.length_map] at h2; have h3 := List.length_filter_le (presB l i) (List.range k); rw [List.length_range] at h3; omega
            have hq := HZ0.out
            by_cases hk3 : (↑k : Int) < 3
            · have s3 : IntKind.i64.wrap (i + ↑k) = i + ↑k := IntWalk.i64_in _ (by omega)
              have s4 : IntKind.i64.wrap (i + ↑k + 1) = i + ↑k + 1 := IntWalk.i64_in _ (by omega)
              have CA := hid (at0_any v l (i + ↑k + 1) wr (HA.out _ HBY.out) ⟨by omega, by omega⟩)
              have CP := hid (fun w' => place0_any (atF l (i + ↑k + 1)) 3 w' (HAI.out _) (by decide) (by decide))
              have HPB : Hid (presB l i (k + 1) = !(atF l (i + ↑k + 1) % 3 == 0)) := hid (by unfold presB; rw [show i + ((k + 1 : Nat) : Int) = i + ↑k + 1 by omega])
              have xN : wr.cell? ⟨w.heap.size + 1, k + 1, none⟩ = some (.string (nmAt (k + 1))) := cell_below hy.out (by have := HT.out; have := HBS.out; omega) (cell_below hb.out (by omega) (HNC.out (k + 1) (by omega)))
              generalize atF l (i + ↑k + 1) = n1 at *
              have s5 : IntKind.i64.wrap (↑k + 1) = ↑k + 1 := IntWalk.i64_in _ (by omega)
              have i3 : (0 : Int) ≤ ↑k + 1 := by omega
              have i4 : (↑k : Int) + 1 < 4 := by omega
              have i5 : ((↑k : Int) + 1).toNat = k + 1 := by omega
              clear hq
              rcases bc (n1 % 3 == 0) with ⟨hp, HP⟩ | ⟨hp, HP⟩
              · have hp2 : (n1 % 3 != 0) = false := by simp only [bne, hp]; rfl
                rcases hje with ⟨hj1, hj2⟩ | hj1
                all_goals
                  go_wp2_with (first
                    | (go_at_call 53; (with_reducible refine CA.out.mono ?_); rintro e w' ⟨rfl, rfl⟩)
                    | (go_at_call 52; (with_reducible refine (CP.out _).mono ?_); rintro e w' ⟨rfl, rfl⟩)
                    | (at_builtin; go_must (refine wpList_append_src _ rfl (.tmp 116) (.tmp 118) 26 rfl w0.heap.size 56 ii _ 2 40 Try.underlying26 HII.out.1 HII.out.2.1 HII.out.2.2.1 HII.out.2.2.2 rfl (by omega) (.slice OA fs.length oc) fs.length xs (by rfl) (by exact (HOW.out.own.alloc _)) (some ⟨wr.heap.size, 0, none⟩) 1 1 [.string (nmAt k), .slice tA of.length tcc] (by rfl) (by exact src_new _ _ rfl 2 _ rfl rfl) (by simp [Value.oneCell']) (by unfold maxLen; omega) (by omega) (by have := HBS.out; have := hy.out.size; have := HT.out; simp; omega) ?_); intro v6 w6 hown6 hg6 hat6; have HOUT := hid ((HOW.out.later (balloc (b0 wr) _)).snoc (f := ⟨nmAt k, of⟩) (nmAt_size hlt) (HTV.out _) hown6 hg6 hat6); have HB6 := hid (((hb.out.trans (hy.out.mono (by have := HBS.out; have := HT.out; omega))).alloc (by have := HBS.out; have := hy.out.size; have := HT.out; omega) _).grown (B := w0.heap.size) hg6 (by have := HBS.out; have := hy.out.size; have := HT.out; simp; omega) (fun j hj => (HOW.out.own.lt j hj).1)); obtain ⟨A6, c6, rfl⟩ := own_form hown6; clear hown6 hg6 hat6))
                all_goals exact ⟨⟨k + 1, _, _, by omega, by go_num, HOUT, hid (HF.out.snoc HPK.out OFK.out), HB6⟩, by simp [intOf]; omega⟩
              · have hp2 : (n1 % 3 != 0) = true := by simp only [bne, hp]; rfl
                have HPN := hid (show presB l i (k + 1) = true by rw [HPB.out, HP.out]; rfl)
                have HQ := hid (put0_any (.slice tA of.length tcc) of (nmAt (k + 1)) wr.drew (HFB.out.put.lift (b0 _).drew) (nmAt_size (by omega)) (by have := HOF.out.n; omega))
                have HFBD := hid (HFB.out.later (b0 _).drew)
                rcases hje with ⟨hj1, hj2⟩ | hj1
                all_goals
                  go_wp2_with (first
                    | (go_at_call 53; (with_reducible refine CA.out.mono ?_); rintro e w' ⟨rfl, rfl⟩)
                    | (go_at_call 52; (with_reducible refine (CP.out _).mono ?_); rintro e w' ⟨rfl, rfl⟩)
                    | (at_builtin; go_must (refine wpList_append_src _ rfl (.tmp 116) (.tmp 118) 26 rfl w0.heap.size 56 ii _ 2 40 Try.underlying26 HII.out.1 HII.out.2.1 HII.out.2.2.1 HII.out.2.2.2 rfl (by omega) (.slice OA fs.length oc) fs.length xs (by rfl) (by exact (HOW.out.own.alloc _)) (some ⟨wr.heap.size, 0, none⟩) 1 1 [.string (nmAt k), .slice tA of.length tcc] (by rfl) (by exact src_new _ _ rfl 2 _ rfl rfl) (by simp [Value.oneCell']) (by unfold maxLen; omega) (by omega) (by have := HBS.out; have := hy.out.size; have := HT.out; simp; omega) ?_); intro v6 w6 hown6 hg6 hat6; have HOUT := hid ((HOW.out.later (balloc (b0 wr) _)).snoc (f := ⟨nmAt k, of⟩) (nmAt_size hlt) (HTV.out _) hown6 hg6 hat6); have HB6 := hid (((hb.out.trans (hy.out.mono (by have := HBS.out; have := HT.out; omega))).alloc (by have := HBS.out; have := hy.out.size; have := HT.out; omega) _).grown (B := w0.heap.size) hg6 (by have := HBS.out; have := hy.out.size; have := HT.out; simp; omega) (fun j hj => (HOW.out.own.lt j hj).1)); obtain ⟨A6, c6, rfl⟩ := own_form hown6; clear hown6 hg6 hat6))
                all_goals
                  first
                    | exact ⟨⟨k + 1, _, _, by omega, by go_num, HOUT, hid (HF.out.snoc HPK.out OFK.out), HB6⟩, by simp [intOf]; omega⟩
                    | skip
                all_goals
                  first
                    | go_must (go_region_law ((go_simp; go_at_call 57; refine HQ.out.mono ?_; rintro e w7 ⟨v7, rfl, hp7, hb7, ho7⟩; have HFB7 := hid (HFBD.out.later hb7); have HW7 := hid (show Below wr.heap.size wr w7 from (b0 wr).drew.trans hb7); have HFB8 := hid (HFB7.out.set hp7 (fun g hg => by
                        rcases ho7 with rfl | ho7
                        · exact HFB.out.own g hg
                        · exact Nat.lt_of_lt_of_le HFB.out.lt (ho7 g hg))); obtain ⟨A7, c7, rfl⟩ := hp7.formS; obtain ⟨u0, u1, uf, ul⟩ := HFB7.out.cells; clear hp7 hb7 ho7)))
                    | fail
                all_goals
                  obtain ⟨wS, hwS⟩ : ∃ wS : World, wS = w7.setCell ⟨T, 1, none⟩ (.slice A7 (putF of (nmAt (k + 1))).length c7) := ⟨_, rfl⟩
                  have HFS : Hid (FBox wS T (nmAt k) (.slice A7 (putF of (nmAt (k + 1))).length c7) (putF of (nmAt (k + 1)))) := hid (hwS ▸ HFB8.out)
                  have HYS : Hid (Below T wo wS) := hid (by rw [hwS]; exact (hy.out.trans (HW7.out.mono (by have := hy.out.size; have := HT.out; omega))).setCell (p := ⟨T, 1, none⟩) (Nat.le_refl _) _)
                  obtain ⟨tm0, tm1, tmf, tml⟩ := HFS.out.cells
                  rw [← hwS]
                  clear hwS t0 t1 tf tl u0 u1 uf ul HOW HTV OFK
                  have HOW := hid (HO.out.belowT HT.out HYS.out)
                  have HTV := hid (fun o => (HFS.out.later (balloc (b0 wS) o)).outS HO.out HT.out HBS.out)
                  have OFK := hid ((((HOF.out.mono (k' := k + 1) (m' := 4) (by omega) (by omega)).put (item_next (by omega) HPN.out))).mono (m' := 5) (Nat.le_refl _) (by omega))
                  go_wp2_with (first
                    | (at_builtin; go_must (refine wpList_append_src _ rfl (.tmp 116) (.tmp 118) 26 rfl w0.heap.size 56 ii _ 2 40 Try.underlying26 HII.out.1 HII.out.2.1 HII.out.2.2.1 HII.out.2.2.2 rfl (by omega) (.slice OA fs.length oc) fs.length xs (by rfl) (by exact (HOW.out.own.alloc _)) (some ⟨wS.heap.size, 0, none⟩) 1 1 [.string (nmAt k), .slice A7 (putF of (nmAt (k + 1))).length c7] (by rfl) (by exact src_new _ _ rfl 2 _ rfl rfl) (by simp [Value.oneCell']) (by unfold maxLen; omega) (by omega) (by have := HBS.out; have := HYS.out.size; have := HT.out; simp; omega) ?_); intro v6 w6 hown6 hg6 hat6; have HOUT := hid ((HOW.out.later (balloc (b0 wS) _)).snoc (f := ⟨nmAt k, putF of (nmAt (k + 1))⟩) (nmAt_size hlt) (HTV.out _) hown6 hg6 hat6); have HB6 := hid (((hb.out.trans (HYS.out.mono (by have := HBS.out; have := HT.out; omega))).alloc (by have := HBS.out; have := HYS.out.size; have := HT.out; omega) _).grown (B := w0.heap.size) hg6 (by have := HBS.out; have := HYS.out.size; have := HT.out; simp; omega) (fun j hj => (HOW.out.own.lt j hj).1)); obtain ⟨A6, c6, rfl⟩ := own_form hown6; clear hown6 hg6 hat6))
                  exact ⟨⟨k + 1, _, _, by omega, by go_num, HOUT, hid (HF.out.snoc HPK.out OFK.out), HB6⟩, by simp [intOf]; omega⟩
            · clear hq
              rcases hje with ⟨hj1, hj2⟩ | hj1
              all_goals
                go_wp2_with (first
                  | (at_builtin; go_must (refine wpList_append_src _ rfl (.tmp 116) (.tmp 118) 26 rfl w0.heap.size 56 ii _ 2 40 Try.underlying26 HII.out.1 HII.out.2.1 HII.out.2.2.1 HII.out.2.2.2 rfl (by omega) (.slice OA fs.length oc) fs.length xs (by rfl) (by exact (HOW.out.own.alloc _)) (some ⟨wr.heap.size, 0, none⟩) 1 1 [.string (nmAt k), .slice tA of.length tcc] (by rfl) (by exact src_new _ _ rfl 2 _ rfl rfl) (by simp [Value.oneCell']) (by unfold maxLen; omega) (by omega) (by have := HBS.out; have := hy.out.size; have := HT.out; simp; omega) ?_); intro v6 w6 hown6 hg6 hat6; have HOUT := hid ((HOW.out.later (balloc (b0 wr) _)).snoc (f := ⟨nmAt k, of⟩) (nmAt_size hlt) (HTV.out _) hown6 hg6 hat6); have HB6 := hid (((hb.out.trans (hy.out.mono (by have := HBS.out; have := HT.out; omega))).alloc (by have := HBS.out; have := hy.out.size; have := HT.out; omega) _).grown (B := w0.heap.size) hg6 (by have := HBS.out; have := hy.out.size; have := HT.out; simp; omega) (fun j hj => (HOW.out.own.lt j hj).1)); obtain ⟨A6, c6, rfl⟩ := own_form hown6; clear hown6 hg6 hat6))
              all_goals exact ⟨⟨k + 1, _, _, by omega, by go_num, HOUT, hid (HF.out.snoc HPK.out OFK.out), HB6⟩, by simp [intOf]; omega⟩
    · have hk4 : k = 4 := by omega
      have i2 : ¬ (↑k : Int) < 4 := by omega
      go_wp2
      go_ret
      exact ⟨HBW.out, _, fs, rfl, HO.out.rd.more (fun b hb => ⟨by have := HB0.out.size; omega, hb.2⟩), hk4 ▸ HF.out⟩
end Go.Proofs.Ytdcdpkpomhjilaa
