import Derived.Test.YtilkhofgcgfnlaaGreatN10
import Derived.Outline
import Derived.Test.YtilkhofgcgfnlaaGreatN14
import Derived.Test.YtilkhofgcgfnlaaGreatN17to19
section
/- Contract: linchpinmade.Inc. -/
namespace Go.Proofs.YtilkhofgcgfnlaaGreat
open Go Go.RowKit

def IncPost (ns : List Nat) (w : World) (e : Ending) (w' : World) : Prop := ∃ v M, e = .returned v ∧ IncOk ns M ∧ SliceRd tTerm w' (Lt w'.heap.size) v (canon ns M) ∧ Below w.heap.size w w'
set_option maxRecDepth 100000 in
set_option maxHeartbeats 4000000 in
theorem inc_any (v lv : Value) (ns : List Nat) (xs : List Int) (w : World) (h : UniRd w (Lt w.heap.size) v ns) (ho : NsOk ns) (hl : SliceRd tInt w (Lt w.heap.size) lv xs) :
    Calls Tryz.prog 21 #[v, lv] w (IncPost ns w) := by
  have HH := hid h
  have HO := hid ho
  obtain ⟨g, cap0, rfl, hg, -⟩ := h
  have h11 := ho.hi
  have h2 := ho.lo
  obtain ⟨it, hit⟩ := info_parts term_info
  have HIT := hid hit
  obtain ⟨A, cap, rfl, hcap, hmax, hc⟩ := hl.ints
  unfold maxLen at hmax
  have HC := hid hc
  have HL := hid hl
  clear ho hit hc hl
  go_enter Tryz.func21, Tryz.ntmps21
  go_wp2_with fail
  obtain ⟨w0, hw0⟩ : ∃ w0 : World, w0 = w.alloc (.cells #[.slice (some ⟨g, 0, none⟩) ns.length cap0] 27) := ⟨_, rfl⟩
  have hb0 : Below w.heap.size w w0 := hw0 ▸ balloc (b0 w) _
  have hl0 : w.heap.size < w0.heap.size := by rw [hw0]; simp
  have q0 : w0.cell? ⟨w.heap.size, 0, none⟩ = some (.slice (some ⟨g, 0, none⟩) ns.length cap0) := by rw [hw0, alloc_cell]; rfl
  have HB0 := hid hb0
  have HQ := hid q0
  have HU0 := hid (uni_later HH.out hb0)
  rw [← hw0]
  clear hw0 hb0 q0
  go_loopw [5, 6, 7] (fun ov iv _ wr => ∃ (k : Nat) (T : List Term), k ≤ 9 ∧ iv = .int .i64 k ∧ T.length ≤ k ∧ Hid (OwnF fTerm 31 w0.heap.size wr ov T) ∧ Hid (Below w0.heap.size w0 wr)) (fun _ iv _ _ => 10 - (intOf iv).toNat)
  case atStart => exact ⟨0, [], by omega, rfl, Nat.zero_le _, hid (OwnF.nil _ _ _ _), hid (b0 w0)⟩
  case round =>
    obtain ⟨k, T, hk, rfl, hT, hown, hb⟩ := hrel
    obtain ⟨Ao, co, rfl⟩ := hown.out.form
    have d0 := cell_below hb.out hl0 HQ.out
    by_cases hlt : (k : Int) + 1 < xs.length
    · by_cases h8 : k < 8
      · have hk1 : k < xs.length := by omega
        have hk2 : k + 1 < xs.length := by omega
        obtain ⟨gg, o, hA, hF, g0, hx0⟩ := HC.out k hk1
        obtain ⟨gg2, o2, hA2, hF2, g1, hx1⟩ := HC.out (k + 1) hk2
        subst hA
        cases hA2
        have hld : w.heap.size < wr.heap.size := Nat.lt_of_lt_of_le hl0 hb.out.size
        have hgw : gg < wr.heap.size := Nat.lt_of_lt_of_le hF (Nat.le_trans HB0.out.size hb.out.size)
        have c0 := cell_below hb.out (Nat.lt_of_lt_of_le hF HB0.out.size) (cell_below HB0.out hF g0)
        have c1 := cell_below hb.out (Nat.lt_of_lt_of_le hF HB0.out.size) (cell_below HB0.out hF g1)
        have l0 := later_cell hld d0
        have l1 := later_cell hgw c0
        generalize xs[k] = x at *
        generalize xs[k + 1] = y at *
        have HX := hid hx0
        have HY := hid hx1
        have hlen64 : I64 (ns.length : Int) := ⟨by omega, by omega⟩
        have HP := hid (fun e : Later wr => place_any x ns.length e.w hx0 hlen64)
        obtain ⟨u, hu⟩ : ∃ u : Nat, placeF x ns.length = u := ⟨(placeF x ns.length).toNat, by have := placeF_lo x ns.length; omega⟩
        have hun : u < ns.length := by have := placeF_hi x ns.length (by omega); omega
        rw [hu] at HP
        have i1 : (0 : Int) ≤ ↑k := by omega
        have i2 : (↑k : Int) < ↑xs.length := by omega
        have i3 : (0 : Int) ≤ ↑k + 1 := by omega
        have i5 : (↑k : Int) < 8 := by omega
        have i6 : IntKind.i64.wrap (↑k + 1) = (↑k : Int) + 1 := IntWalk.i64_in _ (by omega)
        have i7 : ((↑k : Int) + 1).toNat = k + 1 := by omega
        have hf64 : I64 ((fullN ns u : Nat) : Int) := i64_small (fullN_le HO.out u)
        have hf1 := fullN_pos hun
        have hf31 := fullN_le HO.out u
        obtain ⟨p, hp⟩ : ∃ p : Int, placeF y (fullN ns u : Nat) = p := ⟨_, rfl⟩
        have hp1 : 0 ≤ p := hp ▸ placeF_lo _ _
        have hp2 : p < 31 := by have := placeF_hi y (fullN ns u : Nat) (by omega); omega
        have HPL := hid (fun W => hp ▸ place_any y (fullN ns u : Nat) W hx1 hf64)
        have hfk := fullF_nat (ns := ns) u
        have hu64 : I64 (u : Int) := ⟨by omega, by omega⟩
        have HFU := hid (fun (W : World) (hb2 : Below wr.heap.size wr W) => hfk ▸ rfull_any _ ns u W _ (uni_later (uni_later HU0.out hb.out) hb2) HO.out hu64 (fun _ h => h))
        have i8 : IntKind.i64.wrap (1 + p) = 1 + p := IntWalk.i64_in _ (by omega)
        have HI := hid (show I64 (u : Int) ∧ I64 (1 + p) from ⟨hu64, ⟨by omega, by omega⟩⟩)
        clear hx0 hx1 hu hp hfk hu64 hf64 g0 g1 hlen64
        generalize fullN ns u = ff at *
        go_wp2_with fail
        (refine wp_region_later (by kernel_rfl) (by kernel_rfl) ?_; (repeat (go_big_quiet_step (((go_at_call 12; exact Calls.later_same ((HP.out _).mono fun _ _ h => ⟨h.1, h.2.symm⟩) rfl))))); refine wpQuiet_nil ?_; rintro _ ⟨e1, rfl⟩)
        obtain ⟨w1, hw1⟩ : ∃ w1 : World, w1 = e1.w := ⟨_, rfl⟩
        have hb1 : Below wr.heap.size wr w1 := hw1 ▸ e1.below
        rw [← hw1]
        have HB1 := hid hb1
        have d1 := cell_below hb1 hld d0
        have c2 := cell_below hb1 hgw c1
        have hdr : Below w1.heap.size w1 w1.drew := (b0 w1).drew
        have hgw1 : gg < w1.heap.size := Nat.lt_of_lt_of_le hgw hb1.size
        have hld1 : w.heap.size < w1.heap.size := Nat.lt_of_lt_of_le hld hb1.size
        clear hw1 l0 l1 c0 d0 c1 hb1
        go_wp2_with fail
        go_region_law ((first
          | (refine step_guard (.tmp 29) (.tmp 42) 23 rfl ?_; refine step_append_src _ rfl (.tmp 29) (.tmp 42) 23 rfl w0.heap.size 31 it _ 2 16 Tryz.underlying23 HIT.out.1 HIT.out.2.1 HIT.out.2.2.1 HIT.out.2.2.2 rfl (by omega) (.slice Ao T.length co) T.length (fTerm.all T) (by rfl) (by exact HO2.out.1.alloc _) _ 1 1 (fTerm.cells ⟨(u : Int), 1 + p⟩) (by rfl) (by exact src_new _ _ rfl 2 _ rfl rfl) (by simp [fTerm, Value.oneCell']) (by unfold maxLen; omega) (by omega) (by have := HB2.out.size; simp; omega) ?_; intro v5 w5 hown5 hg5 hat5; have HO5 := hid (HO2.out.snoc (e := 31) (B := w0.heap.size) (v' := v5) (show fTerm.ok ⟨(u : Int), 1 + p⟩ from HI.out) hown5); have HB5 := hid (own_app (v2 := v5) (balloc HB2.out _) (HO2.out.alloc _) (by have := HB2.out.size; simp; omega) hg5 rfl); clear hown5 hg5 hat5)
          | (go_simp; go_at_call 26; refine (HFU.out _ (bstep HB1.out hdr)).mono ?_; rintro e w2 ⟨rfl, hb2⟩; have HW2 := hid (bstep HB1.out (bstep hdr hb2)); have HB2 := hid (bstep hb.out HW2.out); have HO2 := hid (hown.out.below HW2.out (Nat.le_refl _)); have d2 := cell_below (bstep hdr hb2) hld1 d1; have c3 := cell_below (bstep hdr hb2) hgw1 c2; clear hb2)
          | (go_simp; go_at_call 12; refine (HPL.out _).mono ?_; rintro e w3 ⟨rfl, rfl⟩)))
        all_goals go_wp2_with fail
        all_goals exact ⟨⟨k + 2, T ++ [⟨(u : Int), 1 + p⟩], by omega, by go_num, by simp; omega, HO5, HB5⟩, by simp [intOf]; omega⟩
      · have HRD := hid hown.out.rd
        obtain ⟨M, hM1, hM2⟩ := make_getD (ns := ns) T
        have HM1 := hid hM1
        have HM2 := hid hM2
        clear hM1 hM2
        have i5 : ¬ ((↑k : Int) < 8) := by omega
        go_wp2_with (go_at_call 14; refine (rmake22_any _ _ ns T _ (uni_later HU0.out hb.out) HO.out HRD.out).mono ?_; rintro e w2 ⟨sv, rfl, hrd, hb2⟩)
        go_ret
        exact ⟨_, M, rfl, HM1.out, by rw [← HM2.out]; exact hrd, bstep HB0.out (bstep hb.out hb2)⟩
    · have HRD := hid hown.out.rd
      obtain ⟨M, hM1, hM2⟩ := make_getD (ns := ns) T
      have HM1 := hid hM1
      have HM2 := hid hM2
      clear hM1 hM2
      have i6 : IntKind.i64.wrap (↑k + 1) = (↑k : Int) + 1 := IntWalk.i64_in _ (by omega)
      go_wp2_with (go_at_call 14; refine (rmake22_any _ _ ns T _ (uni_later HU0.out hb.out) HO.out HRD.out).mono ?_; rintro e w2 ⟨sv, rfl, hrd, hb2⟩)
      go_ret
      exact ⟨_, M, rfl, HM1.out, by rw [← HM2.out]; exact hrd, bstep HB0.out (bstep hb.out hb2)⟩
end Go.Proofs.YtilkhofgcgfnlaaGreat
end
section
/- Contract: linchpinlaw22.awake. -/
namespace Go.Proofs.YtilkhofgcgfnlaaGreat
open Go Go.RowKit

theorem term_eql (s t : Term) (W : World) : (binOp .eql 31 (.agg #[.int .i64 s.unit, .int .i64 s.mask]) (.agg #[.int .i64 t.unit, .int .i64 t.mask])).run Tryz.prog W = .ok (.bool (decide (s = t))) W := by
  have u3 := Tryz.underlying3
  have a3 := Tryz.isAgg3
  have z3 := Tryz.sizeOf3
  have hS : Tryz.prog.underlying 31 = some (.struct (Tryz.prog.fieldsOf 31)) := by kernel_rfl
  have hp : Tryz.prog.stoodInHeld 31 = false := by kernel_rfl
  rw [run_eql_struct, show (10000 : Nat) = 9999 + 1 from rfl, run_equalIn_agg W 9999 31 _ _ hS hp]
  simp only [Program.fieldsOf, Tryz.underlying31]
  go_simp
  obtain ⟨a, b⟩ := s
  obtain ⟨c, d⟩ := t
  by_cases h1 : a = c <;> by_cases h2 : b = d <;> simp [h1, h2]
def ns3 : List Nat := [1, 1, 1]
theorem ns3_ok : NsOk ns3 := ⟨by decide, by decide, fun k h => by
  match k, h with
  | 0, _ => exact Nat.le_of_ble_eq_true rfl
  | 1, _ => exact Nat.le_of_ble_eq_true rfl
  | 2, _ => exact Nat.le_of_ble_eq_true rfl⟩
def mkM (x y : Nat) : Nat → Nat := fun u => if u = 1 then x else if u = 2 then y else 3
theorem mkM_ok {x y : Nat} (hx : x = 1 ∨ x = 2 ∨ x = 3) (hy : y = 1 ∨ y = 2 ∨ y = 3) : IncOk ns3 (mkM x y) := by
  rcases hx with rfl | rfl | rfl <;> rcases hy with rfl | rfl | rfl <;> exact ⟨by decide, by decide⟩
theorem SliceRd.take1 {α : Type} {t : Ty α} {w : World} {F : Nat → Prop} {A : Option Addr} {n cap : Nat} {l : List α} (h : SliceRd t w F (.slice A n cap) l) (k : Nat) (hk : k ≤ l.length) : SliceRd t w F (.slice A k cap) (l.take k) := by
  obtain ⟨A', cap', hv, h1, h2, h3⟩ := h.shape
  injection hv with e1 e2 e3
  subst e1; subst e3
  refine ⟨A, cap, by rw [List.length_take, Nat.min_eq_left hk], by rw [List.length_take]; omega, h2, fun i hi => ?_⟩
  rw [List.length_take] at hi
  obtain ⟨g, o, cs, hA, hF, hc, hcell, hr⟩ := h3 i (by omega)
  exact ⟨g, o, cs, hA, hF, hc, hcell, by rw [List.getElem_take]; exact hr⟩
/-- Two terms, one term: where they lie. -/
theorem two_at {w : World} {F : Nat → Prop} {v : Value} {s t : Term} (h : SliceRd tTerm w F v [s, t]) : ∃ g o cap, v = .slice (some ⟨g, o, none⟩) 2 cap ∧ F g ∧ 2 ≤ cap ∧ cap ≤ 9223372036854775807 ∧ w.cell? ⟨g, o + 2, none⟩ = some (.int .i64 t.unit) ∧ w.cell? ⟨g, o + 2 + 1, none⟩ = some (.int .i64 t.mask) := by
  obtain ⟨A, cap, rfl, h1, h2, hc⟩ := h.terms
  obtain ⟨g, o, rfl, hF, c0, c1, -, -⟩ := hc 1 (show 1 < 2 by omega)
  exact ⟨g, o, cap, rfl, hF, h1, h2, c0, c1⟩
theorem one_at {w : World} {F : Nat → Prop} {v : Value} {t : Term} (h : SliceRd tTerm w F v [t]) : ∃ g o cap, v = .slice (some ⟨g, o, none⟩) 1 cap ∧ F g ∧ w.cell? ⟨g, o, none⟩ = some (.int .i64 t.unit) ∧ w.cell? ⟨g, o + 1, none⟩ = some (.int .i64 t.mask) := by
  obtain ⟨A, cap, rfl, h1, h2, hc⟩ := h.terms
  obtain ⟨g, o, rfl, hF, c0, c1, -, -⟩ := hc 0 (show 0 < 1 by omega)
  exact ⟨g, o, cap, rfl, hF, by simpa using c0, by simpa using c1⟩
theorem terms_new {w : World} {l : List Term} {cs : Array Value} (hc : cs.toList = termCells l) (hok : ∀ t ∈ l, I64 t.unit ∧ I64 t.mask) (hl : l.length ≤ 100) : SliceRd tTerm (w.alloc (.cells cs 31)) (Lt (w.alloc (.cells cs 31)).heap.size) (.slice (some ⟨w.heap.size, 0, none⟩) l.length l.length) l :=
  (own_new (f := fTerm) (by rw [fTerm_all]; exact hc) hok (by unfold maxLen; omega)).rd
theorem aw_make : makeN ns3 [⟨2, 1⟩, ⟨1, 2⟩, ⟨2, 3⟩] = some [⟨1, 2⟩, ⟨2, 1⟩] := by decide +kernel
theorem aw_join : joinR ns3 (mkM 1 3) (mkM 2 1) 1 = some [⟨2, 1⟩] := by decide +kernel
theorem aw_ca : canon ns3 (mkM 1 3) = [⟨1, 1⟩] := by decide +kernel
theorem aw_cb : canon ns3 (mkM 2 1) = [⟨1, 2⟩, ⟨2, 1⟩] := by decide +kernel
theorem aw_c1 : canon ns3 (mkM 2 3) = [⟨1, 2⟩] := by decide +kernel
theorem aw_within : withinL ns3 [⟨2, 1⟩] (mkM 2 3) = false := by decide +kernel
set_option maxRecDepth 100000 in
set_option maxHeartbeats 4000000 in
theorem awake_any (w : World) : Calls Tryz.prog 10 #[] w fun e w' => e = .returned (.bool true) ∧ Below w.heap.size w w' := by
  go_enter Tryz.func10, Tryz.ntmps10
  go_wp2_with (go_at_call 28; refine (small_any _).mono ?_; rintro e w1 ⟨g, rfl, hu, hb1⟩; have HU := hid hu; have HB1 := hid hb1; clear hu hb1)
  obtain ⟨wA, hwA⟩ : ∃ wA : World, wA = (w1.alloc (.cells #[.slice (some ⟨g, 0, none⟩) 3 3] 27)).alloc (.cells #[.int .i64 2, .int .i64 1, .int .i64 1, .int .i64 2, .int .i64 2, .int .i64 3] 31) := ⟨_, rfl⟩
  have hbA : Below w1.heap.size w1 wA := by rw [hwA]; exact balloc (balloc (b0 w1) _) _
  have HUA : Hid (UniRd wA (Lt wA.heap.size) (.agg #[.slice (some ⟨g, 0, none⟩) 3 3]) ns3) := hid (uni_later HU.out hbA)
  have hlA : w1.heap.size < wA.heap.size := by rw [hwA]; simp; omega
  have hqA : wA.cell? ⟨w1.heap.size, 0, none⟩ = some (.slice (some ⟨g, 0, none⟩) 3 3) := by
    rw [hwA]
    exact cell_below (balloc (b0 (w1.alloc _)) _) (by simp) ((alloc_cell w1 _ _ 0).trans rfl)
  have HTA : Hid (SliceRd tTerm wA (Lt wA.heap.size) (.slice (some ⟨w1.heap.size + 1, 0, none⟩) 3 3) [⟨2, 1⟩, ⟨1, 2⟩, ⟨2, 3⟩]) := hid (by
    have := terms_new (w := w1.alloc (.cells #[.slice (some ⟨g, 0, none⟩) 3 3] 27)) (l := [⟨2, 1⟩, ⟨1, 2⟩, ⟨2, 3⟩]) (cs := #[.int .i64 2, .int .i64 1, .int .i64 1, .int .i64 2, .int .i64 2, .int .i64 3]) rfl (by intro t ht; simp at ht; rcases ht with rfl | rfl | rfl <;> exact ⟨⟨by decide, by decide⟩, ⟨by decide, by decide⟩⟩) (by decide)
    rw [← hwA] at this
    simpa using this)
  rw [← hwA]
  clear hwA
  refine (make_any _ _ ns3 [⟨2, 1⟩, ⟨1, 2⟩, ⟨2, 3⟩] wA HUA.out ns3_ok HTA.out (by decide)).mono ?_
  rintro e w2 ⟨sv, rfl, hrd, hb2⟩
  rw [aw_make] at hrd ⊢
  simp only [Option.isSome_some, Option.getD_some] at hrd ⊢
  obtain ⟨gl, ol, cl, rfl, hFl, hcl, hcm, e0, e1⟩ := two_at hrd
  have HL2 := hid hrd
  have HB2 := hid (bstep HB1.out (bstep hbA hb2))
  have HU2 := hid (uni_later HUA.out hb2)
  have hq2 := cell_below hb2 hlA hqA
  have hl2 : w1.heap.size < w2.heap.size := Nat.lt_of_lt_of_le hlA hb2.size
  clear hrd hb2 hbA hqA hlA
  go_wp2_with fail
  obtain ⟨wB, hwB⟩ : ∃ wB : World, wB = (w2.alloc (.cells #[.int .i64 1, .int .i64 1] 31)).alloc (.cells #[.int .i64 1, .int .i64 2, .int .i64 2, .int .i64 1] 31) := ⟨_, rfl⟩
  have hbB : Below w2.heap.size w2 wB := by rw [hwB]; exact balloc (balloc (b0 w2) _) _
  have HTB : Hid (SliceRd tTerm wB (Lt wB.heap.size) (.slice (some ⟨w2.heap.size, 0, none⟩) 1 1) (canon ns3 (mkM 1 3))) := hid (by
    have := terms_new (w := w2) (l := [⟨1, 1⟩]) (cs := #[.int .i64 1, .int .i64 1]) rfl (by intro t ht; simp at ht; subst ht; exact ⟨⟨by decide, by decide⟩, ⟨by decide, by decide⟩⟩) (by decide)
    have h2 := this.lift (balloc (b0 (w2.alloc (.cells #[.int .i64 1, .int .i64 1] 31))) (.cells #[.int .i64 1, .int .i64 2, .int .i64 2, .int .i64 1] 31)) (balloc (b0 (w2.alloc (.cells #[.int .i64 1, .int .i64 1] 31))) (.cells #[.int .i64 1, .int .i64 2, .int .i64 2, .int .i64 1] 31)).size
    rw [← hwB] at h2
    rw [aw_ca]
    simpa using h2)
  have HTC : Hid (SliceRd tTerm wB (Lt wB.heap.size) (.slice (some ⟨w2.heap.size + 1, 0, none⟩) 2 2) (canon ns3 (mkM 2 1))) := hid (by
    have := terms_new (w := w2.alloc (.cells #[.int .i64 1, .int .i64 1] 31)) (l := [⟨1, 2⟩, ⟨2, 1⟩]) (cs := #[.int .i64 1, .int .i64 2, .int .i64 2, .int .i64 1]) rfl (by intro t ht; simp at ht; rcases ht with rfl | rfl <;> exact ⟨⟨by decide, by decide⟩, ⟨by decide, by decide⟩⟩) (by decide)
    rw [← hwB] at this
    rw [aw_cb]
    simpa using this)
  rw [← hwB]
  clear hwB
  refine (join_any _ _ _ ns3 (mkM 1 3) (mkM 2 1) 1 wB (uni_later HU2.out hbB) ns3_ok HTB.out HTC.out (mkM_ok (.inl rfl) (.inr (.inr rfl))) (mkM_ok (.inr (.inl rfl)) (.inl rfl))).mono ?_
  rintro e w3 ⟨jv, rfl, hrj, hb3⟩
  rw [aw_join] at hrj ⊢
  simp only [Option.isSome_some, Option.getD_some] at hrj ⊢
  obtain ⟨gj, oj, cj, rfl, hFj, e2, e3⟩ := one_at hrj
  have hb23 := bstep hbB hb3
  have HJ3 := hid hrj
  have HL3 := hid (HL2.out.lift hb23 hb23.size)
  have HB3 := hid (bstep HB2.out hb23)
  have HU3 := hid (uni_later HU2.out hb23)
  have l0 := later_cell (Nat.lt_of_lt_of_le hl2 hb23.size) (cell_below hb23 hl2 hq2)
  have l1 := later_cell (Nat.lt_of_lt_of_le hFl hb23.size) (cell_below hb23 hFl e0)
  have l2 := later_cell (Nat.lt_of_lt_of_le hFl hb23.size) (cell_below hb23 hFl e1)
  have l3 := later_cell hFj e2
  have l4 := later_cell hFj e3
  have hE : ∀ W : World, (binOp .eql 31 (.agg #[.int .i64 2, .int .i64 1]) (.agg #[.int .i64 2, .int .i64 1])).run Tryz.prog W = .ok (.bool true) W := fun W => by simpa using term_eql ⟨2, 1⟩ ⟨2, 1⟩ W
  have hG : ∀ op a b (W : World), (eqGuard op 31 a b (.agg #[.int .i64 2, .int .i64 1]) (.agg #[.int .i64 2, .int .i64 1])).run Tryz.prog W = .ok () W := fun op a b W => term_guard op a b ⟨2, 1⟩ ⟨2, 1⟩ W
  have i1 : (1 : Int) ≤ cl := by omega
  have i2 : (1 : Nat) ≤ cl := by omega
  clear hrj hb3 hb23 hbB e0 e1 e2 e3 hq2
  dsimp only at l1 l2 l3 l4
  go_wp2_with fail
  (refine wp_region_later (by kernel_rfl) (by kernel_rfl) ?_; (repeat (go_big_quiet_step (((first | (go_at_call 18; exact Calls.later (incMay_any _ _ ns3 (mkM 2 1) _ (uni_lat HU3.out _) ns3_ok (mkM_ok (.inr (.inl rfl)) (.inl rfl)) (by rw [aw_cb]; exact HL3.out.lift (Later.below _) (Later.below _).size)) rfl) | (go_at_call 24; exact Calls.later (incWithin_any _ _ _ ns3 [⟨2, 1⟩] (mkM 2 3) _ (uni_lat HU3.out _) ns3_ok (HJ3.out.lift (Later.below _) (Later.below _).size) (by rw [aw_c1]; exact (HL3.out.take1 1 (by decide)).lift (Later.below _) (Later.below _).size) (mkM_ok (.inr (.inl rfl)) (.inr (.inr rfl)))) (congrArg Value.bool aw_within)) | (go_at_call 19; exact Calls.later (incHolds_any _ _ _ ns3 [] [] _ (uni_lat HU3.out _) ns3_ok (SliceRd.nil _ _ _) (SliceRd.nil _ _ _) (fun h => absurd rfl h) (fun t ht => by cases ht)) rfl)))))); refine wpQuiet_nil ?_; rintro _ ⟨⟨w4, hb4⟩, rfl⟩)
  go_wp2
  go_ret
  exact ⟨rfl, bstep HB3.out hb4⟩
end Go.Proofs.YtilkhofgcgfnlaaGreat
end
section
/- Contract: linchpinlaw22.IncompTurns. -/
namespace Go.Proofs.YtilkhofgcgfnlaaGreat
open Go Go.RowKit

theorem joinR_in {ns : List Nat} {Ma Mb : Nat → Nat} {un : Nat} (h : un < ns.length) : joinR ns Ma Mb un = madeN ns (joinN Ma Mb un) := by unfold joinR; rw [if_neg (by omega)]; simp
theorem joinR_comm {ns : List Nat} {Ma Mb : Nat → Nat} {un : Nat} (h : un < ns.length) : joinR ns Mb Ma un = joinR ns Ma Mb un := by
  rw [joinR_in h, joinR_in h]
  exact madeN_congr fun u _ => join_comm _ _ _ _
theorem joinR_self {ns : List Nat} {Ma : Nat → Nat} {un : Nat} (h : un < ns.length) (ha : IncOk ns Ma) : joinR ns Ma Ma un = some (canon ns Ma) := by
  rw [joinR_in h, madeN_congr fun u _ => join_self Ma un u]
  unfold madeN
  rw [if_pos (okN_iff.2 ha.pos)]
/-- A place among so many. -/
theorem place_nat (v : Int) {n : Nat} (h : 1 ≤ n) : ∃ u : Nat, placeF v n = u ∧ u < n := by
  have h1 := placeF_lo v n
  have h2 := placeF_hi v n (by omega)
  exact ⟨(placeF v n).toNat, by omega, by omega⟩
set_option maxRecDepth 100000 in
set_option maxHeartbeats 4000000 in
theorem turns_any (wv kv lv : Value) (ws ks ls : List Int) (unit : Int) (w : World) (hw : SliceRd tInt w (Lt w.heap.size) wv ws) (hk : SliceRd tInt w (Lt w.heap.size) kv ks) (hl : SliceRd tInt w (Lt w.heap.size) lv ls) (hu : I64 unit) :
    Calls Tryz.prog 9 #[wv, kv, lv, .int .i64 unit] w fun e w' => e = .returned (.bool true) ∧ Below w.heap.size w w' := by
  have HW := hid hw
  have HK := hid hk
  have HL := hid hl
  obtain ⟨Aw, wcap, rfl, -⟩ := hw.ints
  obtain ⟨Ak, kcap, rfl, hkc, hkm, -⟩ := hk.ints
  obtain ⟨Al, lcap, rfl, hlc, hlm, -⟩ := hl.ints
  unfold maxLen at hkm hlm
  clear hw hk hl
  by_cases hlen : ks.length ≤ 40 ∧ ls.length ≤ 40
  · have k1 : ¬ (40 < (ks.length : Int)) := by omega
    have k2 : ¬ (40 < (ls.length : Int)) := by omega
    clear hlen
    go_enter Tryz.func9, Tryz.ntmps9
    go_wp2_with (first
      | (go_at_call 11; go_must (refine (worldRd_any _ ws 4 _ HW.out (by decide) (by decide)).mono ?_; rintro e w1 ⟨g, c, ns, rfl, hun, hns, hb1⟩; have HU1 := hid hun; have HNS := hid hns; have HB1 := hid hb1; have h11 := hns.hi; have h2 := hns.lo; obtain ⟨un, hune, hunl⟩ := place_nat unit (show 1 ≤ ns.length by omega); have HUN := hid hune; have HUNL := hid hunl; clear hun hns hb1 hune hunl))
      | (go_at_call 12; go_must (refine (place_any unit ns.length _ hu ⟨by omega, by omega⟩).mono ?_; rintro e w2 ⟨rfl, rfl⟩; rw [HUN.out])))
    obtain ⟨w2, hw2⟩ : ∃ w2 : World, w2 = w1.alloc (.cells #[.slice (some ⟨g, 0, none⟩) ns.length c] 27) := ⟨_, rfl⟩
    have hb2 : Below w1.heap.size w1 w2 := hw2 ▸ balloc (b0 w1) _
    have hl2 : w1.heap.size < w2.heap.size := by rw [hw2]; simp
    have q2 : w2.cell? ⟨w1.heap.size, 0, none⟩ = some (.slice (some ⟨g, 0, none⟩) ns.length c) := by rw [hw2, alloc_cell]; rfl
    have HU2 := hid (uni_later HU1.out hb2)
    have HB2 := hid (bstep HB1.out hb2)
    rw [← hw2]
    clear hw2 hb2
    have hdr : Below w2.heap.size w2 w2.drew := (b0 w2).drew
    have hbd := bstep HB2.out hdr
    have HIA := hid (inc_any _ _ ns ks w2.drew (uni_later HU2.out hdr) HNS.out (HK.out.lift hbd hbd.size))
    have HIB := hid (fun w3 (hb3 : Below w2.drew.heap.size w2.drew w3) => inc_any _ _ ns ls w3 (uni_later (uni_later HU2.out hdr) hb3) HNS.out ((HL.out.lift hbd hbd.size).lift hb3 hb3.size))
    clear hbd
    go_wp2_with fail
    go_region_law ((first
      | (go_simp; go_at_call_of 21 kcap; refine HIA.out.mono ?_; rintro e w3 ⟨av, Ma, rfl, hMa, hra, hb3⟩; have HMA := hid hMa; have HRA := hid hra; have HB3 := hid hb3; have q3 := cell_below (bstep hdr hb3) hl2 q2; clear hMa hra hb3)
      | (go_simp; go_at_call_of 21 lcap; refine (HIB.out _ HB3.out).mono ?_; rintro e w4 ⟨bv, Mb, rfl, hMb, hrb, hb4⟩; have HMB := hid hMb; have HRB := hid hrb; have HRA4 := hid (HRA.out.lift hb4 hb4.size); have HB4 := hid (bstep hdr (bstep HB3.out hb4)); have q4 := cell_below (bstep hdr (bstep HB3.out hb4)) hl2 q2; clear hMb hrb hb4)))
    all_goals
      have hl4 : w1.heap.size < w4.heap.size := Nat.lt_of_lt_of_le hl2 HB4.out.size
      have HU4 := hid (uni_later HU2.out HB4.out)
      have HBW := hid (bstep HB2.out HB4.out)
      obtain ⟨J, hJ⟩ : ∃ J, joinR ns Ma Mb un = J := ⟨_, rfl⟩
      have hJ2 := (joinR_comm (Ma := Ma) (Mb := Mb) HUNL.out).trans hJ
      have HJ := hid hJ
      have HJ2 := hid hJ2
      have HJ3 := hid (joinR_self HUNL.out HMA.out)
      obtain ⟨q, hq⟩ : ∃ q, J.isSome = q := ⟨_, rfl⟩
      have HQ := hid hq
      clear hJ hJ2 hq q2 q3
      have t1 := hid True.intro
      have t2 := hid True.intro
      have t3 := hid True.intro
      go_wp2_with (first
        | (go_at_call 22; clear t1; go_must (refine (join_any _ _ _ ns Ma Mb un _ HU4.out HNS.out HRA4.out HRB.out HMA.out HMB.out).mono ?_; rintro e w5 ⟨s1, rfl, r1, hb5⟩; rw [HJ.out] at r1 ⊢; rw [HQ.out]; have HR1 := hid r1; have HB5 := hid hb5; have q5 := cell_below hb5 hl4 q4; clear r1 hb5))
        | (go_at_call 22; clear t2; go_must (refine (join_any _ _ _ ns Mb Ma un _ (uni_later HU4.out HB5.out) HNS.out (HRB.out.lift HB5.out HB5.out.size) (HRA4.out.lift HB5.out HB5.out.size) HMB.out HMA.out).mono ?_; rintro e w6 ⟨s2, rfl, r2, hb6⟩; rw [HJ2.out] at r2 ⊢; rw [HQ.out]; have HR2 := hid r2; have HB6 := hid (bstep HB5.out hb6); have HR12 := hid (HR1.out.lift hb6 hb6.size); have q6 := cell_below HB6.out hl4 q4; clear r2 hb6))
        | (go_at_call 22; go_must (refine (join_any _ _ _ ns Ma Ma un _ (uni_later HU4.out HB6.out) HNS.out (HRA4.out.lift HB6.out HB6.out.size) (HRA4.out.lift HB6.out HB6.out.size) HMA.out HMA.out).mono ?_; rintro e w7 ⟨s3, rfl, r3, hb7⟩; rw [HJ3.out] at r3 ⊢; simp only [Option.isSome_some, Option.getD_some] at r3 ⊢; have HR3 := hid r3; have HB7 := hid (bstep HB6.out hb7); have HR13 := hid (HR12.out.lift hb7 hb7.size); have HR23 := hid (HR2.out.lift hb7 hb7.size); have HRA7 := hid (HRA4.out.lift HB7.out HB7.out.size); clear r3 hb7))
        | (go_at_call 27; clear t3; go_must (refine (isame_any _ _ (J.getD []) (J.getD []) _ HR13.out HR23.out).mono ?_; rintro e w8 ⟨rfl, hb8⟩; rw [decide_eq_true rfl]; have HB8 := hid (bstep HB7.out hb8); have HR38 := hid (HR3.out.lift hb8 hb8.size); have HRA8 := hid (HRA7.out.lift hb8 hb8.size); clear hb8))
        | (go_at_call 27; go_must (refine (isame_any _ _ (canon ns Ma) (canon ns Ma) _ HR38.out HRA8.out).mono ?_; rintro e w9 ⟨rfl, hb9⟩; rw [decide_eq_true rfl]; have HB9 := hid (bstep HB8.out hb9); clear hb9))
        | (go_at_call 10; refine (awake_any _).mono ?_; rintro e wz ⟨rfl, hbz⟩))
      go_ret
      exact ⟨rfl, bstep HBW.out (bstep HB9.out hbz)⟩
  · by_cases h1 : ks.length ≤ 40
    · have k1 : ¬ (40 < (ks.length : Int)) := by omega
      have k2 : 40 < (ls.length : Int) := by omega
      clear hlen h1
      go_enter Tryz.func9, Tryz.ntmps9
      go_wp2_with (go_at_call 10; refine (awake_any _).mono ?_; rintro e wz ⟨rfl, hbz⟩)
      go_ret
      exact ⟨rfl, hbz⟩
    · have k1 : 40 < (ks.length : Int) := by omega
      clear hlen h1
      go_enter Tryz.func9, Tryz.ntmps9
      go_wp2_with (go_at_call 10; refine (awake_any _).mono ?_; rintro e wz ⟨rfl, hbz⟩)
      go_ret
      exact ⟨rfl, hbz⟩
end Go.Proofs.YtilkhofgcgfnlaaGreat
end
