import Derived.Test.YtmbjeppnamhgiaaGreatzT18
import Derived.Test.YtmbjeppnamhgiaaGreatzT7
import Derived.Test.YtmbjeppnamhgiaaGreatzT16
import Derived.Outline
import Derived.Test.YtmbjeppnamhgiaaGreatzN12
import Derived.WalkSpells
section
/- Contract: learn.before. -/
namespace Go.Proofs.YtmbjeppnamhgiaaGreat
open Go Go.RowKit

section
variable {ns : List Nat} {l : List StepN} {s : StepN} {M : Nat → Nat}
theorem SliceRd.takeK {α : Type} {t : Ty α} {w : World} {F : Nat → Prop} {A : Option Addr} {n cap k : Nat} {l : List α} (h : SliceRd t w F (.slice A n cap) l) (hk : k ≤ l.length) : SliceRd t w F (.slice A k k) (l.take k) := by
  obtain ⟨A', cap', hv, h1, h2, h3⟩ := h.shape
  injection hv with e1 e2 e3
  subst e1 e3
  have hlen : (l.take k).length = k := by rw [List.length_take]; omega
  refine ⟨A, k, by rw [hlen], by omega, by omega, fun j hj => ?_⟩
  obtain ⟨g, o, cs, hA, hF, hc, hcell, hr⟩ := h3 j (by omega)
  refine ⟨g, o, cs, hA, hF, hc, hcell, ?_⟩
  rw [List.getElem_take]
  exact hr
theorem but_canonTo (M : Nat → Nat) (u n : Nat) : butL (canonTo ns M n) (u : Int) = canonTo ns (dropN ns M u) n := by
  induction n with
  | zero => rfl
  | succ n ih =>
    have e : ∀ a b : List Term, butL (a ++ b) (u : Int) = butL a u ++ butL b u := fun a b => by unfold butL; rw [List.filter_append]
    rw [canonTo_succ, canonTo_succ, e, ih]
    congr 1
    unfold tm dropN
    by_cases h : n = u
    · subst h
      rw [if_pos rfl, if_pos rfl]
      by_cases h2 : M n = fullN ns n
      · rw [if_pos h2]; rfl
      · rw [if_neg h2]; simp [butL]
    · rw [if_neg h]
      by_cases h2 : M n = fullN ns n
      · rw [if_pos h2]; rfl
      · rw [if_neg h2]
        have : ¬ (n : Int) = (u : Int) := by omega
        simp [butL, this]
theorem but_canon (M : Nat → Nat) (u : Nat) : butL (canon ns M) (u : Int) = canon ns (dropN ns M u) := but_canonTo M u ns.length
theorem sure_drop (hlo : LeftOk ns l) (hs : inN s.m (M s.u)) : Sure ns l (dropN ns M s.u) ↔ Sure ns (l ++ [s]) M := by
  constructor
  · intro h u hu
    rw [left_snoc]
    by_cases e : s.u = u
    · subst e; rw [if_pos rfl]; exact hs
    · rw [if_neg e]
      have := h u hu
      unfold dropN at this
      rwa [if_neg (fun e2 => e e2.symm)] at this
  · intro h u hu
    unfold dropN
    by_cases e : u = s.u
    · subst e; rw [if_pos rfl]; exact hlo _ hu
    · rw [if_neg e]
      have := h u hu
      rwa [left_snoc, if_neg (fun e2 => e e2.symm)] at this
/-- Where the step is, what is left of the others is sure. -/
theorem bef_first {db : Nat → Nat → Nat} {D : Nat} (ho : NsOk ns) (ht : TrOk ns db D l) (hs : inN s.m (M s.u)) (hsu : Sure ns (l ++ [s]) M) : First ns l (dropN ns M s.u) (befK ns l s M) := by
  have hb := bef_of hsu
  exact ⟨hb.1, (sure_drop ((ht.take _).leftOk ho) hs).2 hb.2.1, fun k hk h => hb.2.2 k hk ((sure_drop ((ht.take _).leftOk ho) hs).1 h)⟩
end
theorem when_one (v lv iv : Value) (ns : List Nat) (db : Nat → Nat → Nat) (D : Nat) (l : List StepN) (M : Nat → Nat) (k : Nat) (w : World) (h : UniRd w (Lt w.heap.size) v ns) (ho : NsOk ns) (hl : SliceRd fStep.ty w (Lt w.heap.size) lv l) (hll : l.length ≤ 900) (ht : TrOk ns db D l) (hi : SliceRd tTerm w (Lt w.heap.size) iv (canon ns M)) (hM : IncOk ns M) (hf : First ns l M k) :
    Calls Tryz.prog 45 #[v, lv, iv] w fun e w' => e = .returned (.int .i64 k) ∧ Below w.heap.size w w' := by
  refine (when_any v lv iv ns db D l M w h ho hl hll ht hi hM).mono ?_
  rintro e w' ⟨r, rfl, hr, hb⟩
  rcases hr with ⟨_, hno⟩ | ⟨n, rfl, hn⟩
  · exact absurd hf.2.1 (hno k hf.1)
  · have : n = k := hn.eq.symm.trans hf.eq
    subst this
    exact ⟨rfl, hb⟩
set_option maxRecDepth 100000 in
set_option maxHeartbeats 8000000 in
theorem pbefore_any (v lv iv : Value) (ns : List Nat) (db : Nat → Nat → Nat) (D : Nat) (l : List StepN) (n : Nat) (hn : n < l.length) (M : Nat → Nat) (w : World) (h : UniRd w (Lt w.heap.size) v ns) (ho : NsOk ns) (hl : SliceRd fStep.ty w (Lt w.heap.size) lv l) (hll : l.length ≤ 900) (ht : TrOk ns db D l) (hi : SliceRd tTerm w (Lt w.heap.size) iv (canon ns M)) (hM : IncOk ns M) (hsu : Sure ns (l.take n ++ [l[n]]) M) :
    Calls Tryz.prog 46 #[v, lv, .int .i64 (↑n + 1), iv] w fun e w' => e = .returned (.int .i64 (befN ns (l.take n) l[n] M)) ∧ Below w.heap.size w w' := by
  obtain ⟨it, hit⟩ := info_parts term_info
  have HIT := hid hit
  have HH := hid h
  have HO := hid ho
  have HT := hid ht
  have HM := hid hM
  have HL := hid hl
  have h11 := ho.hi
  obtain ⟨g, cap0, rfl, hg, -⟩ := h
  obtain ⟨Ai, ci, rfl, hci, hcim, hti⟩ := hi.terms
  obtain ⟨A, cap, rfl, hca, hcm, hst⟩ := hl.steps
  unfold maxLen at hcm hcim
  have HTI := hid hti
  obtain ⟨gs, os, rfl, hFs, ⟨e0, e1, -, -⟩, hok⟩ := hst n hn
  have hcl := canon_len (ns := ns) M
  have htr := ht.at hn
  have hul := htr.init.2.1
  have hsm : inN l[n].m (M l[n].u) := by
    have := hsu l[n].u hul
    rwa [left_snoc, if_pos rfl] at this
  have HFI := hid (bef_first ho (ht.take n) hsm hsu)
  have hM31 := hM.le ho _ hul
  have hm31 : l[n].m ≤ 31 := hok.2.1
  have HDOK := hid (drop_ok hM l[n].u)
  have HLVL := hid (show befN ns (l.take n) l[n] M = levelN ((l.take n).take (befK ns (l.take n) l[n] M)) from rfl)
  have hkle := HFI.out.1
  rw [List.length_take, Nat.min_eq_left (Nat.le_of_lt hn)] at hkle
  have HBC := hid (but_canon (ns := ns) M l[n].u)
  obtain ⟨cl, hcle⟩ : ∃ cl, (canon ns M).length = cl := ⟨_, rfl⟩
  have HCL := hid hcle
  obtain ⟨ln, hln⟩ : ∃ ln, l.length = ln := ⟨_, rfl⟩
  have HLN := hid hln
  rw [hcle] at hcl hci ⊢
  rw [hln] at hll hca HL ⊢
  have hnl : n < ln := by omega
  obtain ⟨kk, hkk⟩ : ∃ kk, befK ns (l.take n) l[n] M = kk := ⟨_, rfl⟩
  rw [hkk] at HFI HLVL hkle
  obtain ⟨bn, hbn⟩ : ∃ bn, befN ns (l.take n) l[n] M = bn := ⟨_, rfl⟩
  rw [hbn] at HLVL ⊢
  generalize hs : l[n] = s at *
  obtain ⟨su, sm, sl, sc⟩ := s
  dsimp only at e0 e1 hul hsm hM31 hm31
  have HANDN := hid (andn_nat hm31 hM31)
  have HSM := hid hsm
  have HE0 := hid e0
  have HE1 := hid e1
  clear hit ho ht hM hl hi hst hti htr hsu hok hcle hln hkk hbn hs hsm e0 e1
  have i0 : (0 : Int) ≤ ↑n := by omega
  have i1 : (↑n : Int) < ↑ln := by omega
  have i2 : (↑n : Int) ≤ ↑cap := by omega
  have i3 : IntKind.i64.wrap ((n : Int) + 1 - 1) = (n : Int) := by rw [show (n : Int) + 1 - 1 = n by omega]; exact IntWalk.i64_in _ (by omega)
  go_enter Tryz.func46, Tryz.ntmps46
  go_wp2_with fail
  obtain ⟨w0, hw0⟩ : ∃ w0 : World, w0 = w.alloc (.cells #[.slice (some ⟨g, 0, none⟩) ns.length cap0] 26) := ⟨_, rfl⟩
  have hb0 : Below w.heap.size w w0 := hw0 ▸ balloc (b0 w) _
  have hz0 : w.heap.size < w0.heap.size := by rw [hw0]; simp
  have q0 : w0.cell? ⟨w.heap.size, 0, none⟩ = some (.slice (some ⟨g, 0, none⟩) ns.length cap0) := by rw [hw0, alloc_cell]; rfl
  have HB0 := hid hb0
  rw [← hw0]
  clear hw0 hb0
  go_loopw [9, 15] (fun ov iv wr => ∃ k : Nat, k ≤ cl ∧ iv = .int .i64 k ∧ Hid (OwnF fTerm 54 w0.heap.size wr ov (butL ((canon ns M).take k) su)) ∧ Hid (Below w0.heap.size w0 wr)) (fun _ iv _ => cl - (intOf iv).toNat)
  case atStart => exact ⟨0, Nat.zero_le _, rfl, hid (OwnF.nil _ _ _ _), hid (b0 w0)⟩
  case round =>
    obtain ⟨k, hk, rfl, how, hb⟩ := hrel
    obtain ⟨Ao, co, hov⟩ := how.out.form
    have hbw : Below w.heap.size w wr := HB0.out.trans (hb.out.mono HB0.out.size)
    have HBW := hid hbw
    have q1 := cell_below hb.out hz0 q0
    have hzr : w.heap.size < wr.heap.size := Nat.lt_of_lt_of_le hz0 hb.out.size
    have hlen : (butL ((canon ns M).take k) su).length ≤ 100 := Nat.le_trans (List.length_filter_le _ _) (by rw [List.length_take]; omega)
    by_cases hlt : k < cl
    · obtain ⟨gi, oi, hA, hF, c0, c1, -, -⟩ := HTI.out k (by rw [HCL.out]; exact hlt)
      obtain ⟨huk, hek⟩ := unitA_at (ns := ns) (M := M) (k := k) (by rw [HCL.out]; exact hlt)
      subst hA
      have HSU := hid (butL_succ (l := canon ns M) (u := (su : Int)) (k := k) (by rw [HCL.out]; exact hlt))
      rw [hek] at c0 c1 HSU
      have d0 := cell_below hbw hF c0
      have d1 := cell_below hbw hF c1
      dsimp only at d0 d1 HSU
      have hMk := HM.out.le HO.out _ huk
      have HOKT := hid (show fTerm.ok ⟨(unitA ns M k : Int), (M (unitA ns M k) : Int)⟩ from ⟨⟨by show -9223372036854775808 ≤ (unitA ns M k : Int); omega, by show (unitA ns M k : Int) ≤ 9223372036854775807; have := HO.out.hi; omega⟩, i64_small hMk⟩)
      have HANDK := hid (fun (e : unitA ns M k = su) => show (bits .andNot .i64 (sm : Int) (M (unitA ns M k) : Int) == 0) = true by rw [e, HANDN.out]; exact decide_eq_true (show sm &&& M su = sm from HSM.out))
      generalize hL : butL ((canon ns M).take k) su = L at HSU how hov hlen
      generalize unitA ns M k = uk at *
      generalize M uk = mu at *
      subst hov
      have j1 : (0 : Int) ≤ ↑k := by omega
      have j2 : (↑k : Int) < ↑cl := by omega
      clear c0 c1 hek hL
      go_wp2_with fail
      obtain ⟨wa, hwa⟩ : ∃ wa : World, wa = wr.alloc (.cells #[.int .i64 uk, .int .i64 mu] 54) := ⟨_, rfl⟩
      have hba : Below wr.heap.size wr wa := hwa ▸ balloc (b0 wr) _
      have hza : wr.heap.size < wa.heap.size := by rw [hwa]; simp
      have y0 : wa.cell? ⟨wr.heap.size, 0, none⟩ = some (.int .i64 uk) := by rw [hwa, alloc_cell]; rfl
      have y1 : wa.cell? ⟨wr.heap.size, 1, none⟩ = some (.int .i64 mu) := by rw [hwa, alloc_cell]; rfl
      rw [← hwa]
      clear hwa
      have ly0 := later_cell hza y0
      have ly1 := later_cell hza y1
      have hbaw := hbw.trans (hba.mono hbw.size)
      have lz0 := later_cell (show gs < wa.heap.size from Nat.lt_of_lt_of_le hFs hbaw.size) (cell_below hbaw hFs HE0.out)
      have lz1 := later_cell (show gs < wa.heap.size from Nat.lt_of_lt_of_le hFs hbaw.size) (cell_below hbaw hFs HE1.out)
      by_cases he : uk = su
      · have hz : ((uk : Int) != (su : Int)) = false := by simp [he]
        have hz2 : (bits .andNot .i64 (sm : Int) (mu : Int) != 0) = false := by have := HANDK.out he; simpa using this
        have HE := hid (show butL ((canon ns M).take (k + 1)) su = L by rw [HSU.out, if_pos (by omega), List.append_nil])
        clear he
        (refine wp_region_later (by kernel_rfl) (by kernel_rfl) ?_; (repeat (go_big_quiet_step ((fail)))); refine wpQuiet_nil ?_; rintro _ ⟨⟨w8, hb8⟩, rfl⟩)
        rename_i w8
        go_wp2
        exact ⟨⟨k + 1, by omega, by go_num, hid (by rw [HE.out]; exact (how.out.below hba (Nat.le_refl _)).below hb8 (Nat.le_refl _)), hid ((hb.out.trans (hba.mono hb.out.size)).trans (hb8.mono (Nat.le_trans hb.out.size hba.size)))⟩, by simp [intOf]; omega⟩
      · have hz : ((uk : Int) != (su : Int)) = true := by simp; omega
        have HE := hid (show butL ((canon ns M).take (k + 1)) su = L ++ [⟨(uk : Int), (mu : Int)⟩] by rw [HSU.out, if_neg (by omega)])
        clear he
        (refine wp_region_later (by kernel_rfl) (by kernel_rfl) ?_; (repeat (go_big_quiet_step ((fail)))); refine wpQuiet_nil ?_; rintro _ ⟨⟨w8, hb8⟩, rfl⟩)
        rename_i w8
        have z0 := cell_below hb8 hza y0
        have z1 := cell_below hb8 hza y1
        have HO8 := hid ((how.out.below hba (Nat.le_refl _)).below hb8 (Nat.le_refl _))
        have HB8 := hid ((hb.out.trans (hba.mono hb.out.size)).trans (hb8.mono (Nat.le_trans hb.out.size hba.size)))
        have hs8 := HB8.out.size
        go_wp2_with (at_builtin; go_must (refine wpList_append_src _ rfl (.tmp 40) (.tmp 42) _ rfl w0.heap.size 54 it _ 2 16 Tryz.underlying34 HIT.out.1 HIT.out.2.1 HIT.out.2.2.1 HIT.out.2.2.2 rfl (by omega) (.slice Ao L.length co) L.length (fTerm.all L) (by rfl) (by exact HO8.out.1.alloc _) (some ⟨w8.heap.size, 0, none⟩) 1 1 (fTerm.cells ⟨uk, mu⟩) (by rfl) (by exact src_one (f := fTerm) rfl) (by simp [fTerm, Value.oneCell']) (by unfold maxLen; omega) (by omega) (by simp; omega) ?_; intro v2 w2 hown2 hg2 hat2; have HB2 := hid (own_app (v2 := v2) (HB8.out.alloc hs8 _) (HO8.out.alloc _) (by simp; omega) hg2 rfl); have HO2 := hid (HO8.out.snoc HOKT.out hown2); clear hown2 hg2 hat2))
        exact ⟨⟨k + 1, by omega, by go_num, hid (by rw [HE.out]; exact HO2.out), HB2⟩, by simp [intOf]; omega⟩
    · have hkc : k = cl := by omega
      have HOT : Hid (butL ((canon ns M).take k) su = canon ns (dropN ns M su)) := hid (by rw [List.take_of_length_le (by rw [HCL.out]; omega), HBC.out])
      rw [HOT.out] at how
      subst hkc
      subst hov
      have hrd := how.out.rd
      generalize (butL ((canon ns M).take k) ↑su).length = bl at hrd ⊢
      have HRD := hid hrd
      have lq := later_cell hzr q1
      have HWN := hid (fun e : Later wr => when_one (.agg #[.slice (some ⟨g, 0, none⟩) ns.length cap0]) (.slice (some ⟨gs, os, none⟩) n n) (.slice Ao bl co) ns db D (l.take n) (dropN ns M su) kk e.w (uni_later HH.out (bstep HBW.out e.below)) HO.out ((HL.out.lift (bstep HBW.out e.below) (bstep HBW.out e.below).size).takeK (by omega)) (by rw [List.length_take]; omega) (HT.out.take n) (HRD.out.lift e.below e.below.size) HDOK.out HFI.out)
      clear hrd hlt
      go_wp2_with fail
      (refine wp_region_later (by kernel_rfl) (by kernel_rfl) ?_; (repeat (go_big_quiet_step ((first | (go_at_call 45; exact Calls.later (HWN.out _) rfl))))); refine wpQuiet_nil ?_; rintro _ ⟨⟨w2, hb2⟩, rfl⟩)
      rename_i w2
      have hbw2 := bstep HBW.out hb2
      have HLV := hid (tlevel_any (.slice (some ⟨gs, os, none⟩) kk kk) ((l.take n).take kk) w2 (((HL.out.lift hbw2 hbw2.size).takeK (k := n) (by omega)).takeK (k := kk) (by rw [List.length_take]; omega)))
      have k0 : (0 : Int) ≤ ↑kk := by omega
      have k1 : (↑kk : Int) ≤ ↑n := by omega
      have k2 : (↑kk : Int) ≤ ↑cap := by omega
      have k3 : ¬ ((kk : Int) < 0) := by omega
      have HBW2 := hid hbw2
      clear hb2 hbw2
      go_wp2_with (go_at_call 73; refine HLV.out.mono ?_; rintro e w3 ⟨rfl, hw3⟩; rw [hw3]; clear hw3)
      go_ret
      exact ⟨ret_int (by rw [HLVL.out]), HBW2.out⟩
end Go.Proofs.YtmbjeppnamhgiaaGreat
end
section
/- Contract: slices.Clone of terms; blocks of a step. -/
namespace Go.Proofs.YtmbjeppnamhgiaaGreat
open Go Go.RowKit

set_option maxRecDepth 100000 in
set_option maxHeartbeats 1000000 in
theorem pclone_any (lv : Value) (l : List Term) (w : World) (hl : SliceRd tTerm w (Lt w.heap.size) lv l) (hll : l.length ≤ 1000) :
    Calls Tryz.prog 44 #[lv] w fun e w' => ∃ v, e = .returned v ∧ SliceRd tTerm w' (fun b => w.heap.size ≤ b ∧ b < w'.heap.size) v l ∧ Below w.heap.size w w' := by
  obtain ⟨it, hit⟩ := info_parts term_info
  have HIT := hid hit
  have HL := hid hl
  obtain ⟨A, cap, rfl, hcap, hmax, hc⟩ := hl.terms
  have HS1 := hid (fun (W : World) (hb : Below w.heap.size w W) => (hl.lift hb hb.size).src.2.1)
  have HOK := hid hl.src.2.2
  obtain ⟨ln, hln⟩ : ∃ ln, l.length = ln := ⟨_, rfl⟩
  have HLN := hid hln
  have HC := hid hc
  rw [hln] at hll hcap HS1 ⊢
  have heq := Lib.run_eql_slice_nil (P := Tryz.prog) w 34 54 A ln cap 0 0 Tryz.underlying34
  clear hit hl hc
  cases A with
  | none =>
    have hnil : l = [] := by
      cases l with
      | nil => rfl
      | cons x r => obtain ⟨g, o, h, _⟩ := HC.out 0 (by simp); cases h
    have HN := hid hnil
    clear hnil hln
    go_enter Tryz.func44, Tryz.ntmps44
    go_wp2
    go_ret
    exact ⟨_, rfl, by rw [HN.out]; exact SliceRd.nil _ _ _, b0 w⟩
  | some ad =>
    clear hln
    go_enter Tryz.func44, Tryz.ntmps44
    have HO0 := hid (own_new (f := fTerm) (e := 54) (w := w) (l := []) (cs := #[]) rfl (fun x hx => by cases hx) (by simp))
    go_wp2_with (at_builtin; go_must (refine wpList_append_src _ rfl (.tmp 5) (.tmp 6) _ rfl w.heap.size 54 it _ 2 16 Tryz.underlying34 HIT.out.1 HIT.out.2.1 HIT.out.2.2.1 HIT.out.2.2.2 rfl (by omega) (.slice (some ⟨w.heap.size, 0, none⟩) 0 0) 0 [] (by rfl) (by exact HO0.out.1) (some ad) ln cap (termCells l) (by rfl) (HS1.out _ (balloc (b0 w) _)) termCells_one (by unfold maxLen; omega) (by omega) (by simp) ?_; intro v2 w2 hown2 hg2 hat2; have HB2 := hid (own_app (v2 := v2) (balloc (b0 w) _) HO0.out (by simp) hg2 rfl); have HO2 := hid (own_copyF (f := fTerm) (e := 54) (l := l) HOK.out (by rw [HLN.out, fTerm_all]; exact hown2)); clear hown2 hg2 hat2))
    go_ret
    exact ⟨_, rfl, own_new_terms HO2.out (Nat.le_refl _), HB2.out⟩
/-- A block of a step's cells. -/
def Blk4 (w : World) (b : Nat) : Prop := ∃ x0 x1 x2 x3, w.heap[b]? = some (.cells #[x0, x1, x2, x3] 98 (0, 0))
theorem Blk4.facts {w : World} {b : Nat} (h : Blk4 w b) : (∃ x0 x1 x2 x3, w.cell? ⟨b, 0, none⟩ = some x0 ∧ w.cell? ⟨b, 1, none⟩ = some x1 ∧ w.cell? ⟨b, 2, none⟩ = some x2 ∧ w.cell? ⟨b, 3, none⟩ = some x3) ∧ ∀ o, w.frozen? ⟨b, o, none⟩ = false := by
  obtain ⟨x0, x1, x2, x3, h⟩ := h
  exact ⟨⟨x0, x1, x2, x3, cell_of_row w b 0 _ _ (0, 0) h, cell_of_row w b 1 _ _ (0, 0) h, cell_of_row w b 2 _ _ (0, 0) h, cell_of_row w b 3 _ _ (0, 0) h⟩, fun o => frozen_of_row w b o _ _ h⟩
theorem Blk4.keep {w w' : World} {b : Nat} (h : Blk4 w b) (hk : w'.heap[b]? = w.heap[b]?) : Blk4 w' b := by
  obtain ⟨x0, x1, x2, x3, h⟩ := h
  exact ⟨x0, x1, x2, x3, hk.trans h⟩
theorem Blk4.set {w : World} {b : Nat} (h : Blk4 w b) (y0 y1 y2 y3 : Value) : ((((w.setCell ⟨b, 0, none⟩ y0).setCell ⟨b, 1, none⟩ y1).setCell ⟨b, 2, none⟩ y2).setCell ⟨b, 3, none⟩ y3).heap[b]? = some (.cells #[y0, y1, y2, y3] 98 (0, 0)) := by
  obtain ⟨x0, x1, x2, x3, h⟩ := h
  have h0 := heap_setCell_same w b 0 _ _ y0 h
  have h1 := heap_setCell_same _ b 1 _ _ y1 h0
  have h2 := heap_setCell_same _ b 2 _ _ y2 h1
  have h3 := heap_setCell_same _ b 3 _ _ y3 h2
  rw [h3]
  rfl
theorem set4_other {w : World} {b k : Nat} (h : k ≠ b) (y0 y1 y2 y3 : Value) : ((((w.setCell ⟨b, 0, none⟩ y0).setCell ⟨b, 1, none⟩ y1).setCell ⟨b, 2, none⟩ y2).setCell ⟨b, 3, none⟩ y3).heap[k]? = w.heap[k]? :=
  (heap_setCell_other _ _ _ _ h).trans ((heap_setCell_other _ _ _ _ h).trans ((heap_setCell_other _ _ _ _ h).trans (heap_setCell_other _ _ _ _ h)))
theorem set4_size {w : World} {b : Nat} (y0 y1 y2 y3 : Value) : ((((w.setCell ⟨b, 0, none⟩ y0).setCell ⟨b, 1, none⟩ y1).setCell ⟨b, 2, none⟩ y2).setCell ⟨b, 3, none⟩ y3).heap.size = w.heap.size := by simp
/-- How long a slice is. -/
def lenV : Value → Nat
  | .slice _ n _ => n
  | _ => 0
end Go.Proofs.YtmbjeppnamhgiaaGreat
end
