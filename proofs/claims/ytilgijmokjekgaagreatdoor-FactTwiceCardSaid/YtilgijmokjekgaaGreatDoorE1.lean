/- Contract: linchpinmade.wants. -/
import Derived.Test.YtilgijmokjekgaaGreatDoorzGW
import Derived.Test.YtilgijmokjekgaaGreatDoorzA4
import Derived.Test.YtilgijmokjekgaaGreatDoorzA6
import Derived.Test.YtilgijmokjekgaaGreatDoorzV13
import Derived.Test.YtilgijmokjekgaaGreatDoorG2
import Derived.Deep.RegionHeld3
import Derived.Deep.DeepCutAuto
import Derived.Outline
namespace Go.Proofs.YtilgijmokjekgaaGreatDoor
open Go Go.RowKit

/-- A box that holds a set's two rows of spans, made here. -/
def SetBox (B : Nat) (w : World) (b : Nat) (s : SetD) : Prop := ∃ (A1 : Option Addr) (c1 : Nat) (A2 : Option Addr) (c2 : Nat), B ≤ b ∧ b < w.heap.size ∧ w.cell? ⟨b, 0, none⟩ = some (.slice A1 s.rel.length c1) ∧ w.cell? ⟨b, 1, none⟩ = some (.slice A2 s.pre.length c2) ∧ OwnF fSpan 129 B w (.slice A1 s.rel.length c1) s.rel ∧ OwnF fSpan 129 B w (.slice A2 s.pre.length c2) s.pre
theorem SetBox.mk {B : Nat} {w2 : World} {A1 A2 : Option Addr} {c1 c2 : Nat} {s : SetD} (h1 : OwnF fSpan 129 B w2 (.slice A1 s.rel.length c1) s.rel) (h2 : OwnF fSpan 129 B w2 (.slice A2 s.pre.length c2) s.pre) (hB : B ≤ w2.heap.size) :
    SetBox B (w2.alloc (.cells #[.slice A1 s.rel.length c1, .slice A2 s.pre.length c2] 80)) w2.heap.size s :=
  ⟨A1, c1, A2, c2, hB, by simp, (alloc_cell _ _ _ 0).trans rfl, (alloc_cell _ _ _ 1).trans rfl, h1.alloc _, h2.alloc _⟩
theorem SetBox.drew {B : Nat} {w : World} {b : Nat} {s : SetD} (h : SetBox B w b s) : SetBox B w.drew b s := by
  obtain ⟨A1, c1, A2, c2, h1, h2, h3, h4, h5, h6⟩ := h
  exact ⟨A1, c1, A2, c2, h1, h2, h3, h4, h5.drew, h6.drew⟩
/-- An append to what is no block: all that lay there is as it was. -/
theorem gb_new0 {w w1 : World} {v : Value} (hg : w.grownBy w1 v.ownBlock) (h0 : v.ownBlock = none) : Below w.heap.size w w1 := by
  rw [h0] at hg
  exact (b0 w).grown hg (Nat.le_refl _) (fun k h => by cases h)
theorem set_new (w : World) : Blk2 (w.alloc (.cells #[.slice none 0 0, .slice none 0 0] 80)) w.heap.size 80 (.slice none 0 0) (.slice none 0 0) := heap_alloc_new w _
theorem set_newD (w : World) : Blk2 (w.alloc (.cells #[.slice none 0 0, .slice none 0 0] 80)).drew w.heap.size 80 (.slice none 0 0) (.slice none 0 0) := heap_alloc_new w _
theorem Blk2.lt {w : World} {g : Nat} {T : TypeId} {u v : Value} (h : Blk2 w g T u v) : g < w.heap.size := (Array.getElem?_eq_some_iff.1 h).1
theorem blk_later {w w' : World} {g : Nat} {T : TypeId} {u v : Value} (h : Blk2 w g T u v) (hb : Below w.heap.size w w') : Blk2 w' g T u v := (hb.block g h.lt).trans h
theorem SetBox.put {B b B1 B2 : Nat} {w : World} {u v : Value} {A1 A2 : Option Addr} {c1 c2 : Nat} {s : SetD} (h : Blk2 w b 80 u v) (hB : B ≤ b) (h1 : OwnF fSpan 129 B1 w (.slice A1 s.rel.length c1) s.rel) (h2 : OwnF fSpan 129 B2 w (.slice A2 s.pre.length c2) s.pre) (hB1 : B ≤ B1) (hB2 : B ≤ B2)
    (n1 : ∀ g, (Value.slice A1 s.rel.length c1).ownBlock = some g → g ≠ b) (n2 : ∀ g, (Value.slice A2 s.pre.length c2).ownBlock = some g → g ≠ b) : SetBox B ((w.setCell ⟨b, 0, none⟩ (.slice A1 s.rel.length c1)).setCell ⟨b, 1, none⟩ (.slice A2 s.pre.length c2)) b s := by
  have hs := Blk2.set h (.slice A1 s.rel.length c1) (.slice A2 s.pre.length c2)
  refine ⟨A1, c1, A2, c2, hB, hs.lt, by rw [cell_of_row _ _ _ _ _ _ hs]; rfl, by rw [cell_of_row _ _ _ _ _ _ hs]; rfl, ?_, ?_⟩
  · refine OwnF.mono (f := fSpan) ⟨ownsRow_keep h1.1 fun g hg => ?_, h1.2⟩ hB1
    rw [heap_setCell_other _ _ _ _ (n1 g hg), heap_setCell_other _ _ _ _ (n1 g hg)]
  · refine OwnF.mono (f := fSpan) ⟨ownsRow_keep h2.1 fun g hg => ?_, h2.2⟩ hB2
    rw [heap_setCell_other _ _ _ _ (n2 g hg), heap_setCell_other _ _ _ _ (n2 g hg)]
theorem keep_two {w : World} {b g o : Nat} {x y v : Value} (h : w.cell? ⟨g, o, none⟩ = some v) (hne : g ≠ b) : ((w.setCell ⟨b, 0, none⟩ x).setCell ⟨b, 1, none⟩ y).cell? ⟨g, o, none⟩ = some v := by
  rw [World.cell?_of_block (heap_setCell_other _ _ _ _ hne), World.cell?_of_block (heap_setCell_other _ _ _ _ hne)]
  exact h
/-- A want of one's own behind others. -/
theorem want_more {B : Nat} {w wr W w' : World} {ov v' : Value} {l : List WantD} {xs : List Value} {x : WantD} {a b : Value} {e : TypeId} (h : OwnT tWant e w B ov l xs) (hu : I64 x.u) (hb : Below w.heap.size w wr)
    (h1 : OwnF fSpan 129 w.heap.size wr a x.s.rel) (h2 : OwnF fSpan 129 w.heap.size wr b x.s.pre) (hB : B ≤ w.heap.size) (hW : Below wr.heap.size wr W) (ho : w'.ownsRow B e 3 v' (l.length + 1) (xs ++ [.int .i64 x.u, a, b])) (hg : W.grownBy w' ov.ownBlock) (hn : v'.ownBlock = ov.ownBlock ∨ v'.ownBlock = some W.heap.size) :
    OwnT tWant e w' B v' (l ++ [x]) (xs ++ [.int .i64 x.u, a, b]) := by
  have k1 := h1.below hW (Nat.le_refl _)
  have k2 := h2.below hW (Nat.le_refl _)
  exact (h.later (bstep hb hW)).snoc rfl ⟨a, b, rfl, hu, a, b, rfl,
    (rd_of_ownF k1.1 k1.2 (F := fun k => B ≤ k ∧ k < W.heap.size ∧ ov.ownBlock ≠ some k) fun k hk => ⟨Nat.le_trans hB (k1.lt k hk).1, (k1.lt k hk).2, fun e => by have := (h.own.lt k e).2; have := (k1.lt k hk).1; omega⟩),
    (rd_of_ownF k2.1 k2.2 (F := fun k => B ≤ k ∧ k < W.heap.size ∧ ov.ownBlock ≠ some k) fun k hk => ⟨Nat.le_trans hB (k2.lt k hk).1, (k2.lt k hk).2, fun e => by have := (h.own.lt k e).2; have := (k2.lt k hk).1; omega⟩)⟩ ho hg hn
set_option maxRecDepth 100000 in
set_option maxHeartbeats 4000000 in
theorem wants_any (lv : Value) (l : List WantD) (w : World) (hl : SliceRd tWant w (Lt w.heap.size) lv l) (hll : l.length ≤ 1000) (hok : ∀ x ∈ l, x.s.ok ∧ I64 x.u) :
    Calls Tryz.prog 39 #[lv] w fun e w' => ∃ v xs, e = .returned v ∧ OwnT tWant 83 w' w.heap.size v l xs ∧ Below w.heap.size w w' := by
  obtain ⟨isp, hisp⟩ := info_parts span_info
  have HIS := hid hisp
  obtain ⟨iw, hiw⟩ := info_parts want_info
  have HIW := hid hiw
  obtain ⟨A, cap, rfl, hcap, hmax, hc⟩ := hl.wants
  have HC := hid hc
  have HOK := hid hok
  clear hc hl hisp hiw hok
  go_enter Tryz.func39, Tryz.ntmps39
  go_wp2_with fail
  go_loopw [3, 4, 5] (fun ov iv _ wr => ∃ (k : Nat) (xs : List Value), k ≤ l.length ∧ iv = .int .i64 k ∧ Hid (OwnT tWant 83 wr w.heap.size ov (l.take k) xs) ∧ Hid (Below w.heap.size w wr)) (fun _ iv _ _ => l.length - (RowKit.intOf iv).toNat)
  case atStart => exact ⟨0, [], Nat.zero_le _, rfl, hid (OwnT.nil _ _ _ _), hid (b0 _)⟩
  case round =>
    obtain ⟨k, xs, hk, rfl, ho, hb⟩ := hrel
    obtain ⟨Ao, co, hov⟩ := own_form ho.out.own
    rw [List.length_take, Nat.min_eq_left hk] at hov
    subst hov
    by_cases hlt : k < l.length
    · obtain ⟨g, o, a, b, hA, hF, g0, g1, g2, hra, hrb⟩ := HC.out k hlt
      subst hA
      obtain ⟨⟨hs1, hs2⟩, hui⟩ := HOK.out _ (List.getElem_mem hlt)
      have z0 := cell_below hb.out hF g0
      have z1 := cell_below hb.out hF g1
      have z2 : wr.cell? ⟨g, o + k * 3 + 1 + 1, none⟩ = some b := cell_below hb.out hF g2
      have hFw : g < wr.heap.size := Nat.lt_of_lt_of_le hF hb.out.size
      have i1 : (0 : Int) ≤ ↑k := by omega
      have i2 : (↑k : Int) < ↑l.length := by omega
      have HTK := hid (show l.take (k + 1) = l.take k ++ [l[k]] by rw [List.take_add_one, List.getElem?_eq_getElem hlt]; rfl)
      obtain ⟨Aa, ca, hav, -⟩ := hra.shape
      obtain ⟨Ab, cb, hbv, -⟩ := hrb.shape
      obtain ⟨x, hx⟩ : ∃ x, l[k] = x := ⟨_, rfl⟩
      rw [hx] at hra hrb hs1 hs2 hui z0 hav hbv HTK
      have HRA := hid (fun (W : World) (hW : Below wr.heap.size wr W) => (hav ▸ hra.lift (hb.out.trans (hW.mono hb.out.size)) (hb.out.trans (hW.mono hb.out.size)).size : SliceRd fSpan.ty W (Lt W.heap.size) (.slice Aa x.s.rel.length ca) x.s.rel).srcF (f := fSpan))
      have HRB := hid (fun (W : World) (hW : Below wr.heap.size wr W) => (hbv ▸ hrb.lift (hb.out.trans (hW.mono hb.out.size)) (hb.out.trans (hW.mono hb.out.size)).size : SliceRd fSpan.ty W (Lt W.heap.size) (.slice Ab x.s.pre.length cb) x.s.pre).srcF (f := fSpan))
      subst hav hbv
      have hsw := hb.out.size
      clear hra hrb g0 g1 g2 hx
      have T1 := hid True.intro
      go_upto_region 5 with fail
      go_cut [5] (fun s5 wx => ∃ b : Nat, s5 = .pointer (some ⟨b, 0, none⟩) ∧ Hid (SetBox wr.heap.size wx b x.s) ∧ Hid (Below wr.heap.size wr wx))
      case first =>
        go_region_held3 (fun w' => w'.cell? ⟨g, o + k * 3 + 1, none⟩ = some (.slice Aa x.s.rel.length ca) ∧ w'.cell? ⟨g, o + k * 3 + 1 + 1, none⟩ = some (.slice Ab x.s.pre.length cb)) (first | exact ⟨by assumption, by assumption⟩ | (refine ⟨keep_two ?_ ?_, keep_two ?_ ?_⟩ <;> assumption) | go_keep) (first
          | (clear T1; refine step_guard (.const (.slice none 0 0)) (.tmp 17) 78 rfl ?_; refine step_append_src _ rfl (.const (.slice none 0 0)) (.tmp 17) 78 rfl (wr.heap.size) 129 isp _ 14 144 Tryz.underlying78 HIS.out.1 HIS.out.2.1 HIS.out.2.2.1 HIS.out.2.2.2 rfl (by omega) (.slice none 0 0) 0 [] (by rfl) (own_noneF _ _ _ _) Aa x.s.rel.length ca (fSpan.all x.s.rel) (by rfl) (by exact (HRA.out _ (b0 wr).drew).2.1) (fSpan.all_one _) (by unfold maxLen; omega) (by omega) (Nat.le_refl _) ?_; intro v1 w1 hown hg hat; have hx := own_copyF (f := fSpan) (l := x.s.rel) ((HRA.out _ (b0 wr).drew).2.2) hown; have hgb := gb_new0 (v := .slice none 0 0) hg rfl; have HB1 := hid (Below.trans (b0 wr).drew (hgb.mono (b0 wr).drew.size)); obtain ⟨A1, c1, he⟩ := hx.form; subst he; have HO1 := hid hx; have d11 := cell_below HB1.out hFw z1; have d21 := cell_below HB1.out hFw z2;  clear hown hg hat hx hgb)
          | (clear T1; refine step_guard (.const (.slice none 0 0)) (.tmp 17) 78 rfl ?_; refine step_append_src _ rfl (.const (.slice none 0 0)) (.tmp 17) 78 rfl (wr.heap.size + 1) 129 isp _ 14 144 Tryz.underlying78 HIS.out.1 HIS.out.2.1 HIS.out.2.2.1 HIS.out.2.2.2 rfl (by omega) (.slice none 0 0) 0 [] (by rfl) (own_noneF _ _ _ _) Aa x.s.rel.length ca (fSpan.all x.s.rel) (by rfl) (by exact (HRA.out _ (balloc (b0 wr) (.cells #[.slice none 0 0, .slice none 0 0] 80)).drew).2.1) (fSpan.all_one _) (by unfold maxLen; omega) (by omega) (Nat.le_of_eq (World.size_alloc ..).symm) ?_; intro v3 w3 hown hg hat; have hx := own_copyF (f := fSpan) (l := x.s.rel) ((HRA.out _ (balloc (b0 wr) (.cells #[.slice none 0 0, .slice none 0 0] 80)).drew).2.2) hown; have hgb := gb_new0 (v := .slice none 0 0) hg rfl; have HB3 := hid (Below.trans (balloc (b0 wr) (.cells #[.slice none 0 0, .slice none 0 0] 80)).drew (hgb.mono (balloc (b0 wr) (.cells #[.slice none 0 0, .slice none 0 0] 80)).drew.size)); obtain ⟨A3, c3, he⟩ := hx.form; subst he; have HO3 := hid hx; have d13 := cell_below HB3.out hFw z1; have d23 := cell_below HB3.out hFw z2; have HK3 := hid (blk_later (set_newD wr) hgb); clear hown hg hat hx hgb)
          | (refine step_guard (.const (.slice none 0 0)) (.tmp 24) 78 rfl ?_; refine step_append_src _ rfl (.const (.slice none 0 0)) (.tmp 24) 78 rfl (wr.heap.size) 129 isp _ 14 144 Tryz.underlying78 HIS.out.1 HIS.out.2.1 HIS.out.2.2.1 HIS.out.2.2.2 rfl (by omega) (.slice none 0 0) 0 [] (by rfl) (own_noneF _ _ _ _) Ab x.s.pre.length cb (fSpan.all x.s.pre) (by rfl) (by exact (HRB.out _ HB1.out).2.1) (fSpan.all_one _) (by unfold maxLen; omega) (by omega) (HB1.out.size) ?_; intro v2 w2 hown hg hat; have hx := own_copyF (f := fSpan) (l := x.s.pre) ((HRB.out _ HB1.out).2.2) hown; have hgb := gb_new0 (v := .slice none 0 0) hg rfl; have HB2 := hid (Below.trans HB1.out (hgb.mono HB1.out.size)); obtain ⟨A2, c2, he⟩ := hx.form; subst he; have HO2 := hid hx; have d12 := cell_below HB2.out hFw z1; have d22 := cell_below HB2.out hFw z2; have HP2 := hid (HO1.out.below hgb (Nat.le_refl _)); clear hown hg hat hx hgb)
          | (refine step_guard (.const (.slice none 0 0)) (.tmp 24) 78 rfl ?_; refine step_append_src _ rfl (.const (.slice none 0 0)) (.tmp 24) 78 rfl (w1.heap.size + 1) 129 isp _ 14 144 Tryz.underlying78 HIS.out.1 HIS.out.2.1 HIS.out.2.2.1 HIS.out.2.2.2 rfl (by omega) (.slice none 0 0) 0 [] (by rfl) (own_noneF _ _ _ _) Ab x.s.pre.length cb (fSpan.all x.s.pre) (by rfl) (by exact (HRB.out _ (balloc HB1.out (.cells #[.slice none 0 0, .slice none 0 0] 80))).2.1) (fSpan.all_one _) (by unfold maxLen; omega) (by omega) (by simp) ?_; intro v4 w4 hown hg hat; have hx := own_copyF (f := fSpan) (l := x.s.pre) ((HRB.out _ (balloc HB1.out (.cells #[.slice none 0 0, .slice none 0 0] 80))).2.2) hown; have hgb := gb_new0 (v := .slice none 0 0) hg rfl; have HB4 := hid (Below.trans (balloc HB1.out (.cells #[.slice none 0 0, .slice none 0 0] 80)) (hgb.mono (balloc HB1.out (.cells #[.slice none 0 0, .slice none 0 0] 80)).size)); obtain ⟨A4, c4, he⟩ := hx.form; subst he; have HO4 := hid hx; have d14 := cell_below HB4.out hFw z1; have d24 := cell_below HB4.out hFw z2; have HP4 := hid ((HO1.out.alloc (.cells #[.slice none 0 0, .slice none 0 0] 80)).below hgb (Nat.le_refl _)); have HK4 := hid (blk_later (set_new w1) hgb); obtain ⟨⟨y0, y1⟩, yf⟩ := HK4.out.box; have yf0 := yf 0; have yf1 := yf 1; have hnb : g ≠ w1.heap.size := Nat.ne_of_lt (Nat.lt_of_lt_of_le hFw HB1.out.size); clear yf; clear hown hg hat hx hgb)
          | (refine step_guard (.const (.slice none 0 0)) (.tmp 24) 78 rfl ?_; refine step_append_src _ rfl (.const (.slice none 0 0)) (.tmp 24) 78 rfl (wr.heap.size + 1) 129 isp _ 14 144 Tryz.underlying78 HIS.out.1 HIS.out.2.1 HIS.out.2.2.1 HIS.out.2.2.2 rfl (by omega) (.slice none 0 0) 0 [] (by rfl) (own_noneF _ _ _ _) Ab x.s.pre.length cb (fSpan.all x.s.pre) (by rfl) (by exact (HRB.out _ HB3.out).2.1) (fSpan.all_one _) (by unfold maxLen; omega) (by omega) (HK3.out.lt) ?_; intro v5 w5 hown hg hat; have hx := own_copyF (f := fSpan) (l := x.s.pre) ((HRB.out _ HB3.out).2.2) hown; have hgb := gb_new0 (v := .slice none 0 0) hg rfl; have HB5 := hid (Below.trans HB3.out (hgb.mono HB3.out.size)); obtain ⟨A5, c5, he⟩ := hx.form; subst he; have HO5 := hid hx; have d15 := cell_below HB5.out hFw z1; have d25 := cell_below HB5.out hFw z2; have HP5 := hid (HO3.out.below hgb (Nat.le_refl _)); have HK5 := hid (blk_later HK3.out hgb); obtain ⟨⟨y0, y1⟩, yf⟩ := HK5.out.box; have yf0 := yf 0; have yf1 := yf 1; have hnb : g ≠ wr.heap.size := Nat.ne_of_lt hFw; clear yf; clear hown hg hat hx hgb))
        all_goals (go_wp2_with fail; go_meet; first
          | exact ⟨_, rfl, hid (SetBox.mk HP2.out HO2.out HB2.out.size), hid (balloc HB2.out _)⟩
          | exact ⟨_, rfl, hid (SetBox.put HK4.out HB1.out.size HP4.out HO4.out (Nat.le_refl _) (Nat.le_succ_of_le HB1.out.size) (fun q hq => Nat.ne_of_lt (HO1.out.lt q hq).2) (fun q hq => Nat.ne_of_gt (HO4.out.lt q hq).1)), hid (bset (bset HB4.out HB1.out.size _) HB1.out.size _)⟩
          | exact ⟨_, rfl, hid (SetBox.put HK5.out (Nat.le_refl _) HP5.out HO5.out (Nat.le_succ _) (Nat.le_succ _) (fun q hq => Nat.ne_of_gt (HO3.out.lt q hq).1) (fun q hq => Nat.ne_of_gt (HO5.out.lt q hq).1)), hid (bset (bset HB5.out (Nat.le_refl _) _) (Nat.le_refl _) _)⟩)
      case rest =>
        obtain ⟨b, rfl, hsb, hbs⟩ := hcut
        obtain ⟨wv, rfl⟩ : ∃ wv, wv = wc := ⟨_, rfl⟩
        obtain ⟨A1, c1, A2, c2, hb1, hb2, y0, y1, ho1, ho2⟩ := hsb.out
        have HO1 := hid ho1
        have HO2 := hid ho2
        have z3 := cell_below hbs.out hFw z0
        have HOV := hid ((ho.out.later hbs.out).own)
        have hkl : (l.take k).length = k := by rw [List.length_take]; omega
        rw [hkl] at HOV
        have HKL := hid hkl
        have hsz := (hb.out.trans (hbs.out.mono hb.out.size)).size
        have hB2 := hb.out.trans (hbs.out.mono hb.out.size)
        have HB2 := hid hB2
        clear z0 z1 z2 ho1 ho2 hkl hB2
        go_wp2_with fail
        go_region_law ((refine step_guard (.tmp 27) (.tmp 35) 67 rfl ?_; refine step_append_src _ rfl (.tmp 27) (.tmp 35) 67 rfl w.heap.size 83 iw _ 3 56 Tryz.underlying67 HIW.out.1 HIW.out.2.1 HIW.out.2.2.1 HIW.out.2.2.2 rfl (by omega) (.slice Ao k co) k xs (by rfl) (by first | exact own_alloc_drew HOV.out _ | exact HOV.out.alloc _) (some ⟨wv.heap.size, 0, none⟩) 1 1 [.int .i64 x.u, .slice A1 x.s.rel.length c1, .slice A2 x.s.pre.length c2] (by rfl) (by first | exact src_new_drew _ _ rfl 3 _ rfl rfl | exact src_new _ _ rfl 3 _ rfl rfl) (by simp [Value.oneCell']) (by unfold maxLen; omega) (by omega) (by simp; omega) ?_; intro v3 w3 hown3 hg3 hat3; have HT3 := hid (want_more ho.out hui hbs.out HO1.out HO2.out hsw (by first | exact (balloc (b0 wv) _).drew | exact balloc (b0 wv) _) (by rw [HKL.out]; exact hown3) hg3 hat3); have HB3 := hid (Below.grown (by first | exact (balloc HB2.out _).drew | exact balloc HB2.out _) hg3 (by simp; omega) (fun q hq => (ho.out.own.lt q hq).1)); clear hown3 hg3 hat3))
        all_goals (go_wp2_with fail; exact ⟨⟨k + 1, _, by omega, by go_num, hid (by rw [HTK.out]; exact HT3.out), HB3⟩, by simp [RowKit.intOf]; omega⟩)
    · have e : l.take k = l := List.take_of_length_le (by omega)
      rw [e] at ho
      go_wp2
      go_ret
      exact ⟨_, _, rfl, ho.out, hb.out⟩
end Go.Proofs.YtilgijmokjekgaaGreatDoor
