import Derived.Test.YtilgijmokjekgaaGreatDoorzGW
import Derived.Test.YtilgijmokjekgaaGreatDoorzA4
import Derived.Test.YtilgijmokjekgaaGreatDoorzA6
import Derived.Test.YtilgijmokjekgaaGreatDoorzV13
import Derived.Test.YtilgijmokjekgaaGreatDoorG2
import Derived.Deep.RegionHeld3
import Derived.Deep.DeepCutAuto
import Derived.Outline
import Derived.Test.YtilgijmokjekgaaGreatDoorA11
import Derived.Test.YtilgijmokjekgaaGreatDoorzY5
import Derived.BigRegion
import Derived.Deep.RegionLaw
section
/- Contract: linchpinmade.wants. -/
namespace Go.Proofs.YtilgijmokjekgaaGreatDoor
open Go Go.RowKit

/-- A box that holds a set's two rows of spans, made here. -/
def SetBox (B : Nat) (w : World) (b : Nat) (s : SetD) : Prop := ∃ (A1 : Option Addr) (c1 : Nat) (A2 : Option Addr) (c2 : Nat), B ≤ b ∧ b < w.heap.size ∧ w.cell? ⟨b, 0, none⟩ = some (.slice A1 s.rel.length c1) ∧ w.cell? ⟨b, 1, none⟩ = some (.slice A2 s.pre.length c2) ∧ OwnF fSpan 129 B w (.slice A1 s.rel.length c1) s.rel ∧ OwnF fSpan 129 B w (.slice A2 s.pre.length c2) s.pre
theorem SetBox.mk {B : Nat} {w2 : World} {A1 A2 : Option Addr} {c1 c2 : Nat} {s : SetD} (h1 : OwnF fSpan 129 B w2 (.slice A1 s.rel.length c1) s.rel) (h2 : OwnF fSpan 129 B w2 (.slice A2 s.pre.length c2) s.pre) (hB : B ≤ w2.heap.size) :
  SetBox B (w2.alloc (.cells #[.slice A1 s.rel.length c1, .slice A2 s.pre.length c2] 80)) w2.heap.size s :=
 ⟨A1, c1, A2, c2, hB, by simp, (alloc_cell _ _ _ 0).trans rfl, (alloc_cell _ _ _ 1).trans rfl, h1.alloc _, h2.alloc _⟩
theorem SetBox.drew {B : Nat} {w : World} {b : Nat} {s : SetD} (h : SetBox B w b s) : SetBox B w.drew b s := by
 obtain ⟨A1, c1, A2, c2, h1, h2, h3, h4, h5, h6⟩ := h
 exact ⟨A1, c1, A2, c2, h1, h2, h3, h4, h5.drew, h6.drew⟩
/-- An append to what is no block: all that lay there is as it was. -/
theorem gb_new0 {w w1 : World} {v : Value} (hg : w.grownBy w1 v.ownBlock) (h0 : v.ownBlock = none) : Below w.heap.size w w1 := by
 rw [h0] at hg
 exact (b0 w).grown hg (Nat.le_refl _) (fun k h => by cases h)
theorem set_new (w : World) : Blk2 (w.alloc (.cells #[.slice none 0 0, .slice none 0 0] 80)) w.heap.size 80 (.slice none 0 0) (.slice none 0 0) := heap_alloc_new w _
theorem set_newD (w : World) : Blk2 (w.alloc (.cells #[.slice none 0 0, .slice none 0 0] 80)).drew w.heap.size 80 (.slice none 0 0) (.slice none 0 0) := heap_alloc_new w _
theorem Blk2.lt {w : World} {g : Nat} {T : TypeId} {u v : Value} (h : Blk2 w g T u v) : g < w.heap.size := (Array.getElem?_eq_some_iff.1 h).1
theorem blk_later {w w' : World} {g : Nat} {T : TypeId} {u v : Value} (h : Blk2 w g T u v) (hb : Below w.heap.size w w') : Blk2 w' g T u v := (hb.block g h.lt).trans h
theorem SetBox.put {B b B1 B2 : Nat} {w : World} {u v : Value} {A1 A2 : Option Addr} {c1 c2 : Nat} {s : SetD} (h : Blk2 w b 80 u v) (hB : B ≤ b) (h1 : OwnF fSpan 129 B1 w (.slice A1 s.rel.length c1) s.rel) (h2 : OwnF fSpan 129 B2 w (.slice A2 s.pre.length c2) s.pre) (hB1 : B ≤ B1) (hB2 : B ≤ B2)
  (n1 : ∀ g, (Value.slice A1 s.rel.length c1).ownBlock = some g → g ≠ b) (n2 : ∀ g, (Value.slice A2 s.pre.length c2).ownBlock = some g → g ≠ b) : SetBox B ((w.setCell ⟨b, 0, none⟩ (.slice A1 s.rel.length c1)).setCell ⟨b, 1, none⟩ (.slice A2 s.pre.length c2)) b s := by
 have hs := Blk2.set h (.slice A1 s.rel.length c1) (.slice A2 s.pre.length c2)
 refine ⟨A1, c1, A2, c2, hB, hs.lt, by rw [cell_of_row _ _ _ _ _ _ hs]; rfl, by rw [cell_of_row _ _ _ _ _ _ hs]; rfl, ?_, ?_⟩
 ·refine OwnF.mono (f := fSpan) ⟨ownsRow_keep h1.1 fun g hg => ?_, h1.2⟩ hB1
  rw [heap_setCell_other _ _ _ _ (n1 g hg), heap_setCell_other _ _ _ _ (n1 g hg)]
 ·refine OwnF.mono (f := fSpan) ⟨ownsRow_keep h2.1 fun g hg => ?_, h2.2⟩ hB2
  rw [heap_setCell_other _ _ _ _ (n2 g hg), heap_setCell_other _ _ _ _ (n2 g hg)]
theorem keep_two {w : World} {b g o : Nat} {x y v : Value} (h : w.cell? ⟨g, o, none⟩ = some v) (hne : g ≠ b) : ((w.setCell ⟨b, 0, none⟩ x).setCell ⟨b, 1, none⟩ y).cell? ⟨g, o, none⟩ = some v := by
 rw [World.cell?_of_block (heap_setCell_other _ _ _ _ hne), World.cell?_of_block (heap_setCell_other _ _ _ _ hne)]
 exact h
/-- A want of one's own behind others. -/
theorem want_more {B : Nat} {w wr W w' : World} {ov v' : Value} {l : List WantD} {xs : List Value} {x : WantD} {a b : Value} {e : TypeId} (h : OwnT tWant e w B ov l xs) (hu : I64 x.u) (hb : Below w.heap.size w wr)
  (h1 : OwnF fSpan 129 w.heap.size wr a x.s.rel) (h2 : OwnF fSpan 129 w.heap.size wr b x.s.pre) (hB : B ≤ w.heap.size) (hW : Below wr.heap.size wr W) (ho : w'.ownsRow B e 3 v' (l.length + 1) (xs ++ [.int .i64 x.u, a, b])) (hg : W.grownBy w' ov.ownBlock) (hn : v'.ownBlock = ov.ownBlock ∨ v'.ownBlock = some W.heap.size) :
  OwnT tWant e w' B v' (l ++ [x]) (xs ++ [.int .i64 x.u, a, b]) := by
 have k1 := h1.below hW (Nat.le_refl _)
 have k2 := h2.below hW (Nat.le_refl _)
 exact (h.later (bstep hb hW)).snoc rfl ⟨a, b, rfl, hu, a, b, rfl,
  (rd_of_ownF k1.1 k1.2 (F := fun k => B ≤ k ∧ k < W.heap.size ∧ ov.ownBlock ≠ some k) fun k hk => ⟨Nat.le_trans hB (k1.lt k hk).1, (k1.lt k hk).2, fun e => by have := (h.own.lt k e).2; have := (k1.lt k hk).1; omega⟩),
  (rd_of_ownF k2.1 k2.2 (F := fun k => B ≤ k ∧ k < W.heap.size ∧ ov.ownBlock ≠ some k) fun k hk => ⟨Nat.le_trans hB (k2.lt k hk).1, (k2.lt k hk).2, fun e => by have := (h.own.lt k e).2; have := (k2.lt k hk).1; omega⟩)⟩ ho hg hn
set_option maxRecDepth 100000 in
set_option maxHeartbeats 4000000 in
theorem wants_any (lv : Value) (l : List WantD) (w : World) (hl : SliceRd tWant w (Lt w.heap.size) lv l) (hll : l.length ≤ 1000) (hok : ∀ x ∈ l, x.s.ok ∧ I64 x.u) :
  Calls Tryz.prog 39 #[lv] w fun e w' => ∃ v xs, e = .returned v ∧ OwnT tWant 83 w' w.heap.size v l xs ∧ Below w.heap.size w w' := by
 obtain ⟨isp, hisp⟩ := info_parts span_info
 have HIS := hid hisp
 obtain ⟨iw, hiw⟩ := info_parts want_info
 have HIW := hid hiw
 obtain ⟨A, cap, rfl, hcap, hmax, hc⟩ := hl.wants
 have HC := hid hc
 have HOK := hid hok
 clear hc hl hisp hiw hok
 go_enter Tryz.func39, Tryz.ntmps39
 go_wp2_with fail
 go_loopw [3, 4, 5] (fun ov iv _ wr => ∃ (k : Nat) (xs : List Value), k ≤ l.length ∧ iv = .int .i64 k ∧ Hid (OwnT tWant 83 wr w.heap.size ov (l.take k) xs) ∧ Hid (Below w.heap.size w wr)) (fun _ iv _ _ => l.length - (RowKit.intOf iv).toNat)
 case atStart => exact ⟨0, [], Nat.zero_le _, rfl, hid (OwnT.nil _ _ _ _), hid (b0 _)⟩
 case round =>
  obtain ⟨k, xs, hk, rfl, ho, hb⟩ := hrel
  obtain ⟨Ao, co, hov⟩ := own_form ho.out.own
  rw [List.length_take, Nat.min_eq_left hk] at hov
  subst hov
  by_cases hlt : k < l.length
  ·obtain ⟨g, o, a, b, hA, hF, g0, g1, g2, hra, hrb⟩ := HC.out k hlt
   subst hA
   obtain ⟨⟨hs1, hs2⟩, hui⟩ := HOK.out _ (List.getElem_mem hlt)
   have z0 := cell_below hb.out hF g0
   have z1 := cell_below hb.out hF g1
   have z2 : wr.cell? ⟨g, o + k * 3 + 1 + 1, none⟩ = some b := cell_below hb.out hF g2
   have hFw : g < wr.heap.size := Nat.lt_of_lt_of_le hF hb.out.size
   have i1 : (0 : Int) ≤ ↑k := by omega
   have i2 : (↑k : Int) < ↑l.length := by omega
   have HTK := hid (show l.take (k + 1) = l.take k ++ [l[k]] by rw [List.take_add_one, List.getElem?_eq_getElem hlt]; rfl)
   obtain ⟨Aa, ca, hav, -⟩ := hra.shape
   obtain ⟨Ab, cb, hbv, -⟩ := hrb.shape
   obtain ⟨x, hx⟩ : ∃ x, l[k] = x := ⟨_, rfl⟩
   rw [hx] at hra hrb hs1 hs2 hui z0 hav hbv HTK
   have HRA := hid (fun (W : World) (hW : Below wr.heap.size wr W) => (hav ▸ hra.lift (hb.out.trans (hW.mono hb.out.size)) (hb.out.trans (hW.mono hb.out.size)).size : SliceRd fSpan.ty W (Lt W.heap.size) (.slice Aa x.s.rel.length ca) x.s.rel).srcF (f := fSpan))
   have HRB := hid (fun (W : World) (hW : Below wr.heap.size wr W) => (hbv ▸ hrb.lift (hb.out.trans (hW.mono hb.out.size)) (hb.out.trans (hW.mono hb.out.size)).size : SliceRd fSpan.ty W (Lt W.heap.size) (.slice Ab x.s.pre.length cb) x.s.pre).srcF (f := fSpan))
   subst hav hbv
   have hsw := hb.out.size
   clear hra hrb g0 g1 g2 hx
   have T1 := hid True.intro
   go_upto_region 5 with fail
   go_cut [5] (fun s5 wx => ∃ b : Nat, s5 = .pointer (some ⟨b, 0, none⟩) ∧ Hid (SetBox wr.heap.size wx b x.s) ∧ Hid (Below wr.heap.size wr wx))
   case first =>
    go_region_held3 (fun w' => w'.cell? ⟨g, o + k * 3 + 1, none⟩ = some (.slice Aa x.s.rel.length ca) ∧ w'.cell? ⟨g, o + k * 3 + 1 + 1, none⟩ = some (.slice Ab x.s.pre.length cb)) (first | exact ⟨by assumption, by assumption⟩ | (refine ⟨keep_two ?_ ?_, keep_two ?_ ?_⟩ <;> assumption) | go_keep) (first
     | (clear T1; refine step_guard (.const (.slice none 0 0)) (.tmp 17) 78 rfl ?_; refine step_append_src _ rfl (.const (.slice none 0 0)) (.tmp 17) 78 rfl (wr.heap.size) 129 isp _ 14 144 Tryz.underlying78 HIS.out.1 HIS.out.2.1 HIS.out.2.2.1 HIS.out.2.2.2 rfl (by omega) (.slice none 0 0) 0 [] (by rfl) (own_noneF _ _ _ _) Aa x.s.rel.length ca (fSpan.all x.s.rel) (by rfl) (by exact (HRA.out _ (b0 wr).drew).2.1) (fSpan.all_one _) (by unfold maxLen; omega) (by omega) (Nat.le_refl _) ?_; intro v1 w1 hown hg hat; have hx := own_copyF (f := fSpan) (l := x.s.rel) ((HRA.out _ (b0 wr).drew).2.2) hown; have hgb := gb_new0 (v := .slice none 0 0) hg rfl; have HB1 := hid (Below.trans (b0 wr).drew (hgb.mono (b0 wr).drew.size)); obtain ⟨A1, c1, he⟩ := hx.form; subst he; have HO1 := hid hx; have d11 := cell_below HB1.out hFw z1; have d21 := cell_below HB1.out hFw z2;  clear hown hg hat hx hgb)
     | (clear T1; refine step_guard (.const (.slice none 0 0)) (.tmp 17) 78 rfl ?_; refine step_append_src _ rfl (.const (.slice none 0 0)) (.tmp 17) 78 rfl (wr.heap.size + 1) 129 isp _ 14 144 Tryz.underlying78 HIS.out.1 HIS.out.2.1 HIS.out.2.2.1 HIS.out.2.2.2 rfl (by omega) (.slice none 0 0) 0 [] (by rfl) (own_noneF _ _ _ _) Aa x.s.rel.length ca (fSpan.all x.s.rel) (by rfl) (by exact (HRA.out _ (balloc (b0 wr) (.cells #[.slice none 0 0, .slice none 0 0] 80)).drew).2.1) (fSpan.all_one _) (by unfold maxLen; omega) (by omega) (Nat.le_of_eq (World.size_alloc ..).symm) ?_; intro v3 w3 hown hg hat; have hx := own_copyF (f := fSpan) (l := x.s.rel) ((HRA.out _ (balloc (b0 wr) (.cells #[.slice none 0 0, .slice none 0 0] 80)).drew).2.2) hown; have hgb := gb_new0 (v := .slice none 0 0) hg rfl; have HB3 := hid (Below.trans (balloc (b0 wr) (.cells #[.slice none 0 0, .slice none 0 0] 80)).drew (hgb.mono (balloc (b0 wr) (.cells #[.slice none 0 0, .slice none 0 0] 80)).drew.size)); obtain ⟨A3, c3, he⟩ := hx.form; subst he; have HO3 := hid hx; have d13 := cell_below HB3.out hFw z1; have d23 := cell_below HB3.out hFw z2; have HK3 := hid (blk_later (set_newD wr) hgb); clear hown hg hat hx hgb)
     | (refine step_guard (.const (.slice none 0 0)) (.tmp 24) 78 rfl ?_; refine step_append_src _ rfl (.const (.slice none 0 0)) (.tmp 24) 78 rfl (wr.heap.size) 129 isp _ 14 144 Tryz.underlying78 HIS.out.1 HIS.out.2.1 HIS.out.2.2.1 HIS.out.2.2.2 rfl (by omega) (.slice none 0 0) 0 [] (by rfl) (own_noneF _ _ _ _) Ab x.s.pre.length cb (fSpan.all x.s.pre) (by rfl) (by exact (HRB.out _ HB1.out).2.1) (fSpan.all_one _) (by unfold maxLen; omega) (by omega) (HB1.out.size) ?_; intro v2 w2 hown hg hat; have hx := own_copyF (f := fSpan) (l := x.s.pre) ((HRB.out _ HB1.out).2.2) hown; have hgb := gb_new0 (v := .slice none 0 0) hg rfl; have HB2 := hid (Below.trans HB1.out (hgb.mono HB1.out.size)); obtain ⟨A2, c2, he⟩ := hx.form; subst he; have HO2 := hid hx; have d12 := cell_below HB2.out hFw z1; have d22 := cell_below HB2.out hFw z2; have HP2 := hid (HO1.out.below hgb (Nat.le_refl _)); clear hown hg hat hx hgb)
     | (refine step_guard (.const (.slice none 0 0)) (.tmp 24) 78 rfl ?_; refine step_append_src _ rfl (.const (.slice none 0 0)) (.tmp 24) 78 rfl (w1.heap.size + 1) 129 isp _ 14 144 Tryz.underlying78 HIS.out.1 HIS.out.2.1 HIS.out.2.2.1 HIS.out.2.2.2 rfl (by omega) (.slice none 0 0) 0 [] (by rfl) (own_noneF _ _ _ _) Ab x.s.pre.length cb (fSpan.all x.s.pre) (by rfl) (by exact (HRB.out _ (balloc HB1.out (.cells #[.slice none 0 0, .slice none 0 0] 80))).2.1) (fSpan.all_one _) (by unfold maxLen; omega) (by omega) (by simp) ?_; intro v4 w4 hown hg hat; have hx := own_copyF (f := fSpan) (l := x.s.pre) ((HRB.out _ (balloc HB1.out (.cells #[.slice none 0 0, .slice none 0 0] 80))).2.2) hown; have hgb := gb_new0 (v := .slice none 0 0) hg rfl; have HB4 := hid (Below.trans (balloc HB1.out (.cells #[.slice none 0 0, .slice none 0 0] 80)) (hgb.mono (balloc HB1.out (.cells #[.slice none 0 0, .slice none 0 0] 80)).size)); obtain ⟨A4, c4, he⟩ := hx.form; subst he; have HO4 := hid hx; have d14 := cell_below HB4.out hFw z1; have d24 := cell_below HB4.out hFw z2; have HP4 := hid ((HO1.out.alloc (.cells #[.slice none 0 0, .slice none 0 0] 80)).below hgb (Nat.le_refl _)); have HK4 := hid (blk_later (set_new w1) hgb); obtain ⟨⟨y0, y1⟩, yf⟩ := HK4.out.box; have yf0 := yf 0; have yf1 := yf 1; have hnb : g ≠ w1.heap.size := Nat.ne_of_lt (Nat.lt_of_lt_of_le hFw HB1.out.size); clear yf; clear hown hg hat hx hgb)
     | (refine step_guard (.const (.slice none 0 0)) (.tmp 24) 78 rfl ?_; refine step_append_src _ rfl (.const (.slice none 0 0)) (.tmp 24) 78 rfl (wr.heap.size + 1) 129 isp _ 14 144 Tryz.underlying78 HIS.out.1 HIS.out.2.1 HIS.out.2.2.1 HIS.out.2.2.2 rfl (by omega) (.slice none 0 0) 0 [] (by rfl) (own_noneF _ _ _ _) Ab x.s.pre.length cb (fSpan.all x.s.pre) (by rfl) (by exact (HRB.out _ HB3.out).2.1) (fSpan.all_one _) (by unfold maxLen; omega) (by omega) (HK3.out.lt) ?_; intro v5 w5 hown hg hat; have hx := own_copyF (f := fSpan) (l := x.s.pre) ((HRB.out _ HB3.out).2.2) hown; have hgb := gb_new0 (v := .slice none 0 0) hg rfl; have HB5 := hid (Below.trans HB3.out (hgb.mono HB3.out.size)); obtain ⟨A5, c5, he⟩ := hx.form; subst he; have HO5 := hid hx; have d15 := cell_below HB5.out hFw z1; have d25 := cell_below HB5.out hFw z2; have HP5 := hid (HO3.out.below hgb (Nat.le_refl _)); have HK5 := hid (blk_later HK3.out hgb); obtain ⟨⟨y0, y1⟩, yf⟩ := HK5.out.box; have yf0 := yf 0; have yf1 := yf 1; have hnb : g ≠ wr.heap.size := Nat.ne_of_lt hFw; clear yf; clear hown hg hat hx hgb))
    all_goals (go_wp2_with fail; go_meet; first
     | exact ⟨_, rfl, hid (SetBox.mk HP2.out HO2.out HB2.out.size), hid (balloc HB2.out _)⟩
     | exact ⟨_, rfl, hid (SetBox.put HK4.out HB1.out.size HP4.out HO4.out (Nat.le_refl _) (Nat.le_succ_of_le HB1.out.size) (fun q hq => Nat.ne_of_lt (HO1.out.lt q hq).2) (fun q hq => Nat.ne_of_gt (HO4.out.lt q hq).1)), hid (bset (bset HB4.out HB1.out.size _) HB1.out.size _)⟩
     | exact ⟨_, rfl, hid (SetBox.put HK5.out (Nat.le_refl _) HP5.out HO5.out (Nat.le_succ _) (Nat.le_succ _) (fun q hq => Nat.ne_of_gt (HO3.out.lt q hq).1) (fun q hq => Nat.ne_of_gt (HO5.out.lt q hq).1)), hid (bset (bset HB5.out (Nat.le_refl _) _) (Nat.le_refl _) _)⟩)
   case rest =>
    obtain ⟨b, rfl, hsb, hbs⟩ := hcut
    obtain ⟨wv, rfl⟩ : ∃ wv, wv = wc := ⟨_, rfl⟩
    obtain ⟨A1, c1, A2, c2, hb1, hb2, y0, y1, ho1, ho2⟩ := hsb.out
    have HO1 := hid ho1
    have HO2 := hid ho2
    have z3 := cell_below hbs.out hFw z0
    have HOV := hid ((ho.out.later hbs.out).own)
    have hkl : (l.take k).length = k := by rw [List.length_take]; omega
    rw [hkl] at HOV
    have HKL := hid hkl
    have hsz := (hb.out.trans (hbs.out.mono hb.out.size)).size
    have hB2 := hb.out.trans (hbs.out.mono hb.out.size)
    have HB2 := hid hB2
    clear z0 z1 z2 ho1 ho2 hkl hB2
    go_wp2_with fail
    go_region_law ((refine step_guard (.tmp 27) (.tmp 35) 67 rfl ?_; refine step_append_src _ rfl (.tmp 27) (.tmp 35) 67 rfl w.heap.size 83 iw _ 3 56 Tryz.underlying67 HIW.out.1 HIW.out.2.1 HIW.out.2.2.1 HIW.out.2.2.2 rfl (by omega) (.slice Ao k co) k xs (by rfl) (by first | exact own_alloc_drew HOV.out _ | exact HOV.out.alloc _) (some ⟨wv.heap.size, 0, none⟩) 1 1 [.int .i64 x.u, .slice A1 x.s.rel.length c1, .slice A2 x.s.pre.length c2] (by rfl) (by first | exact src_new_drew _ _ rfl 3 _ rfl rfl | exact src_new _ _ rfl 3 _ rfl rfl) (by simp [Value.oneCell']) (by unfold maxLen; omega) (by omega) (by simp; omega) ?_; intro v3 w3 hown3 hg3 hat3; have HT3 := hid (want_more ho.out hui hbs.out HO1.out HO2.out hsw (by first | exact (balloc (b0 wv) _).drew | exact balloc (b0 wv) _) (by rw [HKL.out]; exact hown3) hg3 hat3); have HB3 := hid (Below.grown (by first | exact (balloc HB2.out _).drew | exact balloc HB2.out _) hg3 (by simp; omega) (fun q hq => (ho.out.own.lt q hq).1)); clear hown3 hg3 hat3))
    all_goals (go_wp2_with fail; exact ⟨⟨k + 1, _, by omega, by go_num, hid (by rw [HTK.out]; exact HT3.out), HB3⟩, by simp [RowKit.intOf]; omega⟩)
  ·have e : l.take k = l := List.take_of_length_le (by omega)
   rw [e] at ho
   go_wp2
   go_ret
   exact ⟨_, _, rfl, ho.out, hb.out⟩
end Go.Proofs.YtilgijmokjekgaaGreatDoor
end
section
/- Contract: linchpinmade.CopyWorld. -/
namespace Go.Proofs.YtilgijmokjekgaaGreatDoor
open Go Go.RowKit

/-- A block, whole. -/
def Blk (w : World) (b : Nat) (T : TypeId) (cs : Array Value) : Prop := w.heap[b]? = some (.cells cs T (0, 0))
section
variable {w w' : World} {b : Nat} {T : TypeId} {cs : Array Value}
theorem Blk.new (w : World) (T : TypeId) (cs : Array Value) : Blk (w.alloc (.cells cs T)) w.heap.size T cs := heap_alloc_new w _
theorem Blk.lt (h : Blk w b T cs) : b < w.heap.size := (Array.getElem?_eq_some_iff.1 h).1
theorem Blk.keep (h : Blk w b T cs) (hk : w'.heap[b]? = w.heap[b]?) : Blk w' b T cs := hk.trans h
theorem Blk.later (h : Blk w b T cs) (hb : Below w.heap.size w w') : Blk w' b T cs := h.keep (hb.block b h.lt)
theorem Blk.cell (h : Blk w b T cs) (i : Nat) : w.cell? ⟨b, i, none⟩ = cs[i]? := cell_of_row w b i cs T (0, 0) h
theorem Blk.frozen (h : Blk w b T cs) (o : Nat) : w.frozen? ⟨b, o, none⟩ = false := frozen_of_row w b o cs T h
theorem Blk.set (h : Blk w b T cs) (i : Nat) (x : Value) : Blk (w.setCell ⟨b, i, none⟩ x) b T (cs.setIfInBounds i x) := heap_setCell_same w b i cs T _ h
theorem Blk.other (h : Blk w b T cs) {p : Addr} (hp : b ≠ p.block) (x : Value) : Blk (w.setCell p x) b T cs := h.keep (heap_setCell_other _ _ _ _ hp)
theorem Blk.drew (h : Blk w b T cs) : Blk w.drew b T cs := h
end
theorem ok_cand {us : List UnitW} (ho : UnitsOk us) {u p : Nat} (hu : u < us.length) (hp : p < us[u].cands.length) : us[u].cands[p].needs.length ≤ 8 ∧ (∀ r ∈ us[u].cands[p].needs, r.length ≤ 1000 ∧ ∀ x ∈ r, x.s.ok ∧ I64 x.u) ∧ us[u].cands[p].bars.length ≤ 1000 ∧ ∀ x ∈ us[u].cands[p].bars, x.s.ok ∧ I64 x.u := by
 have h := ho.cands _ (List.getElem_mem hu) _ (List.getElem_mem hp)
 have h11 : us.length ≤ 11 := by have := ho.ns.hi; simpa [nsOf] using this
 have h64 : ∀ x : WantD, x.ok us.length → x.s.ok ∧ I64 x.u := fun x hx => ⟨hx.2.2, by have := hx.1; omega, by have := hx.2.1; omega⟩
 exact ⟨h.1, fun r hr => ⟨Nat.le_trans (h.2.1 r hr).1 (by decide), fun x hx => h64 x ((h.2.1 r hr).2 x hx)⟩, Nat.le_trans h.2.2.1 (by decide), fun x hx => h64 x (h.2.2.2 x hx)⟩
/-- What CopyWorld holds: its three boxes, the units made so far. -/
structure CopySt (us : List UnitW) (g cap0 : Nat) (w : World) (k : Nat) (vu : Value) (xs : List Value) (wr : World) : Prop where
 b1 : Blk wr w.heap.size 25 #[.slice (some ⟨g, 0, none⟩) us.length cap0]
 b2 : Blk wr (w.heap.size + 1) 25 #[.slice none 0 0]
 b3 : Blk wr (w.heap.size + 2) 25 #[vu]
 own : OwnT tUnit 62 wr (w.heap.size + 3) vu (us.take k) xs
 below : Below w.heap.size w wr
theorem CopySt.start (us : List UnitW) (g cap0 : Nat) (w : World) : CopySt us g cap0 w 0 (.slice none 0 0) [] (((w.alloc (.cells #[.slice (some ⟨g, 0, none⟩) us.length cap0] 25)).alloc (.cells #[.slice none 0 0] 25)).alloc (.cells #[.slice none 0 0] 25)) := by
 have h1 := Blk.new w 25 #[.slice (some ⟨g, 0, none⟩) us.length cap0]
 have h2 := Blk.new (w.alloc (.cells #[.slice (some ⟨g, 0, none⟩) us.length cap0] 25)) 25 #[.slice none 0 0]
 have h3 := Blk.new ((w.alloc (.cells #[.slice (some ⟨g, 0, none⟩) us.length cap0] 25)).alloc (.cells #[.slice none 0 0] 25)) 25 #[.slice none 0 0]
 simp only [World.size_alloc] at h2 h3
 exact ⟨(h1.later (balloc (b0 _) _)).later (balloc (b0 _) _), h2.later (balloc (b0 _) _), h3, OwnT.nil _ _ _ _, balloc (balloc (balloc (b0 w) _) _) _⟩
theorem CopySt.later {us : List UnitW} {g cap0 : Nat} {w : World} {k : Nat} {vu : Value} {xs : List Value} {wr w' : World} (h : CopySt us g cap0 w k vu xs wr) (hb : Below wr.heap.size wr w') : CopySt us g cap0 w k vu xs w' :=
 ⟨h.b1.later hb, h.b2.later hb, h.b3.later hb, h.own.later hb, bstep h.below hb⟩
theorem CopySt.lt {us : List UnitW} {g cap0 : Nat} {w : World} {k : Nat} {vu : Value} {xs : List Value} {wr : World} (h : CopySt us g cap0 w k vu xs wr) : w.heap.size + 3 ≤ wr.heap.size := h.b3.lt
/-- One more behind one's own: what is new lies above all that was there. -/
theorem own_more {α : Type} {t : Ty α} {e : TypeId} {B : Nat} {w W w' : World} {v v' : Value} {l : List α} {xs cs : List Value} {x : α} (h : OwnT t e w B v l xs) (hw : Below w.heap.size w W) (hx : t.rd W (fun b => w.heap.size ≤ b ∧ b < W.heap.size) cs x) (hl : cs.length = t.size) (hB : B ≤ w.heap.size)
  (ho : w'.ownsRow B e t.size v' (l.length + 1) (xs ++ cs)) (hg : W.grownBy w' v.ownBlock) (hn : v'.ownBlock = v.ownBlock ∨ v'.ownBlock = some W.heap.size) : OwnT t e w' B v' (l ++ [x]) (xs ++ cs) :=
 (h.later hw).snoc hl (t.more (fun b hb => ⟨Nat.le_trans hB hb.1, hb.2, fun e => by have := (h.own.lt b e).2; have := hb.1; omega⟩) hx) ho hg hn
theorem own_far_set {w w4 : World} {B : Nat} {e : TypeId} {s n : Nat} {v : Value} {xs : List Value} (h : w.ownsRow B e s v n xs) (hb : Below w.heap.size w w4) {p : Addr} (hp : w.heap.size ≤ p.block) (x : Value) : (w4.setCell p x).ownsRow B e s v n xs :=
 ownsRow_keep h fun g hg => by
  have := (h.lt g hg).2
  rw [heap_setCell_other _ _ _ _ (show g ≠ p.block by omega)]
  exact hb.block g this
theorem grown_below {w0 W w' : World} {B : Nat} {e : TypeId} {s n : Nat} {v : Value} {xs : List Value} {w : World} (h : w.ownsRow B e s v n xs) (hb : Below B w0 W) (hB : B ≤ W.heap.size) (hg : W.grownBy w' v.ownBlock) : Below B w0 w' := hb.grown hg hB fun k hk => (h.lt k hk).1
/-- A unit under way: its box, the candidates made so far. -/
structure UnitSt (wo : World) (x : UnitW) (i : Nat) (vc : Value) (ys : List Value) (wr : World) : Prop where
 b5 : Blk wr wo.heap.size 62 #[.string x.nm, .string x.ft, vc]
 own : OwnT tCand 69 wr (wo.heap.size + 1) vc (x.cands.take i) ys
 below : Below wo.heap.size wo wr
theorem UnitSt.later {wo : World} {x : UnitW} {i : Nat} {vc : Value} {ys : List Value} {wr w' : World} (h : UnitSt wo x i vc ys wr) (hb : Below wr.heap.size wr w') : UnitSt wo x i vc ys w' :=
 ⟨h.b5.later hb, h.own.later hb, h.below.trans (hb.mono h.below.size)⟩
def candV (c : CandW) (nv bv : Value) : Array Value := #[.int .i64 c.v.major, .int .i64 c.v.minor, .int .i64 c.v.patch, .string c.v.pre, .string c.v.build, .int .i64 c.sh, nv, bv]
/-- A candidate under way: what is copied, the copy, its rows so far. -/
structure CandSt (wi : World) (c : CandW) (n0 b0' : Value) (k : Nat) (vn : Value) (zs : List Value) (wr : World) : Prop where
 b7 : Blk wr wi.heap.size 69 (candV c n0 b0')
 b8 : Blk wr (wi.heap.size + 1) 69 (candV c vn (.slice none 0 0))
 own : OwnT (tSlice tWant) 67 wr (wi.heap.size + 2) vn (c.needs.take k) zs
 below : Below wi.heap.size wi wr
theorem CandSt.start (wi : World) (c : CandW) (n0 b0' : Value) : CandSt wi c n0 b0' 0 (.slice none 0 0) [] ((wi.alloc (.cells (candV c n0 b0') 69)).alloc (.cells (candV c (.slice none 0 0) (.slice none 0 0)) 69)) := by
 have h1 := Blk.new wi 69 (candV c n0 b0')
 have h2 := Blk.new (wi.alloc (.cells (candV c n0 b0') 69)) 69 (candV c (.slice none 0 0) (.slice none 0 0))
 simp only [World.size_alloc] at h2
 exact ⟨h1.later (balloc (b0 _) _), h2, OwnT.nil _ _ _ _, balloc (balloc (b0 wi) _) _⟩
/-- A row of needs behind the others, and stored. -/
theorem CandSt.more {wi : World} {c : CandW} {n0 b0' : Value} {k : Nat} {vn vn' vw : Value} {zs ws : List Value} {wr w4 W w5 : World} (h : CandSt wi c n0 b0' k vn zs wr) (hk : k < c.needs.length) (hb : Below wr.heap.size wr w4) (hr : OwnT tWant 83 w4 wr.heap.size vw c.needs[k] ws) (hW : Below w4.heap.size w4 W)
  (ho : w5.ownsRow (wi.heap.size + 2) 67 1 vn' (k + 1) (zs ++ [vw])) (hg : W.grownBy w5 vn.ownBlock) (hn : vn'.ownBlock = vn.ownBlock ∨ vn'.ownBlock = some W.heap.size) : CandSt wi c n0 b0' (k + 1) vn' (zs ++ [vw]) (w5.setCell ⟨wi.heap.size + 1, 6, none⟩ vn') := by
 have hlt := h.b8.lt
 have hkl : (c.needs.take k).length = k := by rw [List.length_take]; omega
 have hx : (tSlice tWant).rd W (fun b => wr.heap.size ≤ b ∧ b < W.heap.size) [vw] c.needs[k] := ⟨vw, rfl, (hr.rdF.keep fun b hb => hW.block b hb.2).more fun b hb => ⟨hb.1, Nat.lt_of_lt_of_le hb.2 hW.size⟩⟩
 have h1 := own_more (e := 67) h.own (bstep hb hW) hx rfl (by omega) (by rw [hkl]; exact ho) hg hn
 have hb5 : Below (wi.heap.size + 2) wr w5 := grown_below h.own.own ((bstep hb hW).mono (by omega)) (by have := hb.size; have := hW.size; omega) hg
 have k8 := (h.b8.keep (hb5.block (wi.heap.size + 1) (by omega))).set 6 vn'
 have k7 := (h.b7.keep (hb5.block wi.heap.size (by omega))).other (p := ⟨wi.heap.size + 1, 6, none⟩) (by show wi.heap.size ≠ wi.heap.size + 1; omega) vn'
 refine ⟨k7, k8, ?_, ?_⟩
 ·rw [show c.needs.take (k + 1) = c.needs.take k ++ [c.needs[k]] by rw [List.take_add_one, List.getElem?_eq_getElem hk]; rfl]
  exact h1.setOut (by show wi.heap.size + 1 < wi.heap.size + 2; omega) _
 ·exact (h.below.trans (hb5.mono (by omega))).setCell (p := ⟨wi.heap.size + 1, 6, none⟩) (by show wi.heap.size ≤ wi.heap.size + 1; omega) _
/-- A candidate behind the others, and stored. -/
theorem UnitSt.more {wo wi wr w4 W w5 : World} {x : UnitW} {i : Nat} {vc vc' vn vb n0 b0' : Value} {ys zs ws : List Value} (h : UnitSt wo x i vc ys wi) (hi : i < x.cands.length) (hc : CandSt wi x.cands[i] n0 b0' x.cands[i].needs.length vn zs wr) (hb : Below wr.heap.size wr w4) (hr : OwnT tWant 83 w4 wr.heap.size vb x.cands[i].bars ws)
  (hvB : x.cands[i].v.B) (hW : Below w4.heap.size (w4.setCell ⟨wi.heap.size + 1, 7, none⟩ vb) W) (ho : w5.ownsRow (wo.heap.size + 1) 69 8 vc' (i + 1) (ys ++ (candV x.cands[i] vn vb).toList)) (hg : W.grownBy w5 vc.ownBlock) (hn : vc'.ownBlock = vc.ownBlock ∨ vc'.ownBlock = some W.heap.size) :
  UnitSt wo x (i + 1) vc' (ys ++ (candV x.cands[i] vn vb).toList) (w5.setCell ⟨wo.heap.size, 2, none⟩ vc') := by
 have hlt := h.b5.lt
 have hlt8 := hc.b8.lt
 have hs4 := hb.size
 have hil : (x.cands.take i).length = i := by rw [List.length_take]; omega
 have hn1 := (hc.own.later hb).setOut (p := ⟨wi.heap.size + 1, 7, none⟩) (by show wi.heap.size + 1 < wi.heap.size + 2; omega) vb
 have hr1 := hr.setOut (p := ⟨wi.heap.size + 1, 7, none⟩) (by show wi.heap.size + 1 < wr.heap.size; omega) vb
 rw [List.take_length] at hn1
 have hsW : w4.heap.size ≤ W.heap.size := by have := hW.size; simpa using this
 have hsc : (w4.setCell ⟨wi.heap.size + 1, 7, none⟩ vb).heap.size = w4.heap.size := by simp
 have hx : tCand.rd W (fun b => wi.heap.size ≤ b ∧ b < W.heap.size) (candV x.cands[i] vn vb).toList x.cands[i] := by
  refine ⟨vn, vb, rfl, hvB, ?_, ?_⟩
  ·exact (hn1.rdF.keep fun b hb => hW.block b (by have := hb.2; simpa using this)).more fun b hb => ⟨by have := hb.1; omega, Nat.lt_of_lt_of_le (by have := hb.2; rwa [hsc] at this) hsW⟩
  ·exact (hr1.rdF.keep fun b hb => hW.block b (by have := hb.2; simpa using this)).more fun b hb => ⟨by have := hb.1; omega, Nat.lt_of_lt_of_le (by have := hb.2; rwa [hsc] at this) hsW⟩
 have hbW : Below wi.heap.size wi W := ((hc.below.trans (hb.mono (by omega))).setCell (p := ⟨wi.heap.size + 1, 7, none⟩) (by show wi.heap.size ≤ wi.heap.size + 1; omega) vb).trans (hW.mono (by omega))
 have h1 := own_more (e := 69) h.own hbW hx rfl (by omega) (by rw [hil]; exact ho) hg hn
 have hb5 : Below (wo.heap.size + 1) wi w5 := grown_below h.own.own (hbW.mono (by omega)) (by omega) hg
 have k5 := (h.b5.keep (hb5.block wo.heap.size (by omega))).set 2 vc'
 refine ⟨k5, ?_, ?_⟩
 ·rw [show x.cands.take (i + 1) = x.cands.take i ++ [x.cands[i]] by rw [List.take_add_one, List.getElem?_eq_getElem hi]; rfl]
  exact h1.setOut (by show wo.heap.size < wo.heap.size + 1; omega) _
 ·exact (h.below.trans (hb5.mono (by omega))).setCell (p := ⟨wo.heap.size, 2, none⟩) (Nat.le_refl _) _
/-- A unit behind the others, and stored. -/
theorem CopySt.more {us : List UnitW} {g cap0 : Nat} {w wo wr W w5 : World} {u : Nat} {vu vu' vc : Value} {xs ys : List Value} (h : CopySt us g cap0 w u vu xs wo) (hu : u < us.length) (hc : UnitSt wo us[u] us[u].cands.length vc ys wr) (hW : Below wr.heap.size wr W)
  (ho : w5.ownsRow (w.heap.size + 3) 62 3 vu' (u + 1) (xs ++ [.string us[u].nm, .string us[u].ft, vc])) (hg : W.grownBy w5 vu.ownBlock) (hn : vu'.ownBlock = vu.ownBlock ∨ vu'.ownBlock = some W.heap.size) :
  CopySt us g cap0 w (u + 1) vu' (xs ++ [.string us[u].nm, .string us[u].ft, vc]) (w5.setCell ⟨w.heap.size + 2, 0, none⟩ vu') := by
 have hlt := h.lt
 have hul : (us.take u).length = u := by rw [List.length_take]; omega
 have hcs := (hc.own.later hW).rdF
 rw [List.take_length] at hcs
 have hs5 := hc.b5.lt
 have hx : tUnit.rd W (fun b => wo.heap.size ≤ b ∧ b < W.heap.size) [.string us[u].nm, .string us[u].ft, vc] us[u] := by
  refine ⟨vc, rfl, ?_⟩
  obtain ⟨A, cap, e1, -, -, e2⟩ := hcs.shape
  refine ⟨A, cap, e1, fun k hk => ?_⟩
  obtain ⟨g1, o1, cs, q1, q2, q3, q4, q5⟩ := e2 k hk
  exact ⟨g1, o1, cs, q1, ⟨by have := q2.1; omega, q2.2⟩, q3, q4, tCand.more (fun b hb => ⟨by have := hb.1; omega, hb.2⟩) q5⟩
 have hbW : Below wo.heap.size wo W := hc.below.trans (hW.mono (by omega))
 have h1 := own_more (e := 62) h.own hbW hx rfl (by omega) (by rw [hul]; exact ho) hg hn
 have hb5 : Below (w.heap.size + 3) wo w5 := grown_below h.own.own (hbW.mono (by omega)) (by have := hbW.size; omega) hg
 have k3 := (h.b3.keep (hb5.block (w.heap.size + 2) (by omega))).set 0 vu'
 have k1 := (h.b1.keep (hb5.block w.heap.size (by omega))).other (p := ⟨w.heap.size + 2, 0, none⟩) (by show w.heap.size ≠ w.heap.size + 2; omega) vu'
 have k2 := (h.b2.keep (hb5.block (w.heap.size + 1) (by omega))).other (p := ⟨w.heap.size + 2, 0, none⟩) (by show w.heap.size + 1 ≠ w.heap.size + 2; omega) vu'
 refine ⟨k1, k2, k3, ?_, ?_⟩
 ·rw [show us.take (u + 1) = us.take u ++ [us[u]] by rw [List.take_add_one, List.getElem?_eq_getElem hu]; rfl]
  exact h1.setOut (by show w.heap.size + 2 < w.heap.size + 3; omega) _
 ·exact (h.below.trans (hb5.mono (by omega))).setCell (p := ⟨w.heap.size + 2, 0, none⟩) (by show w.heap.size ≤ w.heap.size + 2; omega) _
set_option maxRecDepth 100000 in
set_option maxHeartbeats 8000000 in
theorem copyWorld_any (v : Value) (us : List UnitW) (w : World) (h : WorldRd w (Lt w.heap.size) v us) (ho : UnitsOk us) :
  Calls Tryz.prog 12 #[v] w fun e w' => ∃ vu xs, e = .returned (.agg #[vu]) ∧ OwnT tUnit 62 w' w.heap.size vu us xs ∧ Below w.heap.size w w' := by
 obtain ⟨iu, hiu⟩ := info_parts unit_info
 have HIU := hid hiu
 obtain ⟨ic, hic⟩ := info_parts cand_info
 have HIC := hid hic
 obtain ⟨iv, hiv⟩ := info_parts wants_info
 have HIV := hid hiv
 have h11 : us.length ≤ 11 := by have := ho.ns.hi; simpa [nsOf] using this
 have HO := hid ho
 obtain ⟨g, cap0, rfl, hg, hs⟩ := id h
 obtain ⟨g', cap', hv, hg', hun⟩ := h.opened
 have hv' : (Value.slice (some ⟨g, 0, none⟩) us.length cap0) = .slice (some ⟨g', 0, none⟩) us.length cap' := by
  injection hv with hv
  injection (congrArg Array.toList hv) with e1 e2
 injection hv' with e1 e2 e3
 injection e1 with e1
 injection e1 with e1
 subst e1 e3
 obtain ⟨A0, c0, hv0, hcm0, hcl0, hnm⟩ := hs.shape
 injection hv0 with e1 e2 e3
 subst e1 e3
 have HNM := hid (fun u (hu : u < us.length) => show w.cell? ⟨g, u * 3, none⟩ = some (.string us[u].nm) ∧ w.cell? ⟨g, u * 3 + 1, none⟩ = some (.string us[u].ft) by
  obtain ⟨g2, o2, cs, hA, -, -, hcell, cv, rfl, -⟩ := hnm u hu
  cases hA
  have h0 := hcell 0 (by show 0 < 3; omega)
  have h1 := hcell 1 (by show 1 < 3; omega)
  rw [Nat.zero_add] at h0 h1
  exact ⟨h0, h1⟩)
 have HUN := hid hun
 have hgW : g < w.heap.size := hg
 clear h ho hv hg hg' hs hun hnm hiu hic hiv e2
 go_enter Tryz.func12, Tryz.ntmps12
 go_wp2_with fail
 have HST0 := hid (CopySt.start us g cap0 w)
 go_loopw [4, 5, 6, 7, 8, 9] (fun uv _ _ _ _ _ wr => ∃ (u : Nat) (vu : Value) (xs : List Value), u ≤ us.length ∧ uv = .int .i64 u ∧ Hid (CopySt us g cap0 w u vu xs wr)) (fun uv _ _ _ _ _ _ => us.length - (RowKit.intOf uv).toNat)
 case atStart => exact ⟨0, _, _, Nat.zero_le _, rfl, HST0⟩
 case round =>
  obtain ⟨u, vu, xs, hu, rfl, hst⟩ := hrel
  obtain ⟨Au, cu, hvu⟩ := own_form hst.out.own.own
  rw [List.length_take, Nat.min_eq_left hu] at hvu
  subst hvu
  have hlt3 := hst.out.lt
  have p1 := hst.out.b1.cell 0
  have p2 := hst.out.b2.cell 0
  have p3 := hst.out.b3.cell 0
  have f2 := hst.out.b2.frozen 0
  have f3 := hst.out.b3.frozen 0
  simp only [List.getElem?_toArray, List.getElem?_cons_zero] at p1 p2 p3
  by_cases hlt : u < us.length
  ·obtain ⟨Ac, cc, hcu, hcd⟩ := HUN.out u hlt
   obtain ⟨hn1, hn2⟩ := HNM.out u hlt
   have hbw := hst.out.below
   have q0 := cell_below hbw hgW hn1
   have q1 := cell_below hbw hgW hn2
   have q2 := cell_below hbw hgW hcu
   have hgr : g < wr.heap.size := Nat.lt_of_lt_of_le hgW hbw.size
   have hz1 : w.heap.size < wr.heap.size := by omega
   have hz2 : w.heap.size + 1 < wr.heap.size := by omega
   have hz3 : w.heap.size + 2 < wr.heap.size := by omega
   have i0 : (0 : Int) ≤ ↑u := by omega
   have i1 : (↑u : Int) < ↑us.length := by omega
   have HCD := hid hcd
   have HOC := hid (fun p (hp : p < us[u].cands.length) => ok_cand HO.out hlt hp)
   have h4 : us[u].cands.length ≤ 4 := by
    have := HO.out.ns.le u (by simpa [nsOf] using hlt)
    simpa [nsOf] using this
   have HMORE := hid (fun (wz W w5 : World) (vu' vc : Value) (ys : List Value) h1 h2 h3 h4 h5 => hst.out.more (wr := wz) (W := W) (w5 := w5) (vu' := vu') (vc := vc) (ys := ys) hlt h1 h2 h3 h4 h5)
   obtain ⟨x, hx⟩ : ∃ x, us[u] = x := ⟨_, rfl⟩
   rw [hx] at HCD HOC h4 q0 q1 q2 HMORE
   obtain ⟨nc, hnc⟩ : ∃ nc, x.cands.length = nc := ⟨_, rfl⟩
   have HNC := hid hnc
   rw [hnc] at q2 h4
   obtain ⟨wo, rfl⟩ : ∃ wo, wo = wr := ⟨_, rfl⟩
   clear hcu hn1 hn2 hcd hx hnc hbw
   go_upto_region 5 with fail
   go_cut [5] (fun s5 wx => s5 = .pointer (some ⟨wo.heap.size, 0, none⟩) ∧ Hid (UnitSt wo x 0 (.slice none 0 0) [] wx))
   case first =>
    go_region
    all_goals (go_wp2_with fail; go_meet; exact ⟨rfl, hid ⟨(Blk.new wo 62 #[.string x.nm, .string x.ft, .slice none 0 0]).drew, OwnT.nil _ _ _ _, (balloc (b0 wo) _).drew⟩⟩)
   case rest =>
    obtain ⟨rfl, hust⟩ := hcut
    go_wp2_with fail
    go_loopw [6, 7, 8, 9] (fun iv _ _ _ wr => ∃ (i : Nat) (vc : Value) (ys : List Value), i ≤ nc ∧ iv = .int .i64 i ∧ Hid (UnitSt wo x i vc ys wr)) (fun iv _ _ _ _ => nc - (RowKit.intOf iv).toNat)
    case atStart => exact ⟨0, _, _, Nat.zero_le _, rfl, hust⟩
    case round =>
     obtain ⟨i, vc, ys, hi, rfl, hus⟩ := hrel
     obtain ⟨Av, cv, hvc⟩ := own_form hus.out.own.own
     rw [List.length_take, Nat.min_eq_left (by rw [HNC.out]; exact hi)] at hvc
     subst hvc
     have hbu := hus.out.below
     have r1 := cell_below hbu (by omega) p1
     have r2 := cell_below hbu hgr q2
     have hlU := hus.out.b5.lt
     by_cases hlti : i < nc
     ·skip
      have hiL : i < x.cands.length := by rw [HNC.out]; exact hlti
      obtain ⟨gc, oc, nv, bv, hAc, hFc, hat, hvB, hnd, hbr⟩ := HCD.out i hiL
      subst hAc
      obtain ⟨hn8, hnok, hb8, hbok⟩ := HOC.out i hiL
      have HBW := hid (hst.out.below.trans (hbu.mono hst.out.below.size))
      have HUM := hid (fun (wz w4 W w5 : World) (vc' vn vb n0 b0' : Value) (zs ws : List Value) hc hb hr hW ho hg hn => hus.out.more (wr := wz) (w4 := w4) (W := W) (w5 := w5) (vc' := vc') (vn := vn) (vb := vb) (n0 := n0) (b0' := b0') (zs := zs) (ws := ws) hiL hc hb hr hvB hW ho hg hn)
      obtain ⟨cd, hcd⟩ : ∃ cd, x.cands[i] = cd := ⟨_, rfl⟩
      rw [hcd] at hat hnd hbr hn8 hnok hb8 hbok HUM
      obtain ⟨y0, y1, y2, y3, y4, y5, y6, y7⟩ := hat.below HBW.out hFc
      have HND := hid (hnd.lift HBW.out HBW.out.size)
      have HBR := hid (hbr.lift HBW.out HBW.out.size)
      have HNOK := hid hnok
      have HBOK := hid hbok
      obtain ⟨An, cn, rfl, hcn, hcnm, hnl⟩ := HND.out.lists
      obtain ⟨Ab, cb, rfl, -⟩ := HBR.out.wants
      have HNL := hid hnl
      have hgcr : gc < wr.heap.size := Nat.lt_of_lt_of_le hFc HBW.out.size
      have j0 : (0 : Int) ≤ ↑i := by omega
      have j1 : (↑i : Int) < ↑nc := by omega
      obtain ⟨nn, hnn⟩ : ∃ nn, cd.needs.length = nn := ⟨_, rfl⟩
      have HNN := hid hnn
      obtain ⟨nb, hnb⟩ : ∃ nb, cd.bars.length = nb := ⟨_, rfl⟩
      rw [hnn] at y6 hn8 hcn
      rw [hnb] at y7 HBR
      unfold maxLen at hcnm
      obtain ⟨wi, rfl⟩ : ∃ wi, wi = wr := ⟨_, rfl⟩
      have HNB := hid hnb
      clear hnd hbr hnok hbok hat hcd hnl hnn hnb
      go_wp2_with fail
      obtain ⟨w8, hw8⟩ : ∃ w8 : World, w8 = (wi.alloc (.cells #[.int .i64 cd.v.major, .int .i64 cd.v.minor, .int .i64 cd.v.patch, .string cd.v.pre, .string cd.v.build, .int .i64 cd.sh, .slice An nn cn, .slice Ab nb cb] 69)).alloc (.cells #[.int .i64 cd.v.major, .int .i64 cd.v.minor, .int .i64 cd.v.patch, .string cd.v.pre, .string cd.v.build, .int .i64 cd.sh, .slice none 0 0, .slice none 0 0] 69) := ⟨_, rfl⟩
      have HCS := hid (show CandSt wi cd (.slice An nn cn) (.slice Ab nb cb) 0 (.slice none 0 0) [] w8 from hw8 ▸ CandSt.start wi cd (.slice An nn cn) (.slice Ab nb cb))
      rw [← hw8]
      clear hw8 y0 y1 y2 y3 y4 y5 y6 y7
      go_loopw [9] (fun kv wr => ∃ (k : Nat) (vn : Value) (zs : List Value), k ≤ nn ∧ kv = .int .i64 k ∧ Hid (CandSt wi cd (.slice An nn cn) (.slice Ab nb cb) k vn zs wr)) (fun kv _ => nn - (RowKit.intOf kv).toNat)
      case atStart => exact ⟨0, _, _, Nat.zero_le _, rfl, HCS⟩
      case round =>
       obtain ⟨k, vn, zs, hk, rfl, hcs⟩ := hrel
       obtain ⟨Av2, cv2, hvn⟩ := own_form hcs.out.own.own
       rw [List.length_take, Nat.min_eq_left (by rw [HNN.out]; exact hk)] at hvn
       subst hvn
       have z7 := hcs.out.b7.cell 6
       have z7b := hcs.out.b7.cell 7
       have z8 := hcs.out.b8.cell 6
       have z8b := hcs.out.b8.cell 7
       have f8 := hcs.out.b8.frozen 6
       have f8b := hcs.out.b8.frozen 7
       simp only [candV, List.getElem?_toArray, List.getElem?_cons_zero, List.getElem?_cons_succ] at z7 z7b z8 z8b
       by_cases hltk : k < nn
       ·skip
        have hkL : k < cd.needs.length := by rw [HNN.out]; exact hltk
        obtain ⟨gn, on, lv, hAn, hFn, cN, hlr⟩ := HNL.out k hkL
        subst hAn
        have hbk := hcs.out.below
        obtain ⟨Al, cl, hlv, -⟩ := hlr.wants
        have HWT := hid (fun (W : World) (hW : Below wr.heap.size wr W) => wants_any lv cd.needs[k] W (hlr.lift (hbk.trans (hW.mono hbk.size)) (hbk.trans (hW.mono hbk.size)).size) (HNOK.out _ (List.getElem_mem hkL)).1 (HNOK.out _ (List.getElem_mem hkL)).2)
        have zN := cell_below hbk hFn cN
        have hgnr : gn < wr.heap.size := Nat.lt_of_lt_of_le hFn hbk.size
        have l0 : (0 : Int) ≤ ↑k := by omega
        have l1 : (↑k : Int) < ↑nn := by omega
        have hlt8 := hcs.out.b8.lt
        have hlt7 := hcs.out.b7.lt
        have HMO := hid (fun (vn' vw : Value) (ws : List Value) (w4 W w5 : World) hb hr hW ho hg hn => hcs.out.more (vn' := vn') (vw := vw) (ws := ws) (w4 := w4) (W := W) (w5 := w5) hkL hb hr hW ho hg hn)
        have HK8 := hid (fun (w4 W w5 : World) (hb : Below wr.heap.size wr w4) (hW : Below w4.heap.size w4 W) (hg : W.grownBy w5 (Value.slice Av2 k cv2).ownBlock) => (hcs.out.b8.keep ((grown_below hcs.out.own.own ((bstep hb hW).mono (show wi.heap.size + 2 ≤ wr.heap.size by omega)) (by have := hb.size; have := hW.size; omega) hg).block (wi.heap.size + 1) (by omega)) : Blk w5 _ _ _))
        generalize cd.needs[k].length = ll at hlv
        subst hlv
        clear cN hlr
        go_wp2_with fail
        go_region_law ((first
         | (go_simp; go_at_call 39; refine (HWT.out _ (b0 wr).drew).mono ?_; rintro e w4 ⟨vw, ws, rfl, how, hb4⟩; obtain ⟨Aw, cw, hvw⟩ := own_form how.own; subst hvw; have HO4 := hid how; have HB4 := hid (bstep (b0 wr).drew hb4); have d8 := cell_below HB4.out hlt8 z8; have d7 := cell_below HB4.out hlt7 z7; have g8 := (hcs.out.b8.later HB4.out).frozen 6; have dN := cell_below HB4.out hgnr zN; have hb8w := Nat.lt_of_lt_of_le hlt8 HB4.out.size; have hb7w := Nat.lt_of_lt_of_le hlt7 HB4.out.size; have hgnw := Nat.lt_of_lt_of_le hgnr HB4.out.size; clear how hb4)
         | (refine step_guard (.tmp 63) (.tmp 70) 66 rfl ?_; refine step_append_src _ rfl (.tmp 63) (.tmp 70) 66 rfl (wi.heap.size + 2) 67 iv _ 1 24 Tryz.underlying66 HIV.out.1 HIV.out.2.1 HIV.out.2.2.1 HIV.out.2.2.2 rfl (by omega) (.slice Av2 k cv2) k zs (by rfl) (by have h := (hcs.out.own.later HB4.out).own.alloc (.cells #[.slice Aw cd.needs[k].length cw] 67); rw [List.length_take, Nat.min_eq_left (by omega)] at h; exact h) (some ⟨w4.heap.size, 0, none⟩) 1 1 [.slice Aw cd.needs[k].length cw] (by rfl) (by exact src_new _ _ rfl 1 _ rfl rfl) (by simp [Value.oneCell']) (by unfold maxLen; omega) (by omega) (by have := HB4.out.size; simp; omega) ?_; intro v5 w5 hown5 hg5 hat5; obtain ⟨A5, c5, he5⟩ := own_form hown5; subst he5; have HC5 := hid (HMO.out _ _ _ _ _ _ HB4.out HO4.out (balloc (b0 w4) _) hown5 hg5 hat5); have hk8 := HK8.out _ _ _ HB4.out (balloc (b0 w4) _) hg5; have e8 := hk8.cell 6; have eF := hk8.frozen 6; simp only [candV, List.getElem?_toArray, List.getElem?_cons_zero, List.getElem?_cons_succ] at e8; clear hown5 hg5 hat5 hk8)))
        all_goals (go_wp2_with fail; exact ⟨⟨k + 1, _, _, by omega, by go_num, HC5⟩, by simp [RowKit.intOf]; omega⟩)
       ·have hke : k = nn := by omega
        subst hke
        clear hltk
        have hbk := hcs.out.below
        have hlt8 := hcs.out.b8.lt
        have hlt7 := hcs.out.b7.lt
        have hlU2 := Nat.lt_of_lt_of_le hlU hbk.size
        have HWB := hid (fun (W : World) (hW : Below wr.heap.size wr W) => wants_any (.slice Ab nb cb) cd.bars W (HBR.out.lift (hbk.trans (hW.mono hbk.size)) (hbk.trans (hW.mono hbk.size)).size) hb8 HBOK.out)
        have HCS2 := hid (show CandSt wi cd (.slice An k cn) (.slice Ab nb cb) cd.needs.length (.slice Av2 k cv2) zs wr by rw [HNN.out]; exact hcs.out)
        have HCE := hid (fun (W : World) (hW : Below wr.heap.size wr W) => (fun j => (hcs.out.b8.later hW).cell j))
        have HCF := hid (fun (W : World) (hW : Below wr.heap.size wr W) => (hcs.out.b8.later hW).frozen 7)
        have HUS4 := hid (fun (W : World) (hW : Below wr.heap.size wr W) => hus.out.later (hbk.trans (hW.mono hbk.size)))
        have HOF := hid (fun (w4 : World) (hb : Below wr.heap.size wr w4) (x : Value) => (by have h := own_far_set hus.out.own.own (hbk.trans (hb.mono hbk.size)) (p := ⟨wi.heap.size + 1, 7, none⟩) (by show wi.heap.size ≤ wi.heap.size + 1; omega) x; rw [List.length_take, Nat.min_eq_left (by omega)] at h; exact h : (w4.setCell ⟨wi.heap.size + 1, 7, none⟩ x).ownsRow (wo.heap.size + 1) 69 8 (.slice Av i cv) i ys))
        have HK5 := hid (fun (w4 W w5 : World) (x : Value) (hb : Below wr.heap.size wr w4) (hW : Below (w4.setCell ⟨wi.heap.size + 1, 7, none⟩ x).heap.size (w4.setCell ⟨wi.heap.size + 1, 7, none⟩ x) W) (hg : W.grownBy w5 (Value.slice Av i cv).ownBlock) => (hus.out.b5.keep ((grown_below hus.out.own.own ((((hbk.trans (hb.mono hbk.size)).setCell (p := ⟨wi.heap.size + 1, 7, none⟩) (by show wi.heap.size ≤ wi.heap.size + 1; omega) x).trans (hW.mono (by have := hb.size; have := hbk.size; simp; omega))).mono (show wo.heap.size + 1 ≤ wi.heap.size by omega)) (by have := hb.size; have := hbk.size; have := hW.size; simp at this; omega) hg).block wo.heap.size (by omega)) : Blk w5 _ _ _))
        have hiL5 : i ≤ 4 := by omega
        have hn5 : wo.heap.size + 1 ≤ wr.heap.size := by have := hbk.size; omega
        go_wp2_with (first
         | (go_at_call 39; go_must (refine (HWB.out _ (b0 wr)).mono ?_; rintro e w4 ⟨vb, ws, rfl, how, hb4⟩; obtain ⟨Aw, cw, hvw⟩ := own_form how.own; rw [HNB.out] at hvw; subst hvw; have HO4 := hid how; have HB4 := hid hb4; have e0 := HCE.out w4 hb4 0; have e1 := HCE.out w4 hb4 1; have e2 := HCE.out w4 hb4 2; have e3 := HCE.out w4 hb4 3; have e4 := HCE.out w4 hb4 4; have e5 := HCE.out w4 hb4 5; have e6 := HCE.out w4 hb4 6; have e7 := HCE.out w4 hb4 7; have eF := HCF.out w4 hb4; have u2 := (HUS4.out w4 hb4).b5.cell 2; simp only [candV, List.getElem?_toArray, List.getElem?_cons_zero, List.getElem?_cons_succ] at e0 e1 e2 e3 e4 e5 e6 e7 u2; clear how hb4))
         | (at_builtin; go_must (refine wpList_append_src _ rfl (.tmp 78) (.tmp 80) _ rfl (wo.heap.size + 1) 69 ic _ 8 112 Tryz.underlying60 HIC.out.1 HIC.out.2.1 HIC.out.2.2.1 HIC.out.2.2.2 rfl (by omega) (.slice Av i cv) i ys (by rfl) (by exact (HOF.out w4 HB4.out _).alloc _) (some ⟨w4.heap.size, 0, none⟩) 1 1 [.int .i64 cd.v.major, .int .i64 cd.v.minor, .int .i64 cd.v.patch, .string cd.v.pre, .string cd.v.build, .int .i64 cd.sh, .slice Av2 k cv2, .slice Aw nb cw] (by rfl) (by exact src_new _ _ (by simp) 8 _ rfl rfl) (by simp [Value.oneCell']) (by unfold maxLen; omega) (by omega) (by have := HB4.out.size; simp; omega) ?_; intro v5 w5 hown5 hg5 hat5; obtain ⟨A5, c5, he5⟩ := own_form hown5; subst he5; have hW5 : Below (w4.setCell ⟨wi.heap.size + 1, 7, none⟩ (.slice Aw nb cw)).heap.size (w4.setCell ⟨wi.heap.size + 1, 7, none⟩ (.slice Aw nb cw)) ((w4.setCell ⟨wi.heap.size + 1, 7, none⟩ (.slice Aw nb cw)).alloc (.cells #[.int .i64 cd.v.major, .int .i64 cd.v.minor, .int .i64 cd.v.patch, .string cd.v.pre, .string cd.v.build, .int .i64 cd.sh, .slice Av2 k cv2, .slice Aw nb cw] 69)) := balloc (b0 _) _; have HU5 := hid (HUM.out wr w4 _ w5 _ _ _ _ _ _ _ HCS2.out HB4.out HO4.out (hW5.mono (by simp)) hown5 hg5 hat5); have hk5 := HK5.out _ _ _ _ HB4.out hW5 hg5; have u5 := hk5.cell 2; have uF := hk5.frozen 2; simp only [List.getElem?_toArray, List.getElem?_cons_zero, List.getElem?_cons_succ] at u5; clear hown5 hg5 hat5 hk5 hW5)))
        exact ⟨⟨i + 1, _, _, by omega, by go_num, HU5⟩, by simp [RowKit.intOf]; omega⟩
     ·have hie : i = nc := by omega
      subst hie
      clear hlti
      have r3 := cell_below hbu (by omega) p3
      have hk3 := hst.out.b3.keep (hbu.block (w.heap.size + 2) (by omega))
      have rF := hk3.frozen 0
      have s0 := hus.out.b5.cell 0
      have s1 := hus.out.b5.cell 1
      have s2 := hus.out.b5.cell 2
      simp only [List.getElem?_toArray, List.getElem?_cons_zero, List.getElem?_cons_succ] at s0 s1 s2
      have HOW := hid (show wr.ownsRow (w.heap.size + 3) 62 3 (.slice Au u cu) u xs by
       have h := (hst.out.own.later hbu).own
       rw [List.length_take, Nat.min_eq_left hu] at h
       exact h)
      have HUS2 := hid (show UnitSt wo x x.cands.length (.slice Av i cv) ys wr by rw [HNC.out]; exact hus.out)
      have HK3 := hid (fun (W w5 : World) (hW : Below wr.heap.size wr W) (hg : W.grownBy w5 (Value.slice Au u cu).ownBlock) => (hst.out.b3.keep ((grown_below hst.out.own.own ((hbu.trans (hW.mono hbu.size)).mono (show w.heap.size + 3 ≤ wo.heap.size by omega)) (by have := hbu.size; have := hW.size; omega) hg).block (w.heap.size + 2) (by omega)) : Blk w5 _ _ _))
      have hsz : w.heap.size + 3 ≤ wr.heap.size := by have := hbu.size; omega
      clear hk3
      go_wp2_with (at_builtin; go_must (refine wpList_append_src _ rfl (.tmp 84) (.tmp 86) _ rfl (w.heap.size + 3) 62 iu _ 3 56 Tryz.underlying23 HIU.out.1 HIU.out.2.1 HIU.out.2.2.1 HIU.out.2.2.2 rfl (by omega) (.slice Au u cu) u xs (by rfl) (by exact HOW.out.alloc _) (some ⟨wr.heap.size, 0, none⟩) 1 1 [.string x.nm, .string x.ft, .slice Av i cv] (by rfl) (by exact src_new _ _ rfl 3 _ rfl rfl) (by simp [Value.oneCell']) (by unfold maxLen; omega) (by omega) (by simp; omega) ?_; intro v5 w5 hown5 hg5 hat5; obtain ⟨A5, c5, he5⟩ := own_form hown5; subst he5; have HC5 := hid (HMORE.out wr _ w5 _ _ _ HUS2.out (balloc (b0 wr) _) hown5 hg5 hat5); have hk5 := HK3.out _ _ (balloc (b0 wr) _) hg5; have u5 := hk5.cell 0; have uF := hk5.frozen 0; simp only [List.getElem?_toArray, List.getElem?_cons_zero] at u5; clear hown5 hg5 hat5 hk5))
      exact ⟨⟨u + 1, _, _, by omega, by go_num, HC5⟩, by simp [RowKit.intOf]; omega⟩
  ·have hue : u = us.length := by omega
   subst hue
   clear hlt
   have hown : OwnT tUnit 62 wr (w.heap.size + 3) (.slice Au us.length cu) us xs := by
    have h := hst.out.own
    rwa [List.take_length] at h
   have HOWN := hid (hown.setOut (p := ⟨w.heap.size + 1, 0, none⟩) (by show w.heap.size + 1 < w.heap.size + 3; omega) (.slice Au us.length cu))
   have HBF := hid (hst.out.below.setCell (p := ⟨w.heap.size + 1, 0, none⟩) (by show w.heap.size ≤ w.heap.size + 1; omega) (.slice Au us.length cu))
   have hfin := ((hst.out.b2.set 0 (.slice Au us.length cu)).cell 0)
   have hfin2 := ((hst.out.b2.set 0 (.slice Au us.length cu)).frozen 0)
   clear hown
   go_wp2_with fail
   exact bodyPost_ret (v := .agg #[.slice Au us.length cu]) (by simp [results, Tryz.results12, go_sem, p2]) rfl ⟨_, xs, rfl, HOWN.out.mono (by omega), HBF.out⟩
end Go.Proofs.YtilgijmokjekgaaGreatDoor
end
