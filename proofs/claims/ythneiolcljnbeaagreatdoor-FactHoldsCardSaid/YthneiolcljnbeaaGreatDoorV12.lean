import Derived.Test.YthneiolcljnbeaaGreatDoorzLater
import Derived.Deep.RegionLaw
import Derived.Deep.DeepMust
import Derived.Outline
namespace Go.Proofs.YthneiolcljnbeaaGreatDoor
open Go Go.RowKit
theorem cut_info : (Tryz.prog.info? 103).map (fun i => (i.zero, i.size, i.bytes)) = some (some (.agg #[.int .i64 0, .int .i64 0, .int .i64 0, .int .i64 0, .string ⟨#[]⟩, .string ⟨#[]⟩, .bool false]), 7, 72) := by kernel_rfl
theorem Src.take {w : World} {A : Option Addr} {n s k : Nat} {cs : List Value} (h : Src w A n s cs) (hk : k ≤ n) : Src w A k s (cs.take (k * s)) := by
 have hm : k * s ≤ n * s := Nat.mul_le_mul_right _ hk
 refine ⟨by rw [List.length_take, h.1]; omega, fun hp => ?_⟩
 obtain ⟨ad, hA, hc⟩ := h.2 (by omega)
 refine ⟨ad, hA, fun j u hu => hc j u ?_⟩
 rw [List.getElem?_take] at hu
 split at hu
 ·exact hu
 ·cases hu
theorem Src.drop {w : World} {g o n s k : Nat} {cs : List Value} (h : Src w (some ⟨g, o, none⟩) n s cs) (hk : k ≤ n) : Src w (some ⟨g, o + k * s, none⟩) (n - k) s (cs.drop (k * s)) := by
 refine ⟨by rw [List.length_drop, h.1, Nat.sub_mul], fun hp => ?_⟩
 obtain ⟨ad, hA, hc⟩ := h.2 (by omega)
 cases hA
 refine ⟨_, rfl, fun j u hu => ?_⟩
 rw [List.getElem?_drop] at hu
 have := hc _ _ hu
 rw [add_mk] at this ⊢
 rw [← this]
 congr 2
 omega
theorem Src.none_ {w : World} (A : Option Addr) (s : Nat) : Src w A 0 s [] := ⟨by simp, fun h => absurd h (by omega)⟩
theorem Flat.all_take {α : Type} (f : Flat α) (l : List α) (k : Nat) : f.all (l.take k) = (f.all l).take (k * f.size) := by
 induction l generalizing k with
 | nil => simp [Flat.all]
 | cons x l ih =>
  cases k with
  | zero => simp [Flat.all]
  | succ k =>
   rw [List.take_succ_cons, f.all_cons, f.all_cons, ih, List.take_append, f.len, Nat.add_mul, Nat.one_mul]
   rw [show k * f.size + f.size - f.size = k * f.size by omega, List.take_of_length_le (l := f.cells x) (by rw [f.len]; omega)]
theorem Flat.all_drop {α : Type} (f : Flat α) (l : List α) (k : Nat) : f.all (l.drop k) = (f.all l).drop (k * f.size) := by
 induction l generalizing k with
 | nil => simp [Flat.all]
 | cons x l ih =>
  cases k with
  | zero => simp
  | succ k =>
   rw [List.drop_succ_cons, f.all_cons, ih, List.drop_append, f.len, Nat.add_mul, Nat.one_mul]
   rw [show k * f.size + f.size - f.size = k * f.size by omega, List.drop_of_length_le (l := f.cells x) (by rw [f.len]; omega), List.nil_append]
theorem src_grown {w w' : World} {n m s : Nat} {news : List Value} (h : Src w (some ⟨n, 0, none⟩) m s news) (hg : w.grownBy w' (Value.slice none 0 0).ownBlock) (hn : n < w.heap.size) : Src w' (some ⟨n, 0, none⟩) m s news := by
 refine ⟨h.1, fun hp => ?_⟩
 obtain ⟨ad, hA, hc⟩ := h.2 hp
 refine ⟨ad, hA, fun j u hu => ?_⟩
 cases hA
 have := hc j u hu
 rw [add_mk] at this ⊢
 exact (World.cell?_of_block (hg.block n hn (by intro e; cases e))).trans this
theorem own_below {w wx W w1 : World} (_ : Below w.heap.size w wx) (hW : Below w.heap.size w W) (hg : W.grownBy w1 (Value.slice none 0 0).ownBlock) : Below w.heap.size w w1 :=
 hW.grown hg hW.size (fun k h => by cases h)
theorem own_below2 {w wx wy W w1 : World} {e : TypeId} {s n : Nat} {v : Value} {xs : List Value} (ho : wy.ownsRow w.heap.size e s v n xs) (_ : Below w.heap.size w wx) (hW : Below w.heap.size w W) (hg : W.grownBy w1 v.ownBlock) : Below w.heap.size w w1 :=
 hW.grown hg hW.size (fun k h => (ho.lt k h).1)
theorem own_cells {W w1 : World} {b : Nat} (hg : W.grownBy w1 (Value.slice none 0 0).ownBlock) (hb : b ≤ W.heap.size) : ∀ b' o', b' < b → w1.cell? ⟨b', o', none⟩ = W.cell? ⟨b', o', none⟩ :=
 fun b' _ h => World.cell?_of_block (hg.block b' (Nat.lt_of_lt_of_le h hb) (by intro e; cases e))
def PutPost (l : List Cut) (u : Cut) (w : World) (e : Ending) (w' : World) : Prop := ∃ v', e = .returned v' ∧ SliceRd fCut.ty w' (Lt w'.heap.size) v' (putC l u) ∧ Below w.heap.size w w'
theorem put_end {w w' : World} {v : Value} {n : Nat} {xs : List Value} {l : List Cut} {u : Cut} {e : Ending} {B : Nat} {E : TypeId} (he : e = .returned v) (h : w'.ownsRow B E 7 v n xs) (hb : Below w.heap.size w w') (hl : ∀ x ∈ u :: l, x.B) {k : Nat} (hx : xs = fCut.all (l.take k ++ u :: l.drop k)) (hn : n = l.length + 1) (hq : putC l u = l.take k ++ u :: l.drop k) : PutPost l u w e w' := by
 have hlen : (l.take k ++ u :: l.drop k).length = l.length + 1 := by simp; omega
 subst hx; subst hn
 rw [← hlen] at h
 refine ⟨v, he, ?_, hb⟩
 rw [hq]
 refine rd_of_ownF (f := fCut) h (fun x hx => ?_) (fun g hg => (h.lt g hg).2)
 rcases List.mem_append.1 hx with hx | hx
 ·exact hl x (List.mem_cons_of_mem _ (List.mem_of_mem_take hx))
 ·rcases List.mem_cons.1 hx with rfl | hx
  ·exact hl _ (by simp)
  ·exact hl x (List.mem_cons_of_mem _ (List.mem_of_mem_drop hx))
set_option maxRecDepth 100000 in
set_option maxHeartbeats 2000000 in
theorem put_any (lv : Value) (l : List Cut) (u : Cut) (w : World) (h : SliceRd fCut.ty w (Lt w.heap.size) lv l) (hu : u.B) (hl1 : 1 ≤ l.length) (hl2 : l.length ≤ 100000) :
  Calls Tryz.prog 147 #[lv, .agg #[.int .i64 u.en, .int .i64 u.v.major, .int .i64 u.v.minor, .int .i64 u.v.patch, .string u.v.pre, .string u.v.build, .bool u.after]] w (PutPost l u w) := by
 obtain ⟨A, cap, rfl, hcap, hmax, hc⟩ := h.cuts
 have HH := hid h
 have HC := hid hc
 have HU := hid hu
 have HL := hid (show ∀ x ∈ u :: l, x.B by
  intro x hx
  rcases List.mem_cons.1 hx with rfl | hx
  ·exact hu
  ·obtain ⟨k, hk, rfl⟩ := List.getElem_of_mem hx
   obtain ⟨_, _, _, _, hB, _⟩ := hc k hk
   exact hB)
 obtain ⟨g, o, hA, hF, -, -⟩ := hc 0 (by omega)
 cases hA
 obtain ⟨ii, hii⟩ := info_parts cut_info
 have HII := hid hii
 have HSRC := hid (show ∀ W, Below w.heap.size w W → Src W (some ⟨g, o, none⟩) l.length 7 (fCut.all l) from fun W hW => (h.below hW).srcF.2.1)
 unfold maxLen at hmax
 clear h hc hu hii
 go_enter Tryz.func147, Tryz.ntmps147
 go_wp2
 obtain ⟨w0, hw0⟩ : ∃ w0 : World, w0 = (w.alloc (.cells #[.int .i64 u.en, .int .i64 u.v.major, .int .i64 u.v.minor, .int .i64 u.v.patch, .string u.v.pre, .string u.v.build, .bool u.after] 103)) := ⟨_, rfl⟩
 have HB0 : Hid (Below w.heap.size w w0) := hid (by rw [hw0]; exact balloc (b0 w) _)
 have HX : Hid (BoxC w0 w.heap.size u) := hid (by rw [hw0]; exact BoxC.new w u _)
 have hz : w.heap.size < w0.heap.size := by rw [hw0]; simp
 rw [← hw0]
 clear hw0
 go_loopw [5] (fun iv wr => ∃ k : Nat, k ≤ l.length ∧ iv = .int .i64 k ∧ Hid (Below w0.heap.size w0 wr) ∧ Hid (∀ j, (hj : j < l.length) → j < k → cmpC l[j] u < 0)) (fun iv _ => l.length - (intOf iv).toNat)
 case atStart => exact ⟨0, Nat.zero_le _, rfl, hid (b0 _), hid (fun j _ hj => absurd hj (by omega))⟩
 case round =>
  obtain ⟨k, hk, rfl, hbr, hup⟩ := hrel
  have i1 : (0 : Int) ≤ ↑k := by omega
  have i3 : (↑k : Int) ≤ ↑l.length := by omega
  have i4 : (↑k : Int) ≤ ↑cap := by omega
  have i5 : (↑l.length : Int) ≤ ↑cap := by omega
  have HS1 := hid (show ∀ W, Below w.heap.size w W → Src W (some ⟨g, o, none⟩) k 7 (fCut.all (l.take k)) from fun W hW => by rw [fCut.all_take]; exact (HSRC.out W hW).take hk)
  have HS3 := hid (show ∀ W, Below w.heap.size w W → Src W (some ⟨g, o + k * 7, none⟩) (l.length - k) 7 (fCut.all (l.drop k)) from fun W hW => by rw [fCut.all_drop]; exact (HSRC.out W hW).drop hk)
  by_cases hlt : k < l.length
  ·obtain ⟨_, _, hA, -, hLK, hat⟩ := HC.out k hlt
   cases hA
   have HLK := hid hLK
   have HAT := hid hat
   clear hLK hat
   have i2 : (↑k : Int) < ↑l.length := by omega
   have z1 : decide (k < l.length) = true := decide_eq_true hlt
   have HTK := hid (show fCut.all (l.take k) ++ cutCells u ++ fCut.all (l.drop k) = fCut.all (l.take k ++ u :: l.drop k) by rw [fCut.all_append, fCut.all_cons, List.append_assoc]; rfl)
   have hgw : g < wr.heap.size := Nat.lt_of_lt_of_le hF (HB0.out.trans (hbr.out.mono HB0.out.size)).size
   have hxw : w.heap.size < wr.heap.size := Nat.lt_of_lt_of_le hz hbr.out.size
   obtain ⟨c0, c1, c2, c3, c4, c5, c6⟩ := (HAT.out.below (HB0.out.trans (hbr.out.mono HB0.out.size)) hF).later hgw
   obtain ⟨d0, d1, d2, d3, d4, d5, d6⟩ := (HX.out.below hbr.out hz).later hxw
   by_cases q1 : cmpC l[k] u < 0
   ·have z2 : decide (cmpC l[k] u < 0) = true := decide_eq_true q1
    have HUP := hid (show ∀ j, (hj : j < l.length) → j < k + 1 → cmpC l[j] u < 0 from fun j hj hjk => by
     by_cases he : j = k
     ·subst he; exact q1
     ·exact hup.out j hj (by omega))
    clear q1
    go_wp2
    refine wp_region_later (by kernel_rfl) (by kernel_rfl) ?_
    repeat (go_big_quiet_step ((go_at_call 146; (with_reducible exact Calls.later (ccmp_c l[k] u _ HLK.out HU.out) rfl))))
    refine wpQuiet_nil ?_
    rintro _ ⟨e1, rfl⟩
    obtain ⟨wx, hwx⟩ : ∃ wx : World, wx = e1.w := ⟨_, rfl⟩
    have HBX := hid (show Below w0.heap.size w0 wx from hwx ▸ bstep hbr.out e1.below)
    rw [← hwx]
    clear hwx
    go_wp2
    exact ⟨⟨k + 1, by omega, by go_num, HBX, HUP⟩, by simp [intOf]; omega⟩
   ·have z2 : decide (cmpC l[k] u < 0) = false := decide_eq_false q1
    have HQ1 := hid q1
    clear q1
    go_wp2
    refine wp_region_later (by kernel_rfl) (by kernel_rfl) ?_
    repeat (go_big_quiet_step ((go_at_call 146; (with_reducible exact Calls.later (ccmp_c l[k] u _ HLK.out HU.out) rfl))))
    refine wpQuiet_nil ?_
    rintro _ ⟨e1, rfl⟩
    obtain ⟨wx, hwx⟩ : ∃ wx : World, wx = e1.w := ⟨_, rfl⟩
    have HBX := hid (show Below w0.heap.size w0 wx from hwx ▸ bstep hbr.out e1.below)
    rw [← hwx]
    clear hwx
    clear c0 d0 c1 d1 c2 d2 c3 d3 c4 d4 c5 d5 c6 d6 hgw hxw
    go_wp2
    have hgw : g < wx.heap.size := Nat.lt_of_lt_of_le hF (HB0.out.trans (HBX.out.mono HB0.out.size)).size
    have hxw : w.heap.size < wx.heap.size := Nat.lt_of_lt_of_le hz HBX.out.size
    obtain ⟨c0, c1, c2, c3, c4, c5, c6⟩ := (HAT.out.below (HB0.out.trans (HBX.out.mono HB0.out.size)) hF).later hgw
    obtain ⟨d0, d1, d2, d3, d4, d5, d6⟩ := (HX.out.below HBX.out hz).later hxw
    by_cases q2 : cmpC l[k] u = 0
    ·have z3 : (cmpC l[k] u == 0) = true := by rw [q2]; rfl
     have HPQ := hid (putC_same hup.out hlt q2)
     clear q2
     refine wp_region_later (by kernel_rfl) (by kernel_rfl) ?_
     repeat (go_big_quiet_step ((go_at_call 146; (with_reducible exact Calls.later (ccmp_c l[k] u _ HLK.out HU.out) rfl))))
     refine wpQuiet_nil ?_
     rintro _ ⟨e1, rfl⟩
     obtain ⟨wx, hwx⟩ : ∃ wx : World, wx = e1.w := ⟨_, rfl⟩
     have HBX := hid (show Below w0.heap.size w0 wx from hwx ▸ bstep HBX.out e1.below)
     rw [← hwx]
     clear hwx
     go_wp2
     go_ret
     exact ⟨_, rfl, by rw [HPQ.out]; exact HH.out.lift (HB0.out.trans (HBX.out.mono HB0.out.size)) (HB0.out.trans (HBX.out.mono HB0.out.size)).size, HB0.out.trans (HBX.out.mono HB0.out.size)⟩
    ·have z3 : (cmpC l[k] u == 0) = false := by rw [beq_eq_false_iff_ne]; exact q2
     have HPQ := hid (putC_stop hup.out (Nat.le_of_lt hlt) (fun _ => ⟨by have := HQ1.out; omega, q2⟩))
     clear q2
     refine wp_region_later (by kernel_rfl) (by kernel_rfl) ?_
     repeat (go_big_quiet_step ((go_at_call 146; (with_reducible exact Calls.later (ccmp_c l[k] u _ HLK.out HU.out) rfl))))
     refine wpQuiet_nil ?_
     rintro _ ⟨e1, rfl⟩
     obtain ⟨wx, hwx⟩ : ∃ wx : World, wx = e1.w := ⟨_, rfl⟩
     have HBX := hid (show Below w0.heap.size w0 wx from hwx ▸ bstep HBX.out e1.below)
     rw [← hwx]
     clear hwx
     clear c0 d0 c1 d1 c2 d2 c3 d3 c4 d4 c5 d5 c6 d6 hgw hxw
     have HBW := hid (HB0.out.trans (HBX.out.mono HB0.out.size))
     obtain ⟨d0, d1, d2, d3, d4, d5, d6⟩ := HX.out.below HBX.out hz
     have hzx : w.heap.size < wx.heap.size := Nat.lt_of_lt_of_le hz HBX.out.size
     have i6 : ¬ cap = k := by omega
     go_wp2
     first
      | go_must (go_region_law ((first
       | (refine step_guard (.const (.slice none 0 0)) (.tmp 37) 168 rfl ?_; refine step_append_src _ rfl (.const (.slice none 0 0)) (.tmp 37) 168 rfl w.heap.size 103 ii _ 7 72 Tryz.underlying168 HII.out.1 HII.out.2.1 HII.out.2.2.1 HII.out.2.2.2 rfl (by omega) (.slice none 0 0) (0) ([]) (by rfl) (⟨rfl, .inl ⟨rfl, rfl⟩⟩) (some ⟨g, o, none⟩) (k) (cap) (fCut.all (l.take k)) (by rfl) (HS1.out _ (by repeat (first | (with_reducible exact HBW.out) | (with_reducible exact HW1.out) | (with_reducible exact HW2.out) | (with_reducible exact b0 _) | (with_reducible refine balloc ?_ _) | (with_reducible refine bdrew ?_)))) (fCut.all_one _) (by unfold maxLen; omega) (by omega) (Below.size (B := w.heap.size) (w := w) (by repeat (first | (with_reducible exact HBW.out) | (with_reducible exact HW1.out) | (with_reducible exact HW2.out) | (with_reducible exact b0 _) | (with_reducible refine balloc ?_ _) | (with_reducible refine bdrew ?_)))) ?_; intro v1 w1 hown1 hg1 hat1; have HW1 := hid (own_below HBW.out (by repeat (first | (with_reducible exact HBW.out) | (with_reducible exact HW1.out) | (with_reducible exact HW2.out) | (with_reducible exact b0 _) | (with_reducible refine balloc ?_ _) | (with_reducible refine bdrew ?_))) hg1); have hbc1 := own_cells (b := wx.heap.size) hg1 (by simp) ; simp only [Nat.zero_add, List.nil_append] at hown1; obtain ⟨A1, c1, rfl⟩ := own_form hown1; have HO1 := hid hown1; have HG1 := hid hg1; clear hown1 hg1 hat1)
       | (refine step_guard (.tmp 38) (.tmp 40) 168 rfl ?_; refine step_append_src _ rfl (.tmp 38) (.tmp 40) 168 rfl w.heap.size 103 ii _ 7 72 Tryz.underlying168 HII.out.1 HII.out.2.1 HII.out.2.2.1 HII.out.2.2.2 rfl (by omega) (.slice A1 (k) c1) (k) (fCut.all (l.take k)) (by rfl) (by first | exact HO1.out | exact own_alloc_drew HO1.out _ | exact HO1.out.alloc _) (some ⟨w1.heap.size, 0, none⟩) (1) (1) (cutCells u) (by rfl) (by first | exact src_new _ _ rfl 7 _ rfl rfl | exact src_new_drew _ _ rfl 7 _ rfl rfl) (cutCells_one u) (by unfold maxLen; omega) (by omega) (Below.size (B := w.heap.size) (w := w) (by repeat (first | (with_reducible exact HBW.out) | (with_reducible exact HW1.out) | (with_reducible exact HW2.out) | (with_reducible exact b0 _) | (with_reducible refine balloc ?_ _) | (with_reducible refine bdrew ?_)))) ?_; intro v2 w2 hown2 hg2 hat2; have HW2 := hid (own_below2 HO1.out HW1.out (by repeat (first | (with_reducible exact HBW.out) | (with_reducible exact HW1.out) | (with_reducible exact HW2.out) | (with_reducible exact b0 _) | (with_reducible refine balloc ?_ _) | (with_reducible refine bdrew ?_))) hg2); obtain ⟨A2, c2, rfl⟩ := own_form hown2; have HO2 := hid hown2; clear hown2 hg2 hat2)
       | (refine step_guard (.tmp 38) (.tmp 40) 168 rfl ?_; refine step_append_src _ rfl (.tmp 38) (.tmp 40) 168 rfl w.heap.size 103 ii _ 7 72 Tryz.underlying168 HII.out.1 HII.out.2.1 HII.out.2.2.1 HII.out.2.2.2 rfl (by omega) (.slice A1 (k) c1) (k) (fCut.all (l.take k)) (by rfl) (by first | exact HO1.out | exact own_alloc_drew HO1.out _ | exact HO1.out.alloc _) (some ⟨wx.heap.size, 0, none⟩) (1) (1) (cutCells u) (by rfl) (by first | exact src_grown (src_new _ _ rfl 7 _ rfl rfl) HG1.out (by simp) | exact src_grown (src_new_drew _ _ rfl 7 _ rfl rfl) HG1.out (by simp)) (cutCells_one u) (by unfold maxLen; omega) (by omega) (Below.size (B := w.heap.size) (w := w) (by repeat (first | (with_reducible exact HBW.out) | (with_reducible exact HW1.out) | (with_reducible exact HW2.out) | (with_reducible exact b0 _) | (with_reducible refine balloc ?_ _) | (with_reducible refine bdrew ?_)))) ?_; intro v2 w2 hown2 hg2 hat2; have HW2 := hid (own_below2 HO1.out HW1.out (by repeat (first | (with_reducible exact HBW.out) | (with_reducible exact HW1.out) | (with_reducible exact HW2.out) | (with_reducible exact b0 _) | (with_reducible refine balloc ?_ _) | (with_reducible refine bdrew ?_))) hg2); obtain ⟨A2, c2, rfl⟩ := own_form hown2; have HO2 := hid hown2; clear hown2 hg2 hat2)
       | (refine step_guard (.tmp 41) (.tmp 44) 168 rfl ?_; refine step_append_src _ rfl (.tmp 41) (.tmp 44) 168 rfl w.heap.size 103 ii _ 7 72 Tryz.underlying168 HII.out.1 HII.out.2.1 HII.out.2.2.1 HII.out.2.2.2 rfl (by omega) (.slice A2 (k + 1) c2) (k + 1) (fCut.all (l.take k) ++ cutCells u) (by rfl) (by first | exact HO2.out | exact own_alloc_drew HO2.out _ | exact HO2.out.alloc _) (some ⟨g, o + k * 7, none⟩) (l.length - k) (cap - k) (fCut.all (l.drop k)) (by rfl) (HS3.out _ (by repeat (first | (with_reducible exact HBW.out) | (with_reducible exact HW1.out) | (with_reducible exact HW2.out) | (with_reducible exact b0 _) | (with_reducible refine balloc ?_ _) | (with_reducible refine bdrew ?_)))) (fCut.all_one _) (by unfold maxLen; omega) (by omega) (Below.size (B := w.heap.size) (w := w) (by repeat (first | (with_reducible exact HBW.out) | (with_reducible exact HW1.out) | (with_reducible exact HW2.out) | (with_reducible exact b0 _) | (with_reducible refine balloc ?_ _) | (with_reducible refine bdrew ?_)))) ?_; intro v3 w3 hown3 hg3 hat3; have HW3 := hid (own_below2 HO2.out HW2.out (by repeat (first | (with_reducible exact HBW.out) | (with_reducible exact HW1.out) | (with_reducible exact HW2.out) | (with_reducible exact b0 _) | (with_reducible refine balloc ?_ _) | (with_reducible refine bdrew ?_))) hg3); obtain ⟨A3, c3, rfl⟩ := own_form hown3; have HO3 := hid hown3; clear hown3 hg3 hat3))))
      | fail
     all_goals go_wp2
     all_goals go_ret
     all_goals exact put_end rfl HO3.out HW3.out HL.out (by first | exact HTK.out) (by omega) HPQ.out
  ·have hkl : k = l.length := by omega
   subst hkl
   have z1 : decide (l.length < l.length) = false := decide_eq_false (by omega)
   have HPQ := hid (putC_stop hup.out (Nat.le_refl _) (fun h => absurd h (by omega)))
   have HTK := hid (show fCut.all (l.take l.length) ++ cutCells u ++ [] = fCut.all (l.take l.length ++ u :: l.drop l.length) by rw [List.append_nil, fCut.all_append, fCut.all_cons, List.drop_length, fCut.all_nil, List.append_nil]; rfl)
   clear hlt
   go_wp2
   refine wp_region_later (by kernel_rfl) (by kernel_rfl) ?_
   repeat (go_big_quiet_step (fail))
   refine wpQuiet_nil ?_
   rintro _ ⟨e1, rfl⟩
   obtain ⟨wx, hwx⟩ : ∃ wx : World, wx = e1.w := ⟨_, rfl⟩
   have HBX := hid (show Below w0.heap.size w0 wx from hwx ▸ bstep hbr.out e1.below)
   rw [← hwx]
   clear hwx
   go_wp2
   refine wp_region_later (by kernel_rfl) (by kernel_rfl) ?_
   repeat (go_big_quiet_step (fail))
   refine wpQuiet_nil ?_
   rintro _ ⟨e1, rfl⟩
   obtain ⟨wx, hwx⟩ : ∃ wx : World, wx = e1.w := ⟨_, rfl⟩
   have HBX := hid (show Below w0.heap.size w0 wx from hwx ▸ bstep HBX.out e1.below)
   rw [← hwx]
   clear hwx
   have HBW := hid (HB0.out.trans (HBX.out.mono HB0.out.size))
   obtain ⟨d0, d1, d2, d3, d4, d5, d6⟩ := HX.out.below HBX.out hz
   have hzx : w.heap.size < wx.heap.size := Nat.lt_of_lt_of_le hz HBX.out.size
   by_cases i6 : cap = l.length
   ·subst i6
    go_wp2
    first
     | go_must (go_region_law ((first
      | (refine step_guard (.const (.slice none 0 0)) (.tmp 37) 168 rfl ?_; refine step_append_src _ rfl (.const (.slice none 0 0)) (.tmp 37) 168 rfl w.heap.size 103 ii _ 7 72 Tryz.underlying168 HII.out.1 HII.out.2.1 HII.out.2.2.1 HII.out.2.2.2 rfl (by omega) (.slice none 0 0) (0) ([]) (by rfl) (⟨rfl, .inl ⟨rfl, rfl⟩⟩) (some ⟨g, o, none⟩) (l.length) (l.length) (fCut.all (l.take l.length)) (by rfl) (HS1.out _ (by repeat (first | (with_reducible exact HBW.out) | (with_reducible exact HW1.out) | (with_reducible exact HW2.out) | (with_reducible exact b0 _) | (with_reducible refine balloc ?_ _) | (with_reducible refine bdrew ?_)))) (fCut.all_one _) (by unfold maxLen; omega) (by omega) (Below.size (B := w.heap.size) (w := w) (by repeat (first | (with_reducible exact HBW.out) | (with_reducible exact HW1.out) | (with_reducible exact HW2.out) | (with_reducible exact b0 _) | (with_reducible refine balloc ?_ _) | (with_reducible refine bdrew ?_)))) ?_; intro v1 w1 hown1 hg1 hat1; have HW1 := hid (own_below HBW.out (by repeat (first | (with_reducible exact HBW.out) | (with_reducible exact HW1.out) | (with_reducible exact HW2.out) | (with_reducible exact b0 _) | (with_reducible refine balloc ?_ _) | (with_reducible refine bdrew ?_))) hg1); have hbc1 := own_cells (b := wx.heap.size) hg1 (by simp) ; simp only [Nat.zero_add, List.nil_append] at hown1; obtain ⟨A1, c1, rfl⟩ := own_form hown1; have HO1 := hid hown1; have HG1 := hid hg1; clear hown1 hg1 hat1)
      | (refine step_guard (.tmp 38) (.tmp 40) 168 rfl ?_; refine step_append_src _ rfl (.tmp 38) (.tmp 40) 168 rfl w.heap.size 103 ii _ 7 72 Tryz.underlying168 HII.out.1 HII.out.2.1 HII.out.2.2.1 HII.out.2.2.2 rfl (by omega) (.slice A1 (l.length) c1) (l.length) (fCut.all (l.take l.length)) (by rfl) (by first | exact HO1.out | exact own_alloc_drew HO1.out _ | exact HO1.out.alloc _) (some ⟨w1.heap.size, 0, none⟩) (1) (1) (cutCells u) (by rfl) (by first | exact src_new _ _ rfl 7 _ rfl rfl | exact src_new_drew _ _ rfl 7 _ rfl rfl) (cutCells_one u) (by unfold maxLen; omega) (by omega) (Below.size (B := w.heap.size) (w := w) (by repeat (first | (with_reducible exact HBW.out) | (with_reducible exact HW1.out) | (with_reducible exact HW2.out) | (with_reducible exact b0 _) | (with_reducible refine balloc ?_ _) | (with_reducible refine bdrew ?_)))) ?_; intro v2 w2 hown2 hg2 hat2; have HW2 := hid (own_below2 HO1.out HW1.out (by repeat (first | (with_reducible exact HBW.out) | (with_reducible exact HW1.out) | (with_reducible exact HW2.out) | (with_reducible exact b0 _) | (with_reducible refine balloc ?_ _) | (with_reducible refine bdrew ?_))) hg2); obtain ⟨A2, c2, rfl⟩ := own_form hown2; have HO2 := hid hown2; clear hown2 hg2 hat2)
      | (refine step_guard (.tmp 38) (.tmp 40) 168 rfl ?_; refine step_append_src _ rfl (.tmp 38) (.tmp 40) 168 rfl w.heap.size 103 ii _ 7 72 Tryz.underlying168 HII.out.1 HII.out.2.1 HII.out.2.2.1 HII.out.2.2.2 rfl (by omega) (.slice A1 (l.length) c1) (l.length) (fCut.all (l.take l.length)) (by rfl) (by first | exact HO1.out | exact own_alloc_drew HO1.out _ | exact HO1.out.alloc _) (some ⟨wx.heap.size, 0, none⟩) (1) (1) (cutCells u) (by rfl) (by first | exact src_grown (src_new _ _ rfl 7 _ rfl rfl) HG1.out (by simp) | exact src_grown (src_new_drew _ _ rfl 7 _ rfl rfl) HG1.out (by simp)) (cutCells_one u) (by unfold maxLen; omega) (by omega) (Below.size (B := w.heap.size) (w := w) (by repeat (first | (with_reducible exact HBW.out) | (with_reducible exact HW1.out) | (with_reducible exact HW2.out) | (with_reducible exact b0 _) | (with_reducible refine balloc ?_ _) | (with_reducible refine bdrew ?_)))) ?_; intro v2 w2 hown2 hg2 hat2; have HW2 := hid (own_below2 HO1.out HW1.out (by repeat (first | (with_reducible exact HBW.out) | (with_reducible exact HW1.out) | (with_reducible exact HW2.out) | (with_reducible exact b0 _) | (with_reducible refine balloc ?_ _) | (with_reducible refine bdrew ?_))) hg2); obtain ⟨A2, c2, rfl⟩ := own_form hown2; have HO2 := hid hown2; clear hown2 hg2 hat2)
      | (refine step_guard (.tmp 41) (.tmp 44) 168 rfl ?_; refine step_append_src _ rfl (.tmp 41) (.tmp 44) 168 rfl w.heap.size 103 ii _ 7 72 Tryz.underlying168 HII.out.1 HII.out.2.1 HII.out.2.2.1 HII.out.2.2.2 rfl (by omega) (.slice A2 (l.length + 1) c2) (l.length + 1) (fCut.all (l.take l.length) ++ cutCells u) (by rfl) (by first | exact HO2.out | exact own_alloc_drew HO2.out _ | exact HO2.out.alloc _) (some ⟨g, o, none⟩) (0) (0) ([]) (by rfl) (Src.none_ _ 7) (by simp) (by unfold maxLen; omega) (by omega) (Below.size (B := w.heap.size) (w := w) (by repeat (first | (with_reducible exact HBW.out) | (with_reducible exact HW1.out) | (with_reducible exact HW2.out) | (with_reducible exact b0 _) | (with_reducible refine balloc ?_ _) | (with_reducible refine bdrew ?_)))) ?_; intro v3 w3 hown3 hg3 hat3; have HW3 := hid (own_below2 HO2.out HW2.out (by repeat (first | (with_reducible exact HBW.out) | (with_reducible exact HW1.out) | (with_reducible exact HW2.out) | (with_reducible exact b0 _) | (with_reducible refine balloc ?_ _) | (with_reducible refine bdrew ?_))) hg3); obtain ⟨A3, c3, rfl⟩ := own_form hown3; have HO3 := hid hown3; clear hown3 hg3 hat3))))
     | fail
    all_goals go_wp2
    all_goals go_ret
    all_goals exact put_end rfl HO3.out HW3.out HL.out (by first | exact HTK.out) (by omega) HPQ.out
   ·go_wp2
    first
     | go_must (go_region_law ((first
      | (refine step_guard (.const (.slice none 0 0)) (.tmp 37) 168 rfl ?_; refine step_append_src _ rfl (.const (.slice none 0 0)) (.tmp 37) 168 rfl w.heap.size 103 ii _ 7 72 Tryz.underlying168 HII.out.1 HII.out.2.1 HII.out.2.2.1 HII.out.2.2.2 rfl (by omega) (.slice none 0 0) (0) ([]) (by rfl) (⟨rfl, .inl ⟨rfl, rfl⟩⟩) (some ⟨g, o, none⟩) (l.length) (cap) (fCut.all (l.take l.length)) (by rfl) (HS1.out _ (by repeat (first | (with_reducible exact HBW.out) | (with_reducible exact HW1.out) | (with_reducible exact HW2.out) | (with_reducible exact b0 _) | (with_reducible refine balloc ?_ _) | (with_reducible refine bdrew ?_)))) (fCut.all_one _) (by unfold maxLen; omega) (by omega) (Below.size (B := w.heap.size) (w := w) (by repeat (first | (with_reducible exact HBW.out) | (with_reducible exact HW1.out) | (with_reducible exact HW2.out) | (with_reducible exact b0 _) | (with_reducible refine balloc ?_ _) | (with_reducible refine bdrew ?_)))) ?_; intro v1 w1 hown1 hg1 hat1; have HW1 := hid (own_below HBW.out (by repeat (first | (with_reducible exact HBW.out) | (with_reducible exact HW1.out) | (with_reducible exact HW2.out) | (with_reducible exact b0 _) | (with_reducible refine balloc ?_ _) | (with_reducible refine bdrew ?_))) hg1); have hbc1 := own_cells (b := wx.heap.size) hg1 (by simp) ; simp only [Nat.zero_add, List.nil_append] at hown1; obtain ⟨A1, c1, rfl⟩ := own_form hown1; have HO1 := hid hown1; have HG1 := hid hg1; clear hown1 hg1 hat1)
      | (refine step_guard (.tmp 38) (.tmp 40) 168 rfl ?_; refine step_append_src _ rfl (.tmp 38) (.tmp 40) 168 rfl w.heap.size 103 ii _ 7 72 Tryz.underlying168 HII.out.1 HII.out.2.1 HII.out.2.2.1 HII.out.2.2.2 rfl (by omega) (.slice A1 (l.length) c1) (l.length) (fCut.all (l.take l.length)) (by rfl) (by first | exact HO1.out | exact own_alloc_drew HO1.out _ | exact HO1.out.alloc _) (some ⟨w1.heap.size, 0, none⟩) (1) (1) (cutCells u) (by rfl) (by first | exact src_new _ _ rfl 7 _ rfl rfl | exact src_new_drew _ _ rfl 7 _ rfl rfl) (cutCells_one u) (by unfold maxLen; omega) (by omega) (Below.size (B := w.heap.size) (w := w) (by repeat (first | (with_reducible exact HBW.out) | (with_reducible exact HW1.out) | (with_reducible exact HW2.out) | (with_reducible exact b0 _) | (with_reducible refine balloc ?_ _) | (with_reducible refine bdrew ?_)))) ?_; intro v2 w2 hown2 hg2 hat2; have HW2 := hid (own_below2 HO1.out HW1.out (by repeat (first | (with_reducible exact HBW.out) | (with_reducible exact HW1.out) | (with_reducible exact HW2.out) | (with_reducible exact b0 _) | (with_reducible refine balloc ?_ _) | (with_reducible refine bdrew ?_))) hg2); obtain ⟨A2, c2, rfl⟩ := own_form hown2; have HO2 := hid hown2; clear hown2 hg2 hat2)
      | (refine step_guard (.tmp 38) (.tmp 40) 168 rfl ?_; refine step_append_src _ rfl (.tmp 38) (.tmp 40) 168 rfl w.heap.size 103 ii _ 7 72 Tryz.underlying168 HII.out.1 HII.out.2.1 HII.out.2.2.1 HII.out.2.2.2 rfl (by omega) (.slice A1 (l.length) c1) (l.length) (fCut.all (l.take l.length)) (by rfl) (by first | exact HO1.out | exact own_alloc_drew HO1.out _ | exact HO1.out.alloc _) (some ⟨wx.heap.size, 0, none⟩) (1) (1) (cutCells u) (by rfl) (by first | exact src_grown (src_new _ _ rfl 7 _ rfl rfl) HG1.out (by simp) | exact src_grown (src_new_drew _ _ rfl 7 _ rfl rfl) HG1.out (by simp)) (cutCells_one u) (by unfold maxLen; omega) (by omega) (Below.size (B := w.heap.size) (w := w) (by repeat (first | (with_reducible exact HBW.out) | (with_reducible exact HW1.out) | (with_reducible exact HW2.out) | (with_reducible exact b0 _) | (with_reducible refine balloc ?_ _) | (with_reducible refine bdrew ?_)))) ?_; intro v2 w2 hown2 hg2 hat2; have HW2 := hid (own_below2 HO1.out HW1.out (by repeat (first | (with_reducible exact HBW.out) | (with_reducible exact HW1.out) | (with_reducible exact HW2.out) | (with_reducible exact b0 _) | (with_reducible refine balloc ?_ _) | (with_reducible refine bdrew ?_))) hg2); obtain ⟨A2, c2, rfl⟩ := own_form hown2; have HO2 := hid hown2; clear hown2 hg2 hat2)
      | (refine step_guard (.tmp 41) (.tmp 44) 168 rfl ?_; refine step_append_src _ rfl (.tmp 41) (.tmp 44) 168 rfl w.heap.size 103 ii _ 7 72 Tryz.underlying168 HII.out.1 HII.out.2.1 HII.out.2.2.1 HII.out.2.2.2 rfl (by omega) (.slice A2 (l.length + 1) c2) (l.length + 1) (fCut.all (l.take l.length) ++ cutCells u) (by rfl) (by first | exact HO2.out | exact own_alloc_drew HO2.out _ | exact HO2.out.alloc _) (some ⟨g, o + l.length * 7, none⟩) (0) (cap - l.length) ([]) (by rfl) (Src.none_ _ 7) (by simp) (by unfold maxLen; omega) (by omega) (Below.size (B := w.heap.size) (w := w) (by repeat (first | (with_reducible exact HBW.out) | (with_reducible exact HW1.out) | (with_reducible exact HW2.out) | (with_reducible exact b0 _) | (with_reducible refine balloc ?_ _) | (with_reducible refine bdrew ?_)))) ?_; intro v3 w3 hown3 hg3 hat3; have HW3 := hid (own_below2 HO2.out HW2.out (by repeat (first | (with_reducible exact HBW.out) | (with_reducible exact HW1.out) | (with_reducible exact HW2.out) | (with_reducible exact b0 _) | (with_reducible refine balloc ?_ _) | (with_reducible refine bdrew ?_))) hg3); obtain ⟨A3, c3, rfl⟩ := own_form hown3; have HO3 := hid hown3; clear hown3 hg3 hat3))))
     | fail
    all_goals go_wp2
    all_goals go_ret
    all_goals exact put_end rfl HO3.out HW3.out HL.out (by first | exact HTK.out) (by omega) HPQ.out
end Go.Proofs.YthneiolcljnbeaaGreatDoor
