/- Contract: linchpinref11.Put. -/
import Derived.Test.YtdcdpkpomhjilaaSo
import Derived.Test.YtdcdpkpomhjilaaS4
import Derived.Deep.RegionLaw
import Derived.Deep.DeepMust
import Derived.Outline
namespace Go.Proofs.Ytdcdpkpomhjilaa
open Go Go.RowKit

theorem Src.take {w : World} {A : Option Addr} {n s k : Nat} {cs : List Value} (h : Src w A n s cs) (hk : k ≤ n) : Src w A k s (cs.take (k * s)) := by
  have hm : k * s ≤ n * s := Nat.mul_le_mul_right _ hk
  refine ⟨by rw [List.length_take, h.1]; omega, fun hp => ?_⟩
  obtain ⟨ad, hA, hc⟩ := h.2 (by omega)
  refine ⟨ad, hA, fun j u hu => hc j u ?_⟩
  rw [List.getElem?_take] at hu
  split at hu
  · exact hu
  · cases hu
theorem Src.drop {w : World} {g o n s k : Nat} {cs : List Value} (h : Src w (some ⟨g, o, none⟩) n s cs) (hk : k ≤ n) : Src w (some ⟨g, o + k * s, none⟩) (n - k) s (cs.drop (k * s)) := by
  refine ⟨by rw [List.length_drop, h.1, Nat.sub_mul], fun hp => ?_⟩
  obtain ⟨ad, hA, hc⟩ := h.2 (by omega)
  cases hA
  refine ⟨_, rfl, fun j u hu => ?_⟩
  rw [List.getElem?_drop] at hu
  have := hc _ _ hu
  rw [add_mk] at this ⊢
  rw [← this]
  congr 2
  omega
theorem Src.none_ {w : World} (A : Option Addr) (s : Nat) : Src w A 0 s [] := ⟨by simp, fun h => absurd h (by omega)⟩
theorem Flat.all_take {α : Type} (f : Flat α) (l : List α) (k : Nat) : f.all (l.take k) = (f.all l).take (k * f.size) := by
  induction l generalizing k with
  | nil => simp [Flat.all]
  | cons x l ih =>
    cases k with
    | zero => simp [Flat.all]
    | succ k =>
      rw [List.take_succ_cons, f.all_cons, f.all_cons, ih, List.take_append, f.len, Nat.add_mul, Nat.one_mul]
      rw [show k * f.size + f.size - f.size = k * f.size by omega, List.take_of_length_le (l := f.cells x) (by rw [f.len]; omega)]
theorem Flat.all_drop {α : Type} (f : Flat α) (l : List α) (k : Nat) : f.all (l.drop k) = (f.all l).drop (k * f.size) := by
  induction l generalizing k with
  | nil => simp [Flat.all]
  | cons x l ih =>
    cases k with
    | zero => simp
    | succ k =>
      rw [List.drop_succ_cons, f.all_cons, ih, List.drop_append, f.len, Nat.add_mul, Nat.one_mul]
      rw [show k * f.size + f.size - f.size = k * f.size by omega, List.drop_of_length_le (l := f.cells x) (by rw [f.len]; omega), List.nil_append]
theorem src_grown {w w' : World} {n m s : Nat} {news : List Value} (h : Src w (some ⟨n, 0, none⟩) m s news) (hg : w.grownBy w' (Value.slice none 0 0).ownBlock) (hn : n < w.heap.size) : Src w' (some ⟨n, 0, none⟩) m s news := by
  refine ⟨h.1, fun hp => ?_⟩
  obtain ⟨ad, hA, hc⟩ := h.2 hp
  refine ⟨ad, hA, fun j u hu => ?_⟩
  cases hA
  have := hc j u hu
  rw [add_mk] at this ⊢
  exact (World.cell?_of_block (hg.block n hn (by intro e; cases e))).trans this
theorem own_below {w wx W w1 : World} (_ : Below w.heap.size w wx) (hW : Below w.heap.size w W) (hg : W.grownBy w1 (Value.slice none 0 0).ownBlock) : Below w.heap.size w w1 :=
  hW.grown hg hW.size (fun k h => by cases h)
theorem own_below2 {w wx wy W w1 : World} {e : TypeId} {s n : Nat} {v : Value} {xs : List Value} (ho : wy.ownsRow w.heap.size e s v n xs) (_ : Below w.heap.size w wx) (hW : Below w.heap.size w W) (hg : W.grownBy w1 v.ownBlock) : Below w.heap.size w w1 :=
  hW.grown hg hW.size (fun k h => (ho.lt k h).1)
theorem own_cells {W w1 : World} {b : Nat} (hg : W.grownBy w1 (Value.slice none 0 0).ownBlock) (hb : b ≤ W.heap.size) : ∀ b' o', b' < b → w1.cell? ⟨b', o', none⟩ = W.cell? ⟨b', o', none⟩ :=
  fun b' _ h => World.cell?_of_block (hg.block b' (Nat.lt_of_lt_of_le h hb) (by intro e; cases e))
/-- A slice of texts that Put may be handed. -/
def PutOk (w : World) (v : Value) (l : List ByteArray) : Prop := SliceRd tStr w (Lt w.heap.size) v l ∧ (l = [] → v = .slice none 0 0)
theorem PutOk.lift {w w' : World} {v : Value} {l : List ByteArray} (h : PutOk w v l) (hb : Below w.heap.size w w') : PutOk w' v l := ⟨h.1.lift hb hb.size, h.2⟩
theorem PutOk.nil (w : World) : PutOk w (.slice none 0 0) [] := ⟨SliceRd.nil _ _ _, fun _ => rfl⟩
theorem OwnF.put {e : TypeId} {B : Nat} {w : World} {v : Value} {l : List ByteArray} (h : OwnF fStr e B w v l) (hl : l ≠ []) : PutOk w v l := ⟨h.rd, fun e => absurd e hl⟩
def PutPost (l : List ByteArray) (s : ByteArray) (w : World) (e : Ending) (w' : World) : Prop := ∃ v', e = .returned v' ∧ PutOk w' v' (putF l s) ∧ Below w.heap.size w w'
theorem put_end {w w' : World} {v : Value} {n : Nat} {xs : List Value} {l : List ByteArray} {s : ByteArray} {e : Ending} {B : Nat} {E : TypeId} (he : e = .returned v) (h : w'.ownsRow B E 1 v n xs) (hb : Below w.heap.size w w') (hl : ∀ x ∈ s :: l, x.size ≤ maxLen) {k : Nat} (hx : xs = fStr.all (l.take k ++ s :: l.drop k)) (hn : n = l.length + 1)
    (hp : putF l s = l.take k ++ s :: l.drop k) : PutPost l s w e w' := by
  have hlen : (l.take k ++ s :: l.drop k).length = l.length + 1 := by simp; omega
  subst hx; subst hn
  rw [← hlen] at h
  have ho : OwnF fStr E B w' v (l.take k ++ s :: l.drop k) := ⟨h, fun x hx => by
    rcases List.mem_append.1 hx with hx | hx
    · exact hl x (List.mem_cons_of_mem _ (List.mem_of_mem_take hx))
    · rcases List.mem_cons.1 hx with rfl | hx
      · exact hl _ (by simp)
      · exact hl x (List.mem_cons_of_mem _ (List.mem_of_mem_drop hx))⟩
  exact ⟨v, he, by rw [hp]; exact ho.put (by simp), hb⟩

set_option maxRecDepth 100000 in
set_option maxHeartbeats 4000000 in
theorem rput_any (lv : Value) (l : List ByteArray) (s : ByteArray) (w : World) (hp : PutOk w lv l) (hs : s.size ≤ maxLen) (hl2 : l.length ≤ 1000000) :
    Calls Try.prog 39 #[lv, .string s] w (PutPost l s w) := by
  obtain ⟨h, hnil⟩ := hp
  obtain ⟨ii, hii⟩ := info_parts str_info
  have HII := hid hii
  by_cases hl0 : l = []
  · subst hl0
    obtain rfl := hnil rfl
    have HL := hid (show ∀ x ∈ [s], x.size ≤ maxLen from fun x hx => by rw [List.mem_singleton.1 hx]; exact hs)
    have HTK := hid (show fStr.cells s ++ [] = fStr.all (([] : List ByteArray).take 0 ++ s :: ([] : List ByteArray).drop 0) from rfl)
    have HP := hid (show putF [] s = ([] : List ByteArray).take 0 ++ s :: ([] : List ByteArray).drop 0 from rfl)
    clear h hii hs hnil
    go_enter Try.func39, Try.ntmps39
    go_wp2
    go_loopw [5] (fun iv wr => iv = .int .i64 0 ∧ Hid (Below w.heap.size w wr)) (fun iv _ => 0)
    case atStart => exact ⟨rfl, hid (b0 w)⟩
    case round =>
      obtain ⟨rfl, HBW⟩ := hrel
      go_wp2
      first
        | go_must (go_region_law ((first
          | (refine step_guard (.tmp 36) (.tmp 38) 30 rfl ?_; refine step_append_src _ rfl (.tmp 36) (.tmp 38) 30 rfl w.heap.size 9 ii _ 1 16 Try.underlying30 HII.out.1 HII.out.2.1 HII.out.2.2.1 HII.out.2.2.2 rfl (by omega) (.slice none 0 0) (0) ([]) (by rfl) (⟨rfl, .inl ⟨rfl, rfl⟩⟩) (some ⟨wr.heap.size, 0, none⟩) (1) (1) (fStr.cells s) (by rfl) (by first | exact src_new _ _ rfl 1 _ rfl rfl | exact src_new_drew _ _ rfl 1 _ rfl rfl) (fStr.one s) (by unfold maxLen; omega) (by omega) (Below.size (B := w.heap.size) (w := w) (by repeat (first | (with_reducible exact HBW.out) | (with_reducible exact HW1.out) | (with_reducible exact HW2.out) | (with_reducible exact b0 _) | (with_reducible refine balloc ?_ _) | (with_reducible refine bdrew ?_)))) ?_; intro v2 w2 hown2 hg2 hat2; have HW2 := hid (own_below HBW.out (by repeat (first | (with_reducible exact HBW.out) | (with_reducible exact HW1.out) | (with_reducible exact HW2.out) | (with_reducible exact b0 _) | (with_reducible refine balloc ?_ _) | (with_reducible refine bdrew ?_))) hg2); simp only [Nat.zero_add, List.nil_append] at hown2; obtain ⟨A2, c2, rfl⟩ := own_form hown2; have HO2 := hid hown2; clear hown2 hg2 hat2)
          | (refine step_guard (.tmp 39) (.tmp 42) 30 rfl ?_; refine step_append_src _ rfl (.tmp 39) (.tmp 42) 30 rfl w.heap.size 9 ii _ 1 16 Try.underlying30 HII.out.1 HII.out.2.1 HII.out.2.2.1 HII.out.2.2.2 rfl (by omega) (.slice A2 (1) c2) (1) (fStr.cells s) (by rfl) (by first | exact HO2.out | exact own_alloc_drew HO2.out _ | exact HO2.out.alloc _) (none) (0) (0) ([]) (by rfl) (Src.none_ _ 1) (by simp) (by unfold maxLen; omega) (by omega) (Below.size (B := w.heap.size) (w := w) (by repeat (first | (with_reducible exact HBW.out) | (with_reducible exact HW1.out) | (with_reducible exact HW2.out) | (with_reducible exact b0 _) | (with_reducible refine balloc ?_ _) | (with_reducible refine bdrew ?_)))) ?_; intro v3 w3 hown3 hg3 hat3; have HW3 := hid (own_below2 HO2.out HW2.out (by repeat (first | (with_reducible exact HBW.out) | (with_reducible exact HW1.out) | (with_reducible exact HW2.out) | (with_reducible exact b0 _) | (with_reducible refine balloc ?_ _) | (with_reducible refine bdrew ?_))) hg3); have HO3 := hid hown3; clear hown3 hg3 hat3))))
        | fail
      all_goals go_wp2
      all_goals go_ret
      all_goals exact put_end rfl HO3.out HW3.out HL.out (by first | exact HTK.out) (by rfl) HP.out
  · obtain ⟨A, cap, rfl, hcap, hmax, hc⟩ := h.strs
    have HH := hid (show PutOk w (.slice A l.length cap) l from ⟨h, hnil⟩)
    have HC := hid hc
    have HL := hid (show ∀ x ∈ s :: l, x.size ≤ maxLen by
      intro x hx
      rcases List.mem_cons.1 hx with rfl | hx
      · exact hs
      · exact strs_small h x hx)
    have hpos : 0 < l.length := List.length_pos_iff.2 hl0
    obtain ⟨g, o, hA, hF, -, -⟩ := hc 0 hpos
    cases hA
    have HSRC := hid (show ∀ W, Below w.heap.size w W → Src W (some ⟨g, o, none⟩) l.length 1 (fStr.all l) from fun W hW => (SliceRd.srcF (f := fStr) (h.below hW)).2.1)
    unfold maxLen at hmax
    clear h hc hii hs hnil hl0
    go_enter Try.func39, Try.ntmps39
    go_wp2
    go_loopw [5] (fun iv wr => ∃ k : Nat, k ≤ l.length ∧ iv = .int .i64 k ∧ Hid (∀ i, (hi : i < l.length) → i < k → ltS l[i] s = true) ∧ Hid (Below w.heap.size w wr)) (fun iv _ => l.length - (intOf iv).toNat)
    case atStart => exact ⟨0, Nat.zero_le _, rfl, hid (fun i hi h => by omega), hid (b0 _)⟩
    case round =>
      obtain ⟨k, hk, rfl, hall, HBW⟩ := hrel
      have i1 : (0 : Int) ≤ ↑k := by omega
      have i3 : (↑k : Int) ≤ ↑l.length := by omega
      have i4 : (↑k : Int) ≤ ↑cap := by omega
      have i5 : (↑l.length : Int) ≤ ↑cap := by omega
      have HS1 := hid (show ∀ W, Below w.heap.size w W → Src W (some ⟨g, o, none⟩) k 1 (fStr.all (l.take k)) from fun W hW => by rw [fStr.all_take]; exact (HSRC.out W hW).take hk)
      have HS3 := hid (show ∀ W, Below w.heap.size w W → Src W (some ⟨g, o + k, none⟩) (l.length - k) 1 (fStr.all (l.drop k)) from fun W hW => by rw [fStr.all_drop]; show Src W _ _ 1 ((fStr.all l).drop (k * 1)); have := (HSRC.out W hW).drop hk; rw [Nat.mul_one] at this ⊢; exact this)
      by_cases hlt : k < l.length
      · obtain ⟨_, _, hA, -, g0, -⟩ := HC.out k hlt
        cases hA
        have c0 := cell_below HBW.out hF g0
        have i2 : (↑k : Int) < ↑l.length := by omega
        clear g0
        rcases bc (ltS l[k] s) with ⟨h1, HQ⟩ | ⟨h1, HQ⟩
        · have hq : Op.bytesLess l[k].toList s.toList = true := h1
          have HN := hid (show ∀ i, (hi : i < l.length) → i < k + 1 → ltS l[i] s = true from fun i hi hk => by
            by_cases e : i = k
            · subst e; exact h1
            · exact hall.out i hi (by omega))
          clear h1
          go_wp2
          exact ⟨⟨k + 1, by omega, by go_num, HN, HBW⟩, by simp [intOf]; omega⟩
        · have hq : Op.bytesLess l[k].toList s.toList = false := h1
          rcases bc (decide (l[k] = s)) with ⟨h2, HE⟩ | ⟨h2, HE⟩
          · have hq2 : (l[k].toList == s.toList) = true := by rw [eqS_iff]; exact h2
            have HP := hid (putF_in hlt (fun i hi hk => hall.out i hi hk) (by simpa using h2))
            clear h1 h2
            go_wp2
            go_ret
            exact ⟨_, rfl, by rw [HP.out]; exact HH.out.lift HBW.out, HBW.out⟩
          · have hq2 : (l[k].toList == s.toList) = false := by rw [eqS_iff]; exact h2
            have HP := hid (putF_out hk (fun i hi hk => hall.out i hi hk) (fun _ => h1) (fun _ => by simpa using h2))
            have HTK := hid (show fStr.all (l.take k) ++ fStr.cells s ++ fStr.all (l.drop k) = fStr.all (l.take k ++ s :: l.drop k) by rw [fStr.all_append, fStr.all_cons, List.append_assoc])
            have i6 : ¬ cap = k := by omega
            clear h1 h2
            go_wp2
            clear c0 hq hq2
            first
              | go_must (go_region_law ((first
                | (refine step_guard (.const (.slice none 0 0)) (.tmp 35) 30 rfl ?_; refine step_append_src _ rfl (.const (.slice none 0 0)) (.tmp 35) 30 rfl w.heap.size 9 ii _ 1 16 Try.underlying30 HII.out.1 HII.out.2.1 HII.out.2.2.1 HII.out.2.2.2 rfl (by omega) (.slice none 0 0) (0) ([]) (by rfl) (⟨rfl, .inl ⟨rfl, rfl⟩⟩) (some ⟨g, o, none⟩) (k) (cap) (fStr.all (l.take k)) (by rfl) (HS1.out _ (by repeat (first | (with_reducible exact HBW.out) | (with_reducible exact HW1.out) | (with_reducible exact HW2.out) | (with_reducible exact b0 _) | (with_reducible refine balloc ?_ _) | (with_reducible refine bdrew ?_)))) (fStr.all_one _) (by unfold maxLen; omega) (by omega) (Below.size (B := w.heap.size) (w := w) (by repeat (first | (with_reducible exact HBW.out) | (with_reducible exact HW1.out) | (with_reducible exact HW2.out) | (with_reducible exact b0 _) | (with_reducible refine balloc ?_ _) | (with_reducible refine bdrew ?_)))) ?_; intro v1 w1 hown1 hg1 hat1; have HW1 := hid (own_below HBW.out (by repeat (first | (with_reducible exact HBW.out) | (with_reducible exact HW1.out) | (with_reducible exact HW2.out) | (with_reducible exact b0 _) | (with_reducible refine balloc ?_ _) | (with_reducible refine bdrew ?_))) hg1); have hbc1 := own_cells (b := wr.heap.size) hg1 (by simp) ; simp only [Nat.zero_add, List.nil_append] at hown1; obtain ⟨A1, c1, rfl⟩ := own_form hown1; have HO1 := hid hown1; have HG1 := hid hg1; clear hown1 hg1 hat1)
                | (refine step_guard (.tmp 36) (.tmp 38) 30 rfl ?_; refine step_append_src _ rfl (.tmp 36) (.tmp 38) 30 rfl w.heap.size 9 ii _ 1 16 Try.underlying30 HII.out.1 HII.out.2.1 HII.out.2.2.1 HII.out.2.2.2 rfl (by omega) (.slice A1 (k) c1) (k) (fStr.all (l.take k)) (by rfl) (by first | exact HO1.out | exact own_alloc_drew HO1.out _ | exact HO1.out.alloc _) (some ⟨w1.heap.size, 0, none⟩) (1) (1) (fStr.cells s) (by rfl) (by first | exact src_new _ _ rfl 1 _ rfl rfl | exact src_new_drew _ _ rfl 1 _ rfl rfl) (fStr.one s) (by unfold maxLen; omega) (by omega) (Below.size (B := w.heap.size) (w := w) (by repeat (first | (with_reducible exact HBW.out) | (with_reducible exact HW1.out) | (with_reducible exact HW2.out) | (with_reducible exact b0 _) | (with_reducible refine balloc ?_ _) | (with_reducible refine bdrew ?_)))) ?_; intro v2 w2 hown2 hg2 hat2; have HW2 := hid (own_below2 HO1.out HW1.out (by repeat (first | (with_reducible exact HBW.out) | (with_reducible exact HW1.out) | (with_reducible exact HW2.out) | (with_reducible exact b0 _) | (with_reducible refine balloc ?_ _) | (with_reducible refine bdrew ?_))) hg2); obtain ⟨A2, c2, rfl⟩ := own_form hown2; have HO2 := hid hown2; clear hown2 hg2 hat2)
                | (refine step_guard (.tmp 36) (.tmp 38) 30 rfl ?_; refine step_append_src _ rfl (.tmp 36) (.tmp 38) 30 rfl w.heap.size 9 ii _ 1 16 Try.underlying30 HII.out.1 HII.out.2.1 HII.out.2.2.1 HII.out.2.2.2 rfl (by omega) (.slice A1 (k) c1) (k) (fStr.all (l.take k)) (by rfl) (by first | exact HO1.out | exact own_alloc_drew HO1.out _ | exact HO1.out.alloc _) (some ⟨wr.heap.size, 0, none⟩) (1) (1) (fStr.cells s) (by rfl) (by first | exact src_grown (src_new _ _ rfl 1 _ rfl rfl) HG1.out (by simp) | exact src_grown (src_new_drew _ _ rfl 1 _ rfl rfl) HG1.out (by simp)) (fStr.one s) (by unfold maxLen; omega) (by omega) (Below.size (B := w.heap.size) (w := w) (by repeat (first | (with_reducible exact HBW.out) | (with_reducible exact HW1.out) | (with_reducible exact HW2.out) | (with_reducible exact b0 _) | (with_reducible refine balloc ?_ _) | (with_reducible refine bdrew ?_)))) ?_; intro v2 w2 hown2 hg2 hat2; have HW2 := hid (own_below2 HO1.out HW1.out (by repeat (first | (with_reducible exact HBW.out) | (with_reducible exact HW1.out) | (with_reducible exact HW2.out) | (with_reducible exact b0 _) | (with_reducible refine balloc ?_ _) | (with_reducible refine bdrew ?_))) hg2); obtain ⟨A2, c2, rfl⟩ := own_form hown2; have HO2 := hid hown2; clear hown2 hg2 hat2)
                | (refine step_guard (.tmp 39) (.tmp 42) 30 rfl ?_; refine step_append_src _ rfl (.tmp 39) (.tmp 42) 30 rfl w.heap.size 9 ii _ 1 16 Try.underlying30 HII.out.1 HII.out.2.1 HII.out.2.2.1 HII.out.2.2.2 rfl (by omega) (.slice A2 (k + 1) c2) (k + 1) (fStr.all (l.take k) ++ fStr.cells s) (by rfl) (by first | exact HO2.out | exact own_alloc_drew HO2.out _ | exact HO2.out.alloc _) (some ⟨g, o + k, none⟩) (l.length - k) (cap - k) (fStr.all (l.drop k)) (by rfl) (HS3.out _ (by repeat (first | (with_reducible exact HBW.out) | (with_reducible exact HW1.out) | (with_reducible exact HW2.out) | (with_reducible exact b0 _) | (with_reducible refine balloc ?_ _) | (with_reducible refine bdrew ?_)))) (fStr.all_one _) (by unfold maxLen; omega) (by omega) (Below.size (B := w.heap.size) (w := w) (by repeat (first | (with_reducible exact HBW.out) | (with_reducible exact HW1.out) | (with_reducible exact HW2.out) | (with_reducible exact b0 _) | (with_reducible refine balloc ?_ _) | (with_reducible refine bdrew ?_)))) ?_; intro v3 w3 hown3 hg3 hat3; have HW3 := hid (own_below2 HO2.out HW2.out (by repeat (first | (with_reducible exact HBW.out) | (with_reducible exact HW1.out) | (with_reducible exact HW2.out) | (with_reducible exact b0 _) | (with_reducible refine balloc ?_ _) | (with_reducible refine bdrew ?_))) hg3); have HO3 := hid hown3; clear hown3 hg3 hat3))))
              | fail
            all_goals go_wp2
            all_goals go_ret
            all_goals exact put_end rfl HO3.out HW3.out HL.out (by first | exact HTK.out) (by omega) HP.out
      · have hkl : k = l.length := by omega
        subst hkl
        have i2 : ¬ (↑l.length : Int) < ↑l.length := by omega
        have HP := hid (putF_out (Nat.le_refl _) (fun i hi hk => hall.out i hi hk) (fun h => absurd h (by omega)) (fun h => absurd h (by omega)))
        have HTK := hid (show fStr.all (l.take l.length) ++ fStr.cells s ++ [] = fStr.all (l.take l.length ++ s :: l.drop l.length) by rw [List.append_nil, fStr.all_append, fStr.all_cons, List.drop_length, fStr.all_nil, List.append_nil])
        clear hlt
        go_wp2
        by_cases i6 : cap = l.length
        · subst i6
          first
            | go_must (go_region_law ((first
              | (refine step_guard (.const (.slice none 0 0)) (.tmp 35) 30 rfl ?_; refine step_append_src _ rfl (.const (.slice none 0 0)) (.tmp 35) 30 rfl w.heap.size 9 ii _ 1 16 Try.underlying30 HII.out.1 HII.out.2.1 HII.out.2.2.1 HII.out.2.2.2 rfl (by omega) (.slice none 0 0) (0) ([]) (by rfl) (⟨rfl, .inl ⟨rfl, rfl⟩⟩) (some ⟨g, o, none⟩) (l.length) (l.length) (fStr.all (l.take l.length)) (by rfl) (HS1.out _ (by repeat (first | (with_reducible exact HBW.out) | (with_reducible exact HW1.out) | (with_reducible exact HW2.out) | (with_reducible exact b0 _) | (with_reducible refine balloc ?_ _) | (with_reducible refine bdrew ?_)))) (fStr.all_one _) (by unfold maxLen; omega) (by omega) (Below.size (B := w.heap.size) (w := w) (by repeat (first | (with_reducible exact HBW.out) | (with_reducible exact HW1.out) | (with_reducible exact HW2.out) | (with_reducible exact b0 _) | (with_reducible refine balloc ?_ _) | (with_reducible refine bdrew ?_)))) ?_; intro v1 w1 hown1 hg1 hat1; have HW1 := hid (own_below HBW.out (by repeat (first | (with_reducible exact HBW.out) | (with_reducible exact HW1.out) | (with_reducible exact HW2.out) | (with_reducible exact b0 _) | (with_reducible refine balloc ?_ _) | (with_reducible refine bdrew ?_))) hg1); have hbc1 := own_cells (b := wr.heap.size) hg1 (by simp) ; simp only [Nat.zero_add, List.nil_append] at hown1; obtain ⟨A1, c1, rfl⟩ := own_form hown1; have HO1 := hid hown1; have HG1 := hid hg1; clear hown1 hg1 hat1)
              | (refine step_guard (.tmp 36) (.tmp 38) 30 rfl ?_; refine step_append_src _ rfl (.tmp 36) (.tmp 38) 30 rfl w.heap.size 9 ii _ 1 16 Try.underlying30 HII.out.1 HII.out.2.1 HII.out.2.2.1 HII.out.2.2.2 rfl (by omega) (.slice A1 (l.length) c1) (l.length) (fStr.all (l.take l.length)) (by rfl) (by first | exact HO1.out | exact own_alloc_drew HO1.out _ | exact HO1.out.alloc _) (some ⟨w1.heap.size, 0, none⟩) (1) (1) (fStr.cells s) (by rfl) (by first | exact src_new _ _ rfl 1 _ rfl rfl | exact src_new_drew _ _ rfl 1 _ rfl rfl) (fStr.one s) (by unfold maxLen; omega) (by omega) (Below.size (B := w.heap.size) (w := w) (by repeat (first | (with_reducible exact HBW.out) | (with_reducible exact HW1.out) | (with_reducible exact HW2.out) | (with_reducible exact b0 _) | (with_reducible refine balloc ?_ _) | (with_reducible refine bdrew ?_)))) ?_; intro v2 w2 hown2 hg2 hat2; have HW2 := hid (own_below2 HO1.out HW1.out (by repeat (first | (with_reducible exact HBW.out) | (with_reducible exact HW1.out) | (with_reducible exact HW2.out) | (with_reducible exact b0 _) | (with_reducible refine balloc ?_ _) | (with_reducible refine bdrew ?_))) hg2); obtain ⟨A2, c2, rfl⟩ := own_form hown2; have HO2 := hid hown2; clear hown2 hg2 hat2)
              | (refine step_guard (.tmp 36) (.tmp 38) 30 rfl ?_; refine step_append_src _ rfl (.tmp 36) (.tmp 38) 30 rfl w.heap.size 9 ii _ 1 16 Try.underlying30 HII.out.1 HII.out.2.1 HII.out.2.2.1 HII.out.2.2.2 rfl (by omega) (.slice A1 (l.length) c1) (l.length) (fStr.all (l.take l.length)) (by rfl) (by first | exact HO1.out | exact own_alloc_drew HO1.out _ | exact HO1.out.alloc _) (some ⟨wr.heap.size, 0, none⟩) (1) (1) (fStr.cells s) (by rfl) (by first | exact src_grown (src_new _ _ rfl 1 _ rfl rfl) HG1.out (by simp) | exact src_grown (src_new_drew _ _ rfl 1 _ rfl rfl) HG1.out (by simp)) (fStr.one s) (by unfold maxLen; omega) (by omega) (Below.size (B := w.heap.size) (w := w) (by repeat (first | (with_reducible exact HBW.out) | (with_reducible exact HW1.out) | (with_reducible exact HW2.out) | (with_reducible exact b0 _) | (with_reducible refine balloc ?_ _) | (with_reducible refine bdrew ?_)))) ?_; intro v2 w2 hown2 hg2 hat2; have HW2 := hid (own_below2 HO1.out HW1.out (by repeat (first | (with_reducible exact HBW.out) | (with_reducible exact HW1.out) | (with_reducible exact HW2.out) | (with_reducible exact b0 _) | (with_reducible refine balloc ?_ _) | (with_reducible refine bdrew ?_))) hg2); obtain ⟨A2, c2, rfl⟩ := own_form hown2; have HO2 := hid hown2; clear hown2 hg2 hat2)
              | (refine step_guard (.tmp 39) (.tmp 42) 30 rfl ?_; refine step_append_src _ rfl (.tmp 39) (.tmp 42) 30 rfl w.heap.size 9 ii _ 1 16 Try.underlying30 HII.out.1 HII.out.2.1 HII.out.2.2.1 HII.out.2.2.2 rfl (by omega) (.slice A2 (l.length + 1) c2) (l.length + 1) (fStr.all (l.take l.length) ++ fStr.cells s) (by rfl) (by first | exact HO2.out | exact own_alloc_drew HO2.out _ | exact HO2.out.alloc _) (some ⟨g, o, none⟩) (0) (0) ([]) (by rfl) (Src.none_ _ 1) (by simp) (by unfold maxLen; omega) (by omega) (Below.size (B := w.heap.size) (w := w) (by repeat (first | (with_reducible exact HBW.out) | (with_reducible exact HW1.out) | (with_reducible exact HW2.out) | (with_reducible exact b0 _) | (with_reducible refine balloc ?_ _) | (with_reducible refine bdrew ?_)))) ?_; intro v3 w3 hown3 hg3 hat3; have HW3 := hid (own_below2 HO2.out HW2.out (by repeat (first | (with_reducible exact HBW.out) | (with_reducible exact HW1.out) | (with_reducible exact HW2.out) | (with_reducible exact b0 _) | (with_reducible refine balloc ?_ _) | (with_reducible refine bdrew ?_))) hg3); have HO3 := hid hown3; clear hown3 hg3 hat3))))
            | fail
          all_goals go_wp2
          all_goals go_ret
          all_goals exact put_end rfl HO3.out HW3.out HL.out (by first | exact HTK.out) (by omega) HP.out
        · skip
          first
            | go_must (go_region_law ((first
              | (refine step_guard (.const (.slice none 0 0)) (.tmp 35) 30 rfl ?_; refine step_append_src _ rfl (.const (.slice none 0 0)) (.tmp 35) 30 rfl w.heap.size 9 ii _ 1 16 Try.underlying30 HII.out.1 HII.out.2.1 HII.out.2.2.1 HII.out.2.2.2 rfl (by omega) (.slice none 0 0) (0) ([]) (by rfl) (⟨rfl, .inl ⟨rfl, rfl⟩⟩) (some ⟨g, o, none⟩) (l.length) (cap) (fStr.all (l.take l.length)) (by rfl) (HS1.out _ (by repeat (first | (with_reducible exact HBW.out) | (with_reducible exact HW1.out) | (with_reducible exact HW2.out) | (with_reducible exact b0 _) | (with_reducible refine balloc ?_ _) | (with_reducible refine bdrew ?_)))) (fStr.all_one _) (by unfold maxLen; omega) (by omega) (Below.size (B := w.heap.size) (w := w) (by repeat (first | (with_reducible exact HBW.out) | (with_reducible exact HW1.out) | (with_reducible exact HW2.out) | (with_reducible exact b0 _) | (with_reducible refine balloc ?_ _) | (with_reducible refine bdrew ?_)))) ?_; intro v1 w1 hown1 hg1 hat1; have HW1 := hid (own_below HBW.out (by repeat (first | (with_reducible exact HBW.out) | (with_reducible exact HW1.out) | (with_reducible exact HW2.out) | (with_reducible exact b0 _) | (with_reducible refine balloc ?_ _) | (with_reducible refine bdrew ?_))) hg1); have hbc1 := own_cells (b := wr.heap.size) hg1 (by simp) ; simp only [Nat.zero_add, List.nil_append] at hown1; obtain ⟨A1, c1, rfl⟩ := own_form hown1; have HO1 := hid hown1; have HG1 := hid hg1; clear hown1 hg1 hat1)
              | (refine step_guard (.tmp 36) (.tmp 38) 30 rfl ?_; refine step_append_src _ rfl (.tmp 36) (.tmp 38) 30 rfl w.heap.size 9 ii _ 1 16 Try.underlying30 HII.out.1 HII.out.2.1 HII.out.2.2.1 HII.out.2.2.2 rfl (by omega) (.slice A1 (l.length) c1) (l.length) (fStr.all (l.take l.length)) (by rfl) (by first | exact HO1.out | exact own_alloc_drew HO1.out _ | exact HO1.out.alloc _) (some ⟨w1.heap.size, 0, none⟩) (1) (1) (fStr.cells s) (by rfl) (by first | exact src_new _ _ rfl 1 _ rfl rfl | exact src_new_drew _ _ rfl 1 _ rfl rfl) (fStr.one s) (by unfold maxLen; omega) (by omega) (Below.size (B := w.heap.size) (w := w) (by repeat (first | (with_reducible exact HBW.out) | (with_reducible exact HW1.out) | (with_reducible exact HW2.out) | (with_reducible exact b0 _) | (with_reducible refine balloc ?_ _) | (with_reducible refine bdrew ?_)))) ?_; intro v2 w2 hown2 hg2 hat2; have HW2 := hid (own_below2 HO1.out HW1.out (by repeat (first | (with_reducible exact HBW.out) | (with_reducible exact HW1.out) | (with_reducible exact HW2.out) | (with_reducible exact b0 _) | (with_reducible refine balloc ?_ _) | (with_reducible refine bdrew ?_))) hg2); obtain ⟨A2, c2, rfl⟩ := own_form hown2; have HO2 := hid hown2; clear hown2 hg2 hat2)
              | (refine step_guard (.tmp 36) (.tmp 38) 30 rfl ?_; refine step_append_src _ rfl (.tmp 36) (.tmp 38) 30 rfl w.heap.size 9 ii _ 1 16 Try.underlying30 HII.out.1 HII.out.2.1 HII.out.2.2.1 HII.out.2.2.2 rfl (by omega) (.slice A1 (l.length) c1) (l.length) (fStr.all (l.take l.length)) (by rfl) (by first | exact HO1.out | exact own_alloc_drew HO1.out _ | exact HO1.out.alloc _) (some ⟨wr.heap.size, 0, none⟩) (1) (1) (fStr.cells s) (by rfl) (by first | exact src_grown (src_new _ _ rfl 1 _ rfl rfl) HG1.out (by simp) | exact src_grown (src_new_drew _ _ rfl 1 _ rfl rfl) HG1.out (by simp)) (fStr.one s) (by unfold maxLen; omega) (by omega) (Below.size (B := w.heap.size) (w := w) (by repeat (first | (with_reducible exact HBW.out) | (with_reducible exact HW1.out) | (with_reducible exact HW2.out) | (with_reducible exact b0 _) | (with_reducible refine balloc ?_ _) | (with_reducible refine bdrew ?_)))) ?_; intro v2 w2 hown2 hg2 hat2; have HW2 := hid (own_below2 HO1.out HW1.out (by repeat (first | (with_reducible exact HBW.out) | (with_reducible exact HW1.out) | (with_reducible exact HW2.out) | (with_reducible exact b0 _) | (with_reducible refine balloc ?_ _) | (with_reducible refine bdrew ?_))) hg2); obtain ⟨A2, c2, rfl⟩ := own_form hown2; have HO2 := hid hown2; clear hown2 hg2 hat2)
              | (refine step_guard (.tmp 39) (.tmp 42) 30 rfl ?_; refine step_append_src _ rfl (.tmp 39) (.tmp 42) 30 rfl w.heap.size 9 ii _ 1 16 Try.underlying30 HII.out.1 HII.out.2.1 HII.out.2.2.1 HII.out.2.2.2 rfl (by omega) (.slice A2 (l.length + 1) c2) (l.length + 1) (fStr.all (l.take l.length) ++ fStr.cells s) (by rfl) (by first | exact HO2.out | exact own_alloc_drew HO2.out _ | exact HO2.out.alloc _) (some ⟨g, o + l.length, none⟩) (0) (cap - l.length) ([]) (by rfl) (Src.none_ _ 1) (by simp) (by unfold maxLen; omega) (by omega) (Below.size (B := w.heap.size) (w := w) (by repeat (first | (with_reducible exact HBW.out) | (with_reducible exact HW1.out) | (with_reducible exact HW2.out) | (with_reducible exact b0 _) | (with_reducible refine balloc ?_ _) | (with_reducible refine bdrew ?_)))) ?_; intro v3 w3 hown3 hg3 hat3; have HW3 := hid (own_below2 HO2.out HW2.out (by repeat (first | (with_reducible exact HBW.out) | (with_reducible exact HW1.out) | (with_reducible exact HW2.out) | (with_reducible exact b0 _) | (with_reducible refine balloc ?_ _) | (with_reducible refine bdrew ?_))) hg3); have HO3 := hid hown3; clear hown3 hg3 hat3))))
            | fail
          all_goals go_wp2
          all_goals go_ret
          all_goals exact put_end rfl HO3.out HW3.out HL.out (by first | exact HTK.out) (by omega) HP.out
end Go.Proofs.Ytdcdpkpomhjilaa
