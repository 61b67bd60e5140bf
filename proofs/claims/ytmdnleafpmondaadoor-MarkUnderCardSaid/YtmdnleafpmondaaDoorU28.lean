/- Contract: parser.left. -/
import Derived.Test.YtmdnleafpmondaaDoorU22
import Derived.Test.YtmdnleafpmondaaDoorzN
namespace Go.Proofs.YtmdnleafpmondaaDoor
open Go Go.RowKit

def LeftC (en : EnvT) (g : Frm) : Prop := ∀ (G : List Frm) (l : List Node) (v : Value) (w : World) (pb sb j n : Nat) (wv nv : Value) (ns : List Node),
  SliceRd tNode w (Lt pb) v l → TreeAt l G → G[j]? = some g → l.length ≤ 15 → PAt w pb wv nv [] ns false → Arr 3 w sb (iv (G.map (evalF en.at))) → sb ≠ pb → nv.ownBlock ≠ some sb → n = G.length → evalF en.at g = 1 → ns.length + g.size ≤ 500 →
  Calls Tryd.prog 39 #[.pointer (some ⟨pb, 0, none⟩), v, .slice (some ⟨sb, 0, none⟩) n n, .int .i64 j] w fun e w' =>
    ∃ nv', e = .returned (.int .i64 (((ns.length + (leftF en.at g).size : Nat) : Int) - 1)) ∧ PTo w w' pb nv nv' ∧ PAt w' pb wv nv' [] (ns ++ (leftF en.at g).post ns.length) false
theorem ret_i {a b : Int} (h : a = b) : Ending.returned (.int .i64 a) = .returned (.int .i64 b) := by rw [h]
theorem PTo.arr {w w' : World} {pb sb : Nat} {nv nv' : Value} {e : TypeId} {xs : List Value} (h : PTo w w' pb nv nv') (ha : Arr e w sb xs) (h1 : sb ≠ pb) (h2 : nv.ownBlock ≠ some sb) : Arr e w' sb xs ∧ nv'.ownBlock ≠ some sb := by
  refine ⟨ha.keep (h.kept sb ha.lt h1 h2), ?_⟩
  rcases h.own with e | ⟨g, e, hg⟩
  · rw [e]; exact h2
  · rw [e]; intro h'; injection h' with h'; have := ha.lt; omega
theorem PTo.new {w : World} {pb : Nat} (h : pb < w.heap.size) (nv : Value) (o : Obj) : PTo w (w.alloc o) pb nv nv := (PTo.refl w pb h nv).later (balloc (b0 w) o) h

set_option maxRecDepth 100000 in
set_option maxHeartbeats 4000000 in
theorem left_is (en : EnvT) (k : Nat) (s : ByteArray) : LeftC en (.is k s) := by
  intro G l v w pb sb j n wv nv ns h ht hg h15 hp har hsb hnv hn he hl
  have hj : j < l.length := by rw [ht.len]; exact get_lt hg
  obtain ⟨g, o, cap, rfl, hcap, hmax, hF, hc⟩ := open_nodes h ht (by omega)
  obtain ⟨-, g0, g1, g2, g3, g4⟩ := hc j _ hg
  simp only [opI, nA, nB, nK, nT] at g0 g1 g2 g3 g4
  obtain ⟨k3, ks⟩ := ht.ok j _ hg
  have hss : s.size ≤ 12 := by have := (wordB_len ks).2; simpa using this
  unfold maxLen at hmax
  have HP := hid hp
  have hlt := hp.lt
  have HP1 := hid (hp.later (balloc (b0 w) (.cells #[.int .i64 1, .int .i64 0, .int .i64 0, .int .i64 k, .string s] 49)))
  have HOK : Hid (fNode.ok ⟨1, 0, 0, k, s⟩) := hid (node_ok (by omega) (by omega) (by omega) (by omega) (by omega))
  have HT := hid (PTo.new hlt nv (.cells #[.int .i64 1, .int .i64 0, .int .i64 0, .int .i64 k, .string s] 49))
  have i1 : (0 : Int) ≤ ↑j := by omega
  have i2 : (↑j : Int) < ↑l.length := by omega
  clear h hc ht hg hp har hnv hn he ks
  go_enter Tryd.func39, Tryd.ntmps39
  go_wp2_with (first
    | (go_at_call 53; refine (put_any _ pb wv nv [] ns false ⟨1, 0, 0, k, s⟩ HP1.out HOK.out (by omega)).mono ?_; rintro e w5 ⟨nv5, rfl, P5, A5⟩; replace P5 := hid P5; replace A5 := hid A5))
  go_ret
  exact ⟨nv5, ret_i (by simp only [leftF, Frm.size]; omega), HT.out.trans P5.out, A5.out⟩

set_option maxRecDepth 100000 in
set_option maxHeartbeats 4000000 in
theorem left_no (en : EnvT) (a : Frm) (ih : LeftC en a) : LeftC en (.no a) := by
  intro G l v w pb sb j n wv nv ns h ht hg h15 hp har hsb hnv hn he hl
  have hj : j < l.length := by rw [ht.len]; exact get_lt hg
  obtain ⟨h1, hga⟩ := ht.no j _ hg
  have H := hid h
  obtain ⟨g, o, cap, rfl, hcap, hmax, hF, hc⟩ := open_nodes h ht (by omega)
  obtain ⟨-, g0, g1, g2, g3, g4⟩ := hc j _ hg
  obtain ⟨ja, hja⟩ : ∃ ja, ja = j - 1 := ⟨_, rfl⟩
  rw [← hja] at hga
  rw [show nA (Frm.no a) j = (ja : Int) by simp only [nA]; omega] at g1
  simp only [opI, nB, nK, nT] at g0 g2 g3 g4
  unfold maxLen at hmax
  have hlt := hp.lt
  have hb1 := balloc (b0 w) (.cells #[.int .i64 2, .int .i64 ja, .int .i64 0, .int .i64 0, .string ByteArray.empty] 49)
  have HP1 := hid (hp.later hb1)
  have HT := hid (PTo.new hlt nv (.cells #[.int .i64 2, .int .i64 ja, .int .i64 0, .int .i64 0, .string ByteArray.empty] 49))
  have HIH := hid (ih G l _ _ pb sb ja n wv nv ns (h.keep (Keeps.of_below (hb1.mono (by omega)) fun _ h => h)) ht hga h15 HP1.out (har.alloc _) hsb hnv hn (by simp only [evalF] at he; omega) (by simp only [Frm.size] at hl; omega))
  have i1 : (0 : Int) ≤ ↑j := by omega
  have i2 : (↑j : Int) < ↑l.length := by omega
  have hsz : (leftF en.at a).size ≤ 15 := by have := subs_small ht hga; have := left_size (e := en.at) (f := a); omega
  clear h hc ht hg hp har hnv hn he hja hga hb1 ih
  go_enter Tryd.func39, Tryd.ntmps39
  go_wp2_with (first
    | (go_at_call 39; refine HIH.out.mono ?_; rintro e w4 ⟨nv4, rfl, P4, A4⟩; replace P4 := hid P4; replace A4 := hid A4)
    | (go_at_call 53; refine (put_any w4 pb wv nv4 [] _ false ⟨2, ((ns.length + (leftF en.at a).size : Nat) : Int) - 1, 0, 0, ⟨#[]⟩⟩ A4.out (node_ok (by omega) (by omega) (by omega) (by omega) (by decide)) (by simp only [List.length_append, Frm.post_length]; omega)).mono ?_; rintro e w5 ⟨nv5, rfl, P5, A5⟩; replace P5 := hid P5; replace A5 := hid A5))
  go_ret
  refine ⟨nv5, ret_i (by simp only [leftF, Frm.size, Frm.post_length]; omega), (HT.out.trans P4.out).trans P5.out, ?_⟩
  have := A5.out
  rw [List.append_assoc] at this
  exact this
theorem left_op (c : Bool) (a b : Frm) : opI (.two c a b) = if c then 4 else 3 := by cases c <;> rfl
theorem left_A {e : Nat → ByteArray} {c : Bool} {a b : Frm} (ha : evalF e a ≠ 1) : leftF e (.two c a b) = leftF e b := by simp only [leftF]; rw [if_pos ha]
theorem left_B {e : Nat → ByteArray} {c : Bool} {a b : Frm} (ha : evalF e a = 1) (hb : evalF e b ≠ 1) : leftF e (.two c a b) = leftF e a := by simp only [leftF]; rw [if_neg (by rw [ha]; simp), if_pos hb]
theorem left_AB {e : Nat → ByteArray} {c : Bool} {a b : Frm} (ha : evalF e a = 1) (hb : evalF e b = 1) : leftF e (.two c a b) = .two c (leftF e a) (leftF e b) := by simp only [leftF]; rw [if_neg (by rw [ha]; simp), if_neg (by rw [hb]; simp)]

set_option maxRecDepth 100000 in
set_option maxHeartbeats 8000000 in
theorem left_two (en : EnvT) (c : Bool) (a b : Frm) (iha : LeftC en a) (ihb : LeftC en b) : LeftC en (.two c a b) := by
  intro G l v w pb sb j n wv nv ns h ht hg h15 hp har hsb hnv hn he hl
  have hj : j < l.length := by rw [ht.len]; exact get_lt hg
  obtain ⟨h1, hgb, hga⟩ := ht.two j _ _ _ hg
  obtain ⟨g, o, cap, rfl, hcap, hmax, hF, hc⟩ := open_nodes h ht (by omega)
  obtain ⟨-, g0, g1, g2, g3, g4⟩ := hc j _ hg
  obtain ⟨ja, hja⟩ : ∃ ja, ja = j - 1 - b.size := ⟨_, rfl⟩
  obtain ⟨jb, hjb⟩ : ∃ jb, jb = j - 1 := ⟨_, rfl⟩
  rw [← hja] at hga
  rw [← hjb] at hgb
  rw [show nA (Frm.two c a b) j = (ja : Int) by simp only [nA]; omega] at g1
  rw [show nB (Frm.two c a b) j = (jb : Int) by simp only [nB]; omega] at g2
  simp only [nK, nT] at g3 g4
  unfold maxLen at hmax
  have hlt := hp.lt
  have hb1 := balloc (b0 w) (.cells #[.int .i64 (opI (.two c a b)), .int .i64 ja, .int .i64 jb, .int .i64 0, .string ByteArray.empty] 49)
  have HP1 := hid (hp.later hb1)
  have HT := hid (PTo.new hlt nv (.cells #[.int .i64 (opI (.two c a b)), .int .i64 ja, .int .i64 jb, .int .i64 0, .string ByteArray.empty] 49))
  have hrd := h.keep (Keeps.of_below (hb1.mono (by omega)) fun _ h => h)
  have harr := har.alloc (.cells #[.int .i64 (opI (.two c a b)), .int .i64 ja, .int .i64 jb, .int .i64 0, .string ByteArray.empty] 49)
  have HIA := hid (fun (ha : evalF en.at a = 1) => iha G l _ _ pb sb ja n wv nv ns hrd ht hga h15 HP1.out harr hsb hnv hn ha (by simp only [Frm.size] at hl; omega))
  have HIB := hid (fun (hb : evalF en.at b = 1) => ihb G l _ _ pb sb jb n wv nv ns hrd ht hgb h15 HP1.out harr hsb hnv hn hb (by simp only [Frm.size] at hl; omega))
  have ta := iv_cell har (show (G.map (evalF en.at))[ja]? = some (evalF en.at a) by rw [List.getElem?_map, hga]; rfl)
  have tb := iv_cell har (show (G.map (evalF en.at))[jb]? = some (evalF en.at b) by rw [List.getElem?_map, hgb]; rfl)
  have hsw := har.lt
  have hja1 := get_lt hga
  have hjb1 := get_lt hgb
  have i1 : (0 : Int) ≤ ↑j := by omega
  have i2 : (↑j : Int) < ↑l.length := by omega
  have i3 : (0 : Int) ≤ ↑ja := by omega
  have i4 : (↑ja : Int) < ↑n := by omega
  have i5 : (0 : Int) ≤ ↑jb := by omega
  have i6 : (↑jb : Int) < ↑n := by omega
  have hsa : (leftF en.at a).size ≤ 15 := by have := subs_small ht hga; have := left_size (e := en.at) (f := a); omega
  have hsz : (leftF en.at b).size ≤ 15 := by have := subs_small ht hgb; have := left_size (e := en.at) (f := b); omega
  have HLL : Hid (ns.length + (leftF en.at a).size + b.size ≤ 500) := hid (by have := left_size (e := en.at) (f := a); simp only [Frm.size] at hl; omega)
  have t3a := evalF_three en.at a
  have t3b := evalF_three en.at b
  have hev : evalF en.at a ≠ 1 → evalF en.at b = 1 := by cases c <;> simp only [evalF] at he <;> omega
  have HEV := hid hev
  have IHB := hid ihb
  have HOP := hid (left_op c a b)
  obtain ⟨op, hop⟩ : ∃ op, op = opI (Frm.two c a b) := ⟨_, rfl⟩
  have o1 : (op == 1) = false := by rw [hop, left_op]; cases c <;> rfl
  have o2 : (op == 2) = false := by rw [hop, left_op]; cases c <;> rfl
  have o3 : (3 : Int) ≤ op ∧ op ≤ 4 := by rw [hop, left_op]; cases c <;> decide
  rw [← hop] at g0 HP1 HT HIA HIB HOP hb1 hrd harr
  clear hop
  obtain ⟨va, hva⟩ : ∃ va, va = evalF en.at a := ⟨_, rfl⟩
  obtain ⟨vb, hvb⟩ : ∃ vb, vb = evalF en.at b := ⟨_, rfl⟩
  rw [← hva] at ta
  rw [← hvb] at tb
  have HR2 := hid hrd
  have HARR := hid harr
  have HREST := hid (show TreeAt l G ∧ G[jb]? = some b ∧ l.length ≤ 15 ∧ nv.ownBlock ≠ some sb ∧ n = G.length from ⟨ht, hgb, h15, hnv, hn⟩)
  rcases eqI va 1 with ⟨ea, pa⟩ | ⟨ea, pa⟩
  · have na := bne_t ea
    have HA1 : Hid (evalF en.at a = 1) := hid (hva.symm.trans pa)
    rcases eqI vb 1 with ⟨eb, pb'⟩ | ⟨eb, pb'⟩
    · have nb := bne_t eb
      have HB1 : Hid (evalF en.at b = 1) := hid (hvb.symm.trans pb')
      have HIA2 := hid (HIA.out HA1.out)
      have hbx : w.heap.size < (w.alloc (.cells #[.int .i64 op, .int .i64 ja, .int .i64 jb, .int .i64 0, .string ByteArray.empty] 49)).heap.size := by simp
      have hb0 : (w.alloc (.cells #[.int .i64 op, .int .i64 ja, .int .i64 jb, .int .i64 0, .string ByteArray.empty] 49)).cell? ⟨w.heap.size, 0, none⟩ = some (.int .i64 op) := World.cell?_alloc_new ..
      have HNB : Hid (w.heap.size ≠ pb ∧ nv.ownBlock ≠ some w.heap.size) := hid ⟨by omega, fun e => by have := (hp.nodes.lt _ e).2; omega⟩
      clear h hc ht hg hp har hnv hn he hja hjb hga hgb hb1 iha ihb hrd harr hva hvb pa pb' t3a t3b hev HIA HIB
      go_enter Tryd.func39, Tryd.ntmps39
      have tok := hid True.intro
      go_wp2_with (first
        | (go_at_call 39; clear tok; refine HIA2.out.mono ?_; rintro e w4 ⟨nv4, hret, P4, A4⟩; obtain ⟨i4', hi4⟩ : ∃ i4', i4' = ((ns.length + (leftF en.at a).size : Nat) : Int) - 1 := ⟨_, rfl⟩; rw [← hi4] at hret; subst hret; replace hi4 := hid hi4; replace P4 := hid P4; replace A4 := hid A4
           have HA4 := hid (P4.out.arr HARR.out hsb HREST.out.2.2.2.1)
           have HRD4 := hid (HR2.out.keep (Keeps.of_below P4.out.below fun _ h => h))
           have x0 : w4.cell? ⟨w.heap.size, 0, none⟩ = some (.int .i64 op) := (World.cell?_of_block (P4.out.kept _ hbx HNB.out.1 HNB.out.2)).trans hb0
           have HN4 := hid (show nv4.ownBlock ≠ some w.heap.size from by
             rcases P4.out.own with e | ⟨q, e, hq⟩
             · rw [e]; exact HNB.out.2
             · rw [e]; intro h'; injection h' with h'; omega)
           have x2 : w4.cell? ⟨w.heap.size, 2, none⟩ = some (.int .i64 jb) := (World.cell?_of_block (P4.out.kept _ hbx HNB.out.1 HNB.out.2)).trans (World.cell?_alloc_new ..)
           have hx4 : w.heap.size < w4.heap.size := Nat.lt_of_lt_of_le hbx P4.out.size)
        | (go_at_call 39; refine (IHB.out G l _ w4 pb sb jb n wv nv4 _ HRD4.out HREST.out.1 HREST.out.2.1 HREST.out.2.2.1 A4.out HA4.out.1 hsb HA4.out.2 HREST.out.2.2.2.2 HB1.out (by have := HLL.out; simp only [List.length_append, Frm.post_length]; omega)).mono ?_; rintro e w5 ⟨nv5, hret, P5, A5⟩; obtain ⟨i5', hi5⟩ : ∃ i5', i5' = (((ns ++ (leftF en.at a).post ns.length).length + (leftF en.at b).size : Nat) : Int) - 1 := ⟨_, rfl⟩; rw [← hi5] at hret; subst hret; replace hi5 := hid hi5; replace P5 := hid P5; replace A5 := hid A5
           have HOKN : Hid (fNode.ok ⟨op, i4', i5', 0, ⟨#[]⟩⟩) := hid (by have h4 := hi4.out; have h5 := hi5.out; have h6 := HLL.out; simp only [List.length_append, Frm.post_length] at h5; exact node_ok (by omega) (by omega) (by omega) (by omega) (by decide))
           have y0 : w5.cell? ⟨w.heap.size, 0, none⟩ = some (.int .i64 op) := (World.cell?_of_block (P5.out.kept _ hx4 HNB.out.1 HN4.out)).trans x0)
        | (go_at_call 53; refine (put_any w5 pb wv nv5 [] _ false ⟨op, i4', i5', 0, ⟨#[]⟩⟩ A5.out HOKN.out (by have := HLL.out; simp only [List.length_append, Frm.post_length]; omega)).mono ?_; rintro e w6 ⟨nv6, hret, P6, A6⟩; obtain ⟨i6', hi6⟩ : ∃ i6', i6' = ((((ns ++ (leftF en.at a).post ns.length) ++ (leftF en.at b).post (ns ++ (leftF en.at a).post ns.length).length).length : Nat) : Int) := ⟨_, rfl⟩; rw [← hi6] at hret; subst hret; replace hi6 := hid hi6; replace P6 := hid P6; replace A6 := hid A6))
      go_ret
      refine ⟨nv6, ret_i (by rw [left_AB HA1.out HB1.out, hi6.out]; simp only [Frm.size, List.length_append, Frm.post_length]; omega), ((HT.out.trans P4.out).trans P5.out).trans P6.out, ?_⟩
      have h9 := A6.out
      rw [hi4.out, hi5.out] at h9
      rw [left_AB HA1.out HB1.out, opC (a := ((ns.length + (leftF en.at a).size : Nat) : Int) - 1) (b := (((ns ++ (leftF en.at a).post ns.length).length + (leftF en.at b).size : Nat) : Int) - 1) rfl (by simp only [List.length_append, Frm.post_length])]
      rw [← HOP.out]
      simp only [List.length_append, Frm.post_length, List.append_assoc] at h9 ⊢
      exact h9
    · have nb := bne_f eb
      have HB1 : Hid (evalF en.at b ≠ 1) := hid (fun e => pb' (hvb.trans e))
      have HIA2 := hid (HIA.out HA1.out)
      clear h hc ht hg hp har hnv hn he hja hjb hga hgb hb1 iha ihb hrd harr hva hvb pa pb' t3a t3b hev HIA HIB
      go_enter Tryd.func39, Tryd.ntmps39
      go_wp2_with (first
        | (go_at_call 39; refine HIA2.out.mono ?_; rintro e w4 ⟨nv4, rfl, P4, A4⟩; replace P4 := hid P4; replace A4 := hid A4))
      go_ret
      rw [left_B HA1.out HB1.out]
      exact ⟨nv4, rfl, HT.out.trans P4.out, A4.out⟩
  · have na := bne_f ea
    have HA1 : Hid (evalF en.at a ≠ 1) := hid (fun e => pa (hva.trans e))
    have HIB2 := hid (HIB.out (HEV.out HA1.out))
    clear h hc ht hg hp har hnv hn he hja hjb hga hgb hb1 iha ihb hrd harr hva hvb pa t3a t3b hev HIA HIB
    go_enter Tryd.func39, Tryd.ntmps39
    go_wp2_with (first
      | (go_at_call 39; refine HIB2.out.mono ?_; rintro e w4 ⟨nv4, rfl, P4, A4⟩; replace P4 := hid P4; replace A4 := hid A4))
    go_ret
    rw [left_A HA1.out]
    exact ⟨nv4, rfl, HT.out.trans P4.out, A4.out⟩
theorem left_any (en : EnvT) (g : Frm) : LeftC en g := by
  induction g with
  | is k s => exact left_is en k s
  | no a ih => exact left_no en a ih
  | two c a b iha ihb => exact left_two en c a b iha ihb
end Go.Proofs.YtmdnleafpmondaaDoor
