/- Contract: linchpinref10.left. -/
import Derived.Test.YtmdnleafpmondaaDoorU42
namespace Go.Proofs.YtmdnleafpmondaaDoor
open Go Go.RowKit

/-- From one slice of the call's own to another: what else there is stays. -/
structure OTo (B : Nat) (w w' : World) (nv nv' : Value) : Prop where
  below : Below B w w'
  size : w.heap.size ≤ w'.heap.size
  kept : ∀ k, k < w.heap.size → nv.ownBlock ≠ some k → w'.heap[k]? = w.heap[k]?
  own : nv'.ownBlock = nv.ownBlock ∨ ∃ g, nv'.ownBlock = some g ∧ w.heap.size ≤ g
theorem OTo.trans {B : Nat} {w w1 w2 : World} {nv nv1 nv2 : Value} (h : OTo B w w1 nv nv1) (h2 : OTo B w1 w2 nv1 nv2) : OTo B w w2 nv nv2 := by
  refine ⟨h.below.trans h2.below, Nat.le_trans h.size h2.size, fun k hk ho => ?_, ?_⟩
  · rw [h2.kept k (Nat.lt_of_lt_of_le hk h.size) ?_, h.kept k hk ho]
    rcases h.own with e | ⟨g, e, hg⟩
    · rw [e]; exact ho
    · rw [e]; intro h'; injection h' with h'; omega
  · rcases h2.own with e | ⟨g, e, hg⟩
    · rcases h.own with e1 | ⟨g, e1, hg⟩
      · exact .inl (e.trans e1)
      · exact .inr ⟨g, e.trans e1, hg⟩
    · exact .inr ⟨g, e, Nat.le_trans h.size hg⟩
theorem OTo.of_below {B : Nat} {w w1 : World} (hb : Below w.heap.size w w1) (hB : B ≤ w.heap.size) (nv : Value) : OTo B w w1 nv nv := ⟨hb.mono hB, hb.size, fun k hk _ => hb.block k hk, .inl rfl⟩
theorem OTo.grown {α : Type} {B : Nat} {w w3 w4 : World} {nv v4 : Value} {f : Flat α} {e : TypeId} {ns : List α} (ho : OwnF f e B w nv ns) (hB : B ≤ w.heap.size) (hb : Below w.heap.size w w3) (hg : w3.grownBy w4 nv.ownBlock) (hn : v4.ownBlock = nv.ownBlock ∨ v4.ownBlock = some w3.heap.size) : OTo B w w4 nv v4 := by
  have hs3 := hb.size
  have hs4 := hg.size
  refine ⟨(hb.mono hB).grown hg (by omega) (fun k e => (ho.lt k e).1), by omega, fun k hk h1 => (hg.block k (by omega) (fun e => h1 e.symm)).trans (hb.block k hk), ?_⟩
  rcases hn with e | e
  · exact .inl e
  · exact .inr ⟨_, e, hs3⟩
def RLeftC (en : EnvT) (g : Frm) : Prop := ∀ (G : List Frm) (l : List Node) (v vv ov : Value) (w : World) (B j : Nat) (ns : List Node),
  SliceRd tNode w (Lt B) v l → TreeAt l G → G[j]? = some g → l.length ≤ 15 → SliceRd tInt w (Lt B) vv (G.map (evalF en.at)) → OwnF fNode 49 B w ov ns → B ≤ w.heap.size → evalF en.at g = 1 → ns.length + g.size ≤ 500 →
  Calls Tryd.prog 41 #[v, vv, .int .i64 j, ov] w fun e w' =>
    ∃ ov', e = .returned ov' ∧ OTo B w w' ov ov' ∧ OwnF fNode 49 B w' ov' (ns ++ (leftF en.at g).post ns.length)

set_option maxRecDepth 100000 in
set_option maxHeartbeats 4000000 in
theorem rleft_is (en : EnvT) (k : Nat) (s : ByteArray) : RLeftC en (.is k s) := by
  intro G l v vv ov w B j ns h ht hg h15 hvv ho hB he hl
  have hj : j < l.length := by rw [ht.len]; exact get_lt hg
  obtain ⟨g, o, cap, rfl, hcap, hmax, hF, hc⟩ := open_nodes h ht (by omega)
  obtain ⟨-, g0, g1, g2, g3, g4⟩ := hc j _ hg
  simp only [opI, nA, nB, nK, nT] at g0 g1 g2 g3 g4
  obtain ⟨k3, ks⟩ := ht.ok j _ hg
  have hss : s.size ≤ 12 := by have := (wordB_len ks).2; simpa using this
  unfold maxLen at hmax
  obtain ⟨A, c, rfl⟩ := ho.form
  have HO := hid ho
  have HOK : Hid (fNode.ok ⟨1, 0, 0, k, s⟩) := hid (node_ok (by omega) (by omega) (by omega) (by omega) (by omega))
  have i1 : (0 : Int) ≤ ↑j := by omega
  have i2 : (↑j : Int) < ↑l.length := by omega
  obtain ⟨iN, hiN⟩ := info_parts node_info
  have HIN := hid hiN
  clear hiN
  have hls : ns.length ≤ 500 := by omega
  obtain ⟨ln, hln⟩ : ∃ ln, ln = ns.length := ⟨_, rfl⟩
  rw [← hln] at hls HO ⊢
  replace hln := hid hln
  clear h hc ht hg ho he ks hvv
  go_enter Tryd.func41, Tryd.ntmps41
  have HB1 := hid (balloc (b0 w) (.cells #[.int .i64 1, .int .i64 0, .int .i64 0, .int .i64 k, .string s] 49))
  have hX : w.ownsRow B 49 5 (.slice A ln c) ln (fNode.all ns) := by have h9 := HO.out.1; rw [← hln.out] at h9; exact h9
  have HO1 := hid ((hX.alloc (.cells #[.int .i64 1, .int .i64 0, .int .i64 0, .int .i64 k, .string s] 49)).alloc (.cells #[.int .i64 1, .int .i64 0, .int .i64 0, .int .i64 k, .string s] 49))
  clear hX
  go_wp2_with (first
    | (at_builtin
       go_must (refine wpList_append_src _ rfl (.tmp 19) (.tmp 21) _ rfl B 49 iN _ 5 48 Tryd.underlying23 HIN.out.1 HIN.out.2.1 HIN.out.2.2.1 HIN.out.2.2.2 rfl (by omega) (.slice A ln c) ln (fNode.all ns) rfl (by exact HO1.out) (some ⟨w.heap.size + 1, 0, none⟩) 1 1 (fNode.cells ⟨1, 0, 0, k, s⟩) rfl (by exact src_new _ _ (by simp) 5 (fNode.cells ⟨1, 0, 0, k, s⟩) rfl rfl) (by simp [fNode, Value.oneCell']) (by unfold maxLen; omega) (by omega) (by simp; omega) ?_)
       intro v5 w5 hown5 hg5 hat5))
  have HT := hid (OTo.grown HO.out hB (balloc HB1.out (.cells #[.int .i64 1, .int .i64 0, .int .i64 0, .int .i64 k, .string s] 49)) hg5 hat5)
  replace hown5 := hid hown5
  clear hg5 hat5
  go_ret
  exact ⟨v5, rfl, HT.out, OwnF.snoc HO.out HOK.out (by rw [← hln.out]; exact hown5.out)⟩
theorem OTo.block {B : Nat} {w w' : World} {nv nv' : Value} (h : OTo B w w' nv nv') {g : Nat} (hg : g < w.heap.size) (hn : nv.ownBlock ≠ some g) {o : Nat} {x : Value} (hc : w.cell? ⟨g, o, none⟩ = some x) : w'.cell? ⟨g, o, none⟩ = some x ∧ nv'.ownBlock ≠ some g ∧ g < w'.heap.size := by
  refine ⟨(World.cell?_of_block (h.kept g hg hn)).trans hc, ?_, Nat.lt_of_lt_of_le hg h.size⟩
  rcases h.own with e | ⟨q, e, hq⟩
  · rw [e]; exact hn
  · rw [e]; intro h'; injection h' with h'; omega
theorem vals_full {G : List Frm} {E : Frm → Int} {w : World} {F : Nat → Prop} {A : Option Addr} {n cap : Nat} (h : SliceRd tInt w F (.slice A n cap) (G.map E)) {j : Nat} {f : Frm} (hf : G[j]? = some f) :
    n = G.length ∧ ∃ g o, A = some ⟨g, o, none⟩ ∧ F g ∧ w.cell? ⟨g, o + j, none⟩ = some (.int .i64 (E f)) := by
  have h2 : ((G.take G.length).map E) = G.map E := by rw [List.take_length]
  have := vals_cell (k := G.length) (by rw [h2]; exact h) (get_lt hf) hf
  rwa [Nat.min_self] at this
theorem post_len (f : Frm) (o : Nat) : (f.post o).length = f.size := Frm.post_length f o

set_option maxRecDepth 100000 in
set_option maxHeartbeats 4000000 in
theorem rleft_no (en : EnvT) (a : Frm) (ih : RLeftC en a) : RLeftC en (.no a) := by
  intro G l v vv ov w B j ns h ht hg h15 hvv ho hB he hl
  have hj : j < l.length := by rw [ht.len]; exact get_lt hg
  obtain ⟨h1, hga⟩ := ht.no j _ hg
  have H := hid h
  obtain ⟨g, o, cap, rfl, hcap, hmax, hF, hc⟩ := open_nodes h ht (by omega)
  obtain ⟨-, g0, g1, g2, g3, g4⟩ := hc j _ hg
  obtain ⟨ja, hja⟩ : ∃ ja, ja = j - 1 := ⟨_, rfl⟩
  rw [← hja] at hga
  rw [show nA (Frm.no a) j = (ja : Int) by simp only [nA]; omega] at g1
  simp only [opI, nB, nK, nT] at g0 g2 g3 g4
  unfold maxLen at hmax
  have hb1 := balloc (b0 w) (.cells #[.int .i64 2, .int .i64 ja, .int .i64 0, .int .i64 0, .string ByteArray.empty] 49)
  have hwn : w.heap.size < (w.alloc (.cells #[.int .i64 2, .int .i64 ja, .int .i64 0, .int .i64 0, .string ByteArray.empty] 49)).heap.size := by simp
  have HT := hid (OTo.of_below hb1 hB ov)
  have HIH := hid (ih G l _ vv ov _ B ja ns (h.keep (Keeps.of_below (hb1.mono hB) fun _ h => h)) ht hga h15 (hvv.keep (Keeps.of_below (hb1.mono hB) fun _ h => h)) (ho.below hb1 (Nat.le_refl _)) (Nat.le_trans hB hb1.size) (by simp only [evalF] at he; omega) (by simp only [Frm.size] at hl; omega))
  have i1 : (0 : Int) ≤ ↑j := by omega
  have i2 : (↑j : Int) < ↑l.length := by omega
  have hsz : (leftF en.at a).size ≤ 15 := by have := subs_small ht hga; have := left_size (e := en.at) (f := a); omega
  have HLF := hid (show leftF en.at (.no a) = .no (leftF en.at a) from rfl)
  obtain ⟨La, hLa⟩ : ∃ La, La = leftF en.at a := ⟨_, rfl⟩
  rw [← hLa] at HIH hsz HLF
  have hns : ns.length ≤ 500 := by omega
  obtain ⟨ln, hln⟩ : ∃ ln, ln = (ns ++ La.post ns.length).length := ⟨_, rfl⟩
  have hln2 : ln ≤ 600 ∧ 1 ≤ ln ∧ ln = ns.length + La.size := by
    rw [hln, List.length_append, Frm.post_length]
    have := Frm.size_pos La
    omega
  have iw : IntKind.i64.wrap ((ln : Int) - 1) = (ln : Int) - 1 := IntWalk.i64_in _ (by omega)
  have HOK : Hid (fNode.ok ⟨2, (ln : Int) - 1, 0, 0, ⟨#[]⟩⟩) := hid (node_ok (by omega) (by omega) (by omega) (by omega) (by decide))
  have hl1 := hln2.1
  have HL2 := hid hln2
  obtain ⟨iN, hiN⟩ := info_parts node_info
  have HIN := hid hiN
  clear hiN h hc ht hg ho he hja hga hb1 ih hvv hLa hns hln2
  replace hln := hid hln
  go_enter Tryd.func41, Tryd.ntmps41
  go_wp2_with (first
    | (go_at_call 41; refine HIH.out.mono ?_; rintro e w4 ⟨ov4, rfl, T4, O4⟩
       have HT4 := hid T4
       obtain ⟨A4, c4, hv4⟩ := O4.form
       subst hv4
       have HO4 := hid O4
       have hX : w4.ownsRow B 49 5 (.slice A4 (ns ++ La.post ns.length).length c4) (ns ++ La.post ns.length).length (fNode.all (ns ++ La.post ns.length)) := O4.1
       rw [← hln.out] at hX HO4 HT4
       rw [← hln.out]
       have HX4 := hid (hX.alloc (.cells #[.int .i64 2, .int .i64 ((ln : Int) - 1), .int .i64 0, .int .i64 0, .string ⟨#[]⟩] 49))
       have hB4 : B ≤ w4.heap.size := Nat.le_trans (Nat.le_trans hB (Nat.le_of_lt hwn)) T4.size
       clear hX T4 O4)
    | (at_builtin
       go_must (refine wpList_append_src _ rfl (.tmp 33) (.tmp 38) _ rfl B 49 iN _ 5 48 Tryd.underlying23 HIN.out.1 HIN.out.2.1 HIN.out.2.2.1 HIN.out.2.2.2 rfl (by omega) (.slice A4 ln c4) ln (fNode.all (ns ++ La.post ns.length)) rfl (by exact HX4.out) (some ⟨w4.heap.size, 0, none⟩) 1 1 (fNode.cells ⟨2, (ln : Int) - 1, 0, 0, ⟨#[]⟩⟩) rfl (by exact src_new _ _ rfl 5 (fNode.cells ⟨2, (ln : Int) - 1, 0, 0, ⟨#[]⟩⟩) rfl rfl) (by simp [fNode, Value.oneCell']) (by unfold maxLen; omega) (by omega) (by simp; omega) ?_)
       intro v5 w5 hown5 hg5 hat5))
  have HT5 := hid (OTo.grown HO4.out hB4 (balloc (b0 w4) _) hg5 hat5)
  replace hown5 := hid hown5
  clear hg5 hat5
  go_ret
  refine ⟨v5, rfl, (HT.out.trans HT4.out).trans HT5.out, ?_⟩
  have h9 := OwnF.snoc (f := fNode) HO4.out HOK.out (show w5.ownsRow B 49 5 v5 ((ns ++ La.post ns.length).length + 1) _ from by rw [← hln.out]; exact hown5.out)
  rw [HLF.out]
  have e9 : ns ++ (Frm.no La).post ns.length = ns ++ La.post ns.length ++ [⟨2, (ln : Int) - 1, 0, 0, ⟨#[]⟩⟩] := by
    rw [show (Frm.no La).post ns.length = La.post ns.length ++ [⟨2, (ns.length + La.size : Nat) - 1, 0, 0, ByteArray.empty⟩] from rfl, List.append_assoc, ← HL2.out.2.2]
    rfl
  rw [e9]
  exact h9

set_option maxRecDepth 100000 in
set_option maxHeartbeats 8000000 in
theorem rleft_two (en : EnvT) (c : Bool) (a b : Frm) (iha : RLeftC en a) (ihb : RLeftC en b) : RLeftC en (.two c a b) := by
  intro G l v vv ov w B j ns h ht hg h15 hvv ho hB he hl
  have hj : j < l.length := by rw [ht.len]; exact get_lt hg
  obtain ⟨h1, hgb, hga⟩ := ht.two j _ _ _ hg
  obtain ⟨g, o, cap, rfl, hcap, hmax, hF, hc⟩ := open_nodes h ht (by omega)
  obtain ⟨-, g0, g1, g2, g3, g4⟩ := hc j _ hg
  obtain ⟨ja, hja⟩ : ∃ ja, ja = j - 1 - b.size := ⟨_, rfl⟩
  obtain ⟨jb, hjb⟩ : ∃ jb, jb = j - 1 := ⟨_, rfl⟩
  rw [← hja] at hga
  rw [← hjb] at hgb
  rw [show nA (Frm.two c a b) j = (ja : Int) by simp only [nA]; omega] at g1
  rw [show nB (Frm.two c a b) j = (jb : Int) by simp only [nB]; omega] at g2
  simp only [nK, nT] at g3 g4
  unfold maxLen at hmax
  have hb1 := balloc (b0 w) (.cells #[.int .i64 (opI (.two c a b)), .int .i64 ja, .int .i64 jb, .int .i64 0, .string ByteArray.empty] 49)
  have hwn : w.heap.size < (w.alloc (.cells #[.int .i64 (opI (.two c a b)), .int .i64 ja, .int .i64 jb, .int .i64 0, .string ByteArray.empty] 49)).heap.size := by simp
  have HT := hid (OTo.of_below hb1 hB ov)
  have hrd := h.keep (Keeps.of_below (hb1.mono hB) fun _ h => h)
  have hvr := hvv.keep (Keeps.of_below (hb1.mono hB) fun _ h => h)
  have hor := ho.below hb1 (Nat.le_refl _)
  have hB1 := Nat.le_trans hB hb1.size
  have HIA := hid (fun (ha : evalF en.at a = 1) => iha G l _ vv ov _ B ja ns hrd ht hga h15 hvr hor hB1 ha (by simp only [Frm.size] at hl; omega))
  have HIB := hid (fun (hb : evalF en.at b = 1) => ihb G l _ vv ov _ B jb ns hrd ht hgb h15 hvr hor hB1 hb (by simp only [Frm.size] at hl; omega))
  obtain ⟨Av, cv, rfl, -⟩ := hvr.shape
  obtain ⟨nv, hnv⟩ : ∃ nv, nv = (G.map (evalF en.at)).length := ⟨_, rfl⟩
  have hja1 := get_lt hga
  have hjb1 := get_lt hgb
  rw [← hnv] at hvr hvv HIA HIB
  rw [← hnv]
  obtain ⟨hnv3, gv, sv, rfl, hFv, ta⟩ := vals_full hvr hga
  obtain ⟨-, gv', sv', hgv, -, tb⟩ := vals_full hvr hgb
  injection hgv with hgv
  injection hgv with q1 q2
  subst q1; subst q2
  clear hnv
  have i1 : (0 : Int) ≤ ↑j := by omega
  have i2 : (↑j : Int) < ↑l.length := by omega
  have i3 : (0 : Int) ≤ ↑ja := by omega
  have i4 : (↑ja : Int) < ↑nv := by omega
  have i5 : (0 : Int) ≤ ↑jb := by omega
  have i6 : (↑jb : Int) < ↑nv := by omega
  clear hnv3
  have hsa : (leftF en.at a).size ≤ 15 := by have := subs_small ht hga; have := left_size (e := en.at) (f := a); omega
  have hsz : (leftF en.at b).size ≤ 15 := by have := subs_small ht hgb; have := left_size (e := en.at) (f := b); omega
  have HLL : Hid (ns.length + (leftF en.at a).size + b.size ≤ 500) := hid (by have := left_size (e := en.at) (f := a); simp only [Frm.size] at hl; omega)
  have t3a := evalF_three en.at a
  have t3b := evalF_three en.at b
  have hev : evalF en.at a ≠ 1 → evalF en.at b = 1 := by cases c <;> simp only [evalF] at he <;> omega
  have HEV := hid hev
  have IHB := hid ihb
  have HOP := hid (left_op c a b)
  obtain ⟨op, hop⟩ : ∃ op, op = opI (Frm.two c a b) := ⟨_, rfl⟩
  have o1 : (op == 1) = false := by rw [hop, left_op]; cases c <;> rfl
  have o2 : (op == 2) = false := by rw [hop, left_op]; cases c <;> rfl
  have o3 : (3 : Int) ≤ op ∧ op ≤ 4 := by rw [hop, left_op]; cases c <;> decide
  rw [← hop] at g0 HT HIA HIB HOP hb1 hrd hvr hor hB1 hwn ta tb
  clear hop
  obtain ⟨va, hva⟩ : ∃ va, va = evalF en.at a := ⟨_, rfl⟩
  obtain ⟨vb, hvb⟩ : ∃ vb, vb = evalF en.at b := ⟨_, rfl⟩
  rw [← hva] at ta
  rw [← hvb] at tb
  have HR2 := hid hrd
  have HREST := hid (show TreeAt l G ∧ G[jb]? = some b ∧ l.length ≤ 15 from ⟨ht, hgb, h15⟩)
  have HNOV := hid (show ov.ownBlock ≠ some w.heap.size from fun e => by have := (ho.lt _ e).2; omega)
  rcases eqI va 1 with ⟨ea, pa⟩ | ⟨ea, pa⟩
  · have na := bne_t ea
    have HA1 : Hid (evalF en.at a = 1) := hid (hva.symm.trans pa)
    rcases eqI vb 1 with ⟨eb, pb'⟩ | ⟨eb, pb'⟩
    · have nb := bne_t eb
      have HB1 : Hid (evalF en.at b = 1) := hid (hvb.symm.trans pb')
      have HIA2 := hid (HIA.out HA1.out)
      have HLR := hid (left_AB (c := c) HA1.out HB1.out)
      have HVV := hid (show SliceRd tInt _ (Lt B) _ (G.map (evalF en.at)) from hvr)
      obtain ⟨La, hLa⟩ : ∃ La, La = leftF en.at a := ⟨_, rfl⟩
      obtain ⟨Lb, hLb⟩ : ∃ Lb, Lb = leftF en.at b := ⟨_, rfl⟩
      have IHB2 := hid (fun (ov4 : Value) (w4 : World) (h4 : Below B (w.alloc (.cells #[.int .i64 op, .int .i64 ja, .int .i64 jb, .int .i64 0, .string ByteArray.empty] 49)) w4) (ho4 : OwnF fNode 49 B w4 ov4 (ns ++ La.post ns.length)) (hs : B ≤ w4.heap.size) =>
        ihb G l _ _ ov4 w4 B jb _ (hrd.keep (Keeps.of_below h4 fun _ h => h)) ht hgb h15 (hvr.keep (Keeps.of_below h4 fun _ h => h)) ho4 hs HB1.out (by rw [List.length_append, Frm.post_length, hLa]; exact HLL.out))
      rw [← hLa] at HIA2 hsa HLR HLL
      rw [← hLb] at IHB2 hsz HLR
      obtain ⟨ln, hln⟩ : ∃ ln, ln = (ns ++ La.post ns.length).length := ⟨_, rfl⟩
      have hln2 : ln ≤ 600 ∧ 1 ≤ ln ∧ ln = ns.length + La.size := by
        rw [hln, List.length_append, Frm.post_length]
        have := Frm.size_pos La
        omega
      obtain ⟨lm, hlm⟩ : ∃ lm, lm = ((ns ++ La.post ns.length) ++ Lb.post (ns ++ La.post ns.length).length).length := ⟨_, rfl⟩
      have hlm2 : lm ≤ 700 ∧ 1 ≤ lm ∧ lm = ln + Lb.size := by
        rw [hlm, List.length_append, Frm.post_length, ← hln]
        have := Frm.size_pos Lb
        omega
      have iw : IntKind.i64.wrap ((ln : Int) - 1) = (ln : Int) - 1 := IntWalk.i64_in _ (by omega)
      have iw2 : IntKind.i64.wrap ((lm : Int) - 1) = (lm : Int) - 1 := IntWalk.i64_in _ (by omega)
      have HOK : Hid (fNode.ok ⟨op, (ln : Int) - 1, (lm : Int) - 1, 0, ⟨#[]⟩⟩) := hid (node_ok (by omega) (by omega) (by omega) (by omega) (by decide))
      have hl1 := hln2.1
      have hl2 := hlm2.1
      have HL2 := hid hln2
      have HL3 := hid hlm2
      have n0 : (w.alloc (.cells #[.int .i64 op, .int .i64 ja, .int .i64 jb, .int .i64 0, .string ByteArray.empty] 49)).cell? ⟨w.heap.size, 0, none⟩ = some (.int .i64 op) := World.cell?_alloc_new ..
      have n2 : (w.alloc (.cells #[.int .i64 op, .int .i64 ja, .int .i64 jb, .int .i64 0, .string ByteArray.empty] 49)).cell? ⟨w.heap.size, 2, none⟩ = some (.int .i64 jb) := World.cell?_alloc_new ..
      obtain ⟨iN, hiN⟩ := info_parts node_info
      have HIN := hid hiN
      replace hln := hid hln
      replace hlm := hid hlm
      clear hiN h hc ht hg ho he hja hjb hga hgb hb1 iha ihb hrd hva hvb pa pb' t3a t3b hev HIA HIB hvv hvr hor hLa hLb hln2 hlm2 IHB
      have hwn' := hwn
      go_enter Tryd.func41, Tryd.ntmps41
      go_wp2_with (first
        | (go_at_call 41; refine HIA2.out.mono ?_; clear HIA2; rintro e w4 ⟨ov4, rfl, T4, O4⟩
           obtain ⟨x0, hn4, hw4⟩ := T4.block hwn' HNOV.out n0
           have x2 := (T4.block hwn' HNOV.out n2).1
           have HT4 := hid T4
           have hB4 : B ≤ w4.heap.size := Nat.le_trans hB1 T4.size
           obtain ⟨A4, c4, hv4⟩ := O4.form
           subst hv4
           have HI4 := hid (IHB2.out _ w4 T4.below O4 hB4)
           have HO4 := hid O4
           have HN4 := hid hn4
           rw [← hln.out] at HO4 HT4 HI4 HN4
           rw [← hln.out]
           clear T4 O4 hn4)
        | (go_at_call 41; go_must (refine HI4.out.mono ?_); clear HI4; rintro e w5 ⟨ov5, rfl, T5, O5⟩
           obtain ⟨y0, hn5, hw5⟩ := T5.block hw4 HN4.out x0
           have HT5 := hid T5
           have hB5 : B ≤ w5.heap.size := Nat.le_trans hB4 T5.size
           rw [hln.out] at O5
           obtain ⟨A5, c5, hv5⟩ := O5.form
           subst hv5
           have HO5 := hid O5
           have hX : w5.ownsRow B 49 5 (.slice A5 ((ns ++ La.post ns.length) ++ Lb.post (ns ++ La.post ns.length).length).length c5) ((ns ++ La.post ns.length) ++ Lb.post (ns ++ La.post ns.length).length).length (fNode.all ((ns ++ La.post ns.length) ++ Lb.post (ns ++ La.post ns.length).length)) := O5.1
           rw [← hlm.out] at hX HO5 HT5
           rw [← hlm.out]
           have HX5 := hid (hX.alloc (.cells #[.int .i64 op, .int .i64 ((ln : Int) - 1), .int .i64 ((lm : Int) - 1), .int .i64 0, .string ⟨#[]⟩] 49))
           clear hX T5 O5)
        | (at_builtin
           go_must (refine wpList_append_src _ rfl (.tmp 81) (.tmp 89) _ rfl B 49 iN _ 5 48 Tryd.underlying23 HIN.out.1 HIN.out.2.1 HIN.out.2.2.1 HIN.out.2.2.2 rfl (by omega) (.slice A5 lm c5) lm (fNode.all ((ns ++ La.post ns.length) ++ Lb.post (ns ++ La.post ns.length).length)) rfl (by exact HX5.out) (some ⟨w5.heap.size, 0, none⟩) 1 1 (fNode.cells ⟨op, (ln : Int) - 1, (lm : Int) - 1, 0, ⟨#[]⟩⟩) rfl (by exact src_new _ _ rfl 5 (fNode.cells ⟨op, (ln : Int) - 1, (lm : Int) - 1, 0, ⟨#[]⟩⟩) rfl rfl) (by simp [fNode, Value.oneCell']) (by unfold maxLen; omega) (by omega) (by simp; omega) ?_)
           intro v6 w6 hown6 hg6 hat6))
      have HT6 := hid (OTo.grown HO5.out hB5 (balloc (b0 w5) _) hg6 hat6)
      replace hown6 := hid hown6
      clear hg6 hat6
      go_ret
      refine ⟨v6, rfl, ((HT.out.trans HT4.out).trans HT5.out).trans HT6.out, ?_⟩
      rw [HLR.out]
      have h9 := OwnF.snoc (f := fNode) HO5.out HOK.out (show w6.ownsRow B 49 5 v6 (_ + 1) _ from by rw [← hlm.out]; exact hown6.out)
      have e9 : ns ++ (Frm.two c La Lb).post ns.length = ((ns ++ La.post ns.length) ++ Lb.post (ns ++ La.post ns.length).length) ++ [⟨op, (ln : Int) - 1, (lm : Int) - 1, 0, ⟨#[]⟩⟩] := by
        rw [show (Frm.two c La Lb).post ns.length = La.post ns.length ++ (Lb.post (ns.length + La.size) ++ [⟨if c then 4 else 3, (ns.length + La.size : Nat) - 1, (ns.length + La.size + Lb.size : Nat) - 1, 0, ByteArray.empty⟩]) from rfl, ← HL2.out.2.2, ← HL3.out.2.2, ← HOP.out, List.append_assoc, List.append_assoc, ← hln.out]
        rfl
      rw [e9]
      exact h9
    · have nb := bne_f eb
      have HB1 : Hid (evalF en.at b ≠ 1) := hid (fun e => pb' (hvb.trans e))
      have HIA2 := hid (HIA.out HA1.out)
      clear h hc ht hg ho he hja hjb hga hgb hb1 iha ihb hrd hva hvb pa pb' t3a t3b hev HIA HIB hvv hvr hor
      go_enter Tryd.func41, Tryd.ntmps41
      go_wp2_with (first
        | (go_at_call 41; refine HIA2.out.mono ?_; rintro e w4 ⟨ov4, rfl, T4, O4⟩; replace T4 := hid T4; replace O4 := hid O4))
      go_ret
      rw [left_B HA1.out HB1.out]
      exact ⟨ov4, rfl, HT.out.trans T4.out, O4.out⟩
  · have na := bne_f ea
    have HA1 : Hid (evalF en.at a ≠ 1) := hid (fun e => pa (hva.trans e))
    have HIB2 := hid (HIB.out (HEV.out HA1.out))
    have eb : (vb == 1) = true := by rw [hvb, hev (fun e => pa (hva.trans e))]; rfl
    have nb := bne_t eb
    clear h hc ht hg ho he hja hjb hga hgb hb1 iha ihb hrd hva hvb pa t3a t3b hev HIA HIB hvv hvr hor
    go_enter Tryd.func41, Tryd.ntmps41
    go_wp2_with (first
      | (go_at_call 41; refine HIB2.out.mono ?_; rintro e w4 ⟨ov4, rfl, T4, O4⟩; replace T4 := hid T4; replace O4 := hid O4))
    go_ret
    rw [left_A HA1.out]
    exact ⟨ov4, rfl, HT.out.trans T4.out, O4.out⟩
theorem rleft_any (en : EnvT) (g : Frm) : RLeftC en g := by
  induction g with
  | is k s => exact rleft_is en k s
  | no a ih => exact rleft_no en a ih
  | two c a b iha ihb => exact rleft_two en c a b iha ihb
end Go.Proofs.YtmdnleafpmondaaDoor
