import Derived.Test.YthneiolcljnbeaaGreatDoorzH1
import Derived.Outline
namespace Go.Proofs.YthneiolcljnbeaaGreatDoor
open Go Go.RowKit
theorem w3_info : (Tryz.prog.info? 34).map (fun i => (i.zero, i.size, i.bytes)) = some (some (.slice none 0 0), 1, 24) := by kernel_rfl
theorem w2_info : (Tryz.prog.info? 87).map (fun i => (i.zero, i.size, i.bytes)) = some (some (.slice none 0 0), 1, 24) := by kernel_rfl
theorem w1_info : (Tryz.prog.info? 88).map (fun i => (i.zero, i.size, i.bytes)) = some (some (.slice none 0 0), 1, 24) := by kernel_rfl
def MBox (w : World) (b : Nat) (fv nv bv : Value) : Prop := w.heap[b]? = some (.cells #[fv, nv, bv] 36 (0, 0))
theorem MBox.cells {w : World} {b : Nat} {fv nv bv : Value} (h : MBox w b fv nv bv) : (w.cell? ⟨b, 0, none⟩ = some fv ∧ w.cell? ⟨b, 1, none⟩ = some nv ∧ w.cell? ⟨b, 2, none⟩ = some bv) ∧ ∀ o, w.frozen? ⟨b, o, none⟩ = false := by
 unfold MBox at h
 refine ⟨⟨?_, ?_, ?_⟩, fun o => frozen_of_row w b o _ _ h⟩ <;> rw [cell_of_row w b _ _ _ (0, 0) h] <;> rfl
theorem MBox.set3 {w : World} {b : Nat} {fv nv bv : Value} (h : MBox w b fv nv bv) (x y z : Value) : MBox (((w.setCell ⟨b, 0, none⟩ x).setCell ⟨b, 1, none⟩ y).setCell ⟨b, 2, none⟩ z) b x y z := by
 unfold MBox at h ⊢
 have h1 : (w.setCell ⟨b, 0, none⟩ x).heap[b]? = some (.cells #[x, nv, bv] 36 (0, 0)) := by rw [heap_setCell_same w b 0 _ _ _ h]; rfl
 have h2 : ((w.setCell ⟨b, 0, none⟩ x).setCell ⟨b, 1, none⟩ y).heap[b]? = some (.cells #[x, y, bv] 36 (0, 0)) := by rw [heap_setCell_same _ b 1 _ _ _ h1]; rfl
 rw [heap_setCell_same _ b 2 _ _ _ h2]
 rfl
def needsU (us : List UnitW) (u : UnitW) : List (List (List Term)) := u.cands.map fun c => c.needs.map (wantsL us)
def barsU (us : List UnitW) (u : UnitW) : List (List Term) := u.cands.map fun c => wantsL us c.bars
structure MSt (us : List UnitW) (B : Nat) (w : World) (b : Nat) (fv nv bv : Value) (u : Nat) : Prop where
 box : MBox w b fv nv bv
 lt : b < B
 full : ∃ l : List Int, l.length = u ∧ OwnF fInt 3 B w fv l
 needs : ∃ xs, OwnL [fv, nv, bv] (tSlice (tSlice (tSlice tTerm))) 34 w B nv ((needsM us).take u) xs
 bars : ∃ xs, OwnL [fv, nv, bv] (tSlice (tSlice tTerm)) 87 w B bv ((barsM us).take u) xs
def MaskedPost (us : List UnitW) (w : World) (e : Ending) (w' : World) : Prop := ∃ A n c nv bv, e = .returned (.agg #[.slice A n c, nv, bv]) ∧ MasksRd us w' (Lt w'.heap.size) (.agg #[.slice A n c, nv, bv]) ∧ Below w.heap.size w w'
theorem needs_len (us : List UnitW) : (needsM us).length = us.length := by unfold needsM; rw [List.length_map]
theorem bars_len (us : List UnitW) : (barsM us).length = us.length := by unfold barsM; rw [List.length_map]
theorem MSt.start {us : List UnitW} {w : World} {b : Nat} (h : MBox w b (.slice none 0 0) (.slice none 0 0) (.slice none 0 0)) (hb : b < w.heap.size) : MSt us w.heap.size w b (.slice none 0 0) (.slice none 0 0) (.slice none 0 0) 0 :=
 ⟨h, hb, ⟨[], rfl, OwnF.nil _ _ _ _⟩, ⟨[], OwnL.nil _ _ _ _ _⟩, ⟨[], OwnL.nil _ _ _ _ _⟩⟩
theorem MSt.later {us : List UnitW} {B : Nat} {w w' : World} {b : Nat} {fv nv bv : Value} {u : Nat} (h : MSt us B w b fv nv bv u) (hB : B ≤ w.heap.size) (hb : Below w.heap.size w w') : MSt us B w' b fv nv bv u := by
 obtain ⟨l, hl, hf⟩ := h.full
 obtain ⟨xs, hx⟩ := h.needs
 obtain ⟨ys, hy⟩ := h.bars
 exact ⟨(hb.block b (Nat.lt_of_lt_of_le h.lt hB)).trans h.box, h.lt, ⟨l, hl, hf.below hb (Nat.le_refl _)⟩, ⟨xs, hx.later hb⟩, ⟨ys, hy.later hb⟩⟩
theorem rowsL_snoc (us : List UnitW) (l : List (List WantD)) {k : Nat} (hk : k < l.length) : (l.take (k + 1)).map (wantsL us) = (l.take k).map (wantsL us) ++ [wantsL us l[k]] := by
 rw [take_snoc hk, List.map_append]
 rfl
theorem needsU_snoc (us : List UnitW) (u : UnitW) {i : Nat} (hi : i < u.cands.length) : (needsU us u).take (i + 1) = (needsU us u).take i ++ [u.cands[i].needs.map (wantsL us)] := by
 unfold needsU
 rw [← List.map_take, ← List.map_take, take_snoc hi, List.map_append]
 rfl
theorem barsU_snoc (us : List UnitW) (u : UnitW) {i : Nat} (hi : i < u.cands.length) : (barsU us u).take (i + 1) = (barsU us u).take i ++ [wantsL us u.cands[i].bars] := by
 unfold barsU
 rw [← List.map_take, ← List.map_take, take_snoc hi, List.map_append]
 rfl
theorem needsU_len (us : List UnitW) (u : UnitW) : (needsU us u).length = u.cands.length := by unfold needsU; rw [List.length_map]
theorem barsU_len (us : List UnitW) (u : UnitW) : (barsU us u).length = u.cands.length := by unfold barsU; rw [List.length_map]
structure MUn (us : List UnitW) (B : Nat) (w : World) (nv bv : Value) (u : UnitW) (i : Nat) : Prop where
 needs : ∃ xs, OwnL [nv, bv] (tSlice (tSlice tTerm)) 87 w B nv ((needsU us u).take i) xs
 bars : ∃ xs, OwnL [nv, bv] (tSlice tTerm) 88 w B bv ((barsU us u).take i) xs
theorem MUn.start (us : List UnitW) (B : Nat) (w : World) (u : UnitW) : MUn us B w (.slice none 0 0) (.slice none 0 0) u 0 := ⟨⟨[], OwnL.nil _ _ _ _ _⟩, ⟨[], OwnL.nil _ _ _ _ _⟩⟩
theorem mask_el {us : List UnitW} {B : Nat} {w7 w8 : World} {v7 v6 sv : Value} {l : List (List (List Term))} {m : List (List Term)} {xs ys : List Value} {W : List WantD} (hn : OwnL [v7, v6] (tSlice (tSlice tTerm)) 87 w7 B v7 l xs) (hb : OwnL [v7, v6] (tSlice tTerm) 88 w7 B v6 m ys)
  (hs : SliceRd tTerm w8 (fun b => w7.heap.size ≤ b ∧ b < w8.heap.size) sv (wantsL us W)) (hB : B ≤ w7.heap.size) : (tSlice tTerm).rd w8 (FX [v7, v6] B w8) [sv] (wantsL us W) :=
 ⟨_, rfl, hs.more fun b h => ⟨Nat.le_trans hB h.1, h.2, fun z hz => by
  rcases List.mem_cons.1 hz with rfl | hz
  ·intro e; have := (hn.own.lt b e).2; have := h.1; omega
  ·rw [List.mem_singleton.1 hz]; intro e; have := (hb.own.lt b e).2; have := h.1; omega⟩⟩
theorem mask_snd {B bz : Nat} {wu w8 w9 : World} {v7 v6 v9 sv x : Value} {l : List (List (List Term))} {m : List (List Term)} {y : List Term} {xs ys : List Value} {o : Obj} (hn : OwnL [v7, v6] (tSlice (tSlice tTerm)) 87 w8 B v7 l xs) (hb : OwnL [v7, v6] (tSlice tTerm) 88 w8 B v6 m ys)
  (he : (tSlice tTerm).rd w8 (FX [v7, v6] B w8) [sv] y) (hbu : Below B wu w8) (hB : B ≤ w8.heap.size) (hc : w8.cell? ⟨bz, 7, none⟩ = some x) (hz : bz < w8.heap.size) (h6 : ∀ b, v6.ownBlock = some b → b < bz)
  (hown : w9.ownsRow B 88 1 v9 (m.length + 1) (ys ++ [sv])) (hg : (w8.alloc o).grownBy w9 v6.ownBlock) (hat : v9.ownBlock = v6.ownBlock ∨ v9.ownBlock = some (w8.alloc o).heap.size) :
  (OwnL [v7, v9] (tSlice (tSlice tTerm)) 87 w9 B v7 l xs ∧ OwnL [v7, v9] (tSlice tTerm) 88 w9 B v9 (m ++ [y]) (ys ++ [sv])) ∧ Below B wu w9 ∧ w9.cell? ⟨bz, 7, none⟩ = some x := by
 refine ⟨pair_snd (by decide) hn hb (balloc (b0 w8) o) rfl he hown hg hat, ?_, ?_⟩
 ·exact (hbu.alloc hB o).grown hg (by simp; omega) (fun k h => (hb.own.lt k h).1)
 ·exact hg.cell (cell_below (balloc (b0 w8) o) hz hc) (by intro e; exact absurd (h6 bz e.symm) (by omega))
structure Tri (B bm : Nat) (w0 : World) (f0 n0 b0 : Value) (en eb : Value) (ne : List (List (List Term))) (be : List (List Term)) (w : World) (f n b : Value) (lf : List Int) (ln : List (List (List (List Term)))) (lb : List (List (List Term))) (xs ys : List Value) : Prop where
 box : MBox w bm f0 n0 b0
 lt : bm < B
 fr : Below bm w0 w
 sz : B ≤ w.heap.size
 hf : OwnF fInt 3 B w f lf
 hn : OwnL [f, n, b] (tSlice (tSlice (tSlice tTerm))) 34 w B n ln xs
 hb : OwnL [f, n, b] (tSlice (tSlice tTerm)) 87 w B b lb ys
 hen : SliceRd (tSlice (tSlice tTerm)) w (FX [f, n, b] B w) en ne
 heb : SliceRd (tSlice tTerm) w (FX [f, n, b] B w) eb be
section
variable {B bm : Nat} {w0 : World} {f0 n0 b0 en eb : Value} {ne : List (List (List Term))} {be : List (List Term)} {w W w' : World} {f n b f' n' b' : Value} {lf : List Int} {ln : List (List (List (List Term)))} {lb : List (List (List Term))} {xs ys : List Value}
theorem Tri.later (h : Tri B bm w0 f0 n0 b0 en eb ne be w f n b lf ln lb xs ys) (hb : Below w.heap.size w W) : Tri B bm w0 f0 n0 b0 en eb ne be W f n b lf ln lb xs ys :=
 have hk : ∀ k, FX [f, n, b] B w k → W.heap[k]? = w.heap[k]? := fun k hk => hb.block k hk.2.1
 ⟨(hb.block bm (Nat.lt_of_lt_of_le h.lt h.sz)).trans h.box, h.lt, h.fr.trans (hb.mono (Nat.le_trans (Nat.le_of_lt h.lt) h.sz)), Nat.le_trans h.sz hb.size, h.hf.below hb (Nat.le_refl _), h.hn.later hb, h.hb.later hb, (h.hen.keep hk).more fun _k hk => fx_later hk hb, (h.heb.keep hk).more fun _k hk => fx_later hk hb⟩
theorem tri_repl {u u' : Value} {X X' : List Value} (hn : u'.ownBlock = u.ownBlock ∨ u'.ownBlock = some W.heap.size) (hu : u ∈ X) (hX : ∀ x ∈ X', x = u' ∨ x ∈ X) : ∀ k, k < W.heap.size → (∀ z ∈ X, z.ownBlock ≠ some k) → ∀ z ∈ X', z.ownBlock ≠ some k := fun k hk h z hz => by
 rcases hX z hz with rfl | hz
 ·exact repl hn hk (h u hu)
 ·exact h z hz
theorem fx_grown {X X' : List Value} {u : Value} (hg : W.grownBy w' u.ownBlock) (hX : ∀ k, k < W.heap.size → (∀ z ∈ X, z.ownBlock ≠ some k) → ∀ z ∈ X', z.ownBlock ≠ some k) {α : Type} {t : Ty α} {v : Value} {l : List α} (hu : u ∈ X) (h : SliceRd t W (FX X B W) v l) : SliceRd t w' (FX X' B w') v l :=
 (h.keep fun k hk => hg.block k hk.2.1 (fun e => hk.2.2 u hu e.symm)).more fun k hk => ⟨hk.1, Nat.lt_of_lt_of_le hk.2.1 hg.size, hX k hk.2.1 hk.2.2⟩
theorem tri_box (h : Tri B bm w0 f0 n0 b0 en eb ne be W f n b lf ln lb xs ys) {u : Value} (hg : W.grownBy w' u.ownBlock) (hu : ∀ k, u.ownBlock = some k → B ≤ k) : MBox w' bm f0 n0 b0 ∧ Below bm w0 w' ∧ B ≤ w'.heap.size :=
 ⟨(hg.block bm (Nat.lt_of_lt_of_le h.lt h.sz) (fun e => by have := hu bm e.symm; have := h.lt; omega)).trans h.box, h.fr.grown hg (Nat.le_trans (Nat.le_of_lt h.lt) h.sz) (fun k hk => Nat.le_trans (Nat.le_of_lt h.lt) (hu k hk)), Nat.le_trans h.sz hg.size⟩
theorem Tri.growF {x : Int} (h0 : Tri B bm w0 f0 n0 b0 en eb ne be w f n b lf ln lb xs ys) (hx : I64 x) (hown : w'.ownsRow B 3 1 f' (lf.length + 1) (fInt.all lf ++ [.int .i64 x])) (hg : W.grownBy w' f.ownBlock) (hn : f'.ownBlock = f.ownBlock ∨ f'.ownBlock = some W.heap.size) (hb : Below w.heap.size w W) :
  Tri B bm w0 f0 n0 b0 en eb ne be w' f' n b (lf ++ [x]) ln lb xs ys := by
 have h := h0.later hb
 have hX := tri_repl (W := W) (X := [f, n, b]) (X' := [f', n, b]) hn (by simp) (by simp)
 obtain ⟨h1, h2, h3⟩ := tri_box h hg (fun k hk => (h.hf.lt k hk).1)
 exact ⟨h1, h.lt, h2, h3, h.hf.snoc (f := fInt) hx hown, h.hn.other (u := f) hg (by simp) (fun k hk => own_ne h.hn.own h.hf.1 (by decide) k hk) hX, h.hb.other (u := f) hg (by simp) (fun k hk => own_ne h.hb.own h.hf.1 (by decide) k hk) hX, fx_grown hg hX (by simp) h.hen, fx_grown hg hX (by simp) h.heb⟩
theorem Tri.growN (h0 : Tri B bm w0 f0 n0 b0 en eb ne be w f n b lf ln lb xs ys) (hown : w'.ownsRow B 34 1 n' (ln.length + 1) (xs ++ [en])) (hg : W.grownBy w' n.ownBlock) (hn : n'.ownBlock = n.ownBlock ∨ n'.ownBlock = some W.heap.size) (hb : Below w.heap.size w W) :
  Tri B bm w0 f0 n0 b0 en eb ne be w' f n' b lf (ln ++ [ne]) lb (xs ++ [en]) ys := by
 have h := h0.later hb
 have hX := tri_repl (W := W) (X := [f, n, b]) (X' := [f, n', b]) hn (by simp) (by intro x hx; simp at hx ⊢; rcases hx with h | h | h <;> simp [h])
 obtain ⟨h1, h2, h3⟩ := tri_box h hg (fun k hk => (h.hn.own.lt k hk).1)
 exact ⟨h1, h.lt, h2, h3, ⟨ownsRow_keep h.hf.1 fun g hg' => hg.block g (h.hf.1.lt g hg').2 (fun e => own_ne h.hf.1 h.hn.own (by decide) g hg' e.symm), h.hf.2⟩, h.hn.snoc (by simp) rfl ⟨_, rfl, h.hen⟩ hown hg hX, h.hb.other (u := n) hg (by simp) (fun k hk => own_ne h.hb.own h.hn.own (by decide) k hk) hX, fx_grown hg hX (by simp) h.hen, fx_grown hg hX (by simp) h.heb⟩
theorem Tri.growB (h0 : Tri B bm w0 f0 n0 b0 en eb ne be w f n b lf ln lb xs ys) (hown : w'.ownsRow B 87 1 b' (lb.length + 1) (ys ++ [eb])) (hg : W.grownBy w' b.ownBlock) (hn : b'.ownBlock = b.ownBlock ∨ b'.ownBlock = some W.heap.size) (hb : Below w.heap.size w W) :
  Tri B bm w0 f0 n0 b0 en eb ne be w' f n b' lf ln (lb ++ [be]) xs (ys ++ [eb]) := by
 have h := h0.later hb
 have hX := tri_repl (W := W) (X := [f, n, b]) (X' := [f, n, b']) hn (by simp) (by intro x hx; simp at hx ⊢; rcases hx with h | h | h <;> simp [h])
 obtain ⟨h1, h2, h3⟩ := tri_box h hg (fun k hk => (h.hb.own.lt k hk).1)
 exact ⟨h1, h.lt, h2, h3, ⟨ownsRow_keep h.hf.1 fun g hg' => hg.block g (h.hf.1.lt g hg').2 (fun e => own_ne h.hf.1 h.hb.own (by decide) g hg' e.symm), h.hf.2⟩, h.hn.other (u := b) hg (by simp) (fun k hk => own_ne h.hn.own h.hb.own (by decide) k hk) hX, h.hb.snoc (by simp) rfl ⟨_, rfl, h.heb⟩ hown hg hX, fx_grown hg hX (by simp) h.hen, fx_grown hg hX (by simp) h.heb⟩
theorem Tri.finish {us : List UnitW} {u : Nat} (h : Tri B bm w0 f0 n0 b0 en eb ne be w f n b lf ((needsM us).take u) ((barsM us).take u) xs ys) (hl : lf.length = u) : MSt us B (((w.setCell ⟨bm, 0, none⟩ f).setCell ⟨bm, 1, none⟩ n).setCell ⟨bm, 2, none⟩ b) bm f n b u ∧ Below bm w0 (((w.setCell ⟨bm, 0, none⟩ f).setCell ⟨bm, 1, none⟩ n).setCell ⟨bm, 2, none⟩ b) ∧ B ≤ (((w.setCell ⟨bm, 0, none⟩ f).setCell ⟨bm, 1, none⟩ n).setCell ⟨bm, 2, none⟩ b).heap.size := by
 have hk : ∀ k, k ≠ bm → (((w.setCell ⟨bm, 0, none⟩ f).setCell ⟨bm, 1, none⟩ n).setCell ⟨bm, 2, none⟩ b).heap[k]? = w.heap[k]? := fun k hk => by
  rw [heap_setCell_other _ _ _ _ hk, heap_setCell_other _ _ _ _ hk, heap_setCell_other _ _ _ _ hk]
 refine ⟨⟨h.box.set3 _ _ _, h.lt, ⟨lf, hl, ownsRow_keep h.hf.1 fun g hg => hk g (by have := (h.hf.1.lt g hg).1; have := h.lt; omega), h.hf.2⟩, ⟨_, ((h.hn.setOut (p := ⟨bm, 0, none⟩) h.lt _).setOut (p := ⟨bm, 1, none⟩) h.lt _).setOut (p := ⟨bm, 2, none⟩) h.lt _⟩, ⟨_, ((h.hb.setOut (p := ⟨bm, 0, none⟩) h.lt _).setOut (p := ⟨bm, 1, none⟩) h.lt _).setOut (p := ⟨bm, 2, none⟩) h.lt _⟩⟩, ?_, ?_⟩
 ·exact ((h.fr.setCell (p := ⟨bm, 0, none⟩) (Nat.le_refl _) _).setCell (p := ⟨bm, 1, none⟩) (Nat.le_refl _) _).setCell (p := ⟨bm, 2, none⟩) (Nat.le_refl _) _
 ·simpa using h.sz
end
theorem needsM_snoc (us : List UnitW) {u : Nat} (hu : u < us.length) : (needsM us).take (u + 1) = (needsM us).take u ++ [needsU us us[u]] := by
 unfold needsM
 rw [← List.map_take, ← List.map_take, take_snoc hu, List.map_append]
 rfl
theorem barsM_snoc (us : List UnitW) {u : Nat} (hu : u < us.length) : (barsM us).take (u + 1) = (barsM us).take u ++ [barsU us us[u]] := by
 unfold barsM
 rw [← List.map_take, ← List.map_take, take_snoc hu, List.map_append]
 rfl
set_option maxRecDepth 100000 in
set_option maxHeartbeats 8000000 in
theorem masked_any (v : Value) (us : List UnitW) (w : World) (h : WorldRd w (Lt w.heap.size) v us) (ho : UnitsOk us) :
  Calls Tryz.prog 7 #[v] w (MaskedPost us w) := by
 obtain ⟨it3, hi3⟩ := info_parts w3_info
 obtain ⟨it2, hi2⟩ := info_parts w2_info
 obtain ⟨it1, hi1⟩ := info_parts w1_info
 obtain ⟨ii, hii⟩ := info_parts int_info
 have HI3 := hid hi3
 have HI2 := hid hi2
 have HI1 := hid hi1
 have HII := hid hii
 have HW := hid h
 have HU := hid h.uni
 have HO := hid ho
 have HNS := hid ho.ns
 have h11 : us.length ≤ 11 := by have := ho.ns.hi; simpa [nsOf] using this
 have H4 := hid (fun u (hu : u < us.length) => show us[u].cands.length ≤ 4 by
  have := ho.ns.le u (by simpa [nsOf] using hu)
  simpa [nsOf] using this)
 obtain ⟨g, cap0, rfl, hg, hun⟩ := h.opened
 have HUN := hid hun
 clear hi3 hi2 hi1 hii h ho hun
 go_enter Tryz.func7, Tryz.ntmps7
 go_wp2_with fail
 obtain ⟨w0, hw0⟩ : ∃ w0 : World, w0 = ((w.alloc (.cells #[.slice (some ⟨g, 0, none⟩) us.length cap0] 25)).alloc (.cells #[.slice none 0 0, .slice none 0 0, .slice none 0 0] 36)).alloc (.cells #[.slice none 0 0, .slice none 0 0, .slice none 0 0] 36) := ⟨_, rfl⟩
 have hb0 : Below w.heap.size w w0 := hw0 ▸ balloc (balloc (balloc (b0 w) _) _) _
 have hs0 : w0.heap.size = w.heap.size + 3 := by rw [hw0]; simp
 have q0 : w0.cell? ⟨w.heap.size, 0, none⟩ = some (.slice (some ⟨g, 0, none⟩) us.length cap0) := by
  rw [hw0]
  exact cell_below (w := w.alloc _) (balloc (balloc (b0 _) _) _) (by simp) (by rw [alloc_cell]; rfl)
 have hbx : MBox w0 (w.heap.size + 1 + 1) (.slice none 0 0) (.slice none 0 0) (.slice none 0 0) := by
  have h := heap_alloc_new ((w.alloc (.cells #[.slice (some ⟨g, 0, none⟩) us.length cap0] 25)).alloc (.cells #[.slice none 0 0, .slice none 0 0, .slice none 0 0] 36)) (.cells #[.slice none 0 0, .slice none 0 0, .slice none 0 0] 36)
  simp only [World.size_alloc] at h
  rw [hw0]
  exact h
 have hrs : MBox w0 (w.heap.size + 1) (.slice none 0 0) (.slice none 0 0) (.slice none 0 0) := by
  rw [hw0]
  unfold MBox
  rw [Below.heap_alloc _ _ _ (by simp)]
  have h := heap_alloc_new (w.alloc (.cells #[.slice (some ⟨g, 0, none⟩) us.length cap0] 25)) (.cells #[.slice none 0 0, .slice none 0 0, .slice none 0 0] 36)
  simp only [World.size_alloc] at h
  exact h
 have HB0 := hid hb0
 have HST0 := hid (MSt.start (us := us) hbx (by omega))
 show Code.wp _ _ _ _ (((w.alloc _).alloc _).alloc _)
 rw [← hw0]
 obtain ⟨bm, hbm⟩ : ∃ bm, w.heap.size + 1 + 1 = bm := ⟨_, rfl⟩
 rw [hbm] at HST0 ⊢
 obtain ⟨br, hbr⟩ : ∃ br, w.heap.size + 1 = br := ⟨_, rfl⟩
 rw [hbr] at hrs ⊢
 have HRS := hid hrs
 have hm1 : w.heap.size < bm := by omega
 have hm2 : bm < w0.heap.size := by omega
 have hr1 : w.heap.size < br := by omega
 have hr2 : br < bm := by omega
 clear hw0 hb0 hbx hrs hs0 hbm hbr
 go_loopw [4] (fun uv wr => ∃ (u : Nat) (fv nv bv : Value), u ≤ us.length ∧ uv = .int .i64 u ∧ Hid (MSt us w0.heap.size wr bm fv nv bv u) ∧ Hid (Below bm w0 wr) ∧ Hid (w0.heap.size ≤ wr.heap.size)) (fun uv _ => us.length - (intOf uv).toNat)
 case atStart => exact ⟨0, _, _, _, Nat.zero_le _, rfl, HST0, hid (Below.refl _ _), hid (Nat.le_refl _)⟩
 case round =>
  obtain ⟨u, fv, nv, bv, hu, rfl, hst, hbl, hsz⟩ := hrel
  have hszr := hsz.out
  have HBW := hid (HB0.out.trans (hbl.out.mono (by omega)))
  have qr := cell_below hbl.out (by omega) q0
  by_cases hlt : u < us.length
  ·have i0 : (0 : Int) ≤ ↑u := by omega
   have i1 : (↑u : Int) < ↑us.length := by omega
   obtain ⟨Ac, cc, hcu, hcd⟩ := HUN.out u hlt
   have HCU := hid hcu
   have HCD := hid hcd
   have hn4 := H4.out u hlt
   obtain ⟨n, hn⟩ : ∃ n, us[u].cands.length = n := ⟨_, rfl⟩
   have HN := hid hn
   rw [hn] at hn4 HCU
   clear hcu hcd hn
   go_wp2_with fail
   obtain ⟨wu, hwu⟩ : ∃ wu : World, wr = wu := ⟨_, rfl⟩
   rw [hwu] at hst hbl hsz HBW hszr qr ⊢
   clear hwu
   go_loopw [5, 6, 7] (fun nv2 bv2 iv wr => ∃ i : Nat, i ≤ n ∧ iv = .int .i64 i ∧ Hid (MUn us wu.heap.size wr nv2 bv2 us[u] i) ∧ Hid (Below wu.heap.size wu wr)) (fun _ _ iv _ => n - (intOf iv).toNat)
   case atStart => exact ⟨0, Nat.zero_le _, rfl, hid (MUn.start _ _ _ _), hid (b0 wu)⟩
   case round =>
    obtain ⟨i, hi, rfl, hun, hb⟩ := hrel
    have HBW2 := hid (bstep HBW.out (hb.out.mono (by have := HBW.out.size; omega)))
    have HBWr := hid (HBW.out.trans (hb.out.mono HBW.out.size))
    have qr2 := cell_below hb.out (by omega) qr
    have cu := cell_below HBWr.out hg HCU.out
    by_cases hlti : i < n
    ·have j0 : (0 : Int) ≤ ↑i := by omega
     have j1 : (↑i : Int) < ↑n := by omega
     have hltn : i < us[u].cands.length := by rw [HN.out]; exact hlti
     obtain ⟨gc, oc, nv3, bv3, hAc, hFc, hat, hvB, hnd, hbr⟩ := HCD.out i hltn
     subst hAc
     have HCO := hid (HO.out.cands _ (List.getElem_mem hlt) _ (List.getElem_mem hltn))
     have HIN := hid (ok_inH HO.out (List.getElem?_eq_getElem hlt) (List.getElem?_eq_getElem hltn))
     obtain ⟨cd, hcd⟩ : ∃ cd, us[u].cands[i]'hltn = cd := ⟨_, rfl⟩
     have HCDE := hid hcd
     rw [hcd] at hat hvB hnd hbr HCO HIN
     obtain ⟨c0, c1, c2, c3, c4, c5, c6, c7⟩ := hat.below HBWr.out hFc
     obtain ⟨An, cn, rfl, hcn, hcnm, hnl⟩ := hnd.lists
     obtain ⟨Ab, cb, rfl, hcb, hcbm, -⟩ := hbr.wants
     have HNL := hid hnl
     have HBRS := hid hbr
     obtain ⟨nn, hnn⟩ : ∃ nn, cd.needs.length = nn := ⟨_, rfl⟩
     have HNN := hid hnn
     rw [hnn] at c6 hcn
     unfold maxLen at hcnm hcbm
     have hnn8 : nn ≤ 8 := by rw [← hnn]; exact HCO.out.1
     clear hat hvB hnd hbr hnl hnn hcd
     go_wp2_with fail
     obtain ⟨wb, hwb⟩ : ∃ wb : World, wb = wr.alloc (.cells #[.int .i64 cd.v.major, .int .i64 cd.v.minor, .int .i64 cd.v.patch, .string cd.v.pre, .string cd.v.build, .int .i64 cd.sh, .slice An nn cn, .slice Ab cd.bars.length cb] 55) := ⟨_, rfl⟩
     have hbb : Below wr.heap.size wr wb := hwb ▸ balloc (b0 wr) _
     have hsb : wb.heap.size = wr.heap.size + 1 := by rw [hwb]; simp
     have x6 : wb.cell? ⟨wr.heap.size, 6, none⟩ = some (.slice An nn cn) := by rw [hwb, alloc_cell]; rfl
     have x7 : wb.cell? ⟨wr.heap.size, 7, none⟩ = some (.slice Ab cd.bars.length cb) := by rw [hwb, alloc_cell]; rfl
     have qb := cell_below hbb (by have := hb.out.size; omega) qr2
     have HUNB := hid hun.out
     have HBWB := hid (show Below w.heap.size w wb from HBWr.out.trans (hbb.mono HBWr.out.size))
     have hwur := hb.out.size
     have HBB := hid hbb
     rw [← hwb]
     obtain ⟨bz, hbz⟩ : ∃ bz, wr.heap.size = bz := ⟨_, rfl⟩
     rw [hbz] at x6 x7 hsb ⊢
     have hbz2 : wu.heap.size ≤ bz := by omega
     have hbzb : bz < wb.heap.size := by omega
     have HBZ := hid hbz
     clear hwb hbb hbz c0 c1 c2 c3 c4 c5 c6 c7 cu qr2 hsb
     have hwsz : w.heap.size < wb.heap.size := by omega
     go_loopw [9, 10] (fun rv kv wq => ∃ (k : Nat) (xs : List Value), k ≤ nn ∧ kv = .int .i64 k ∧ Hid (OwnT (tSlice tTerm) 88 wq wb.heap.size rv ((cd.needs.take k).map (wantsL us)) xs) ∧ Hid (Below wb.heap.size wb wq)) (fun _ kv _ => nn - (intOf kv).toNat)
     case atStart => exact ⟨0, [], Nat.zero_le _, rfl, hid (OwnT.nil _ _ _ _), hid (b0 wb)⟩
     case round =>
      obtain ⟨k, xs, hk, rfl, how, hbq⟩ := hrel
      have HBQ := hid (show Below w.heap.size w wr from HBWr.out.trans ((HBB.out.mono (by have := HBZ.out; omega)).trans (hbq.out.mono (by omega))))
      have qq := cell_below hbq.out hwsz qb
      have y6 := cell_below hbq.out hbzb x6
      have y7 := cell_below hbq.out hbzb x7
      by_cases hltk : k < nn
      ·have hkl : k < cd.needs.length := by rw [HNN.out]; exact hltk
       have HS := hid (rowsL_snoc us cd.needs hkl)
       obtain ⟨gn, on_, lv, hAn, hFn, hcn1, hlr⟩ := HNL.out k hkl
       subst hAn
       have hrow := HCO.out.2.1 _ (List.getElem_mem hkl)
       have HWT := hid (fun (W : World) (hb : Below w.heap.size w W) => wants_any (.agg #[.slice (some ⟨g, 0, none⟩) us.length cap0]) lv us (cd.needs[k]'hkl) W (HW.out.lift hb hb.size) HO.out (hlr.lift hb hb.size) (by have := hrow.1; omega) (HIN.out.1 _ (List.getElem_mem hkl)))
       obtain ⟨Al, cl, rfl, -⟩ := hlr.wants
       obtain ⟨ll, hll⟩ : ∃ ll, (cd.needs[k]'hkl).length = ll := ⟨_, rfl⟩
       rw [hll] at hcn1 HWT
       have ck := cell_below HBQ.out hFn hcn1
       have ckb := cell_below HBWB.out hFn hcn1
       have hgnb : gn < wb.heap.size := Nat.lt_of_lt_of_le hFn HBWB.out.size
       have k0 : (0 : Int) ≤ ↑k := by omega
       have k1 : (↑k : Int) < ↑nn := by omega
       obtain ⟨Ar, cr, hrv⟩ := own_form how.out.own
       have hrl : ((cd.needs.take k).map (wantsL us)).length = k := by rw [List.length_map, List.length_take, HNN.out]; omega
       have HRL := hid hrl
       rw [hrl] at hrv
       subst hrv
       have HOWN := hid (show wr.ownsRow wb.heap.size 88 1 (.slice Ar k cr) k xs by have h := how.out.own; rw [HRL.out] at h; exact h)
       have hgnw : gn < wr.heap.size := Nat.lt_of_lt_of_le hFn HBQ.out.size
       have hbqs := hbq.out.size
       have hz1 : w.heap.size < wr.heap.size := by omega
       have hz2 : bz < wr.heap.size := by omega
       clear hlr hrow hcn1 hll hrl
       go_wp2_with fail
       go_region_held3 (fun w' => w'.cell? ⟨w.heap.size, 0, none⟩ = some (.slice (some ⟨g, 0, none⟩) us.length cap0) ∧ w'.cell? ⟨bz, 6, none⟩ = some (.slice (some ⟨gn, on_, none⟩) nn cn) ∧ w'.cell? ⟨gn, on_ + k, none⟩ = some (.slice Al ll cl)) (first | exact ⟨by assumption, by assumption, by assumption⟩ | go_keep) (first
        | (go_at_call 28; go_must (refine (HWT.out _ (bstep HBQ.out (b0 wr).drew)).mono ?_; rintro e w3 ⟨sv, rfl, hsv, hb3⟩; obtain ⟨As, cs3, rfl, -⟩ := hsv.terms; rw [wantsL_len] at hsv ⊢; obtain ⟨ls, hls⟩ : ∃ ls, (cd.needs[k]'hkl).length = ls := ⟨_, rfl⟩; rw [hls] at hsv ⊢; have HB3 := hid (show Below wr.heap.size wr w3 from bstep (b0 wr).drew hb3); have HSV := hid (show SliceRd tTerm w3 (fun b => wr.heap.size ≤ b ∧ b < w3.heap.size) (.slice As ls cs3) (wantsL us (cd.needs[k]'hkl)) from hsv); have f0 := cell_below HB3.out hz1 qq; have f1 := cell_below HB3.out hz2 y6; have f2 := cell_below HB3.out hgnw ck; have HTF := hid (fun o => show SliceRd tTerm (w3.alloc o) (fun b => wb.heap.size ≤ b ∧ b < (w3.alloc o).heap.size ∧ (Value.slice Ar k cr).ownBlock ≠ some b) (.slice As ls cs3) (wantsL us (cd.needs[k]'hkl)) from (HSV.out.keep (Keeps.of_below (balloc (b0 w3) o) fun _ h => h.2)).more fun b h => ⟨by have := h.1; omega, Nat.lt_of_lt_of_le h.2 (balloc (b0 w3) o).size, fun e => by have h1 := (HOWN.out.lt b e).2; have := h.1; omega⟩); clear hb3 hsv hls))
        | (refine step_guard (.tmp 45) (.tmp 53) 87 rfl ?_; go_must (refine step_append_src _ rfl (.tmp 45) (.tmp 53) 87 rfl wb.heap.size 88 it1 _ 1 24 Tryz.underlying87 HI1.out.1 HI1.out.2.1 HI1.out.2.2.1 HI1.out.2.2.2 rfl (by omega) (.slice Ar k cr) k xs (by rfl) (by exact ownsRow_below HOWN.out (balloc HB3.out _) (fun g hg => (HOWN.out.lt g hg).2)) (some ⟨w3.heap.size, 0, none⟩) 1 1 [.slice As ls cs3] (by rfl) (by exact src_new _ _ rfl 1 _ rfl rfl) (by simp [Value.oneCell']) (by unfold maxLen; omega) (by omega) (by have := HB3.out.size; simp; omega) ?_; intro v5 w5 hown5 hg5 hat5; have HO5 := hid (OwnT.snoc (t := tSlice tTerm) (x := wantsL us (cd.needs[k]'hkl)) (cs := [.slice As ls cs3]) (how.out.later (balloc HB3.out _)) rfl ⟨_, rfl, HTF.out _⟩ (by rw [HRL.out]; exact hown5) hg5 hat5); have HB5 := hid (Below.grown (hbq.out.trans ((balloc HB3.out _).mono hbq.out.size)) hg5 (by have := HB3.out.size; simp; omega) (fun k h => (HOWN.out.lt k h).1)); have e0 := cell_below HB5.out hwsz qb; have e1 := cell_below HB5.out hbzb x6; have e2 := cell_below HB5.out hgnb ckb; clear hown5 hg5 hat5)))
       go_wp2_with fail
       exact ⟨⟨k + 1, _, by omega, by go_num, hid (by rw [HS.out]; exact HO5.out), HB5⟩, by simp [intOf]; omega⟩
      ·have hkn : k = nn := by omega
       subst hkn
       have HROWS := hid (show SliceRd (tSlice tTerm) wr (fun b => wb.heap.size ≤ b ∧ b < wr.heap.size) u9 (cd.needs.map (wantsL us)) by
        have h := how.out.rdF
        rwa [List.take_of_length_le (by rw [HNN.out]; exact Nat.le_refl _)] at h)
       obtain ⟨Ar, cr, hrv⟩ := own_form how.out.own
       have hrl : ((cd.needs.take k).map (wantsL us)).length = k := by rw [List.length_map, List.length_take, HNN.out]; omega
       rw [hrl] at hrv
       subst hrv
       obtain ⟨⟨xs5, hn5⟩, ⟨xs6, hb6⟩⟩ := HUNB.out
       have HN5 := hid ((hn5.later HBB.out).later hbq.out)
       have HB6 := hid ((hb6.later HBB.out).later hbq.out)
       have hl5 : ((needsU us us[u]).take i).length = i := by rw [List.length_take, needsU_len, HN.out]; omega
       have hl6 : ((barsU us us[u]).take i).length = i := by rw [List.length_take, barsU_len, HN.out]; omega
       have HO5 := hid (fun (b : Nat) (h : u5.ownBlock = some b) => (show b < bz by have h1 := (hn5.own.lt b h).2; have := HBZ.out; omega))
       have HO6 := hid (fun (b : Nat) (h : u6.ownBlock = some b) => (show b < bz by have h1 := (hb6.own.lt b h).2; have := HBZ.out; omega))
       obtain ⟨A5, c5, hv5⟩ := own_form hn5.own
       obtain ⟨A6, c6, hv6⟩ := own_form hb6.own
       rw [hl5] at hv5
       rw [hl6] at hv6
       subst hv5 hv6
       have HL5 := hid hl5
       have HL6 := hid hl6
       have HWT := hid (fun (W : World) (hb : Below w.heap.size w W) => wants_any (.agg #[.slice (some ⟨g, 0, none⟩) us.length cap0]) (.slice Ab cd.bars.length cb) us cd.bars W (HW.out.lift hb hb.size) HO.out (HBRS.out.lift hb hb.size) (by have := HCO.out.2.2.1; omega) HIN.out.2)
       have hbqs := hbq.out.size
       have hz1 : w.heap.size < wr.heap.size := by omega
       have hz2 : bz < wr.heap.size := by omega
       clear hrl hn5 hb6 hl5 hl6 hltk
       go_wp2_with fail
       have tok := hid True.intro
       have HP5 := hid (fun (b : Nat) (h : wb.heap.size ≤ b ∧ b < wr.heap.size) => show FX [.slice A5 i c5, .slice A6 i c6] wu.heap.size wr b from ⟨by omega, h.2, fun z hz => by
        rcases List.mem_cons.1 hz with rfl | hz
        ·intro e; have := HO5.out b e; omega
        ·rw [List.mem_singleton.1 hz]; intro e; have := HO6.out b e; omega⟩)
       have HE5 := hid (show (tSlice (tSlice tTerm)).rd wr (FX [.slice A5 i c5, .slice A6 i c6] wu.heap.size wr) [.slice Ar k cr] (cd.needs.map (wantsL us)) from ⟨_, rfl, HROWS.out.more HP5.out⟩)
       have HK := hid (fun (W w7 : World) (v7 : Value) (hg7 : W.grownBy w7 (Value.slice A5 i c5).ownBlock) (hat7 : v7.ownBlock = (Value.slice A5 i c5).ownBlock ∨ v7.ownBlock = some W.heap.size) (hown7 : w7.ownsRow wu.heap.size 87 1 v7 (i + 1) (xs5 ++ [.slice Ar k cr])) (hW : Below wr.heap.size wr W) =>
        (show ((∃ zs, OwnL [v7, .slice A6 i c6] (tSlice (tSlice tTerm)) 87 w7 wu.heap.size v7 ((needsU us us[u]).take (i + 1)) zs) ∧ OwnL [v7, .slice A6 i c6] (tSlice tTerm) 88 w7 wu.heap.size (.slice A6 i c6) ((barsU us us[u]).take i) xs6) ∧ Below wu.heap.size wu w7 ∧ bz < w7.heap.size ∧ w7.cell? ⟨bz, 7, none⟩ = some (.slice Ab cd.bars.length cb) from by
         have hpf := pair_fst (w' := w7) (a' := v7) (by decide) HN5.out HB6.out hW rfl HE5.out (by rw [HL5.out]; exact hown7) hg7 hat7
         refine ⟨⟨⟨_, by rw [needsU_snoc us us[u] hltn, HCDE.out]; exact hpf.1⟩, hpf.2⟩, ?_, Nat.lt_of_lt_of_le hz2 (Nat.le_trans hW.size hg7.size), ?_⟩
         ·exact (hb.out.trans ((HBB.out.mono (by have := HBZ.out; omega)).trans ((hbq.out.mono (by omega)).trans (hW.mono (by omega))))).grown hg7 (by have := hW.size; omega) (fun k h => (HN5.out.own.lt k h).1)
         ·exact hg7.cell (cell_below hW hz2 y7) (by intro e; exact absurd (HO5.out bz e.symm) (by omega))))
       go_region_held3 (fun w' => w'.cell? ⟨w.heap.size, 0, none⟩ = some (.slice (some ⟨g, 0, none⟩) us.length cap0) ∧ w'.cell? ⟨bz, 7, none⟩ = some (.slice Ab cd.bars.length cb)) (first | exact ⟨by assumption, by assumption⟩ | go_keep) (first
        | (refine step_guard (.tmp 55) (.tmp 57) 34 rfl ?_; clear tok; go_must (refine step_append_src _ rfl (.tmp 55) (.tmp 57) 34 rfl wu.heap.size 87 it2 _ 1 24 Tryz.underlying34 HI2.out.1 HI2.out.2.1 HI2.out.2.2.1 HI2.out.2.2.2 rfl (by omega) (.slice A5 i c5) i xs5 (by rfl) (by have h := HN5.out.own; rw [HL5.out] at h; first | exact own_alloc_drew h _ | exact h.alloc _) (some ⟨wr.heap.size, 0, none⟩) 1 1 [.slice Ar k cr] (by rfl) (by first | exact src_new _ _ rfl 1 _ rfl rfl | exact src_new_drew _ _ rfl 1 _ rfl rfl) (by simp [Value.oneCell']) (by unfold maxLen; omega) (by omega) (by simp; omega) ?_; intro v7 w7 hown7 hg7 hat7; have HK7 := hid (HK.out _ w7 v7 hg7 hat7 hown7 (by first | exact (balloc (b0 wr) _).drew | exact balloc (b0 wr).drew _)); have HB7 := hid HK7.out.2.1; have e0 := cell_below HB7.out (by omega) qr; have e1 := HK7.out.2.2.2; obtain ⟨A7, c7, rfl⟩ := own_form hown7; clear hown7 hg7 hat7))
        | (go_at_call 28; go_must (refine (HWT.out w7 (HBW.out.trans (HB7.out.mono HBW.out.size))).mono ?_; rintro e w8 ⟨sv, rfl, hsv, hb8⟩; obtain ⟨As, cs8, rfl, -⟩ := hsv.terms; rw [wantsL_len] at hsv ⊢; obtain ⟨⟨⟨zs7, hn7⟩, hb7⟩, -, hz7, hc7⟩ := HK7.out; have HN8 := hid (hn7.later hb8); have HB8 := hid (hb7.later hb8); have HE8 := hid (mask_el hn7 hb7 hsv (by omega)); have HBB8 := hid (show Below wu.heap.size wu w8 from HB7.out.trans (hb8.mono HB7.out.size)); have HC8 := hid (cell_below hb8 hz7 hc7); have HZ8 := hid (Nat.lt_of_lt_of_le hz7 hb8.size); have g0 := cell_below HBB8.out (by omega) qr; have g1 := HC8.out; clear hsv hb8 hn7 hb7 hc7))
        | (refine step_guard (.tmp 59) (.tmp 64) 87 rfl ?_; go_must (refine step_append_src _ rfl (.tmp 59) (.tmp 64) 87 rfl wu.heap.size 88 it1 _ 1 24 Tryz.underlying87 HI1.out.1 HI1.out.2.1 HI1.out.2.2.1 HI1.out.2.2.2 rfl (by omega) (.slice A6 i c6) i xs6 (by rfl) (by have h := HB8.out.own; rw [HL6.out] at h; exact h.alloc _) (some ⟨w8.heap.size, 0, none⟩) 1 1 [.slice As cd.bars.length cs8] (by rfl) (by exact src_new _ _ rfl 1 _ rfl rfl) (by simp [Value.oneCell']) (by unfold maxLen; omega) (by omega) (by have := HBB8.out.size; simp; omega) ?_; intro v9 w9 hown9 hg9 hat9; have HK9 := hid (mask_snd (bz := bz) HN8.out HB8.out HE8.out HBB8.out HBB8.out.size HC8.out HZ8.out (fun b h => HO6.out b h) (by rw [HL6.out]; exact hown9) hg9 hat9); have e2 := cell_below HK9.out.2.1 (by omega) qr; have e3 := HK9.out.2.2; obtain ⟨A9, c9, rfl⟩ := own_form hown9; clear hown9 hg9 hat9)))
       have HUN9 := hid (show MUn us wu.heap.size w9 (.slice A7 (i + 1) c7) (.slice A9 (i + 1) c9) us[u] (i + 1) from ⟨⟨_, HK9.out.1.1⟩, ⟨_, by rw [barsU_snoc us us[u] hltn, HCDE.out]; exact HK9.out.1.2⟩⟩)
       have HB9 := hid HK9.out.2.1
       go_wp2_with fail
       exact ⟨⟨i + 1, by omega, by go_num, HUN9, HB9⟩, by simp [intOf]; omega⟩
    ·have hin : i = n := by omega
     subst hin
     obtain ⟨lf, hlf, hff⟩ := hst.out.full
     obtain ⟨xs, hnn⟩ := hst.out.needs
     obtain ⟨ys, hbb⟩ := hst.out.bars
     obtain ⟨zs5, hz5⟩ := hun.out.needs
     obtain ⟨zs6, hz6⟩ := hun.out.bars
     have hws := hb.out.size
     have HFX := hid (fun (b : Nat) (h : wu.heap.size ≤ b ∧ b < wr.heap.size) => show FX [fv, nv, bv] w0.heap.size wr b from ⟨by omega, h.2, fun z hz => by
      simp only [List.mem_cons, List.not_mem_nil, or_false] at hz
      rcases hz with rfl | rfl | rfl
      ·intro e; have := (hff.lt b e).2; omega
      ·intro e; have := (hnn.own.lt b e).2; omega
      ·intro e; have := (hbb.own.lt b e).2; omega⟩)
     have e5 : (needsU us us[u]).take i = needsU us us[u] := List.take_of_length_le (by rw [needsU_len, HN.out]; exact Nat.le_refl _)
     have e6 : (barsU us us[u]).take i = barsU us us[u] := List.take_of_length_le (by rw [barsU_len, HN.out]; exact Nat.le_refl _)
     have hz5r := hz5.rdF
     have hz6r := hz6.rdF
     rw [e5] at hz5r
     rw [e6] at hz6r
     have HTRI := hid (show Tri w0.heap.size bm w0 fv nv bv u5 u6 (needsU us us[u]) (barsU us us[u]) wr fv nv bv lf ((needsM us).take u) ((barsM us).take u) xs ys from
      ⟨(hst.out.later hszr hb.out).box, hst.out.lt, hbl.out.trans (hb.out.mono (by omega)), by omega, hff.below hb.out (Nat.le_refl _), hnn.later hb.out, hbb.later hb.out, hz5r.more HFX.out, hz6r.more HFX.out⟩)
     obtain ⟨A5, c5, hv5⟩ := own_form hz5.own
     obtain ⟨A6, c6, hv6⟩ := own_form hz6.own
     have hl5 : ((needsU us us[u]).take i).length = i := by rw [e5, needsU_len, HN.out]
     have hl6 : ((barsU us us[u]).take i).length = i := by rw [e6, barsU_len, HN.out]
     rw [hl5] at hv5
     rw [hl6] at hv6
     subst hv5 hv6
     have HLF := hid hlf
     have HLN := hid (show ((needsM us).take u).length = u by rw [List.length_take, needs_len]; omega)
     have HLB := hid (show ((barsM us).take u).length = u by rw [List.length_take, bars_len]; omega)
     obtain ⟨Af, cf, hvf⟩ := hff.form
     rw [hlf] at hvf
     obtain ⟨An_, cn_, hvn⟩ := own_form hnn.own
     rw [HLN.out] at hvn
     obtain ⟨Ab_, cb_, hvb⟩ := own_form hbb.own
     rw [HLB.out] at hvb
     subst hvf hvn hvb
     have HOF := hid (fun (k : Nat) (h : (Value.slice Af u cf).ownBlock = some k) => (show k < wr.heap.size by have := (hff.lt k h).2; omega))
     have HON := hid (fun (k : Nat) (h : (Value.slice An_ u cn_).ownBlock = some k) => (show k < wr.heap.size by have := (hnn.own.lt k h).2; omega))
     have HFL := hid (fun (W : World) (hb : Below wr.heap.size wr W) => rfull_any (.agg #[.slice (some ⟨g, 0, none⟩) us.length cap0]) (nsOf us) u W _ (uni_later HU.out (bstep HBWr.out hb)) HNS.out ⟨by omega, by omega⟩ (fun _ h => h))
     rw [fullF_nat] at HFL
     have hf31 := fullN_le HNS.out u
     obtain ⟨fl, hfl⟩ : ∃ fl, fullN (nsOf us) u = fl := ⟨_, rfl⟩
     rw [hfl] at HFL hf31
     have HXI := hid (i64_small hf31)
     obtain ⟨⟨t0, t1, t2⟩, -⟩ := HTRI.out.box.cells
     have qrr := cell_below HTRI.out.fr (by omega) q0
     have hu11 : u ≤ 11 := by omega
     have hw0s : w.heap.size < w0.heap.size := by omega
     clear hlf hff hnn hbb hz5 hz6 hz5r hz6r e5 e6 hl5 hl6 hfl hlti
     go_wp2_with fail
     refine wp_region_till (S := fun w' => w'.cell? ⟨w.heap.size, 0, none⟩ = some (.slice (some ⟨g, 0, none⟩) us.length cap0) ∧ w'.cell? ⟨bm, 0, none⟩ = some (.slice Af u cf) ∧ w'.cell? ⟨bm, 1, none⟩ = some (.slice An_ u cn_) ∧ w'.cell? ⟨bm, 2, none⟩ = some (.slice Ab_ u cb_)) 18 (by kernel_rfl) ⟨qrr, t0, t1, t2⟩ (fun hHeld => ?_)
     refine Till.takeW 0 (v := ?_) rfl (by kernel_rfl) (by kernel_rfl) (by kernel_rfl) (fun _ _ _ h => h) (by kernel_rfl) (by assumption) (Or.inl ⟨by rfl, ?_⟩) ?_
     rotate_left 1
     ·intro w' hSw; (try dsimp only at hSw); go_simp; try with_reducible rfl
     try simp only [Act.put, List.setIfInBounds_toArray]
     refine Till.take 1 (v := ?_) rfl (by kernel_rfl) (by kernel_rfl) (by kernel_rfl) (fun _ _ _ h => h) (by kernel_rfl) (by kernel_rfl) (by kernel_rfl) (Or.inl ⟨by rfl, ?_⟩) (by assumption) ?_
     rotate_left 1
     ·intro w' hSw; (try dsimp only at hSw); go_simp; try with_reducible rfl
     try simp only [Act.put]
     refine Till.take 2 (v := ?_) rfl (by kernel_rfl) (by kernel_rfl) (by kernel_rfl) (fun _ _ _ h => h) (by kernel_rfl) (by kernel_rfl) (by kernel_rfl) (Or.inl ⟨by rfl, ?_⟩) (by assumption) ?_
     rotate_left 1
     ·intro w' hSw; (try dsimp only at hSw); go_simp; try with_reducible rfl
     try simp only [Act.put]
     refine Till.takeW 3 (v := ?_) rfl (by kernel_rfl) (by kernel_rfl) (by kernel_rfl) (fun _ _ _ h => h) (by kernel_rfl) (by assumption) (Or.inl ⟨by rfl, ?_⟩) ?_
     rotate_left 1
     ·intro w' hSw; (try dsimp only at hSw); go_simp; try with_reducible rfl
     try simp only [Act.put]
     refine Till.takeW 7 (v := ?_) rfl (by kernel_rfl) (by kernel_rfl) (by kernel_rfl) (fun _ _ _ h => h) (by kernel_rfl) (by assumption) (Or.inl ⟨by rfl, ?_⟩) ?_
     rotate_left 1
     ·intro w' hSw; (try dsimp only at hSw); go_simp; try with_reducible rfl
     try simp only [Act.put]
     refine Till.take 8 (v := ?_) rfl (by kernel_rfl) (by kernel_rfl) (by kernel_rfl) (fun _ _ _ h => h) (by kernel_rfl) (by kernel_rfl) (by kernel_rfl) (Or.inl ⟨by rfl, ?_⟩) (by assumption) ?_
     rotate_left 1
     ·intro w' hSw; (try dsimp only at hSw); go_simp; try with_reducible rfl
     try simp only [Act.put]
     refine Till.takeW 9 (v := ?_) rfl (by kernel_rfl) (by kernel_rfl) (by kernel_rfl) (fun _ _ _ h => h) (by kernel_rfl) (by assumption) (Or.inl ⟨by rfl, ?_⟩) ?_
     rotate_left 1
     ·intro w' hSw; (try dsimp only at hSw); go_simp; try with_reducible rfl
     try simp only [Act.put]
     refine Till.takeW 12 (v := ?_) rfl (by kernel_rfl) (by kernel_rfl) (by kernel_rfl) (fun _ _ _ h => h) (by kernel_rfl) (by assumption) (Or.inl ⟨by rfl, ?_⟩) ?_
     rotate_left 1
     ·intro w' hSw; (try dsimp only at hSw); go_simp; try with_reducible rfl
     try simp only [Act.put]
     refine Till.take 13 (v := ?_) rfl (by kernel_rfl) (by kernel_rfl) (by kernel_rfl) (fun _ _ _ h => h) (by kernel_rfl) (by kernel_rfl) (by kernel_rfl) (Or.inl ⟨by rfl, ?_⟩) (by assumption) ?_
     rotate_left 1
     ·intro w' hSw; (try dsimp only at hSw); go_simp; try with_reducible rfl
     try simp only [Act.put]
     refine Till.takeW 14 (v := ?_) rfl (by kernel_rfl) (by kernel_rfl) (by kernel_rfl) (fun _ _ _ h => h) (by kernel_rfl) (by assumption) (Or.inl ⟨by rfl, ?_⟩) ?_
     rotate_left 1
     ·intro w' hSw; (try dsimp only at hSw); go_simp; try with_reducible rfl
     try simp only [Act.put]
     iterate 7 all_goals (
      (first | (refine Till.takeW 17 (v := ?_) rfl (by decide +kernel) (by decide +kernel) (by decide +kernel) (fun _ _ _ h => h) (by decide +kernel) (by first | assumption | exact ⟨by assumption, by assumption, by assumption, by assumption⟩ | (refine ⟨?_, ?_, ?_, ?_⟩ <;> repeat (first | assumption | (with_reducible refine cell_drew ?_) | (with_reducible refine cell_old (by first | omega | (simp; done) | (simp; omega)) ?_)))) (Or.inl ⟨by rfl, ?_⟩) ?_; rotate_left 1; (· intro w' hSw; (try dsimp only at hSw); go_simp; try with_reducible rfl); try simp only [Act.put]) | skip)
      refine Till.over [4, 5, 6, 10, 11, 15, 16] (by decide +kernel) (by decide +kernel) ?_
      (first | refine Steps.skip 4 (by decide +kernel) ?_ | (refine Steps.cons 4 rfl (fun K hK => ?_) ?_; (go_simp; go_at_call 29; go_must (refine (HFL.out _ (by repeat (first | (with_reducible exact b0 _) | (with_reducible refine balloc ?_ _) | (with_reducible refine bdrew ?_)))).mono ?_; rintro e w5 ⟨rfl, hb5⟩; have HC5 := hid hb5; have s5 := hb5.size; (try simp at s5); have HT5 := hid (HTRI.out.later (bstep (by repeat (first | (with_reducible exact b0 _) | (with_reducible refine balloc ?_ _) | (with_reducible refine bdrew ?_))) hb5)); have e0 := cell_below HT5.out.fr (by omega) q0; obtain ⟨e1, e2, e3⟩ := HT5.out.box.cells.1; clear hb5); refine hK.out _ _ (fun _ => (by first | exact ⟨by assumption, by assumption, by assumption, by assumption⟩ | (refine ⟨?_, ?_, ?_, ?_⟩ <;> repeat (first | assumption | (with_reducible refine cell_drew ?_) | (with_reducible refine cell_old (by first | omega | (simp; done) | (simp; omega)) ?_))))) ?_; clear hK K; (try simp only [Act.put, List.setIfInBounds_toArray, List.set_cons_zero, List.set_cons_succ])); rotate_left 1))
      (first | refine Steps.skip 5 (by decide +kernel) ?_ | (refine Steps.cons 5 rfl (fun K hK => ?_) ?_; (go_simp; refine hK.out _ _ (fun _ => (by first | exact ⟨by assumption, by assumption, by assumption, by assumption⟩ | (refine ⟨?_, ?_, ?_, ?_⟩ <;> repeat (first | assumption | (with_reducible refine cell_drew ?_) | (with_reducible refine cell_old (by first | omega | (simp; done) | (simp; omega)) ?_))))) ?_; clear hK K; (try simp only [Act.put, List.setIfInBounds_toArray, List.set_cons_zero, List.set_cons_succ])); rotate_left 1))
      (first | refine Steps.skip 6 (by decide +kernel) ?_ | (refine Steps.cons 6 rfl (fun K hK => ?_) ?_; (refine step_guard (.tmp 67) (.tmp 71) 22 rfl ?_; go_must (refine step_append_src _ rfl (.tmp 67) (.tmp 71) 22 rfl w0.heap.size 3 ii _ 1 8 Tryz.underlying22 HII.out.1 HII.out.2.1 HII.out.2.2.1 HII.out.2.2.2 rfl (by omega) (.slice Af u cf) (u) (fInt.all lf) (by rfl) (by exact ownsRow_below (show w5.ownsRow w0.heap.size 3 1 (.slice Af u cf) u (fInt.all lf) by have h := HT5.out.hf.1; rw [HLF.out] at h; exact h) (by repeat (first | (with_reducible exact b0 _) | (with_reducible refine balloc ?_ _) | (with_reducible refine bdrew ?_))) (fun g hg => (HT5.out.hf.1.lt g hg).2)) _ 1 1 [.int .i64 (fl : Int)] (by rfl) (by refine src_mk ?_; repeat (first | (with_reducible refine cell_new (by simp; done) rfl) | (with_reducible refine cell_drew ?_) | (with_reducible refine cell_old (by first | omega | (simp; done) | (simp; omega)) ?_) | (with_reducible refine cell_hb HC5.out (by first | omega | (simp; done) | (simp; omega)) ?_) | (with_reducible refine cell_hg HG7.out HOF.out (by omega) ?_) | (with_reducible refine cell_hg HG8.out HON.out (by omega) ?_))) (by simp [Value.oneCell']) (by unfold maxLen; omega) (by omega) (by first | omega | (simp; done) | (simp; omega)) ?_; intro v7 w7 hown7 hg7 hat7; have HG7 := hid hg7; have s7 := hg7.size; (try simp at s7); have HT7 := hid (HT5.out.growF HXI.out (by rw [HLF.out]; exact hown7) hg7 hat7 (by repeat (first | (with_reducible exact b0 _) | (with_reducible refine balloc ?_ _) | (with_reducible refine bdrew ?_)))); have e4 := cell_below HT7.out.fr (by omega) q0; obtain ⟨e5, e6, e7⟩ := HT7.out.box.cells.1; obtain ⟨A7f, c7f, rfl⟩ := own_form hown7; clear hown7 hg7 hat7); refine hK.out _ _ (fun _ => (by first | exact ⟨by assumption, by assumption, by assumption, by assumption⟩ | (refine ⟨?_, ?_, ?_, ?_⟩ <;> repeat (first | assumption | (with_reducible refine cell_drew ?_) | (with_reducible refine cell_old (by first | omega | (simp; done) | (simp; omega)) ?_))))) ?_; clear hK K; (try simp only [Act.put, List.setIfInBounds_toArray])); rotate_left 1))
      (first | refine Steps.skip 10 (by decide +kernel) ?_ | (refine Steps.cons 10 rfl (fun K hK => ?_) ?_; (go_simp; refine hK.out _ _ (fun _ => (by first | exact ⟨by assumption, by assumption, by assumption, by assumption⟩ | (refine ⟨?_, ?_, ?_, ?_⟩ <;> repeat (first | assumption | (with_reducible refine cell_drew ?_) | (with_reducible refine cell_old (by first | omega | (simp; done) | (simp; omega)) ?_))))) ?_; clear hK K; (try simp only [Act.put, List.setIfInBounds_toArray, List.set_cons_zero, List.set_cons_succ])); rotate_left 1))
      (first | refine Steps.skip 11 (by decide +kernel) ?_ | (refine Steps.cons 11 rfl (fun K hK => ?_) ?_; (refine step_guard (.tmp 74) (.tmp 76) 33 rfl ?_; go_must (refine step_append_src _ rfl (.tmp 74) (.tmp 76) 33 rfl w0.heap.size 34 it3 _ 1 24 Tryz.underlying33 HI3.out.1 HI3.out.2.1 HI3.out.2.2.1 HI3.out.2.2.2 rfl (by omega) (.slice An_ u cn_) (u) (xs) (by rfl) (by exact ownsRow_below (show w7.ownsRow w0.heap.size 34 1 (.slice An_ u cn_) u xs by have h := HT7.out.hn.own; rw [HLN.out] at h; exact h) (by repeat (first | (with_reducible exact b0 _) | (with_reducible refine balloc ?_ _) | (with_reducible refine bdrew ?_))) (fun g hg => (HT7.out.hn.own.lt g hg).2)) _ 1 1 [.slice A5 i c5] (by rfl) (by refine src_mk ?_; repeat (first | (with_reducible refine cell_new (by simp; done) rfl) | (with_reducible refine cell_drew ?_) | (with_reducible refine cell_old (by first | omega | (simp; done) | (simp; omega)) ?_) | (with_reducible refine cell_hb HC5.out (by first | omega | (simp; done) | (simp; omega)) ?_) | (with_reducible refine cell_hg HG7.out HOF.out (by omega) ?_) | (with_reducible refine cell_hg HG8.out HON.out (by omega) ?_))) (by simp [Value.oneCell']) (by unfold maxLen; omega) (by omega) (by first | omega | (simp; done) | (simp; omega)) ?_; intro v8 w8 hown8 hg8 hat8; have HG8 := hid hg8; have s8 := hg8.size; (try simp at s8); have HT8 := hid (HT7.out.growN (by rw [HLN.out]; exact hown8) hg8 hat8 (by repeat (first | (with_reducible exact b0 _) | (with_reducible refine balloc ?_ _) | (with_reducible refine bdrew ?_)))); have e8 := cell_below HT8.out.fr (by omega) q0; obtain ⟨e9, e10, e11⟩ := HT8.out.box.cells.1; obtain ⟨A8f, c8f, rfl⟩ := own_form hown8; clear hown8 hg8 hat8); refine hK.out _ _ (fun _ => (by first | exact ⟨by assumption, by assumption, by assumption, by assumption⟩ | (refine ⟨?_, ?_, ?_, ?_⟩ <;> repeat (first | assumption | (with_reducible refine cell_drew ?_) | (with_reducible refine cell_old (by first | omega | (simp; done) | (simp; omega)) ?_))))) ?_; clear hK K; (try simp only [Act.put, List.setIfInBounds_toArray])); rotate_left 1))
      (first | refine Steps.skip 15 (by decide +kernel) ?_ | (refine Steps.cons 15 rfl (fun K hK => ?_) ?_; (go_simp; refine hK.out _ _ (fun _ => (by first | exact ⟨by assumption, by assumption, by assumption, by assumption⟩ | (refine ⟨?_, ?_, ?_, ?_⟩ <;> repeat (first | assumption | (with_reducible refine cell_drew ?_) | (with_reducible refine cell_old (by first | omega | (simp; done) | (simp; omega)) ?_))))) ?_; clear hK K; (try simp only [Act.put, List.setIfInBounds_toArray, List.set_cons_zero, List.set_cons_succ])); rotate_left 1))
      (first | refine Steps.skip 16 (by decide +kernel) ?_ | (refine Steps.cons 16 rfl (fun K hK => ?_) ?_; (refine step_guard (.tmp 79) (.tmp 81) 34 rfl ?_; go_must (refine step_append_src _ rfl (.tmp 79) (.tmp 81) 34 rfl w0.heap.size 87 it2 _ 1 24 Tryz.underlying34 HI2.out.1 HI2.out.2.1 HI2.out.2.2.1 HI2.out.2.2.2 rfl (by omega) (.slice Ab_ u cb_) (u) (ys) (by rfl) (by exact ownsRow_below (show w8.ownsRow w0.heap.size 87 1 (.slice Ab_ u cb_) u ys by have h := HT8.out.hb.own; rw [HLB.out] at h; exact h) (by repeat (first | (with_reducible exact b0 _) | (with_reducible refine balloc ?_ _) | (with_reducible refine bdrew ?_))) (fun g hg => (HT8.out.hb.own.lt g hg).2)) _ 1 1 [.slice A6 i c6] (by rfl) (by refine src_mk ?_; repeat (first | (with_reducible refine cell_new (by simp; done) rfl) | (with_reducible refine cell_drew ?_) | (with_reducible refine cell_old (by first | omega | (simp; done) | (simp; omega)) ?_) | (with_reducible refine cell_hb HC5.out (by first | omega | (simp; done) | (simp; omega)) ?_) | (with_reducible refine cell_hg HG7.out HOF.out (by omega) ?_) | (with_reducible refine cell_hg HG8.out HON.out (by omega) ?_))) (by simp [Value.oneCell']) (by unfold maxLen; omega) (by omega) (by first | omega | (simp; done) | (simp; omega)) ?_; intro v9 w9 hown9 hg9 hat9; have s9 := hg9.size; (try simp at s9); have HT9 := hid (HT8.out.growB (by rw [HLB.out]; exact hown9) hg9 hat9 (by repeat (first | (with_reducible exact b0 _) | (with_reducible refine balloc ?_ _) | (with_reducible refine bdrew ?_)))); have e12 := cell_below HT9.out.fr (by omega) q0; obtain ⟨⟨e13, e14, e15⟩, fz9⟩ := HT9.out.box.cells; obtain ⟨A9f, c9f, rfl⟩ := own_form hown9; clear hown9 hg9 hat9); refine hK.out _ _ (fun _ => (by first | exact ⟨by assumption, by assumption, by assumption, by assumption⟩ | (refine ⟨?_, ?_, ?_, ?_⟩ <;> repeat (first | assumption | (with_reducible refine cell_drew ?_) | (with_reducible refine cell_old (by first | omega | (simp; done) | (simp; omega)) ?_))))) ?_; clear hK K; (try simp only [Act.put, List.setIfInBounds_toArray])); rotate_left 1))
      exact Steps.nil)
     all_goals (first | (refine Till.takeW 17 (v := ?_) rfl (by decide +kernel) (by decide +kernel) (by decide +kernel) (fun _ _ _ h => h) (by decide +kernel) (by first | assumption | exact ⟨by assumption, by assumption, by assumption, by assumption⟩ | (refine ⟨?_, ?_, ?_, ?_⟩ <;> repeat (first | assumption | (with_reducible refine cell_drew ?_) | (with_reducible refine cell_old (by first | omega | (simp; done) | (simp; omega)) ?_)))) (Or.inl ⟨by rfl, ?_⟩) ?_; rotate_left 1; (· intro w' hSw; (try dsimp only at hSw); go_simp; try with_reducible rfl); try simp only [Act.put, List.setIfInBounds_toArray, List.set_cons_zero, List.set_cons_succ]) | skip)
     iterate 5 all_goals (
      refine Till.over [17, 18, 19, 20, 21, 22] (by decide +kernel) (by decide +kernel) ?_
      (first | refine Steps.skip 17 (by decide +kernel) ?_ | (refine Steps.cons 17 rfl (fun K hK => ?_) ?_; (go_simp; refine hK.out _ _ (fun _ => (by first | exact ⟨by assumption, by assumption, by assumption, by assumption⟩ | (refine ⟨?_, ?_, ?_, ?_⟩ <;> repeat (first | assumption | (with_reducible refine cell_drew ?_) | (with_reducible refine cell_old (by first | omega | (simp; done) | (simp; omega)) ?_))))) ?_; clear hK K; (try simp only [Act.put, List.setIfInBounds_toArray, List.set_cons_zero, List.set_cons_succ])); rotate_left 1))
      (first | refine Steps.skip 18 (by decide +kernel) ?_ | (refine Steps.cons 18 rfl (fun K hK => ?_) ?_; (go_simp; refine hK.out _ _ (fun h2 => absurd h2 (by decide +kernel)) ?_; clear hK K; (try simp only [Act.put, List.setIfInBounds_toArray, List.set_cons_zero, List.set_cons_succ])); rotate_left 1))
      (first | refine Steps.skip 19 (by decide +kernel) ?_ | (refine Steps.cons 19 rfl (fun K hK => ?_) ?_; (go_simp; refine hK.out _ _ (fun h2 => absurd h2 (by decide +kernel)) ?_; clear hK K; (try simp only [Act.put, List.setIfInBounds_toArray, List.set_cons_zero, List.set_cons_succ])); rotate_left 1))
      (first | refine Steps.skip 20 (by decide +kernel) ?_ | (refine Steps.cons 20 rfl (fun K hK => ?_) ?_; (go_simp; refine hK.out _ _ (fun h2 => absurd h2 (by decide +kernel)) ?_; clear hK K; (try simp only [Act.put, List.setIfInBounds_toArray, List.set_cons_zero, List.set_cons_succ])); rotate_left 1))
      (first | refine Steps.skip 21 (by decide +kernel) ?_ | (refine Steps.cons 21 rfl (fun K hK => ?_) ?_; (go_simp; refine hK.out _ _ (fun h2 => absurd h2 (by decide +kernel)) ?_; clear hK K; (try simp only [Act.put, List.setIfInBounds_toArray, List.set_cons_zero, List.set_cons_succ])); rotate_left 1))
      (first | refine Steps.skip 22 (by decide +kernel) ?_ | (refine Steps.cons 22 rfl (fun K hK => ?_) ?_; (go_simp; refine hK.out _ _ (fun h2 => absurd h2 (by decide +kernel)) ?_; clear hK K; (try simp only [Act.put, List.setIfInBounds_toArray, List.set_cons_zero, List.set_cons_succ])); rotate_left 1))
      exact Steps.nil)
     all_goals refine Till.done (by decide +kernel) ?_ _
     all_goals (
      have hfin := HT9.out
      rw [← needsM_snoc us hlt, ← barsM_snoc us hlt] at hfin
      have hf2 := Tri.finish (us := us) (u := u + 1) hfin (by simp [HLF.out])
      have HF1 := hid hf2.1
      have HF2 := hid hf2.2.1
      have HF3 := hid hf2.2.2
      clear hfin hf2
      go_wp2_with fail
      exact ⟨⟨u + 1, _, _, _, by omega, by go_num, HF1, HF2, HF3⟩, by simp [intOf]; omega⟩)
  ·have hul : u = us.length := by omega
   subst hul
   clear hlt
   obtain ⟨⟨t0, t1, t2⟩, -⟩ := hst.out.box.cells
   have hrsb := (hbl.out.block br hr2).trans HRS.out
   obtain ⟨⟨r0, r1, r2⟩, fzr⟩ := MBox.cells hrsb
   have HRB := hid hrsb
   obtain ⟨xs, hnn⟩ := hst.out.needs
   obtain ⟨ys, hbb⟩ := hst.out.bars
   have hnr := hnn.rdF
   have hbr2 := hbb.rdF
   rw [List.take_of_length_le (by rw [needs_len]; exact Nat.le_refl _)] at hnr
   rw [List.take_of_length_le (by rw [bars_len]; exact Nat.le_refl _)] at hbr2
   have hrne : ∀ k, k ≠ br → (((wr.setCell ⟨br, 0, none⟩ fv).setCell ⟨br, 1, none⟩ nv).setCell ⟨br, 2, none⟩ bv).heap[k]? = wr.heap[k]? := fun k hk => by
    rw [heap_setCell_other _ _ _ _ hk, heap_setCell_other _ _ _ _ hk, heap_setCell_other _ _ _ _ hk]
   have HMR := hid (show MasksRd us (((wr.setCell ⟨br, 0, none⟩ fv).setCell ⟨br, 1, none⟩ nv).setCell ⟨br, 2, none⟩ bv) (Lt (((wr.setCell ⟨br, 0, none⟩ fv).setCell ⟨br, 1, none⟩ nv).setCell ⟨br, 2, none⟩ bv).heap.size) (.agg #[fv, nv, bv]) from
    ⟨fv, nv, bv, rfl, (hnr.keep fun k hk => hrne k (by have := hk.1; omega)).more fun k hk => (by have := hk.2; show k < _; simpa using this), (hbr2.keep fun k hk => hrne k (by have := hk.1; omega)).more fun k hk => (by have := hk.2; show k < _; simpa using this)⟩)
   have HRB3 := hid (MBox.set3 HRB.out fv nv bv)
   have HBE := hid (show Below w.heap.size w (((wr.setCell ⟨br, 0, none⟩ fv).setCell ⟨br, 1, none⟩ nv).setCell ⟨br, 2, none⟩ bv) from ((HBW.out.setCell (p := ⟨br, 0, none⟩) (Nat.le_of_lt hr1) _).setCell (p := ⟨br, 1, none⟩) (Nat.le_of_lt hr1) _).setCell (p := ⟨br, 2, none⟩) (Nat.le_of_lt hr1) _)
   obtain ⟨⟨s0, s1, s2⟩, -⟩ := MBox.cells HRB3.out
   obtain ⟨l7, -, hf7⟩ := hst.out.full
   obtain ⟨A5, c5, hv5⟩ := own_form hf7.1
   obtain ⟨A6, c6, hv6⟩ := own_form hnn.own
   obtain ⟨A7, c7, hv7⟩ := own_form hbb.own
   clear hnn hbb hnr hbr2 hrne hrsb hf7
   clear hst
   generalize l7.length = n5 at hv5
   generalize (List.take us.length (needsM us)).length = n6 at hv6
   generalize (List.take us.length (barsM us)).length = n7 at hv7
   subst hv5; subst hv6; subst hv7
   go_wp2_with fail
   exact bodyPost_ret (v := .agg #[.slice A5 n5 c5, .slice A6 n6 c6, .slice A7 n7 c7]) (by simp [results, Tryz.results7, go_sem, s0, s1, s2]) rfl ⟨_, _, _, _, _, rfl, HMR.out, HBE.out⟩
end Go.Proofs.YthneiolcljnbeaaGreatDoor
