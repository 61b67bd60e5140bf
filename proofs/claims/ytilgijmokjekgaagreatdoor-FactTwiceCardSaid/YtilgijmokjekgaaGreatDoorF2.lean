/- Contract: linchpinmade.CopyWorld: what the copy owns. -/
import Derived.Test.YtilgijmokjekgaaGreatDoorF1
import Derived.Test.YtilgijmokjekgaaGreatDoorzA4
import Derived.Test.YtilgijmokjekgaaGreatDoorA11
import Derived.Test.YtilgijmokjekgaaGreatDoorzY5
import Derived.BigRegion
import Derived.Deep.RegionLaw
import Derived.Outline
namespace Go.Proofs.YtilgijmokjekgaaGreatDoor
open Go Go.RowKit

/-- A block, whole. -/
def Blk (w : World) (b : Nat) (T : TypeId) (cs : Array Value) : Prop := w.heap[b]? = some (.cells cs T (0, 0))
section
variable {w w' : World} {b : Nat} {T : TypeId} {cs : Array Value}
theorem Blk.new (w : World) (T : TypeId) (cs : Array Value) : Blk (w.alloc (.cells cs T)) w.heap.size T cs := heap_alloc_new w _
theorem Blk.lt (h : Blk w b T cs) : b < w.heap.size := (Array.getElem?_eq_some_iff.1 h).1
theorem Blk.keep (h : Blk w b T cs) (hk : w'.heap[b]? = w.heap[b]?) : Blk w' b T cs := hk.trans h
theorem Blk.later (h : Blk w b T cs) (hb : Below w.heap.size w w') : Blk w' b T cs := h.keep (hb.block b h.lt)
theorem Blk.cell (h : Blk w b T cs) (i : Nat) : w.cell? ⟨b, i, none⟩ = cs[i]? := cell_of_row w b i cs T (0, 0) h
theorem Blk.frozen (h : Blk w b T cs) (o : Nat) : w.frozen? ⟨b, o, none⟩ = false := frozen_of_row w b o cs T h
theorem Blk.set (h : Blk w b T cs) (i : Nat) (x : Value) : Blk (w.setCell ⟨b, i, none⟩ x) b T (cs.setIfInBounds i x) := heap_setCell_same w b i cs T _ h
theorem Blk.other (h : Blk w b T cs) {p : Addr} (hp : b ≠ p.block) (x : Value) : Blk (w.setCell p x) b T cs := h.keep (heap_setCell_other _ _ _ _ hp)
theorem Blk.drew (h : Blk w b T cs) : Blk w.drew b T cs := h
end
theorem ok_cand {us : List UnitW} (ho : UnitsOk us) {u p : Nat} (hu : u < us.length) (hp : p < us[u].cands.length) : us[u].cands[p].needs.length ≤ 8 ∧ (∀ r ∈ us[u].cands[p].needs, r.length ≤ 1000 ∧ ∀ x ∈ r, x.s.ok ∧ I64 x.u) ∧ us[u].cands[p].bars.length ≤ 1000 ∧ ∀ x ∈ us[u].cands[p].bars, x.s.ok ∧ I64 x.u := by
  have h := ho.cands _ (List.getElem_mem hu) _ (List.getElem_mem hp)
  have h11 : us.length ≤ 11 := by have := ho.ns.hi; simpa [nsOf] using this
  have h64 : ∀ x : WantD, x.ok us.length → x.s.ok ∧ I64 x.u := fun x hx => ⟨hx.2.2, by have := hx.1; omega, by have := hx.2.1; omega⟩
  exact ⟨h.1, fun r hr => ⟨Nat.le_trans (h.2.1 r hr).1 (by decide), fun x hx => h64 x ((h.2.1 r hr).2 x hx)⟩, Nat.le_trans h.2.2.1 (by decide), fun x hx => h64 x (h.2.2.2 x hx)⟩
/-- What CopyWorld holds: its three boxes, the units made so far. -/
structure CopySt (us : List UnitW) (g cap0 : Nat) (w : World) (k : Nat) (vu : Value) (xs : List Value) (wr : World) : Prop where
  b1 : Blk wr w.heap.size 25 #[.slice (some ⟨g, 0, none⟩) us.length cap0]
  b2 : Blk wr (w.heap.size + 1) 25 #[.slice none 0 0]
  b3 : Blk wr (w.heap.size + 2) 25 #[vu]
  own : OwnT tUnit 62 wr (w.heap.size + 3) vu (us.take k) xs
  below : Below w.heap.size w wr
  units : ∃ lo hi vcs yss nvs bvs L H, Units wr us k vu xs (w.heap.size + 3) wr.heap.size lo hi vcs yss nvs bvs L H
theorem CopySt.start (us : List UnitW) (g cap0 : Nat) (w : World) : CopySt us g cap0 w 0 (.slice none 0 0) [] (((w.alloc (.cells #[.slice (some ⟨g, 0, none⟩) us.length cap0] 25)).alloc (.cells #[.slice none 0 0] 25)).alloc (.cells #[.slice none 0 0] 25)) := by
  have h1 := Blk.new w 25 #[.slice (some ⟨g, 0, none⟩) us.length cap0]
  have h2 := Blk.new (w.alloc (.cells #[.slice (some ⟨g, 0, none⟩) us.length cap0] 25)) 25 #[.slice none 0 0]
  have h3 := Blk.new ((w.alloc (.cells #[.slice (some ⟨g, 0, none⟩) us.length cap0] 25)).alloc (.cells #[.slice none 0 0] 25)) 25 #[.slice none 0 0]
  simp only [World.size_alloc] at h2 h3
  exact ⟨(h1.later (balloc (b0 _) _)).later (balloc (b0 _) _), h2.later (balloc (b0 _) _), h3, OwnT.nil _ _ _ _, balloc (balloc (balloc (b0 w) _) _) _, fun _ => 0, fun _ => 0, fun _ => undef, fun _ => [], fun _ _ => undef, fun _ _ => undef, fun _ _ => 0, fun _ _ => 0, Units.none ..⟩
theorem CopySt.later {us : List UnitW} {g cap0 : Nat} {w : World} {k : Nat} {vu : Value} {xs : List Value} {wr w' : World} (h : CopySt us g cap0 w k vu xs wr) (hb : Below wr.heap.size wr w') : CopySt us g cap0 w k vu xs w' := by
  obtain ⟨lo, hi, vcs, yss, nvs, bvs, L, H, hp⟩ := h.units
  exact ⟨h.b1.later hb, h.b2.later hb, h.b3.later hb, h.own.later hb, bstep h.below hb, lo, hi, vcs, yss, nvs, bvs, L, H, (hp.keep fun j hj b _ h2 => hb.block b (by have := hp.bd j hj; omega)).mono hb.size⟩
theorem CopySt.lt {us : List UnitW} {g cap0 : Nat} {w : World} {k : Nat} {vu : Value} {xs : List Value} {wr : World} (h : CopySt us g cap0 w k vu xs wr) : w.heap.size + 3 ≤ wr.heap.size := h.b3.lt
/-- One more behind one's own: what is new lies above all that was there. -/
theorem own_more {α : Type} {t : Ty α} {e : TypeId} {B : Nat} {w W w' : World} {v v' : Value} {l : List α} {xs cs : List Value} {x : α} (h : OwnT t e w B v l xs) (hw : Below w.heap.size w W) (hx : t.rd W (fun b => w.heap.size ≤ b ∧ b < W.heap.size) cs x) (hl : cs.length = t.size) (hB : B ≤ w.heap.size)
    (ho : w'.ownsRow B e t.size v' (l.length + 1) (xs ++ cs)) (hg : W.grownBy w' v.ownBlock) (hn : v'.ownBlock = v.ownBlock ∨ v'.ownBlock = some W.heap.size) : OwnT t e w' B v' (l ++ [x]) (xs ++ cs) :=
  (h.later hw).snoc hl (t.more (fun b hb => ⟨Nat.le_trans hB hb.1, hb.2, fun e => by have := (h.own.lt b e).2; have := hb.1; omega⟩) hx) ho hg hn
theorem own_far_set {w w4 : World} {B : Nat} {e : TypeId} {s n : Nat} {v : Value} {xs : List Value} (h : w.ownsRow B e s v n xs) (hb : Below w.heap.size w w4) {p : Addr} (hp : w.heap.size ≤ p.block) (x : Value) : (w4.setCell p x).ownsRow B e s v n xs :=
  ownsRow_keep h fun g hg => by
    have := (h.lt g hg).2
    rw [heap_setCell_other _ _ _ _ (show g ≠ p.block by omega)]
    exact hb.block g this
theorem grown_below {w0 W w' : World} {B : Nat} {e : TypeId} {s n : Nat} {v : Value} {xs : List Value} {w : World} (h : w.ownsRow B e s v n xs) (hb : Below B w0 W) (hB : B ≤ W.heap.size) (hg : W.grownBy w' v.ownBlock) : Below B w0 w' := hb.grown hg hB fun k hk => (h.lt k hk).1
/-- A unit under way: its box, the candidates made so far. -/
structure UnitSt (wo : World) (x : UnitW) (i : Nat) (vc : Value) (ys : List Value) (wr : World) : Prop where
  b5 : Blk wr wo.heap.size 62 #[.string x.nm, .string x.ft, vc]
  own : OwnT tCand 69 wr (wo.heap.size + 1) vc (x.cands.take i) ys
  below : Below wo.heap.size wo wr
  parts : ∃ nvs bvs L H, Parts wr x i vc ys (wo.heap.size + 1) wr.heap.size nvs bvs L H
theorem UnitSt.later {wo : World} {x : UnitW} {i : Nat} {vc : Value} {ys : List Value} {wr w' : World} (h : UnitSt wo x i vc ys wr) (hb : Below wr.heap.size wr w') : UnitSt wo x i vc ys w' := by
  obtain ⟨nvs, bvs, L, H, hp⟩ := h.parts
  exact ⟨h.b5.later hb, h.own.later hb, h.below.trans (hb.mono h.below.size), nvs, bvs, L, H, (hp.keep fun j hj b _ h2 => hb.block b (by have := hp.bd j hj; omega)).mono hb.size⟩
def candV (c : CandW) (nv bv : Value) : Array Value := #[.int .i64 c.v.major, .int .i64 c.v.minor, .int .i64 c.v.patch, .string c.v.pre, .string c.v.build, .int .i64 c.sh, nv, bv]
/-- A candidate under way: what is copied, the copy, its rows so far. -/
structure CandSt (wi : World) (c : CandW) (n0 b0' : Value) (k : Nat) (vn : Value) (zs : List Value) (wr : World) : Prop where
  b7 : Blk wr wi.heap.size 69 (candV c n0 b0')
  b8 : Blk wr (wi.heap.size + 1) 69 (candV c vn (.slice none 0 0))
  own : OwnT (tSlice tWant) 67 wr (wi.heap.size + 2) vn (c.needs.take k) zs
  below : Below wi.heap.size wi wr
theorem CandSt.start (wi : World) (c : CandW) (n0 b0' : Value) : CandSt wi c n0 b0' 0 (.slice none 0 0) [] ((wi.alloc (.cells (candV c n0 b0') 69)).alloc (.cells (candV c (.slice none 0 0) (.slice none 0 0)) 69)) := by
  have h1 := Blk.new wi 69 (candV c n0 b0')
  have h2 := Blk.new (wi.alloc (.cells (candV c n0 b0') 69)) 69 (candV c (.slice none 0 0) (.slice none 0 0))
  simp only [World.size_alloc] at h2
  exact ⟨h1.later (balloc (b0 _) _), h2, OwnT.nil _ _ _ _, balloc (balloc (b0 wi) _) _⟩
/-- A row of needs behind the others, and stored. -/
theorem CandSt.more {wi : World} {c : CandW} {n0 b0' : Value} {k : Nat} {vn vn' vw : Value} {zs ws : List Value} {wr w4 W w5 : World} (h : CandSt wi c n0 b0' k vn zs wr) (hk : k < c.needs.length) (hb : Below wr.heap.size wr w4) (hr : OwnT tWant 83 w4 wr.heap.size vw c.needs[k] ws) (hW : Below w4.heap.size w4 W)
    (ho : w5.ownsRow (wi.heap.size + 2) 67 1 vn' (k + 1) (zs ++ [vw])) (hg : W.grownBy w5 vn.ownBlock) (hn : vn'.ownBlock = vn.ownBlock ∨ vn'.ownBlock = some W.heap.size) : CandSt wi c n0 b0' (k + 1) vn' (zs ++ [vw]) (w5.setCell ⟨wi.heap.size + 1, 6, none⟩ vn') := by
  have hlt := h.b8.lt
  have hkl : (c.needs.take k).length = k := by rw [List.length_take]; omega
  have hx : (tSlice tWant).rd W (fun b => wr.heap.size ≤ b ∧ b < W.heap.size) [vw] c.needs[k] := ⟨vw, rfl, (hr.rdF.keep fun b hb => hW.block b hb.2).more fun b hb => ⟨hb.1, Nat.lt_of_lt_of_le hb.2 hW.size⟩⟩
  have h1 := own_more (e := 67) h.own (bstep hb hW) hx rfl (by omega) (by rw [hkl]; exact ho) hg hn
  have hb5 : Below (wi.heap.size + 2) wr w5 := grown_below h.own.own ((bstep hb hW).mono (by omega)) (by have := hb.size; have := hW.size; omega) hg
  have k8 := (h.b8.keep (hb5.block (wi.heap.size + 1) (by omega))).set 6 vn'
  have k7 := (h.b7.keep (hb5.block wi.heap.size (by omega))).other (p := ⟨wi.heap.size + 1, 6, none⟩) (by show wi.heap.size ≠ wi.heap.size + 1; omega) vn'
  refine ⟨k7, k8, ?_, ?_⟩
  · rw [show c.needs.take (k + 1) = c.needs.take k ++ [c.needs[k]] by rw [List.take_add_one, List.getElem?_eq_getElem hk]; rfl]
    exact h1.setOut (by show wi.heap.size + 1 < wi.heap.size + 2; omega) _
  · exact (h.below.trans (hb5.mono (by omega))).setCell (p := ⟨wi.heap.size + 1, 6, none⟩) (by show wi.heap.size ≤ wi.heap.size + 1; omega) _
/-- A candidate behind the others, and stored. -/
theorem UnitSt.more {wo wi wr w4 W w5 : World} {x : UnitW} {i : Nat} {vc vc' vn vb n0 b0' : Value} {ys zs ws : List Value} (h : UnitSt wo x i vc ys wi) (hi : i < x.cands.length) (hc : CandSt wi x.cands[i] n0 b0' x.cands[i].needs.length vn zs wr) (hb : Below wr.heap.size wr w4) (hr : OwnT tWant 83 w4 wr.heap.size vb x.cands[i].bars ws)
    (hvB : x.cands[i].v.B) (hW : Below w4.heap.size (w4.setCell ⟨wi.heap.size + 1, 7, none⟩ vb) W) (ho : w5.ownsRow (wo.heap.size + 1) 69 8 vc' (i + 1) (ys ++ (candV x.cands[i] vn vb).toList)) (hg : W.grownBy w5 vc.ownBlock) (hn : vc'.ownBlock = vc.ownBlock ∨ vc'.ownBlock = some W.heap.size) :
    UnitSt wo x (i + 1) vc' (ys ++ (candV x.cands[i] vn vb).toList) (w5.setCell ⟨wo.heap.size, 2, none⟩ vc') := by
  have hlt := h.b5.lt
  have hlt8 := hc.b8.lt
  have hs4 := hb.size
  have hil : (x.cands.take i).length = i := by rw [List.length_take]; omega
  have hn1 := (hc.own.later hb).setOut (p := ⟨wi.heap.size + 1, 7, none⟩) (by show wi.heap.size + 1 < wi.heap.size + 2; omega) vb
  have hr1 := hr.setOut (p := ⟨wi.heap.size + 1, 7, none⟩) (by show wi.heap.size + 1 < wr.heap.size; omega) vb
  rw [List.take_length] at hn1
  have hsW : w4.heap.size ≤ W.heap.size := by have := hW.size; simpa using this
  have hsc : (w4.setCell ⟨wi.heap.size + 1, 7, none⟩ vb).heap.size = w4.heap.size := by simp
  have hx : tCand.rd W (fun b => wi.heap.size ≤ b ∧ b < W.heap.size) (candV x.cands[i] vn vb).toList x.cands[i] := by
    refine ⟨vn, vb, rfl, hvB, ?_, ?_⟩
    · exact (hn1.rdF.keep fun b hb => hW.block b (by have := hb.2; simpa using this)).more fun b hb => ⟨by have := hb.1; omega, Nat.lt_of_lt_of_le (by have := hb.2; rwa [hsc] at this) hsW⟩
    · exact (hr1.rdF.keep fun b hb => hW.block b (by have := hb.2; simpa using this)).more fun b hb => ⟨by have := hb.1; omega, Nat.lt_of_lt_of_le (by have := hb.2; rwa [hsc] at this) hsW⟩
  have hbW : Below wi.heap.size wi W := ((hc.below.trans (hb.mono (by omega))).setCell (p := ⟨wi.heap.size + 1, 7, none⟩) (by show wi.heap.size ≤ wi.heap.size + 1; omega) vb).trans (hW.mono (by omega))
  have h1 := own_more (e := 69) h.own hbW hx rfl (by omega) (by rw [hil]; exact ho) hg hn
  have hb5 : Below (wo.heap.size + 1) wi w5 := grown_below h.own.own (hbW.mono (by omega)) (by omega) hg
  have k5 := (h.b5.keep (hb5.block wo.heap.size (by omega))).set 2 vc'
  refine ⟨k5, ?_, ?_, ?_⟩
  · rw [show x.cands.take (i + 1) = x.cands.take i ++ [x.cands[i]] by rw [List.take_add_one, List.getElem?_eq_getElem hi]; rfl]
    exact h1.setOut (by show wo.heap.size < wo.heap.size + 1; omega) _
  · exact (h.below.trans (hb5.mono (by omega))).setCell (p := ⟨wo.heap.size, 2, none⟩) (Nat.le_refl _) _
  · obtain ⟨nvs, bvs, L, H, hp⟩ := h.parts
    have hsc : (w4.setCell ⟨wi.heap.size + 1, 7, none⟩ vb).heap.size = w4.heap.size := by simp
    have hs5 : W.heap.size ≤ w5.heap.size := hg.size
    have hsF : (w5.setCell ⟨wo.heap.size, 2, none⟩ vc').heap.size = w5.heap.size := by simp
    have hown : ∀ g, vc.ownBlock = some g → wo.heap.size + 1 ≤ g ∧ g < wi.heap.size := h.own.own.lt
    have hkF : ∀ b, wo.heap.size + 1 ≤ b → b < W.heap.size → vc.ownBlock ≠ some b → (w5.setCell ⟨wo.heap.size, 2, none⟩ vc').heap[b]? = W.heap[b]? := fun b h1 h2 h3 => by
      rw [heap_setCell_other _ _ _ _ (show b ≠ wo.heap.size by omega)]
      exact hg.block b h2 (fun e => h3 e.symm)
    have hkW : ∀ b, b < w4.heap.size → b ≠ wi.heap.size + 1 → W.heap[b]? = w4.heap[b]? := fun b h1 h2 => by
      rw [hW.block b h1, heap_setCell_other _ _ _ _ (show b ≠ wi.heap.size + 1 from h2)]
    have p1 := (hp.keep (w' := w5.setCell ⟨wo.heap.size, 2, none⟩ vc') fun j hj b h1 h2 => by
      have hb1 := hp.bd j hj
      rw [hkF b (by omega) (by have := hbW.size; omega) (fun e => by have := hp.arr j b hj e; omega)]
      exact hbW.block b (by omega))
    have hcN : OwnI (tSlice tWant) 67 (w5.setCell ⟨wo.heap.size, 2, none⟩ vc') (wi.heap.size + 2) wr.heap.size vn x.cands[i].needs zs := by
      have h1 := OwnI.of (by have h1 := hc.own; rwa [List.take_length] at h1 : OwnT (tSlice tWant) 67 wr (wi.heap.size + 2) vn x.cands[i].needs zs)
      refine h1.keep fun b h2 h3 => ?_
      rw [hkF b (by omega) (by omega) (fun e => by have := hown b e; omega), hkW b (by omega) (by omega)]
      exact hb.block b h3
    have hcB : OwnI tWant 83 (w5.setCell ⟨wo.heap.size, 2, none⟩ vc') wr.heap.size w4.heap.size vb x.cands[i].bars ws := by
      refine (OwnI.of hr).keep fun b h2 h3 => ?_
      rw [hkF b (by omega) (by omega) (fun e => by have := hown b e; omega), hkW b (by omega) (by omega)]
    refine ⟨_, _, _, _, p1.more (nv := vn) (bv := vb) (a := wi.heap.size + 2) (b := w4.heap.size) hi ?_ ⟨wr.heap.size, zs, ws, by omega, by omega, hcN, hcB⟩ hvB (by omega) (by omega) (by omega) (by omega) ?_⟩
    · rw [h.own.own.1, hil]; rfl
    · intro g hgg
      rcases hn with e | e
      · rw [e] at hgg
        have := hown g hgg
        exact .inl ⟨hgg, by omega⟩
      · rw [e] at hgg
        injection hgg with hgg
        exact .inr (by omega)
/-- A unit behind the others, and stored. -/
theorem CopySt.more {us : List UnitW} {g cap0 : Nat} {w wo wr W w5 : World} {u : Nat} {vu vu' vc : Value} {xs ys : List Value} (h : CopySt us g cap0 w u vu xs wo) (hu : u < us.length) (hc : UnitSt wo us[u] us[u].cands.length vc ys wr) (hW : Below wr.heap.size wr W)
    (ho : w5.ownsRow (w.heap.size + 3) 62 3 vu' (u + 1) (xs ++ [.string us[u].nm, .string us[u].ft, vc])) (hg : W.grownBy w5 vu.ownBlock) (hn : vu'.ownBlock = vu.ownBlock ∨ vu'.ownBlock = some W.heap.size) :
    CopySt us g cap0 w (u + 1) vu' (xs ++ [.string us[u].nm, .string us[u].ft, vc]) (w5.setCell ⟨w.heap.size + 2, 0, none⟩ vu') := by
  have hlt := h.lt
  have hul : (us.take u).length = u := by rw [List.length_take]; omega
  have hcs := (hc.own.later hW).rdF
  rw [List.take_length] at hcs
  have hs5 := hc.b5.lt
  have hx : tUnit.rd W (fun b => wo.heap.size ≤ b ∧ b < W.heap.size) [.string us[u].nm, .string us[u].ft, vc] us[u] := by
    refine ⟨vc, rfl, ?_⟩
    obtain ⟨A, cap, e1, -, -, e2⟩ := hcs.shape
    refine ⟨A, cap, e1, fun k hk => ?_⟩
    obtain ⟨g1, o1, cs, q1, q2, q3, q4, q5⟩ := e2 k hk
    exact ⟨g1, o1, cs, q1, ⟨by have := q2.1; omega, q2.2⟩, q3, q4, tCand.more (fun b hb => ⟨by have := hb.1; omega, hb.2⟩) q5⟩
  have hbW : Below wo.heap.size wo W := hc.below.trans (hW.mono (by omega))
  have h1 := own_more (e := 62) h.own hbW hx rfl (by omega) (by rw [hul]; exact ho) hg hn
  have hb5 : Below (w.heap.size + 3) wo w5 := grown_below h.own.own (hbW.mono (by omega)) (by have := hbW.size; omega) hg
  have k3 := (h.b3.keep (hb5.block (w.heap.size + 2) (by omega))).set 0 vu'
  have k1 := (h.b1.keep (hb5.block w.heap.size (by omega))).other (p := ⟨w.heap.size + 2, 0, none⟩) (by show w.heap.size ≠ w.heap.size + 2; omega) vu'
  have k2 := (h.b2.keep (hb5.block (w.heap.size + 1) (by omega))).other (p := ⟨w.heap.size + 2, 0, none⟩) (by show w.heap.size + 1 ≠ w.heap.size + 2; omega) vu'
  refine ⟨k1, k2, k3, ?_, ?_, ?_⟩
  · rw [show us.take (u + 1) = us.take u ++ [us[u]] by rw [List.take_add_one, List.getElem?_eq_getElem hu]; rfl]
    exact h1.setOut (by show w.heap.size + 2 < w.heap.size + 3; omega) _
  · exact (h.below.trans (hb5.mono (by omega))).setCell (p := ⟨w.heap.size + 2, 0, none⟩) (by show w.heap.size ≤ w.heap.size + 2; omega) _
  · obtain ⟨lo, hi, vcs, yss, nvs, bvs, L, H, hp⟩ := h.units
    obtain ⟨nv1, bv1, L1, H1, hq⟩ := hc.parts
    have hs5' : W.heap.size ≤ w5.heap.size := hg.size
    have hsF : (w5.setCell ⟨w.heap.size + 2, 0, none⟩ vu').heap.size = w5.heap.size := by simp
    have hsW := hW.size
    have hsR := hc.below.size
    have hown : ∀ g, vu.ownBlock = some g → w.heap.size + 3 ≤ g ∧ g < wo.heap.size := h.own.own.lt
    have hkF : ∀ b, w.heap.size + 3 ≤ b → b < W.heap.size → vu.ownBlock ≠ some b → (w5.setCell ⟨w.heap.size + 2, 0, none⟩ vu').heap[b]? = W.heap[b]? := fun b h1 h2 h3 => by
      rw [heap_setCell_other _ _ _ _ (show b ≠ w.heap.size + 2 by omega)]
      exact hg.block b h2 (fun e => h3 e.symm)
    have p1 := (hp.keep (w' := w5.setCell ⟨w.heap.size + 2, 0, none⟩ vu') fun j hj b h1 h2 => by
      have hb1 := hp.bd j hj
      rw [hkF b (by omega) (by omega) (fun e => by have := hp.out j b hj e; omega)]
      exact hbW.block b (by omega))
    have hkR : ∀ b, wo.heap.size + 1 ≤ b → b < wr.heap.size → (w5.setCell ⟨w.heap.size + 2, 0, none⟩ vu').heap[b]? = wr.heap[b]? := fun b h1 h2 => by
      rw [hkF b (by omega) (by omega) (fun e => by have := hown b e; omega)]
      exact hW.block b h2
    have hA : OwnI tCand 69 (w5.setCell ⟨w.heap.size + 2, 0, none⟩ vu') (wo.heap.size + 1) wr.heap.size vc us[u].cands ys := by
      have h1 := OwnI.of (by have h1 := hc.own; rwa [List.take_length] at h1 : OwnT tCand 69 wr (wo.heap.size + 1) vc us[u].cands ys)
      exact h1.keep fun b h2 h3 => hkR b h2 h3
    refine ⟨_, _, _, _, _, _, _, _, p1.more (vc := vc) (ys := ys) (a := wo.heap.size + 1) (b := wr.heap.size) hu ?_ hA (hq.keep fun j hj b h1 h2 => hkR b (by have := hq.bd j hj; omega) (by have := hq.bd j hj; omega)) (by omega) (by omega) (by omega) (by omega) ?_⟩
    · rw [h.own.own.1, hul]; rfl
    · intro g hgg
      rcases hn with e | e
      · rw [e] at hgg
        have := hown g hgg
        exact .inl ⟨hgg, by omega⟩
      · rw [e] at hgg
        injection hgg with hgg
        exact .inr (by omega)
set_option maxRecDepth 100000 in
set_option maxHeartbeats 8000000 in
theorem copyOwn_any (v : Value) (us : List UnitW) (w : World) (h : WorldRd w (Lt w.heap.size) v us) (ho : UnitsOk us) :
    Calls Tryz.prog 12 #[v] w fun e w' => ∃ vu xs, e = .returned (.agg #[vu]) ∧ OwnW w' us vu xs (w.heap.size + 3) ∧ Below w.heap.size w w' := by
  obtain ⟨iu, hiu⟩ := info_parts unit_info
  have HIU := hid hiu
  obtain ⟨ic, hic⟩ := info_parts cand_info
  have HIC := hid hic
  obtain ⟨iv, hiv⟩ := info_parts wants_info
  have HIV := hid hiv
  have h11 : us.length ≤ 11 := by have := ho.ns.hi; simpa [nsOf] using this
  have HO := hid ho
  obtain ⟨g, cap0, rfl, hg, hs⟩ := id h
  obtain ⟨g', cap', hv, hg', hun⟩ := h.opened
  have hv' : (Value.slice (some ⟨g, 0, none⟩) us.length cap0) = .slice (some ⟨g', 0, none⟩) us.length cap' := by
    injection hv with hv
    injection (congrArg Array.toList hv) with e1 e2
  injection hv' with e1 e2 e3
  injection e1 with e1
  injection e1 with e1
  subst e1 e3
  obtain ⟨A0, c0, hv0, hcm0, hcl0, hnm⟩ := hs.shape
  injection hv0 with e1 e2 e3
  subst e1 e3
  have HNM := hid (fun u (hu : u < us.length) => show w.cell? ⟨g, u * 3, none⟩ = some (.string us[u].nm) ∧ w.cell? ⟨g, u * 3 + 1, none⟩ = some (.string us[u].ft) by
    obtain ⟨g2, o2, cs, hA, -, -, hcell, cv, rfl, -⟩ := hnm u hu
    cases hA
    have h0 := hcell 0 (by show 0 < 3; omega)
    have h1 := hcell 1 (by show 1 < 3; omega)
    rw [Nat.zero_add] at h0 h1
    exact ⟨h0, h1⟩)
  have HUN := hid hun
  have hgW : g < w.heap.size := hg
  clear h ho hv hg hg' hs hun hnm hiu hic hiv e2
  go_enter Tryz.func12, Tryz.ntmps12
  go_wp2_with fail
  have HST0 := hid (CopySt.start us g cap0 w)
  go_loopw [4, 5, 6, 7, 8, 9] (fun uv _ _ _ _ _ wr => ∃ (u : Nat) (vu : Value) (xs : List Value), u ≤ us.length ∧ uv = .int .i64 u ∧ Hid (CopySt us g cap0 w u vu xs wr)) (fun uv _ _ _ _ _ _ => us.length - (RowKit.intOf uv).toNat)
  case atStart => exact ⟨0, _, _, Nat.zero_le _, rfl, HST0⟩
  case round =>
    obtain ⟨u, vu, xs, hu, rfl, hst⟩ := hrel
    obtain ⟨Au, cu, hvu⟩ := own_form hst.out.own.own
    rw [List.length_take, Nat.min_eq_left hu] at hvu
    subst hvu
    have hlt3 := hst.out.lt
    have p1 := hst.out.b1.cell 0
    have p2 := hst.out.b2.cell 0
    have p3 := hst.out.b3.cell 0
    have f2 := hst.out.b2.frozen 0
    have f3 := hst.out.b3.frozen 0
    simp only [List.getElem?_toArray, List.getElem?_cons_zero] at p1 p2 p3
    by_cases hlt : u < us.length
    · obtain ⟨Ac, cc, hcu, hcd⟩ := HUN.out u hlt
      obtain ⟨hn1, hn2⟩ := HNM.out u hlt
      have hbw := hst.out.below
      have q0 := cell_below hbw hgW hn1
      have q1 := cell_below hbw hgW hn2
      have q2 := cell_below hbw hgW hcu
      have hgr : g < wr.heap.size := Nat.lt_of_lt_of_le hgW hbw.size
      have hz1 : w.heap.size < wr.heap.size := by omega
      have hz2 : w.heap.size + 1 < wr.heap.size := by omega
      have hz3 : w.heap.size + 2 < wr.heap.size := by omega
      have i0 : (0 : Int) ≤ ↑u := by omega
      have i1 : (↑u : Int) < ↑us.length := by omega
      have HCD := hid hcd
      have HOC := hid (fun p (hp : p < us[u].cands.length) => ok_cand HO.out hlt hp)
      have h4 : us[u].cands.length ≤ 4 := by
        have := HO.out.ns.le u (by simpa [nsOf] using hlt)
        simpa [nsOf] using this
      have HMORE := hid (fun (wz W w5 : World) (vu' vc : Value) (ys : List Value) h1 h2 h3 h4 h5 => hst.out.more (wr := wz) (W := W) (w5 := w5) (vu' := vu') (vc := vc) (ys := ys) hlt h1 h2 h3 h4 h5)
      obtain ⟨x, hx⟩ : ∃ x, us[u] = x := ⟨_, rfl⟩
      rw [hx] at HCD HOC h4 q0 q1 q2 HMORE
      obtain ⟨nc, hnc⟩ : ∃ nc, x.cands.length = nc := ⟨_, rfl⟩
      have HNC := hid hnc
      rw [hnc] at q2 h4
      obtain ⟨wo, rfl⟩ : ∃ wo, wo = wr := ⟨_, rfl⟩
      clear hcu hn1 hn2 hcd hx hnc hbw
      go_upto_region 5 with fail
      go_cut [5] (fun s5 wx => s5 = .pointer (some ⟨wo.heap.size, 0, none⟩) ∧ Hid (UnitSt wo x 0 (.slice none 0 0) [] wx))
      case first =>
        go_region
        all_goals (go_wp2_with fail; go_meet; exact ⟨rfl, hid ⟨(Blk.new wo 62 #[.string x.nm, .string x.ft, .slice none 0 0]).drew, OwnT.nil _ _ _ _, (balloc (b0 wo) _).drew, fun _ => undef, fun _ => undef, fun _ => 0, fun _ => 0, Parts.none ..⟩⟩)
      case rest =>
        obtain ⟨rfl, hust⟩ := hcut
        go_wp2_with fail
        go_loopw [6, 7, 8, 9] (fun iv _ _ _ wr => ∃ (i : Nat) (vc : Value) (ys : List Value), i ≤ nc ∧ iv = .int .i64 i ∧ Hid (UnitSt wo x i vc ys wr)) (fun iv _ _ _ _ => nc - (RowKit.intOf iv).toNat)
        case atStart => exact ⟨0, _, _, Nat.zero_le _, rfl, hust⟩
        case round =>
          obtain ⟨i, vc, ys, hi, rfl, hus⟩ := hrel
          obtain ⟨Av, cv, hvc⟩ := own_form hus.out.own.own
          rw [List.length_take, Nat.min_eq_left (by rw [HNC.out]; exact hi)] at hvc
          subst hvc
          have hbu := hus.out.below
          have r1 := cell_below hbu (by omega) p1
          have r2 := cell_below hbu hgr q2
          have hlU := hus.out.b5.lt
          by_cases hlti : i < nc
          · skip
            have hiL : i < x.cands.length := by rw [HNC.out]; exact hlti
            obtain ⟨gc, oc, nv, bv, hAc, hFc, hat, hvB, hnd, hbr⟩ := HCD.out i hiL
            subst hAc
            obtain ⟨hn8, hnok, hb8, hbok⟩ := HOC.out i hiL
            have HBW := hid (hst.out.below.trans (hbu.mono hst.out.below.size))
            have HUM := hid (fun (wz w4 W w5 : World) (vc' vn vb n0 b0' : Value) (zs ws : List Value) hc hb hr hW ho hg hn => hus.out.more (wr := wz) (w4 := w4) (W := W) (w5 := w5) (vc' := vc') (vn := vn) (vb := vb) (n0 := n0) (b0' := b0') (zs := zs) (ws := ws) hiL hc hb hr hvB hW ho hg hn)
            obtain ⟨cd, hcd⟩ : ∃ cd, x.cands[i] = cd := ⟨_, rfl⟩
            rw [hcd] at hat hnd hbr hn8 hnok hb8 hbok HUM
            obtain ⟨y0, y1, y2, y3, y4, y5, y6, y7⟩ := hat.below HBW.out hFc
            have HND := hid (hnd.lift HBW.out HBW.out.size)
            have HBR := hid (hbr.lift HBW.out HBW.out.size)
            have HNOK := hid hnok
            have HBOK := hid hbok
            obtain ⟨An, cn, rfl, hcn, hcnm, hnl⟩ := HND.out.lists
            obtain ⟨Ab, cb, rfl, -⟩ := HBR.out.wants
            have HNL := hid hnl
            have hgcr : gc < wr.heap.size := Nat.lt_of_lt_of_le hFc HBW.out.size
            have j0 : (0 : Int) ≤ ↑i := by omega
            have j1 : (↑i : Int) < ↑nc := by omega
            obtain ⟨nn, hnn⟩ : ∃ nn, cd.needs.length = nn := ⟨_, rfl⟩
            have HNN := hid hnn
            obtain ⟨nb, hnb⟩ : ∃ nb, cd.bars.length = nb := ⟨_, rfl⟩
            rw [hnn] at y6 hn8 hcn
            rw [hnb] at y7 HBR
            unfold maxLen at hcnm
            obtain ⟨wi, rfl⟩ : ∃ wi, wi = wr := ⟨_, rfl⟩
            have HNB := hid hnb
            clear hnd hbr hnok hbok hat hcd hnl hnn hnb
            go_wp2_with fail
            obtain ⟨w8, hw8⟩ : ∃ w8 : World, w8 = (wi.alloc (.cells #[.int .i64 cd.v.major, .int .i64 cd.v.minor, .int .i64 cd.v.patch, .string cd.v.pre, .string cd.v.build, .int .i64 cd.sh, .slice An nn cn, .slice Ab nb cb] 69)).alloc (.cells #[.int .i64 cd.v.major, .int .i64 cd.v.minor, .int .i64 cd.v.patch, .string cd.v.pre, .string cd.v.build, .int .i64 cd.sh, .slice none 0 0, .slice none 0 0] 69) := ⟨_, rfl⟩
            have HCS := hid (show CandSt wi cd (.slice An nn cn) (.slice Ab nb cb) 0 (.slice none 0 0) [] w8 from hw8 ▸ CandSt.start wi cd (.slice An nn cn) (.slice Ab nb cb))
            rw [← hw8]
            clear hw8 y0 y1 y2 y3 y4 y5 y6 y7
            go_loopw [9] (fun kv wr => ∃ (k : Nat) (vn : Value) (zs : List Value), k ≤ nn ∧ kv = .int .i64 k ∧ Hid (CandSt wi cd (.slice An nn cn) (.slice Ab nb cb) k vn zs wr)) (fun kv _ => nn - (RowKit.intOf kv).toNat)
            case atStart => exact ⟨0, _, _, Nat.zero_le _, rfl, HCS⟩
            case round =>
              obtain ⟨k, vn, zs, hk, rfl, hcs⟩ := hrel
              obtain ⟨Av2, cv2, hvn⟩ := own_form hcs.out.own.own
              rw [List.length_take, Nat.min_eq_left (by rw [HNN.out]; exact hk)] at hvn
              subst hvn
              have z7 := hcs.out.b7.cell 6
              have z7b := hcs.out.b7.cell 7
              have z8 := hcs.out.b8.cell 6
              have z8b := hcs.out.b8.cell 7
              have f8 := hcs.out.b8.frozen 6
              have f8b := hcs.out.b8.frozen 7
              simp only [candV, List.getElem?_toArray, List.getElem?_cons_zero, List.getElem?_cons_succ] at z7 z7b z8 z8b
              by_cases hltk : k < nn
              · skip
                have hkL : k < cd.needs.length := by rw [HNN.out]; exact hltk
                obtain ⟨gn, on, lv, hAn, hFn, cN, hlr⟩ := HNL.out k hkL
                subst hAn
                have hbk := hcs.out.below
                obtain ⟨Al, cl, hlv, -⟩ := hlr.wants
                have HWT := hid (fun (W : World) (hW : Below wr.heap.size wr W) => wants_any lv cd.needs[k] W (hlr.lift (hbk.trans (hW.mono hbk.size)) (hbk.trans (hW.mono hbk.size)).size) (HNOK.out _ (List.getElem_mem hkL)).1 (HNOK.out _ (List.getElem_mem hkL)).2)
                have zN := cell_below hbk hFn cN
                have hgnr : gn < wr.heap.size := Nat.lt_of_lt_of_le hFn hbk.size
                have l0 : (0 : Int) ≤ ↑k := by omega
                have l1 : (↑k : Int) < ↑nn := by omega
                have hlt8 := hcs.out.b8.lt
                have hlt7 := hcs.out.b7.lt
                have HMO := hid (fun (vn' vw : Value) (ws : List Value) (w4 W w5 : World) hb hr hW ho hg hn => hcs.out.more (vn' := vn') (vw := vw) (ws := ws) (w4 := w4) (W := W) (w5 := w5) hkL hb hr hW ho hg hn)
                have HK8 := hid (fun (w4 W w5 : World) (hb : Below wr.heap.size wr w4) (hW : Below w4.heap.size w4 W) (hg : W.grownBy w5 (Value.slice Av2 k cv2).ownBlock) => (hcs.out.b8.keep ((grown_below hcs.out.own.own ((bstep hb hW).mono (show wi.heap.size + 2 ≤ wr.heap.size by omega)) (by have := hb.size; have := hW.size; omega) hg).block (wi.heap.size + 1) (by omega)) : Blk w5 _ _ _))
                generalize cd.needs[k].length = ll at hlv
                subst hlv
                clear cN hlr
                go_wp2_with fail
                go_region_law ((first
                  | (go_simp; go_at_call 39; refine (HWT.out _ (b0 wr).drew).mono ?_; rintro e w4 ⟨vw, ws, rfl, how, hb4⟩; obtain ⟨Aw, cw, hvw⟩ := own_form how.own; subst hvw; have HO4 := hid how; have HB4 := hid (bstep (b0 wr).drew hb4); have d8 := cell_below HB4.out hlt8 z8; have d7 := cell_below HB4.out hlt7 z7; have g8 := (hcs.out.b8.later HB4.out).frozen 6; have dN := cell_below HB4.out hgnr zN; have hb8w := Nat.lt_of_lt_of_le hlt8 HB4.out.size; have hb7w := Nat.lt_of_lt_of_le hlt7 HB4.out.size; have hgnw := Nat.lt_of_lt_of_le hgnr HB4.out.size; clear how hb4)
                  | (refine step_guard (.tmp 63) (.tmp 70) 66 rfl ?_; refine step_append_src _ rfl (.tmp 63) (.tmp 70) 66 rfl (wi.heap.size + 2) 67 iv _ 1 24 Tryz.underlying66 HIV.out.1 HIV.out.2.1 HIV.out.2.2.1 HIV.out.2.2.2 rfl (by omega) (.slice Av2 k cv2) k zs (by rfl) (by have h := (hcs.out.own.later HB4.out).own.alloc (.cells #[.slice Aw cd.needs[k].length cw] 67); rw [List.length_take, Nat.min_eq_left (by omega)] at h; exact h) (some ⟨w4.heap.size, 0, none⟩) 1 1 [.slice Aw cd.needs[k].length cw] (by rfl) (by exact src_new _ _ rfl 1 _ rfl rfl) (by simp [Value.oneCell']) (by unfold maxLen; omega) (by omega) (by have := HB4.out.size; simp; omega) ?_; intro v5 w5 hown5 hg5 hat5; obtain ⟨A5, c5, he5⟩ := own_form hown5; subst he5; have HC5 := hid (HMO.out _ _ _ _ _ _ HB4.out HO4.out (balloc (b0 w4) _) hown5 hg5 hat5); have hk8 := HK8.out _ _ _ HB4.out (balloc (b0 w4) _) hg5; have e8 := hk8.cell 6; have eF := hk8.frozen 6; simp only [candV, List.getElem?_toArray, List.getElem?_cons_zero, List.getElem?_cons_succ] at e8; clear hown5 hg5 hat5 hk8)))
                all_goals (go_wp2_with fail; exact ⟨⟨k + 1, _, _, by omega, by go_num, HC5⟩, by simp [RowKit.intOf]; omega⟩)
              · have hke : k = nn := by omega
                subst hke
                clear hltk
                have hbk := hcs.out.below
                have hlt8 := hcs.out.b8.lt
                have hlt7 := hcs.out.b7.lt
                have hlU2 := Nat.lt_of_lt_of_le hlU hbk.size
                have HWB := hid (fun (W : World) (hW : Below wr.heap.size wr W) => wants_any (.slice Ab nb cb) cd.bars W (HBR.out.lift (hbk.trans (hW.mono hbk.size)) (hbk.trans (hW.mono hbk.size)).size) hb8 HBOK.out)
                have HCS2 := hid (show CandSt wi cd (.slice An k cn) (.slice Ab nb cb) cd.needs.length (.slice Av2 k cv2) zs wr by rw [HNN.out]; exact hcs.out)
                have HCE := hid (fun (W : World) (hW : Below wr.heap.size wr W) => (fun j => (hcs.out.b8.later hW).cell j))
                have HCF := hid (fun (W : World) (hW : Below wr.heap.size wr W) => (hcs.out.b8.later hW).frozen 7)
                have HUS4 := hid (fun (W : World) (hW : Below wr.heap.size wr W) => hus.out.later (hbk.trans (hW.mono hbk.size)))
                have HOF := hid (fun (w4 : World) (hb : Below wr.heap.size wr w4) (x : Value) => (by have h := own_far_set hus.out.own.own (hbk.trans (hb.mono hbk.size)) (p := ⟨wi.heap.size + 1, 7, none⟩) (by show wi.heap.size ≤ wi.heap.size + 1; omega) x; rw [List.length_take, Nat.min_eq_left (by omega)] at h; exact h : (w4.setCell ⟨wi.heap.size + 1, 7, none⟩ x).ownsRow (wo.heap.size + 1) 69 8 (.slice Av i cv) i ys))
                have HK5 := hid (fun (w4 W w5 : World) (x : Value) (hb : Below wr.heap.size wr w4) (hW : Below (w4.setCell ⟨wi.heap.size + 1, 7, none⟩ x).heap.size (w4.setCell ⟨wi.heap.size + 1, 7, none⟩ x) W) (hg : W.grownBy w5 (Value.slice Av i cv).ownBlock) => (hus.out.b5.keep ((grown_below hus.out.own.own ((((hbk.trans (hb.mono hbk.size)).setCell (p := ⟨wi.heap.size + 1, 7, none⟩) (by show wi.heap.size ≤ wi.heap.size + 1; omega) x).trans (hW.mono (by have := hb.size; have := hbk.size; simp; omega))).mono (show wo.heap.size + 1 ≤ wi.heap.size by omega)) (by have := hb.size; have := hbk.size; have := hW.size; simp at this; omega) hg).block wo.heap.size (by omega)) : Blk w5 _ _ _))
                have hiL5 : i ≤ 4 := by omega
                have hn5 : wo.heap.size + 1 ≤ wr.heap.size := by have := hbk.size; omega
                go_wp2_with (first
                  | (go_at_call 39; go_must (refine (HWB.out _ (b0 wr)).mono ?_; rintro e w4 ⟨vb, ws, rfl, how, hb4⟩; obtain ⟨Aw, cw, hvw⟩ := own_form how.own; rw [HNB.out] at hvw; subst hvw; have HO4 := hid how; have HB4 := hid hb4; have e0 := HCE.out w4 hb4 0; have e1 := HCE.out w4 hb4 1; have e2 := HCE.out w4 hb4 2; have e3 := HCE.out w4 hb4 3; have e4 := HCE.out w4 hb4 4; have e5 := HCE.out w4 hb4 5; have e6 := HCE.out w4 hb4 6; have e7 := HCE.out w4 hb4 7; have eF := HCF.out w4 hb4; have u2 := (HUS4.out w4 hb4).b5.cell 2; simp only [candV, List.getElem?_toArray, List.getElem?_cons_zero, List.getElem?_cons_succ] at e0 e1 e2 e3 e4 e5 e6 e7 u2; clear how hb4))
                  | (at_builtin; go_must (refine wpList_append_src _ rfl (.tmp 78) (.tmp 80) _ rfl (wo.heap.size + 1) 69 ic _ 8 112 Tryz.underlying60 HIC.out.1 HIC.out.2.1 HIC.out.2.2.1 HIC.out.2.2.2 rfl (by omega) (.slice Av i cv) i ys (by rfl) (by exact (HOF.out w4 HB4.out _).alloc _) (some ⟨w4.heap.size, 0, none⟩) 1 1 [.int .i64 cd.v.major, .int .i64 cd.v.minor, .int .i64 cd.v.patch, .string cd.v.pre, .string cd.v.build, .int .i64 cd.sh, .slice Av2 k cv2, .slice Aw nb cw] (by rfl) (by exact src_new _ _ (by simp) 8 _ rfl rfl) (by simp [Value.oneCell']) (by unfold maxLen; omega) (by omega) (by have := HB4.out.size; simp; omega) ?_; intro v5 w5 hown5 hg5 hat5; obtain ⟨A5, c5, he5⟩ := own_form hown5; subst he5; have hW5 : Below (w4.setCell ⟨wi.heap.size + 1, 7, none⟩ (.slice Aw nb cw)).heap.size (w4.setCell ⟨wi.heap.size + 1, 7, none⟩ (.slice Aw nb cw)) ((w4.setCell ⟨wi.heap.size + 1, 7, none⟩ (.slice Aw nb cw)).alloc (.cells #[.int .i64 cd.v.major, .int .i64 cd.v.minor, .int .i64 cd.v.patch, .string cd.v.pre, .string cd.v.build, .int .i64 cd.sh, .slice Av2 k cv2, .slice Aw nb cw] 69)) := balloc (b0 _) _; have HU5 := hid (HUM.out wr w4 _ w5 _ _ _ _ _ _ _ HCS2.out HB4.out HO4.out (hW5.mono (by simp)) hown5 hg5 hat5); have hk5 := HK5.out _ _ _ _ HB4.out hW5 hg5; have u5 := hk5.cell 2; have uF := hk5.frozen 2; simp only [List.getElem?_toArray, List.getElem?_cons_zero, List.getElem?_cons_succ] at u5; clear hown5 hg5 hat5 hk5 hW5)))
                exact ⟨⟨i + 1, _, _, by omega, by go_num, HU5⟩, by simp [RowKit.intOf]; omega⟩
          · have hie : i = nc := by omega
            subst hie
            clear hlti
            have r3 := cell_below hbu (by omega) p3
            have hk3 := hst.out.b3.keep (hbu.block (w.heap.size + 2) (by omega))
            have rF := hk3.frozen 0
            have s0 := hus.out.b5.cell 0
            have s1 := hus.out.b5.cell 1
            have s2 := hus.out.b5.cell 2
            simp only [List.getElem?_toArray, List.getElem?_cons_zero, List.getElem?_cons_succ] at s0 s1 s2
            have HOW := hid (show wr.ownsRow (w.heap.size + 3) 62 3 (.slice Au u cu) u xs by
              have h := (hst.out.own.later hbu).own
              rw [List.length_take, Nat.min_eq_left hu] at h
              exact h)
            have HUS2 := hid (show UnitSt wo x x.cands.length (.slice Av i cv) ys wr by rw [HNC.out]; exact hus.out)
            have HK3 := hid (fun (W w5 : World) (hW : Below wr.heap.size wr W) (hg : W.grownBy w5 (Value.slice Au u cu).ownBlock) => (hst.out.b3.keep ((grown_below hst.out.own.own ((hbu.trans (hW.mono hbu.size)).mono (show w.heap.size + 3 ≤ wo.heap.size by omega)) (by have := hbu.size; have := hW.size; omega) hg).block (w.heap.size + 2) (by omega)) : Blk w5 _ _ _))
            have hsz : w.heap.size + 3 ≤ wr.heap.size := by have := hbu.size; omega
            clear hk3
            go_wp2_with (at_builtin; go_must (refine wpList_append_src _ rfl (.tmp 84) (.tmp 86) _ rfl (w.heap.size + 3) 62 iu _ 3 56 Tryz.underlying23 HIU.out.1 HIU.out.2.1 HIU.out.2.2.1 HIU.out.2.2.2 rfl (by omega) (.slice Au u cu) u xs (by rfl) (by exact HOW.out.alloc _) (some ⟨wr.heap.size, 0, none⟩) 1 1 [.string x.nm, .string x.ft, .slice Av i cv] (by rfl) (by exact src_new _ _ rfl 3 _ rfl rfl) (by simp [Value.oneCell']) (by unfold maxLen; omega) (by omega) (by simp; omega) ?_; intro v5 w5 hown5 hg5 hat5; obtain ⟨A5, c5, he5⟩ := own_form hown5; subst he5; have HC5 := hid (HMORE.out wr _ w5 _ _ _ HUS2.out (balloc (b0 wr) _) hown5 hg5 hat5); have hk5 := HK3.out _ _ (balloc (b0 wr) _) hg5; have u5 := hk5.cell 0; have uF := hk5.frozen 0; simp only [List.getElem?_toArray, List.getElem?_cons_zero] at u5; clear hown5 hg5 hat5 hk5))
            exact ⟨⟨u + 1, _, _, by omega, by go_num, HC5⟩, by simp [RowKit.intOf]; omega⟩
    · have hue : u = us.length := by omega
      subst hue
      clear hlt
      have hown : OwnT tUnit 62 wr (w.heap.size + 3) (.slice Au us.length cu) us xs := by
        have h := hst.out.own
        rwa [List.take_length] at h
      have HOWN := hid (show OwnW (wr.setCell ⟨w.heap.size + 1, 0, none⟩ (.slice Au us.length cu)) us (.slice Au us.length cu) xs (w.heap.size + 3) from by
        obtain ⟨lo, hi, vcs, yss, nvs, bvs, L, H, hp⟩ := hst.out.units
        exact ⟨hown.setOut (p := ⟨w.heap.size + 1, 0, none⟩) (by show w.heap.size + 1 < w.heap.size + 3; omega) (.slice Au us.length cu), lo, hi, vcs, yss, nvs, bvs, L, H, (hp.keep fun j hj b h1 h2 => heap_setCell_other _ _ _ _ (by have := hp.bd j hj; show b ≠ w.heap.size + 1; omega)).mono (by simp)⟩)
      have HBF := hid (hst.out.below.setCell (p := ⟨w.heap.size + 1, 0, none⟩) (by show w.heap.size ≤ w.heap.size + 1; omega) (.slice Au us.length cu))
      have hfin := ((hst.out.b2.set 0 (.slice Au us.length cu)).cell 0)
      have hfin2 := ((hst.out.b2.set 0 (.slice Au us.length cu)).frozen 0)
      clear hown
      go_wp2_with fail
      exact bodyPost_ret (v := .agg #[.slice Au us.length cu]) (by simp [results, Tryz.results12, go_sem, p2]) rfl ⟨_, xs, rfl, HOWN.out, HBF.out⟩
end Go.Proofs.YtilgijmokjekgaaGreatDoor
