/- Contract: linchpinlaw0.Record (at 0, 0). -/
import Derived.Test.YtdcdpkpomhjilaaR9
import Derived.Deep.DeepCutAuto
namespace Go.Proofs.Ytdcdpkpomhjilaa
open Go Go.RowKit

/-- A row of structs of the call's own, whatever they hold. -/
structure OwnT {α : Type} (t : Ty α) (e : TypeId) (w : World) (B : Nat) (v : Value) (l : List α) (xs : List Value) : Prop where
  own : w.ownsRow B e t.size v l.length xs
  el : ∀ k, (hk : k < l.length) → ∃ cs, cs.length = t.size ∧ (∀ j, j < t.size → xs[k * t.size + j]? = cs[j]?) ∧ t.rd w (fun b => B ≤ b ∧ b < w.heap.size ∧ v.ownBlock ≠ some b) cs l[k]
section
variable {α : Type} {t : Ty α} {e : TypeId} {w w' : World} {B : Nat} {v v' : Value} {l : List α} {xs cs : List Value} {x : α}
theorem OwnT.nil (t : Ty α) (e : TypeId) (w : World) (B : Nat) : OwnT t e w B (.slice none 0 0) [] [] := ⟨⟨by simp, .inl ⟨rfl, rfl⟩⟩, fun k hk => absurd hk (by simp)⟩
theorem OwnT.later (h : OwnT t e w B v l xs) (hb : Below w.heap.size w w') : OwnT t e w' B v l xs :=
  ⟨ownsRow_keep h.own fun g hg => hb.block g (h.own.lt g hg).2, fun k hk => by
    obtain ⟨cs, h1, h2, h3⟩ := h.el k hk
    exact ⟨cs, h1, h2, t.more (fun b hb' => ⟨hb'.1, Nat.lt_of_lt_of_le hb'.2.1 hb.size, hb'.2.2⟩) (t.keep (fun b hb' => hb.block b hb'.2.1) h3)⟩⟩
theorem OwnT.setOut (h : OwnT t e w B v l xs) {p : Addr} (hp : p.block < B) (u : Value) : OwnT t e (w.setCell p u) B v l xs :=
  ⟨ownsRow_keep h.own fun g hg => heap_setCell_other _ _ _ _ (by have := (h.own.lt g hg).1; show g ≠ p.block; omega), fun k hk => by
    obtain ⟨cs, h1, h2, h3⟩ := h.el k hk
    exact ⟨cs, h1, h2, t.more (fun b hb' => ⟨hb'.1, by have := hb'.2.1; simpa using this, hb'.2.2⟩) (t.keep (fun b hb' => heap_setCell_other _ _ _ _ (by have := hb'.1; omega)) h3)⟩⟩
theorem OwnT.snoc (h : OwnT t e w B v l xs) (hl : cs.length = t.size) (hx : t.rd w (fun b => B ≤ b ∧ b < w.heap.size ∧ v.ownBlock ≠ some b) cs x)
    (ho : w'.ownsRow B e t.size v' (l.length + 1) (xs ++ cs)) (hg : w.grownBy w' v.ownBlock) (hnew : v'.ownBlock = v.ownBlock ∨ v'.ownBlock = some w.heap.size) : OwnT t e w' B v' (l ++ [x]) (xs ++ cs) := by
  have hk : ∀ {cs : List Value} {y : α}, t.rd w (fun b => B ≤ b ∧ b < w.heap.size ∧ v.ownBlock ≠ some b) cs y → t.rd w' (fun b => B ≤ b ∧ b < w'.heap.size ∧ v'.ownBlock ≠ some b) cs y := fun {cs y} hs =>
    t.more (fun b hb => ⟨hb.1, Nat.lt_of_lt_of_le hb.2.1 hg.size, fun e => by
      rcases hnew with e2 | e2
      · exact hb.2.2 (e2.symm.trans e)
      · rw [e2] at e; injection e with e; have := hb.2.1; omega⟩) (t.keep (fun b hb => hg.block b hb.2.1 (fun e => hb.2.2 e.symm)) hs)
  have hlen : xs.length = l.length * t.size := h.own.1
  refine ⟨by rw [List.length_append]; exact ho, fun k hk' => ?_⟩
  rw [List.length_append, List.length_singleton] at hk'
  by_cases hlt : k < l.length
  · obtain ⟨c, h1, h2, h3⟩ := h.el k hlt
    rw [List.getElem_append_left hlt]
    refine ⟨c, h1, fun j hj => ?_, hk h3⟩
    have : (k + 1) * t.size ≤ l.length * t.size := Nat.mul_le_mul_right _ hlt
    rw [Nat.add_mul, Nat.one_mul] at this
    rw [List.getElem?_append_left (by omega)]
    exact h2 j hj
  · have hk2 : k = l.length := by omega
    subst hk2
    rw [List.getElem_append_right (Nat.le_refl _)]
    simp only [Nat.sub_self, List.getElem_cons_zero]
    refine ⟨cs, hl, fun j hj => ?_, hk hx⟩
    rw [List.getElem?_append_right (by omega), hlen]
    congr 1
    omega
theorem OwnT.rd (h : OwnT t e w B v l xs) : SliceRd t w (Lt w.heap.size) v l := by
  rcases h.own.2 with ⟨rfl, h0⟩ | ⟨g, cap, cur, rfl, hbase, hg, q1, q2, q3, q4⟩
  · have : l = [] := List.length_eq_zero_iff.1 h0
    subst this
    exact SliceRd.nil _ _ _
  · refine ⟨_, cap, rfl, q1, q2, fun k hk => ?_⟩
    obtain ⟨cs, h1, h2, h3⟩ := h.el k hk
    refine ⟨g, 0, cs, rfl, (Array.getElem?_eq_some_iff.1 hg).1, h1, fun j hj => ?_, t.more (fun b hb => hb.2.1) h3⟩
    rw [cell_of_row _ _ _ _ _ _ hg, ← h2 j hj]
    show cur[0 + k * t.size + j]? = _
    have : (k + 1) * t.size ≤ l.length * t.size := Nat.mul_le_mul_right _ hk
    rw [Nat.add_mul, Nat.one_mul] at this
    rw [Nat.zero_add, ← Array.getElem?_toList, ← q4, List.getElem?_take_of_lt (by omega)]
end
theorem need_info : (Try.prog.info? 69).map (fun i => (i.zero, i.size, i.bytes)) = some (some (.agg #[.slice none 0 0, .string ⟨#[]⟩, .string ⟨#[]⟩]), 3, 56) := by kernel_rfl
theorem bar_info : (Try.prog.info? 73).map (fun i => (i.zero, i.size, i.bytes)) = some (some (.agg #[.string ⟨#[]⟩, .string ⟨#[]⟩, .string ⟨#[]⟩]), 3, 48) := by kernel_rfl
/-- The record as it is built: a box at T, the answer's place at R, needs of the call's own above B. -/
structure RecIn (w : World) (B R T : Nat) (ns : List NeedD) (nv : Value) (xs : List Value) (bv fv : Value) : Prop where
  box : ∃ a0 c0 c1 : ByteArray, ∃ b0' b1' b2' : Int, w.heap[T]? = some (.cells #[.string a0, .int .i64 b0', .int .i64 b1', .int .i64 b2', .string c0, .string c1, nv, bv, fv] 42 (0, 0))
  res : w.heap[R]? = some (.cells #[.string ⟨#[]⟩, .int .i64 0, .int .i64 0, .int .i64 0, .string ⟨#[]⟩, .string ⟨#[]⟩, .slice none 0 0, .slice none 0 0, .slice none 0 0] 42 (0, 0))
  own : OwnT tNeed 69 w B nv ns xs
  rt : R < T
  tb : T < B
section
variable {w w' : World} {B R T : Nat} {ns : List NeedD} {nv bv fv : Value} {xs : List Value}
theorem RecIn.lt (h : RecIn w B R T ns nv xs bv fv) : T < w.heap.size := by obtain ⟨_, _, _, _, _, _, h1⟩ := h.box; exact (Array.getElem?_eq_some_iff.1 h1).1
theorem RecIn.later (h : RecIn w B R T ns nv xs bv fv) (hb : Below w.heap.size w w') : RecIn w' B R T ns nv xs bv fv := by
  obtain ⟨a0, c0, c1, d0, d1, d2, h1⟩ := h.box
  exact ⟨⟨a0, c0, c1, d0, d1, d2, (hb.block _ h.lt).trans h1⟩, (hb.block _ (Nat.lt_trans h.rt h.lt)).trans h.res, h.own.later hb, h.rt, h.tb⟩
theorem RecIn.cells (h : RecIn w B R T ns nv xs bv fv) : ∃ a0 c0 c1 : ByteArray, ∃ d0 d1 d2 : Int, w.cell? ⟨T, 0, none⟩ = some (.string a0) ∧ w.cell? ⟨T, 1, none⟩ = some (.int .i64 d0) ∧ w.cell? ⟨T, 2, none⟩ = some (.int .i64 d1) ∧ w.cell? ⟨T, 3, none⟩ = some (.int .i64 d2) ∧ w.cell? ⟨T, 4, none⟩ = some (.string c0) ∧ w.cell? ⟨T, 5, none⟩ = some (.string c1) ∧ w.cell? ⟨T, 6, none⟩ = some nv ∧ w.cell? ⟨T, 7, none⟩ = some bv ∧ w.cell? ⟨T, 8, none⟩ = some fv ∧ (∀ o, w.frozen? ⟨T, o, none⟩ = false) ∧ T < w.heap.size := by
  obtain ⟨a0, c0, c1, d0, d1, d2, h1⟩ := h.box
  refine ⟨a0, c0, c1, d0, d1, d2, ?_, ?_, ?_, ?_, ?_, ?_, ?_, ?_, ?_, fun o => frozen_of_row w T o _ _ h1, h.lt⟩ <;> (rw [cell_of_row _ _ _ _ _ _ h1]; rfl)
theorem RecIn.setPre (h : RecIn w B R T ns nv xs bv fv) (u : ByteArray) : RecIn (w.setCell ⟨T, 4, none⟩ (.string u)) B R T ns nv xs bv fv := by
  obtain ⟨a0, c0, c1, d0, d1, d2, h1⟩ := h.box
  exact ⟨⟨a0, u, c1, d0, d1, d2, heap_setCell_same _ _ 4 _ _ (.string u) h1⟩, (heap_setCell_other _ _ _ _ (by have := h.rt; show R ≠ T; omega)).trans h.res, h.own.setOut h.tb (.string u), h.rt, h.tb⟩
theorem RecIn.setBuild (h : RecIn w B R T ns nv xs bv fv) (u : ByteArray) : RecIn (w.setCell ⟨T, 5, none⟩ (.string u)) B R T ns nv xs bv fv := by
  obtain ⟨a0, c0, c1, d0, d1, d2, h1⟩ := h.box
  exact ⟨⟨a0, c0, u, d0, d1, d2, heap_setCell_same _ _ 5 _ _ (.string u) h1⟩, (heap_setCell_other _ _ _ _ (by have := h.rt; show R ≠ T; omega)).trans h.res, h.own.setOut h.tb (.string u), h.rt, h.tb⟩
theorem RecIn.setBars (h : RecIn w B R T ns nv xs bv fv) (u : Value) : RecIn (w.setCell ⟨T, 7, none⟩ u) B R T ns nv xs u fv := by
  obtain ⟨a0, c0, c1, d0, d1, d2, h1⟩ := h.box
  exact ⟨⟨a0, c0, c1, d0, d1, d2, heap_setCell_same _ _ 7 _ _ u h1⟩, (heap_setCell_other _ _ _ _ (by have := h.rt; show R ≠ T; omega)).trans h.res, h.own.setOut h.tb u, h.rt, h.tb⟩
theorem RecIn.setFeats (h : RecIn w B R T ns nv xs bv fv) (u : Value) : RecIn (w.setCell ⟨T, 8, none⟩ u) B R T ns nv xs bv u := by
  obtain ⟨a0, c0, c1, d0, d1, d2, h1⟩ := h.box
  exact ⟨⟨a0, c0, c1, d0, d1, d2, heap_setCell_same _ _ 8 _ _ u h1⟩, (heap_setCell_other _ _ _ _ (by have := h.rt; show R ≠ T; omega)).trans h.res, h.own.setOut h.tb u, h.rt, h.tb⟩
theorem RecIn.rcells (h : RecIn w B R T ns nv xs bv fv) : w.cell? ⟨R, 0, none⟩ = some (.string ⟨#[]⟩) ∧ w.cell? ⟨R, 1, none⟩ = some (.int .i64 0) ∧ w.cell? ⟨R, 2, none⟩ = some (.int .i64 0) ∧ w.cell? ⟨R, 3, none⟩ = some (.int .i64 0) ∧ w.cell? ⟨R, 4, none⟩ = some (.string ⟨#[]⟩) ∧ w.cell? ⟨R, 5, none⟩ = some (.string ⟨#[]⟩) ∧ w.cell? ⟨R, 6, none⟩ = some (.slice none 0 0) ∧ w.cell? ⟨R, 7, none⟩ = some (.slice none 0 0) ∧ w.cell? ⟨R, 8, none⟩ = some (.slice none 0 0) ∧ (∀ o, w.frozen? ⟨R, o, none⟩ = false) ∧ R < w.heap.size := by
  refine ⟨?_, ?_, ?_, ?_, ?_, ?_, ?_, ?_, ?_, fun o => frozen_of_row w R o _ _ h.res, (Array.getElem?_eq_some_iff.1 h.res).1⟩ <;> (rw [cell_of_row _ _ _ _ _ _ h.res]; rfl)
/-- A grown world: the box as it was. -/
theorem RecIn.grown (h : RecIn w B R T ns nv xs bv fv) {ob : Option Nat} (hob : ∀ g, ob = some g → B ≤ g) (hg : w.grownBy w' ob) : (∃ a0 c0 c1 : ByteArray, ∃ b0' b1' b2' : Int, w'.heap[T]? = some (.cells #[.string a0, .int .i64 b0', .int .i64 b1', .int .i64 b2', .string c0, .string c1, nv, bv, fv] 42 (0, 0))) ∧ w'.heap[R]? = some (.cells #[.string ⟨#[]⟩, .int .i64 0, .int .i64 0, .int .i64 0, .string ⟨#[]⟩, .string ⟨#[]⟩, .slice none 0 0, .slice none 0 0, .slice none 0 0] 42 (0, 0)) := by
  obtain ⟨a0, c0, c1, d0, d1, d2, h1⟩ := h.box
  exact ⟨⟨a0, c0, c1, d0, d1, d2, (hg.block T h.lt (fun e => by have := hob T e.symm; have := h.tb; omega)).trans h1⟩, (hg.block R (Nat.lt_trans h.rt h.lt) (fun e => by have := hob R e.symm; have := h.tb; have := h.rt; omega)).trans h.res⟩
theorem RecIn.boxAt (h : ∃ a0 c0 c1 : ByteArray, ∃ b0' b1' b2' : Int, w'.heap[T]? = some (.cells #[.string a0, .int .i64 b0', .int .i64 b1', .int .i64 b2', .string c0, .string c1, nv, bv, fv] 42 (0, 0))) : w'.cell? ⟨T, 6, none⟩ = some nv ∧ w'.cell? ⟨T, 7, none⟩ = some bv ∧ (∀ o, w'.frozen? ⟨T, o, none⟩ = false) ∧ T < w'.heap.size := by
  obtain ⟨a0, c0, c1, d0, d1, d2, h1⟩ := h
  refine ⟨?_, ?_, fun o => frozen_of_row w' T o _ _ h1, (Array.getElem?_eq_some_iff.1 h1).1⟩ <;> (rw [cell_of_row _ _ _ _ _ _ h1]; rfl)
/-- A need more. -/
theorem RecIn.app {v' : Value} {news : List Value} {r : NeedD} (h : RecIn w B R T ns nv xs bv fv) (hl : news.length = 3) (hx : tNeed.rd w (fun b => B ≤ b ∧ b < w.heap.size ∧ nv.ownBlock ≠ some b) news r)
    (ho : w'.ownsRow B 69 3 v' (ns.length + 1) (xs ++ news)) (hg : w.grownBy w' nv.ownBlock) (hnew : v'.ownBlock = nv.ownBlock ∨ v'.ownBlock = some w.heap.size) :
    RecIn (w'.setCell ⟨T, 6, none⟩ v') B R T (ns ++ [r]) v' (xs ++ news) bv fv := by
  obtain ⟨⟨a0, c0, c1, d0, d1, d2, h1⟩, h2⟩ := h.grown (fun g e => (h.own.own.lt g e).1) hg
  exact ⟨⟨a0, c0, c1, d0, d1, d2, heap_setCell_same _ _ 6 _ _ v' h1⟩, (heap_setCell_other _ _ _ _ (by have := h.rt; show R ≠ T; omega)).trans h2, (h.own.snoc hl hx ho hg hnew).setOut h.tb v', h.rt, h.tb⟩
/-- Bars, answered by an append to none. -/
theorem RecIn.bars {v' : Value} (h : RecIn w B R T ns nv xs bv fv) (hg : w.grownBy w' none) : RecIn (w'.setCell ⟨T, 7, none⟩ v') B R T ns nv xs v' fv := by
  have hb : Below w.heap.size w w' := (b0 w).grown hg (Nat.le_refl _) (fun j hj => by cases hj)
  exact (h.later hb).setBars v'
end
theorem need_form {w : World} {F : Nat → Prop} {x y z : Value} {r : NeedD} (h : tNeed.rd w F [x, y, z] r) : ∃ g n c wh, x = .slice (some ⟨g, 0, none⟩) n c ∧ y = .string wh ∧ z = .string r.opt := by
  obtain ⟨g, n, c, wh, h0, _⟩ := h
  injection h0 with e1 h0
  injection h0 with e2 h0
  injection h0 with e3 _
  exact ⟨g, n, c, wh, e1, e2, e3⟩
theorem need_more {w w5 : World} {B R T : Nat} {ns : List NeedD} {nv bv fv : Value} {xs cs : List Value} {r : NeedD} (h : RecIn w B R T ns nv xs bv fv) (hr : tNeed.rd w5 (fun x => w.heap.size ≤ x ∧ x < w5.heap.size) cs r) (hB : B ≤ w.heap.size) (o : Obj) : tNeed.rd (w5.alloc o) (fun b => B ≤ b ∧ b < (w5.alloc o).heap.size ∧ nv.ownBlock ≠ some b) cs r :=
  tNeed.more (fun b hb => ⟨Nat.le_trans hB hb.1, by have := hb.2; simp; omega, fun e => by have := (h.own.own.lt b e).2; have := hb.1; omega⟩) (tNeed.keep (fun b hb => (balloc (b0 w5) o).block b hb.2) hr)
theorem RecIn.start (w : World) (nm : ByteArray) (a b : Int) (x y : ByteArray) : RecIn ((w.alloc (.cells #[.string ⟨#[]⟩, .int .i64 0, .int .i64 0, .int .i64 0, .string ⟨#[]⟩, .string ⟨#[]⟩, .slice none 0 0, .slice none 0 0, .slice none 0 0] 42)).alloc (.cells #[.string nm, .int .i64 a, .int .i64 b, .int .i64 0, .string x, .string y, .slice none 0 0, .slice none 0 0, .slice none 0 0] 42)) (w.heap.size + 2) w.heap.size (w.heap.size + 1) [] (.slice none 0 0) [] (.slice none 0 0) (.slice none 0 0) := by
  have e1 : (w.alloc (.cells #[.string ⟨#[]⟩, .int .i64 0, .int .i64 0, .int .i64 0, .string ⟨#[]⟩, .string ⟨#[]⟩, .slice none 0 0, .slice none 0 0, .slice none 0 0] 42)).heap.size = w.heap.size + 1 := by simp
  refine ⟨⟨nm, x, y, a, b, 0, ?_⟩, ?_, OwnT.nil _ _ _ _, by omega, by omega⟩
  · have := heap_alloc_new (w.alloc (.cells #[.string ⟨#[]⟩, .int .i64 0, .int .i64 0, .int .i64 0, .string ⟨#[]⟩, .string ⟨#[]⟩, .slice none 0 0, .slice none 0 0, .slice none 0 0] 42)) (.cells #[.string nm, .int .i64 a, .int .i64 b, .int .i64 0, .string x, .string y, .slice none 0 0, .slice none 0 0, .slice none 0 0] 42)
    rwa [e1] at this
  · exact ((balloc (b0 _) _).block _ (by omega)).trans (heap_alloc_new w _)
/-- The answer's place, filled. -/
theorem nine_set {w W : World} {B R T : Nat} {ns : List NeedD} {nv bv fv : Value} {xs : List Value} (h : RecIn W B R T ns nv xs bv fv) (hb : Below w.heap.size w W) (hR : w.heap.size ≤ R) (x0 x1 x2 x3 x4 x5 x6 x7 x8 : Value) :
    ∃ wS : World, wS = (((((((((W).setCell ⟨R, 0, none⟩ x0).setCell ⟨R, 1, none⟩ x1).setCell ⟨R, 2, none⟩ x2).setCell ⟨R, 3, none⟩ x3).setCell ⟨R, 4, none⟩ x4).setCell ⟨R, 5, none⟩ x5).setCell ⟨R, 6, none⟩ x6).setCell ⟨R, 7, none⟩ x7).setCell ⟨R, 8, none⟩ x8 ∧ wS.cell? ⟨R, 0, none⟩ = some x0 ∧ wS.cell? ⟨R, 1, none⟩ = some x1 ∧ wS.cell? ⟨R, 2, none⟩ = some x2 ∧ wS.cell? ⟨R, 3, none⟩ = some x3 ∧ wS.cell? ⟨R, 4, none⟩ = some x4 ∧ wS.cell? ⟨R, 5, none⟩ = some x5 ∧ wS.cell? ⟨R, 6, none⟩ = some x6 ∧ wS.cell? ⟨R, 7, none⟩ = some x7 ∧ wS.cell? ⟨R, 8, none⟩ = some x8 ∧ Hid (Below w.heap.size w wS ∧ (∀ b, b ≠ R → wS.heap[b]? = W.heap[b]?) ∧ wS.heap.size = W.heap.size) := by
  have h0 : (W.setCell ⟨R, 0, none⟩ x0).heap[R]? = some (.cells #[x0, .int .i64 0, .int .i64 0, .int .i64 0, .string ⟨#[]⟩, .string ⟨#[]⟩, .slice none 0 0, .slice none 0 0, .slice none 0 0] 42 (0, 0)) := heap_setCell_same _ _ 0 _ _ x0 h.res
  have h1 : ((W.setCell ⟨R, 0, none⟩ x0).setCell ⟨R, 1, none⟩ x1).heap[R]? = some (.cells #[x0, x1, .int .i64 0, .int .i64 0, .string ⟨#[]⟩, .string ⟨#[]⟩, .slice none 0 0, .slice none 0 0, .slice none 0 0] 42 (0, 0)) := heap_setCell_same _ _ 1 _ _ x1 h0
  have h2 : (((W.setCell ⟨R, 0, none⟩ x0).setCell ⟨R, 1, none⟩ x1).setCell ⟨R, 2, none⟩ x2).heap[R]? = some (.cells #[x0, x1, x2, .int .i64 0, .string ⟨#[]⟩, .string ⟨#[]⟩, .slice none 0 0, .slice none 0 0, .slice none 0 0] 42 (0, 0)) := heap_setCell_same _ _ 2 _ _ x2 h1
  have h3 : ((((W.setCell ⟨R, 0, none⟩ x0).setCell ⟨R, 1, none⟩ x1).setCell ⟨R, 2, none⟩ x2).setCell ⟨R, 3, none⟩ x3).heap[R]? = some (.cells #[x0, x1, x2, x3, .string ⟨#[]⟩, .string ⟨#[]⟩, .slice none 0 0, .slice none 0 0, .slice none 0 0] 42 (0, 0)) := heap_setCell_same _ _ 3 _ _ x3 h2
  have h4 : (((((W.setCell ⟨R, 0, none⟩ x0).setCell ⟨R, 1, none⟩ x1).setCell ⟨R, 2, none⟩ x2).setCell ⟨R, 3, none⟩ x3).setCell ⟨R, 4, none⟩ x4).heap[R]? = some (.cells #[x0, x1, x2, x3, x4, .string ⟨#[]⟩, .slice none 0 0, .slice none 0 0, .slice none 0 0] 42 (0, 0)) := heap_setCell_same _ _ 4 _ _ x4 h3
  have h5 : ((((((W.setCell ⟨R, 0, none⟩ x0).setCell ⟨R, 1, none⟩ x1).setCell ⟨R, 2, none⟩ x2).setCell ⟨R, 3, none⟩ x3).setCell ⟨R, 4, none⟩ x4).setCell ⟨R, 5, none⟩ x5).heap[R]? = some (.cells #[x0, x1, x2, x3, x4, x5, .slice none 0 0, .slice none 0 0, .slice none 0 0] 42 (0, 0)) := heap_setCell_same _ _ 5 _ _ x5 h4
  have h6 : (((((((W.setCell ⟨R, 0, none⟩ x0).setCell ⟨R, 1, none⟩ x1).setCell ⟨R, 2, none⟩ x2).setCell ⟨R, 3, none⟩ x3).setCell ⟨R, 4, none⟩ x4).setCell ⟨R, 5, none⟩ x5).setCell ⟨R, 6, none⟩ x6).heap[R]? = some (.cells #[x0, x1, x2, x3, x4, x5, x6, .slice none 0 0, .slice none 0 0] 42 (0, 0)) := heap_setCell_same _ _ 6 _ _ x6 h5
  have h7 : ((((((((W.setCell ⟨R, 0, none⟩ x0).setCell ⟨R, 1, none⟩ x1).setCell ⟨R, 2, none⟩ x2).setCell ⟨R, 3, none⟩ x3).setCell ⟨R, 4, none⟩ x4).setCell ⟨R, 5, none⟩ x5).setCell ⟨R, 6, none⟩ x6).setCell ⟨R, 7, none⟩ x7).heap[R]? = some (.cells #[x0, x1, x2, x3, x4, x5, x6, x7, .slice none 0 0] 42 (0, 0)) := heap_setCell_same _ _ 7 _ _ x7 h6
  have h8 : (((((((((W.setCell ⟨R, 0, none⟩ x0).setCell ⟨R, 1, none⟩ x1).setCell ⟨R, 2, none⟩ x2).setCell ⟨R, 3, none⟩ x3).setCell ⟨R, 4, none⟩ x4).setCell ⟨R, 5, none⟩ x5).setCell ⟨R, 6, none⟩ x6).setCell ⟨R, 7, none⟩ x7).setCell ⟨R, 8, none⟩ x8).heap[R]? = some (.cells #[x0, x1, x2, x3, x4, x5, x6, x7, x8] 42 (0, 0)) := heap_setCell_same _ _ 8 _ _ x8 h7
  refine ⟨_, rfl, ?_, ?_, ?_, ?_, ?_, ?_, ?_, ?_, ?_, hid ⟨bset (bset (bset (bset (bset (bset (bset (bset (bset (hb) (p := ⟨R, 0, none⟩) hR x0) (p := ⟨R, 1, none⟩) hR x1) (p := ⟨R, 2, none⟩) hR x2) (p := ⟨R, 3, none⟩) hR x3) (p := ⟨R, 4, none⟩) hR x4) (p := ⟨R, 5, none⟩) hR x5) (p := ⟨R, 6, none⟩) hR x6) (p := ⟨R, 7, none⟩) hR x7) (p := ⟨R, 8, none⟩) hR x8, fun b hne => ?_, by simp⟩⟩
  · rw [cell_of_row _ _ _ _ _ _ h8]; rfl
  · rw [cell_of_row _ _ _ _ _ _ h8]; rfl
  · rw [cell_of_row _ _ _ _ _ _ h8]; rfl
  · rw [cell_of_row _ _ _ _ _ _ h8]; rfl
  · rw [cell_of_row _ _ _ _ _ _ h8]; rfl
  · rw [cell_of_row _ _ _ _ _ _ h8]; rfl
  · rw [cell_of_row _ _ _ _ _ _ h8]; rfl
  · rw [cell_of_row _ _ _ _ _ _ h8]; rfl
  · rw [cell_of_row _ _ _ _ _ _ h8]; rfl
  · iterate 9 rw [heap_setCell_other _ _ _ _ (by exact hne)]
/-- What Record answers: the features. -/
def RecPost (l : List Int) (w : World) (e : Ending) (w' : World) : Prop := Below w.heap.size w w' ∧ ∃ a0 c0 c1 : ByteArray, ∃ b0' b1' b2' : Int, ∃ nv bv fv : Value, ∃ fs, e = .returned (.agg #[.string a0, .int .i64 b0', .int .i64 b1', .int .i64 b2', .string c0, .string c1, nv, bv, fv]) ∧ SliceRd tFeat w' (Lt w'.heap.size) fv fs ∧ FsOk l 52 4 fs

set_option maxRecDepth 100000 in
set_option maxHeartbeats 8000000 in
theorem record_any (v : Value) (l : List Int) (w : World) (h : SliceRd tInt w (Lt w.heap.size) v l) :
    Calls Try.prog 20 #[v, .int .i64 0, .int .i64 0] w (RecPost l w) := by
  have HA := hid (atAll h)
  have C0 := hid (fun (wx : World) (hx : SliceRd tInt wx (Lt wx.heap.size) v l) => from_any v l 0 3 wx hx ⟨by omega, by omega⟩ (by decide) (by decide))
  have C1 := hid (fun (wx : World) (hx : SliceRd tInt wx (Lt wx.heap.size) v l) => from_any v l 1 2 wx hx ⟨by omega, by omega⟩ (by decide) (by decide))
  have C2 := hid (fun (wx : World) (hx : SliceRd tInt wx (Lt wx.heap.size) v l) => from_any v l 2 9 wx hx ⟨by omega, by omega⟩ (by decide) (by decide))
  have C3 := hid (fun (wx : World) (hx : SliceRd tInt wx (Lt wx.heap.size) v l) => from_any v l 3 4 wx hx ⟨by omega, by omega⟩ (by decide) (by decide))
  have C45 := hid (fun (wx : World) (hx : SliceRd tInt wx (Lt wx.heap.size) v l) => from_any v l 45 5 wx hx ⟨by omega, by omega⟩ (by decide) (by decide))
  have C46 := hid (fun (wx : World) (hx : SliceRd tInt wx (Lt wx.heap.size) v l) => from_any v l 46 4 wx hx ⟨by omega, by omega⟩ (by decide) (by decide))
  have CN := hid (fun (wx : World) => name_any 0 wx ⟨by omega, by omega⟩)
  have l46 := fromF_lo l 46 (n := 4) (by decide)
  have h46 := fromF_hi l 46 (n := 4) (by decide)
  have l3 := fromF_lo l 3 (n := 4) (by decide)
  have h3 := fromF_hi l 3 (n := 4) (by decide)
  have CM := hid (fun (wx : World) => name_any (1 + fromF l 46 4) wx ⟨by omega, by omega⟩)
  have CFW := hid (fun (wx : World) (hx : SliceRd tInt wx (Lt wx.heap.size) v l) => few0_any v l 47 wx hx (by omega) (by omega))
  have CWH := hid (fun (wx : World) (hx : SliceRd tInt wx (Lt wx.heap.size) v l) => when_any v l 50 wx hx (by omega) (by omega))
  have HA1 := hid (HA.out _ (balloc (b0 w) (.cells #[.string ⟨#[]⟩, .int .i64 0, .int .i64 0, .int .i64 0, .string ⟨#[]⟩, .string ⟨#[]⟩, .slice none 0 0, .slice none 0 0, .slice none 0 0] 42)))
  have HA2 := hid (fun o => HA.out _ (balloc (balloc (b0 w) (.cells #[.string ⟨#[]⟩, .int .i64 0, .int .i64 0, .int .i64 0, .string ⟨#[]⟩, .string ⟨#[]⟩, .slice none 0 0, .slice none 0 0, .slice none 0 0] 42)) o))
  generalize nameAt 0 = nm at *
  generalize nameAt (1 + fromF l 46 4) = nm46 at *
  generalize fromF l 0 3 = a at *
  generalize fromF l 1 2 = b at *
  generalize fromF l 2 9 = q9 at *
  generalize fromF l 3 4 = q3 at *
  generalize fromF l 45 5 = q45 at *
  generalize fromF l 46 4 = q46 at *
  obtain ⟨iw, hiw⟩ := info_parts need_info
  have HIW := hid hiw
  obtain ⟨ib, hib⟩ := info_parts bar_info
  have HIB := hid hib
  clear h hiw hib
  go_enter Try.func20, Try.ntmps20
  go_upto_if 24 with (first
    | (go_at_call 41; (with_reducible refine (CN.out _).mono ?_); rintro e w' ⟨rfl, rfl⟩)
    | (go_at_call 42; (with_reducible refine (C0.out _ HA1.out).mono ?_); rintro e w' ⟨rfl, rfl⟩)
    | (go_at_call 42; (with_reducible refine (C1.out _ HA1.out).mono ?_); rintro e w' ⟨rfl, rfl⟩)
    | (go_at_call 42; (with_reducible refine (C2.out _ (HA2.out _)).mono ?_); rintro e w' ⟨rfl, rfl⟩)
    | fail)
  obtain ⟨w0, hw0⟩ : ∃ w0 : World, w0 = (w.alloc (.cells #[.string ⟨#[]⟩, .int .i64 0, .int .i64 0, .int .i64 0, .string ⟨#[]⟩, .string ⟨#[]⟩, .slice none 0 0, .slice none 0 0, .slice none 0 0] 42)).alloc (.cells #[.string nm, .int .i64 a, .int .i64 b, .int .i64 0, .string ⟨#[]⟩, .string ⟨#[]⟩, .slice none 0 0, .slice none 0 0, .slice none 0 0] 42) := ⟨_, rfl⟩
  have HR0 : Hid (RecIn w0 (w.heap.size + 2) w.heap.size (w.heap.size + 1) [] (.slice none 0 0) [] (.slice none 0 0) (.slice none 0 0)) := hid (hw0 ▸ RecIn.start w nm a b ⟨#[]⟩ ⟨#[]⟩)
  have HB0 : Hid (Below w.heap.size w w0) := hid (hw0 ▸ balloc (balloc (b0 w) _) _)
  rw [← hw0]
  clear hw0
  go_cut [7] (fun s7 wx => s7 = .pointer (some ⟨w.heap.size + 1, 0, none⟩) ∧ Hid (RecIn wx (w.heap.size + 2) w.heap.size (w.heap.size + 1) [] (.slice none 0 0) [] (.slice none 0 0) (.slice none 0 0)) ∧ Hid (Below w.heap.size w wx))
  case first =>
    obtain ⟨a0, c0, c1, d0, d1, d2, x0, x1, x2, x3, x4, x5, x6, x7, x8, xf, xl⟩ := HR0.out.cells
    rcases bc (q9 == 1) with ⟨hq, -⟩ | ⟨hq, -⟩
    · go_wp2_with fail
      go_meet
      exact ⟨rfl, hid (HR0.out.setPre _), hid (bset HB0.out (p := ⟨w.heap.size + 1, 4, none⟩) (Nat.le_succ _) _)⟩
    · go_wp2_with fail
      go_meet
      exact ⟨rfl, HR0, HB0⟩
  case rest =>
    clear HR0 HB0
    obtain ⟨rfl, HR1, HB1⟩ := hcut
    have HAC := hid (HA.out _ HB1.out)
    go_upto_if 31 with (first
      | (go_at_call 42; (with_reducible refine (C2.out _ HAC.out).mono ?_); rintro e w' ⟨rfl, rfl⟩)
      | fail)
    go_cut [7] (fun s7 wx => s7 = .pointer (some ⟨w.heap.size + 1, 0, none⟩) ∧ Hid (RecIn wx (w.heap.size + 2) w.heap.size (w.heap.size + 1) [] (.slice none 0 0) [] (.slice none 0 0) (.slice none 0 0)) ∧ Hid (Below w.heap.size w wx))
    case first =>
      obtain ⟨a0, c0, c1, d0, d1, d2, x0, x1, x2, x3, x4, x5, x6, x7, x8, xf, xl⟩ := HR1.out.cells
      rcases bc (q9 == 2) with ⟨hq, -⟩ | ⟨hq, -⟩
      · go_wp2_with fail
        go_meet
        exact ⟨rfl, hid (HR1.out.setBuild _), hid (bset HB1.out (p := ⟨w.heap.size + 1, 5, none⟩) (Nat.le_succ _) _)⟩
      · go_wp2_with fail
        go_meet
        exact ⟨rfl, HR1, HB1⟩
    case rest =>
      clear HR1 HB1 HAC
      obtain ⟨rfl, HR0, HB0⟩ := hcut
      have HAC := hid (HA.out _ HB0.out)
      go_wp2_with (first
        | (go_at_call 42; (with_reducible refine (C3.out _ HAC.out).mono ?_); rintro e w' ⟨rfl, rfl⟩)
        | fail)
      clear HAC
      go_loopw [8] (fun kv wr => ∃ (k : Nat) (ns : List NeedD) (nv : Value) (xs : List Value), ns.length + k ≤ 2 ∧ kv = .int .i64 k ∧ Hid (RecIn wr (w.heap.size + 2) w.heap.size (w.heap.size + 1) ns nv xs (.slice none 0 0) (.slice none 0 0)) ∧ Hid (Below w.heap.size w wr)) (fun kv _ => (intOf kv).toNat)
      case atStart => exact ⟨(q3 % 3).toNat, [], _, [], by simp; omega, by rw [Int.toNat_of_nonneg (by omega)], HR0, HB0⟩
      case round =>
        obtain ⟨k, ns, nv, xs, hk, rfl, HR, hb⟩ := hrel
        obtain ⟨An, cn, rfl⟩ := own_form HR.out.own.own
        obtain ⟨a0, c0, c1, d0, d1, d2, x0, x1, x2, x3, x4, x5, x6, x7, x8, xf, xl⟩ := HR.out.cells
        by_cases hlt : 0 < k
        · have i2 : (0 : Int) < ↑k := by omega
          have hdr : Below wr.heap.size wr wr.drew := (b0 wr).drew
          have HAR := HA.out _ (hb.out.trans (hdr.mono hb.out.size))
          have HNE := hid (need_any v l (4 + 20 * ↑k - 20) 0 wr.drew HAR (by omega) (by omega) (by decide) (by decide))
          have q0 : IntKind.i64.wrap 4 = 4 := IntWalk.i64_in _ (by omega)
          have q1 : IntKind.i64.wrap (20 * ↑k) = 20 * ↑k := IntWalk.i64_in _ (by omega)
          have q2 : IntKind.i64.wrap (4 + 20 * ↑k) = 4 + 20 * ↑k := IntWalk.i64_in _ (by omega)
          have q3' : IntKind.i64.wrap (4 + 20 * ↑k - 20) = 4 + 20 * ↑k - 20 := IntWalk.i64_in _ (by omega)
          have hB : w.heap.size + 2 ≤ wr.heap.size := by omega
          clear HAR x0 x1 x2 x3 x4 x5 x7 x8
          go_wp2_with fail
          first
            | go_must (go_region_law ((first
              | (refine step_guard (.tmp 44) (.tmp 54) 39 rfl ?_; refine step_append_src _ rfl (.tmp 44) (.tmp 54) 39 rfl (w.heap.size + 2) 69 iw _ 3 56 Try.underlying39 HIW.out.1 HIW.out.2.1 HIW.out.2.2.1 HIW.out.2.2.2 rfl (by omega) (.slice An ns.length cn) ns.length xs (by rfl) (by exact (HR5.out.own.own.alloc _)) (some ⟨w5.heap.size, 0, none⟩) 1 1 [.slice (some ⟨g5, 0, none⟩) n5 c5, .string wh5, .string r5.opt] (by rfl) (by first | exact src_new _ _ rfl 3 _ rfl rfl | exact src_new_drew _ _ rfl 3 _ rfl rfl) (by simp [Value.oneCell']) (by unfold maxLen; omega) (by omega) (by have := HB5.out.size; simp; omega) ?_; intro v6 w6 hown6 hg6 hat6; obtain ⟨A6, c6, rfl⟩ := own_form hown6; have HR6 := hid ((HR5.out.later (balloc (b0 w5) _)).app rfl (HRX.out _) hown6 hg6 hat6); obtain ⟨y6, y7, yf, yl⟩ := RecIn.boxAt ((HR5.out.later (balloc (b0 w5) _)).grown (fun g e => (HR5.out.own.own.lt g e).1) hg6).1; have HB6 := hid (((HB5.out.alloc (Nat.le_trans (by omega) HB5.out.size) _).grown (B := w.heap.size + 2) hg6 (by have := HB5.out.size; simp; omega) (fun j hj => (HR5.out.own.own.lt j hj).1))); clear hown6 hg6 hat6)
              | (go_simp; go_at_call 43; (with_reducible refine HNE.out.mono ?_); rintro e w5 ⟨hb5, na, nb, nc, r5, rfl, hr5⟩; obtain ⟨g5, n5, c5, wh5, rfl, rfl, rfl⟩ := need_form hr5; have HR5 := hid (HR.out.later (hdr.trans hb5)); have HB5 := hid (Below.mono (hdr.trans hb5) hB); have HRX := hid (fun o => need_more HR.out hr5 hB o); obtain ⟨z0', z1', z2', z3', z4', z5', z0, z1, z2, z3, z4, z5, z6, z7, z8, zf, zl⟩ := HR5.out.cells; clear hb5 hr5 z0 z1 z2 z3 z4 z5 z7 z8))))
            | fail
          all_goals
            go_wp2
            exact ⟨⟨k - 1, ns ++ [r5], _, _, by rw [List.length_append, List.length_singleton]; omega, by go_num, HR6, hid (bset (hb.out.trans (HB6.out.mono (by omega))) (Nat.le_succ _) _)⟩, by simp [intOf]; omega⟩
        · have i2 : ¬ (0 : Int) < ↑k := by omega
          have C45' := hid (C45.out _ (HA.out _ hb.out))
          go_upto_if 61 with (first
            | (go_at_call 42; (with_reducible refine C45'.out.mono ?_); rintro e w' ⟨rfl, rfl⟩)
            | fail)
          go_cut [7] (fun s7 wx => s7 = .pointer (some ⟨w.heap.size + 1, 0, none⟩) ∧ (∃ BA bn bcp, Hid (RecIn wx (w.heap.size + 2) w.heap.size (w.heap.size + 1) ns (.slice An ns.length cn) xs (.slice BA bn bcp) (.slice none 0 0))) ∧ Hid (Below w.heap.size w wx))
          case first =>
            rcases bc (q45 == 1) with ⟨hq, -⟩ | ⟨hq, -⟩
            · have hdr : Below wr.heap.size wr wr.drew := (b0 wr).drew
              have HAD := HA.out _ (hb.out.trans (hdr.mono hb.out.size))
              have D46 := hid (C46.out wr.drew HAD)
              have DF := hid (CFW.out wr.drew HAD)
              have hB : w.heap.size + 2 ≤ wr.heap.size := by have := HR.out.lt; omega
              have q0 : IntKind.i64.wrap (1 + q46) = 1 + q46 := IntWalk.i64_in _ (by omega)
              have w1 : IntKind.i64.wrap 1 = 1 := IntWalk.i64_in _ (by omega)
              have w46 : IntKind.i64.wrap 46 = 46 := IntWalk.i64_in _ (by omega)
              have w47 : IntKind.i64.wrap 47 = 47 := IntWalk.i64_in _ (by omega)
              have w50 : IntKind.i64.wrap 50 = 50 := IntWalk.i64_in _ (by omega)
              clear HAD
              go_wp2_with fail
              first
                | go_must (go_region_law ((first
                  | (refine step_guard (.tmp 63) (.tmp 81) 40 rfl ?_; refine step_append_src _ rfl (.tmp 63) (.tmp 81) 40 rfl (w.heap.size + 2) 73 ib _ 3 48 Try.underlying40 HIB.out.1 HIB.out.2.1 HIB.out.2.2.1 HIB.out.2.2.2 rfl (by omega) (.slice none 0 0) 0 [] (by rfl) ⟨rfl, .inl ⟨rfl, rfl⟩⟩ (some ⟨w5.heap.size, 0, none⟩) 1 1 [.string nm46, .string s4, .string s5] (by rfl) (by first | exact src_new _ _ rfl 3 _ rfl rfl | exact src_new_drew _ _ rfl 3 _ rfl rfl) (by simp [Value.oneCell']) (by unfold maxLen; omega) (by omega) (by have := HW5.out.size; simp; omega) ?_; intro v6 w6 hown6 hg6 hat6; obtain ⟨BA, bcp, rfl⟩ := own_form hown6; have HR6 := hid ((HR5.out.later (balloc (b0 w5) _)).bars (v' := .slice BA (0 + 1) bcp) hg6); obtain ⟨y6, y7, yf, yl⟩ := RecIn.boxAt ((HR5.out.later (balloc (b0 w5) _)).grown (ob := none) (fun g e => by cases e) hg6).1; have HB6 := hid ((hb.out.trans (HW5.out.mono hb.out.size)).trans (((b0 w5).alloc (Nat.le_refl _) _).grown hg6 (by simp) (fun j hj => by cases hj) |>.mono (by have := HW5.out.size; omega))); clear hown6 hg6 hat6)
                  | (go_simp; go_at_call 42; (with_reducible refine D46.out.mono ?_); rintro e w' ⟨rfl, rfl⟩)
                  | (go_simp; go_at_call 41; (with_reducible refine (CM.out _).mono ?_); rintro e w' ⟨rfl, rfl⟩)
                  | (go_simp; go_at_call 44; (with_reducible refine DF.out.mono ?_); rintro e w4 ⟨hb4, s4, rfl, hs4⟩; have HW4 := hid (hdr.trans hb4); have DWH := hid (CWH.out w4 (HA.out _ (hb.out.trans (HW4.out.mono hb.out.size)))); have HR4 := hid (HR.out.later HW4.out); obtain ⟨j0', j1', j2', j3', j4', j5', j0, j1, j2, j3, j4, j5, j6, j7, j8, jf, jl⟩ := HR4.out.cells; clear hb4 j0 j1 j2 j3 j4 j5 j6 j8)
                  | (go_simp; go_at_call 45; (with_reducible refine DWH.out.mono ?_); rintro e w5 ⟨hb5, s5, rfl, hs5⟩; have HW5 := hid (bstep HW4.out hb5); have HR5 := hid (HR.out.later HW5.out); obtain ⟨z0', z1', z2', z3', z4', z5', z0, z1, z2, z3, z4, z5, z6, z7, z8, zf, zl⟩ := HR5.out.cells; clear hb5 z0 z1 z2 z3 z4 z5 z6 z8))))
                | fail
              all_goals
                go_wp2_with fail
                go_meet
                exact ⟨rfl, ⟨BA, 0 + 1, bcp, HR6⟩, hid (bset HB6.out (p := ⟨w.heap.size + 1, 7, none⟩) (Nat.le_succ _) _)⟩
            · go_wp2_with fail
              go_meet
              exact ⟨rfl, ⟨_, _, _, HR⟩, hb⟩
          case rest =>
            clear x0 x1 x2 x3 x4 x5 x6 x7 x8 xf xl
            obtain ⟨rfl, ⟨BA, bn, bcp, HRQ⟩, HBQ⟩ := hcut
            obtain ⟨a0, c0, c1, d0, d1, d2, x0, x1, x2, x3, x4, x5, x6, x7, x8, xf, xl⟩ := HRQ.out.cells
            have HBW := hid (show w.heap.size + 2 ≤ wc.heap.size by have := HRQ.out.lt; omega)
            have CFT := hid (features_any v l 52 a0 c0 c1 d0 d1 d2 (.slice An ns.length cn) (.slice BA bn bcp) (.slice none 0 0) ns wc (HA.out _ HBQ.out) HRQ.out.own.rd (by decide) (by decide))
            have C45' := hid (C45.out _ (HA.out _ HBQ.out))
            go_wp2_with (first
              | (go_at_call 42; (with_reducible refine C45'.out.mono ?_); rintro e w' ⟨rfl, rfl⟩)
              | (go_at_call 46; (with_reducible refine CFT.out.mono ?_); rintro e w8 ⟨hb8, fvv, fs, rfl, hrd, hfs⟩; obtain ⟨FA, fc, rfl, -, -, -⟩ := hrd.feats; have HR8 := hid (HRQ.out.later hb8); have HRD := hid hrd; have HFS := hid hfs; have HB8 := hid (HBQ.out.trans (hb8.mono HBQ.out.size)); have HW8 := hid hb8.size; obtain ⟨f0, g0, g1, e0, e1', e2', y0, y1, y2, y3, y4, y5, y6, y7, y8, yf, yl⟩ := HR8.out.cells; obtain ⟨s0, s1, s2, s3, s4, s5, s6, s7, s8, sf, sl⟩ := HR8.out.rcells; clear hb8 hrd hfs)
              | fail)
            obtain ⟨wS, hwS, t0, t1, t2, t3, t4, t5, t6, t7, t8, HE⟩ := nine_set (HR8.out.setFeats (.slice FA fs.length fc)) (bset HB8.out (p := ⟨w.heap.size + 1, 8, none⟩) (Nat.le_succ _) _) (Nat.le_refl _) (.string f0) (.int .i64 e0) (.int .i64 e1') (.int .i64 e2') (.string g0) (.string g1) (.slice An ns.length cn) (.slice BA bn bcp) (.slice FA fs.length fc)
            rw [← hwS]
            have HFIN := hid (show SliceRd tFeat wS (Lt wS.heap.size) (.slice FA fs.length fc) fs from (HRD.out.keep fun b hb => by
                have h1 := hb.1
                have h2 := HBW.out
                exact (HE.out.2.1 b (by omega)).trans (heap_setCell_other _ _ _ _ (by show b ≠ w.heap.size + 1; omega))).more fun b hb => by
                have h1 := hb.2
                have h2 := HE.out.2.2
                show b < wS.heap.size
                rw [h2]; simpa using h1)
            exact bodyPost_ret (v := .agg #[.string f0, .int .i64 e0, .int .i64 e1', .int .i64 e2', .string g0, .string g1, .slice An ns.length cn, .slice BA bn bcp, .slice FA fs.length fc]) (by simp [results, Try.results20, go_sem, t0, t1, t2, t3, t4, t5, t6, t7, t8]) rfl ⟨HE.out.1, f0, g0, g1, e0, e1', e2', _, _, _, fs, rfl, HFIN.out, HFS.out⟩

end Go.Proofs.Ytdcdpkpomhjilaa
