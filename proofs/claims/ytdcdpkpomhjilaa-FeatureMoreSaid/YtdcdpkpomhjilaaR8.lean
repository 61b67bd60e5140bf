/- The memory of linchpinlaw0.features. -/
import Derived.Test.YtdcdpkpomhjilaaR7
import Derived.Test.YtdcdpkpomhjilaaRp
namespace Go.Proofs.Ytdcdpkpomhjilaa
open Go Go.RowKit

/-- A slice of needs, opened. -/
theorem SliceRd.needs {w : World} {F : Nat → Prop} {v : Value} {l : List NeedD} (h : SliceRd tNeed w F v l) :
    ∃ A cap, v = .slice A l.length cap ∧ l.length ≤ cap ∧ cap ≤ maxLen ∧
      ∀ k, (hk : k < l.length) → ∃ g o g' n c wh, A = some ⟨g, o, none⟩ ∧ F g ∧ w.cell? ⟨g, o + k * 3, none⟩ = some (.slice (some ⟨g', 0, none⟩) n c) ∧ w.cell? ⟨g, o + k * 3 + 1, none⟩ = some (.string wh) ∧ w.cell? ⟨g, o + k * 3 + 2, none⟩ = some (.string l[k].opt) ∧
        1 ≤ n ∧ F g' ∧ w.cell? ⟨g', 0, none⟩ = some (.string l[k].name) ∧ l[k].name ∈ nameL ∧ (l[k].opt = ⟨#[]⟩ ∨ l[k].opt ∈ wordL) := by
  obtain ⟨A, cap, hv, h1, h2, h3⟩ := h.shape
  refine ⟨A, cap, hv, h1, h2, fun k hk => ?_⟩
  obtain ⟨g, o, cs, hA, hF, hc, hcell, g', n, c, wh, rfl, hn1, hn2, hF', hx, hnm, hop⟩ := h3 k hk
  exact ⟨g, o, g', n, c, wh, hA, hF, hcell 0 (by show 0 < 3; omega), hcell 1 (by show 1 < 3; omega), hcell 2 (by show 2 < 3; omega), hn1, hF', hx, hnm, hop⟩
theorem strs_within {w : World} {F G : Nat → Prop} {v : Value} {l : List ByteArray} (h : SliceRd tStr w F v l) (hg : ∀ g, v.ownBlock = some g → G g) : SliceRd tStr w (fun b => F b ∧ G b) v l := by
  obtain ⟨A, cap, rfl, h1, h2, h3⟩ := h.shape
  refine ⟨A, cap, rfl, h1, h2, fun k hk => ?_⟩
  obtain ⟨g, o, cs, rfl, hF, hc, hcell, hr⟩ := h3 k hk
  exact ⟨g, o, cs, rfl, ⟨hF, hg g rfl⟩, hc, hcell, hr⟩
theorem PutOk.formS {w : World} {v : Value} {l : List ByteArray} (h : PutOk w v l) : ∃ A c, v = .slice A l.length c := by
  obtain ⟨A, c, hv, -, -, -⟩ := h.1.strs
  exact ⟨A, c, hv⟩
/-- The box of a feature under way. -/
structure FBox (w : World) (T : Nat) (nm : ByteArray) (tv : Value) (of : List ByteArray) : Prop where
  box : w.heap[T]? = some (.cells #[.string nm, tv] 56 (0, 0))
  put : PutOk w tv of
  own : ∀ g, tv.ownBlock = some g → T < g
theorem FBox.lt {w : World} {T : Nat} {nm : ByteArray} {tv : Value} {of : List ByteArray} (h : FBox w T nm tv of) : T < w.heap.size := (Array.getElem?_eq_some_iff.1 h.box).1
theorem FBox.later {w w' : World} {T : Nat} {nm : ByteArray} {tv : Value} {of : List ByteArray} (h : FBox w T nm tv of) (hb : Below w.heap.size w w') : FBox w' T nm tv of := ⟨(hb.block _ h.lt).trans h.box, h.put.lift hb, h.own⟩
theorem FBox.cells {w : World} {T : Nat} {nm : ByteArray} {tv : Value} {of : List ByteArray} (h : FBox w T nm tv of) : w.cell? ⟨T, 0, none⟩ = some (.string nm) ∧ w.cell? ⟨T, 1, none⟩ = some tv ∧ (∀ o, w.frozen? ⟨T, o, none⟩ = false) ∧ T < w.heap.size := by
  refine ⟨?_, ?_, fun o => frozen_of_row w T o _ _ h.box, h.lt⟩ <;> (rw [cell_of_row _ _ _ _ _ _ h.box]; rfl)
theorem FBox.set {w : World} {T : Nat} {nm : ByteArray} {tv tv' : Value} {of of' : List ByteArray} (h : FBox w T nm tv of) (hp : PutOk w tv' of') (ho : ∀ g, tv'.ownBlock = some g → T < g) : FBox (w.setCell ⟨T, 1, none⟩ tv') T nm tv' of' := by
  refine ⟨heap_setCell_same _ _ 1 _ _ tv' h.box, ⟨?_, hp.2⟩, ho⟩
  have h1 := strs_within hp.1 (G := fun b => T < b) ho
  exact (h1.keep fun b hb => heap_setCell_other _ _ _ _ (by have := hb.2; show b ≠ T; omega)).more fun b hb => by
    have h2 : b < w.heap.size := hb.1
    have h3 := (Array.getElem?_eq_some_iff.1 (heap_setCell_same _ _ 1 _ _ tv' h.box)).1
    show b < (w.setCell ⟨T, 1, none⟩ tv').heap.size
    have := (bset (b0 w) (p := ⟨w.heap.size, 1, none⟩) (Nat.le_refl _) tv').size
    have h4 : (w.setCell ⟨T, 1, none⟩ tv').heap.size = w.heap.size := by simp
    omega
/-- The features answered so far. -/
structure OutRd (w : World) (B : Nat) (ov : Value) (fs : List Feat) (xs : List Value) : Prop where
  own : w.ownsRow B 56 2 ov fs.length xs
  el : ∀ k, (hk : k < fs.length) → ∃ tv, xs[k * 2]? = some (.string fs[k].name) ∧ xs[k * 2 + 1]? = some tv ∧ SliceRd tStr w (fun b => B ≤ b ∧ b < w.heap.size ∧ ov.ownBlock ≠ some b) tv fs[k].of ∧ fs[k].name.size ≤ maxLen
theorem OutRd.nil (w : World) (B : Nat) : OutRd w B (.slice none 0 0) [] [] := ⟨⟨rfl, .inl ⟨rfl, rfl⟩⟩, fun k hk => absurd hk (by simp)⟩
theorem OutRd.later {w w' : World} {B : Nat} {ov : Value} {fs : List Feat} {xs : List Value} (h : OutRd w B ov fs xs) (hb : Below w.heap.size w w') : OutRd w' B ov fs xs :=
  ⟨ownsRow_keep h.own fun g hg => hb.block g (h.own.lt g hg).2, fun k hk => by
    obtain ⟨tv, h1, h2, h3, h4⟩ := h.el k hk
    exact ⟨tv, h1, h2, (h3.keep fun b hb' => hb.block b hb'.2.1).more fun b hb' => ⟨hb'.1, Nat.lt_of_lt_of_le hb'.2.1 hb.size, hb'.2.2⟩, h4⟩⟩
/-- What lies below T alone is kept. -/
theorem OutRd.belowT {w w' : World} {B : Nat} {ov : Value} {fs : List Feat} {xs : List Value} (h : OutRd w B ov fs xs) {T : Nat} (hT : T = w.heap.size) (hb : Below T w w') : OutRd w' B ov fs xs := h.later (hT ▸ hb)
theorem OutRd.snoc {w w' : World} {B : Nat} {ov v' : Value} {fs : List Feat} {xs : List Value} {f : Feat} {tv : Value} (h : OutRd w B ov fs xs) (hn : f.name.size ≤ maxLen) (ht : SliceRd tStr w (fun b => B ≤ b ∧ b < w.heap.size ∧ ov.ownBlock ≠ some b) tv f.of)
    (ho : w'.ownsRow B 56 2 v' (fs.length + 1) (xs ++ [.string f.name, tv])) (hg : w.grownBy w' ov.ownBlock) (hnew : v'.ownBlock = ov.ownBlock ∨ v'.ownBlock = some w.heap.size) : OutRd w' B v' (fs ++ [f]) (xs ++ [.string f.name, tv]) := by
  have hk : ∀ {u : Value} {of : List ByteArray}, SliceRd tStr w (fun b => B ≤ b ∧ b < w.heap.size ∧ ov.ownBlock ≠ some b) u of → SliceRd tStr w' (fun b => B ≤ b ∧ b < w'.heap.size ∧ v'.ownBlock ≠ some b) u of := fun {u of} hs =>
    (hs.keep fun b hb => hg.block b hb.2.1 (fun e => hb.2.2 e.symm)).more fun b hb => ⟨hb.1, Nat.lt_of_lt_of_le hb.2.1 hg.size, fun e => by
      rcases hnew with e2 | e2
      · exact hb.2.2 (e2.symm.trans e)
      · rw [e2] at e; injection e with e; have := hb.2.1; omega⟩
  have hlen : xs.length = fs.length * 2 := h.own.1
  refine ⟨by rw [List.length_append]; exact ho, fun k hk' => ?_⟩
  rw [List.length_append, List.length_singleton] at hk'
  by_cases hlt : k < fs.length
  · obtain ⟨u, h1, h2, h3, h4⟩ := h.el k hlt
    rw [List.getElem_append_left hlt, List.getElem?_append_left (by omega), List.getElem?_append_left (by omega)]
    exact ⟨u, h1, h2, hk h3, h4⟩
  · have hk2 : k = fs.length := by omega
    subst hk2
    rw [List.getElem_append_right (Nat.le_refl _), List.getElem?_append_right (by omega), List.getElem?_append_right (by omega)]
    simp only [Nat.sub_self, List.getElem_cons_zero]
    refine ⟨tv, by rw [hlen, Nat.sub_self]; rfl, by rw [hlen, show fs.length * 2 + 1 - fs.length * 2 = 1 by omega]; rfl, hk ht, hn⟩
theorem OutRd.rd {w : World} {B : Nat} {ov : Value} {fs : List Feat} {xs : List Value} (h : OutRd w B ov fs xs) : SliceRd tFeat w (fun b => B ≤ b ∧ b < w.heap.size) ov fs := by
  rcases h.own.2 with ⟨rfl, h0⟩ | ⟨g, cap, cur, rfl, hbase, hg, q1, q2, q3, q4⟩
  · have : fs = [] := List.length_eq_zero_iff.1 h0
    subst this
    exact SliceRd.nil _ _ _
  · refine ⟨_, cap, rfl, q1, q2, fun k hk => ?_⟩
    obtain ⟨tv, h1, h2, h3, h4⟩ := h.el k hk
    refine ⟨g, 0, [.string fs[k].name, tv], rfl, ⟨hbase, (Array.getElem?_eq_some_iff.1 hg).1⟩, rfl, fun j hj => ?_, ⟨tv, rfl, h4, h3.more fun b hb => ⟨hb.1, hb.2.1⟩⟩⟩
    have hj : j < 2 := hj
    show w.cell? ⟨g, 0 + k * 2 + j, none⟩ = _
    have hc : cur[k * 2 + j]? = xs[k * 2 + j]? := by
      rw [← Array.getElem?_toList, ← q4, List.getElem?_take_of_lt (by omega)]
    rw [cell_of_row _ _ _ _ _ _ hg, Nat.zero_add, hc]
    rcases (by omega : j = 0 ∨ j = 1) with rfl | rfl
    · exact h1
    · exact h2
theorem FBox.outS {w w' : World} {T B : Nat} {nm : ByteArray} {tv ov : Value} {of : List ByteArray} {fs : List Feat} {xs : List Value} (h : FBox w' T nm tv of) (ho : OutRd w B ov fs xs) (hT : T = w.heap.size) (hB : B ≤ w.heap.size) : SliceRd tStr w' (fun b => B ≤ b ∧ b < w'.heap.size ∧ ov.ownBlock ≠ some b) tv of :=
  (strs_within h.put.1 (G := fun b => T < b) h.own).more fun b hb => ⟨by have := hb.2; omega, hb.1, fun e => by have := (ho.own.lt b e).2; have := hb.2; omega⟩
theorem feat_info : (Try.prog.info? 56).map (fun i => (i.zero, i.size, i.bytes)) = some (some (.agg #[.string ⟨#[]⟩, .slice none 0 0]), 2, 40) := by kernel_rfl
end Go.Proofs.Ytdcdpkpomhjilaa
