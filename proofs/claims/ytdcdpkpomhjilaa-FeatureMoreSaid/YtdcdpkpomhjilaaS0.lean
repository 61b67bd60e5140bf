/- Slices of texts in memory. No program stands here. -/
import Derived.Test.YtdcdpkpomhjilaaOwnF
namespace Go.Proofs.Ytdcdpkpomhjilaa
open Go Go.RowKit

/-- A slice of texts, opened. -/
theorem SliceRd.strs {w : World} {F : Nat → Prop} {v : Value} {l : List ByteArray} (h : SliceRd tStr w F v l) :
    ∃ A cap, v = .slice A l.length cap ∧ l.length ≤ cap ∧ cap ≤ maxLen ∧
      ∀ k, (hk : k < l.length) → ∃ g o, A = some ⟨g, o, none⟩ ∧ F g ∧ w.cell? ⟨g, o + k, none⟩ = some (.string l[k]) ∧ l[k].size ≤ maxLen := by
  obtain ⟨A, cap, hv, h1, h2, h3⟩ := h.shape
  refine ⟨A, cap, hv, h1, h2, fun k hk => ?_⟩
  obtain ⟨g, o, cs, hA, hF, hc, hcell, rfl, hi⟩ := h3 k hk
  have e0 := hcell 0 (by show 0 < 1; omega)
  simp only [tStr, Nat.mul_one, Nat.add_zero] at e0
  exact ⟨g, o, hA, hF, e0, hi⟩
theorem strs_all (l : List ByteArray) : fStr.all l = l.map Value.string := by
  induction l with
  | nil => rfl
  | cons x l ih => rw [Flat.all_cons, ih]; rfl
theorem strs_small {w : World} {F : Nat → Prop} {v : Value} {l : List ByteArray} (h : SliceRd tStr w F v l) : ∀ x ∈ l, x.size ≤ maxLen := by
  obtain ⟨A, cap, hv, h1, h2, h3⟩ := h.strs
  intro x hx
  obtain ⟨k, hk, rfl⟩ := List.getElem_of_mem hx
  obtain ⟨_, _, _, _, _, h⟩ := h3 k hk
  exact h
/-- A piece of a slice of texts. -/
theorem SliceRd.cutS {w : World} {F : Nat → Prop} {A : Option Addr} {n cap : Nat} {l : List ByteArray} (h : SliceRd tStr w F (.slice A n cap) l) (a b : Nat) (hab : a ≤ b) (hb : b ≤ l.length) (c' : Nat) (hc : b - a ≤ c') (hc2 : c' ≤ maxLen) (A' : Option Addr) (hA : ∀ g o, A = some ⟨g, o, none⟩ → a < b → A' = some ⟨g, o + a, none⟩) :
    SliceRd tStr w F (.slice A' (b - a) c') ((l.drop a).take (b - a)) := by
  obtain ⟨A0, cap0, hv, h1, h2, h3⟩ := h.shape
  injection hv with e1 e2 e3
  subst e1 e2 e3
  have hl : ((l.drop a).take (b - a)).length = b - a := by rw [List.length_take, List.length_drop]; omega
  refine ⟨A', c', by rw [hl], by rw [hl]; exact hc, hc2, fun k hk => ?_⟩
  rw [hl] at hk
  obtain ⟨g, o, cs, hA0, hF, hcl, hcell, hr⟩ := h3 (a + k) (by omega)
  refine ⟨g, o + a, cs, hA g o hA0 (by omega), hF, hcl, fun j hj => ?_, ?_⟩
  · have := hcell j hj
    simp only [tStr, Nat.mul_one] at this ⊢
    rw [← this]
    congr 2
    omega
  · have e : ((l.drop a).take (b - a))[k]'(by rw [hl]; exact hk) = l[a + k] := by
      rw [List.getElem_take, List.getElem_drop]
    rw [e]
    exact hr
def ltS (a b : ByteArray) : Bool := Op.bytesLess a.toList b.toList
theorem eqS_iff (a b : ByteArray) : (a.toList == b.toList) = decide (a = b) := by
  rw [Bool.eq_iff_iff, beq_iff_eq, decide_eq_true_iff, ByteArray.toList_eq, ByteArray.toList_eq]
  constructor
  · intro h
    exact ByteArray.ext (Array.ext' h)
  · rintro rfl; rfl
/-- Do texts rise, none twice? -/
def risesB (l : List ByteArray) : Bool := (List.range l.length).all fun i => decide (i = 0) || ltS (l.getD (i - 1) ByteArray.empty) (l.getD i ByteArray.empty)
theorem risesB_bad {l : List ByteArray} {i : Nat} (h0 : 1 ≤ i) (hi : i < l.length) (h : ltS (l[i - 1]'(by omega)) l[i] = false) : risesB l = false := by
  unfold risesB
  rw [List.all_eq_false]
  refine ⟨i, List.mem_range.2 hi, ?_⟩
  rw [List.getD_eq_getElem?_getD, List.getD_eq_getElem?_getD, List.getElem?_eq_getElem (show i - 1 < l.length by omega), List.getElem?_eq_getElem hi]
  simp only [Option.getD_some, h, Bool.or_false, decide_eq_true_eq]
  omega
theorem risesB_good {l : List ByteArray} (h : ∀ i, (h0 : 1 ≤ i) → (hi : i < l.length) → ltS (l[i - 1]'(by omega)) l[i] = true) : risesB l = true := by
  unfold risesB
  rw [List.all_eq_true]
  intro i hi
  have hi := List.mem_range.1 hi
  by_cases h0 : i = 0
  · simp [h0]
  · rw [List.getD_eq_getElem?_getD, List.getD_eq_getElem?_getD, List.getElem?_eq_getElem (show i - 1 < l.length by omega), List.getElem?_eq_getElem hi]
    simp only [Option.getD_some, h i (by omega) hi, Bool.or_true]
theorem risesB_iff {l : List ByteArray} : risesB l = true ↔ ∀ i, (h0 : 1 ≤ i) → (hi : i < l.length) → ltS (l[i - 1]'(by omega)) l[i] = true := by
  constructor
  · intro h i h0 hi
    cases hb : ltS (l[i - 1]'(by omega)) l[i] with
    | true => rfl
    | false => rw [risesB_bad h0 hi hb] at h; cases h
  · exact risesB_good
end Go.Proofs.Ytdcdpkpomhjilaa
