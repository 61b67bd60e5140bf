/- Flat data: cells alone; slices of them. No program stands here. -/
import Derived.Test.YtmghlakedaigpaaDoorCopied
namespace Go.Proofs.YtmghlakedaigpaaDoor
open Go Go.RowKit

/-- A datum that is just some cells. -/
structure Flat (α : Type) where
  size : Nat
  cells : α → List Value
  ok : α → Prop
  len : ∀ x, (cells x).length = size
  one : ∀ x, ∀ u ∈ cells x, u.oneCell' = true
  pos : 0 < size

section
variable {α : Type}
def Flat.ty (f : Flat α) : Ty α where
  size := f.size
  rd _ _ cs x := cs = f.cells x ∧ f.ok x
  len h := by rw [h.1, f.len]
  keep _ h := h
  more _ h := h

def Flat.all (f : Flat α) (l : List α) : List Value := l.flatMap f.cells
theorem Flat.all_nil (f : Flat α) : f.all [] = [] := rfl
theorem Flat.all_cons (f : Flat α) (x : α) (l : List α) : f.all (x :: l) = f.cells x ++ f.all l := rfl
theorem Flat.all_length (f : Flat α) (l : List α) : (f.all l).length = l.length * f.size := by
  induction l with
  | nil => simp [Flat.all]
  | cons x l ih => rw [f.all_cons, List.length_append, f.len, ih, List.length_cons, Nat.add_mul]; omega
theorem Flat.all_append (f : Flat α) (l m : List α) : f.all (l ++ m) = f.all l ++ f.all m := by simp [Flat.all]
theorem Flat.all_snoc (f : Flat α) (l : List α) (x : α) : f.all (l ++ [x]) = f.all l ++ f.cells x := by simp [Flat.all]
theorem Flat.all_one (f : Flat α) (l : List α) : ∀ u ∈ f.all l, u.oneCell' = true := by
  intro u hu
  obtain ⟨x, _, hx⟩ := List.mem_flatMap.1 hu
  exact f.one x u hx
theorem Flat.all_get (f : Flat α) {l : List α} : ∀ {k : Nat} (hk : k < l.length) {j : Nat}, j < f.size → (f.all l)[k * f.size + j]? = (f.cells l[k])[j]? := by
  induction l with
  | nil => intro k hk; simp at hk
  | cons x l ih =>
    intro k hk j hj
    cases k with
    | zero =>
      rw [f.all_cons, Nat.zero_mul, Nat.zero_add, List.getElem?_append_left (by rw [f.len]; exact hj)]
      rfl
    | succ k =>
      have := ih (k := k) (by simpa using hk) hj
      rw [f.all_cons, List.getElem?_append_right (by rw [f.len, Nat.add_mul]; omega), f.len]
      have e : (k + 1) * f.size + j - f.size = k * f.size + j := by rw [Nat.add_mul]; omega
      rw [e, this]
      rfl

/-- A slice of flat data, opened. -/
theorem SliceRd.flat {f : Flat α} {w : World} {F : Nat → Prop} {v : Value} {l : List α} (h : SliceRd f.ty w F v l) :
    ∃ A cap, v = .slice A l.length cap ∧ l.length ≤ cap ∧ cap ≤ maxLen ∧
      ∀ k, (hk : k < l.length) → ∃ g o, A = some ⟨g, o, none⟩ ∧ F g ∧ f.ok l[k] ∧ ∀ j u, (f.cells l[k])[j]? = some u → w.cell? ⟨g, o + k * f.size + j, none⟩ = some u := by
  obtain ⟨A, cap, hv, h1, h2, h3⟩ := h.shape
  refine ⟨A, cap, hv, h1, h2, fun k hk => ?_⟩
  obtain ⟨g, o, cs, hA, hF, hc, hcell, rfl, hi⟩ := h3 k hk
  refine ⟨g, o, hA, hF, hi, fun j u hu => ?_⟩
  have hj : j < f.size := by
    rw [← f.len l[k]]
    exact (List.getElem?_eq_some_iff.1 hu).1
  exact (hcell j hj).trans hu
theorem SliceRd.srcF {f : Flat α} {w : World} {F : Nat → Prop} {A : Option Addr} {n cap : Nat} {l : List α} (h : SliceRd f.ty w F (.slice A n cap) l) : n = l.length ∧ Src w A l.length f.size (f.all l) ∧ ∀ x ∈ l, f.ok x := by
  obtain ⟨A', cap', hv, h1, h2, h3⟩ := h.flat
  injection hv with e1 e2 e3
  subst e1
  refine ⟨e2, ⟨f.all_length l, fun hm => ?_⟩, ?_⟩
  · obtain ⟨g, o, hA, _⟩ := h3 0 hm
    refine ⟨⟨g, o, none⟩, hA, fun j u hu => ?_⟩
    have hj : j < l.length * f.size := by
      rw [← f.all_length]
      exact (List.getElem?_eq_some_iff.1 hu).1
    have hp := f.pos
    have hq : j / f.size < l.length := (Nat.div_lt_iff_lt_mul hp).2 hj
    obtain ⟨g', o', hA', hF, _, hc⟩ := h3 (j / f.size) hq
    rw [hA] at hA'
    injection hA' with hA'
    injection hA' with eg eo
    subst eg; subst eo
    rw [add_mk]
    have hr : j % f.size < f.size := Nat.mod_lt _ hp
    have e : j / f.size * f.size + j % f.size = j := by rw [Nat.mul_comm]; exact Nat.div_add_mod _ _
    have h4 := f.all_get hq hr
    rw [e, hu] at h4
    have h5 := hc _ _ h4.symm
    rwa [Nat.add_assoc, e] at h5
  · intro x hx
    obtain ⟨k, hk, rfl⟩ := List.getElem_of_mem hx
    obtain ⟨_, _, _, _, hi, _⟩ := h3 k hk
    exact hi
/-- An own row reads as a slice. -/
theorem rd_of_ownF {f : Flat α} {w : World} {B : Nat} {e : TypeId} {v : Value} {l : List α} {F : Nat → Prop} (h : w.ownsRow B e f.size v l.length (f.all l)) (hi : ∀ x ∈ l, f.ok x) (hF : ∀ g, v.ownBlock = some g → F g) : SliceRd f.ty w F v l := by
  rcases h.2 with ⟨rfl, hn⟩ | ⟨g, cap, cur, rfl, hb, hg, h1, h2, h3, h4⟩
  · have : l = [] := List.eq_nil_of_length_eq_zero hn
    subst this
    exact SliceRd.nil _ _ _
  · refine ⟨⟨some ⟨g, 0, none⟩, cap, rfl, h1, h2, fun k hk => ⟨g, 0, f.cells l[k], rfl, hF g rfl, f.len _, ?_, rfl, hi _ (List.getElem_mem hk)⟩⟩⟩
    intro j hj
    have hj' : j < f.size := hj
    rw [cell_of_row w g _ cur e (0, 0) hg]
    have hlt : k * f.size + j < l.length * f.size := by
      have : (k + 1) * f.size ≤ l.length * f.size := Nat.mul_le_mul_right _ hk
      rw [Nat.add_mul] at this
      omega
    have hcur : cur[k * f.size + j]? = (f.all l)[k * f.size + j]? := by
      rw [← h4, List.getElem?_take_of_lt hlt, Array.getElem?_toList]
    show cur[0 + k * f.size + j]? = _
    rw [Nat.zero_add, hcur]
    exact f.all_get hk hj'
end

def fInt : Flat Int := ⟨1, fun n => [.int .i64 n], I64, fun _ => rfl, fun _ u h => by simp at h; subst h; rfl, by decide⟩
def fStr : Flat ByteArray := ⟨1, fun s => [.string s], fun s => s.size ≤ maxLen, fun _ => rfl, fun _ u h => by simp at h; subst h; rfl, by decide⟩
theorem fInt_ty : fInt.ty = tInt := rfl
theorem fStr_ty : fStr.ty = tStr := rfl
def fTerm : Flat Term := ⟨2, fun t => [.int .i64 t.unit, .int .i64 t.mask], fun t => I64 t.unit ∧ I64 t.mask, fun _ => rfl, fun _ u h => by simp at h; rcases h with rfl | rfl <;> rfl, by decide⟩
theorem fTerm_ty : fTerm.ty = tTerm := rfl
theorem fTerm_all (l : List Term) : fTerm.all l = termCells l := by
  induction l with
  | nil => rfl
  | cons t l ih => rw [fTerm.all_cons, ih]; rfl

/-- An operation whose guard was never set is passed over. -/
@[go_sem] theorem yu (f : (b : Bool) → (fun _ => Option Bool) (some (Value.bool b))) (g : (x : Option Value) → (fun _ => Option Bool) x) : Go.yielded.match_1 (fun _ => Option Bool) (some undef) f g = g (some undef) := rfl
theorem own_alloc_drew {w : World} {B : Nat} {e : TypeId} {s n : Nat} {v : Value} {xs : List Value} (h : w.ownsRow B e s v n xs) (o : Obj) : ((w.alloc o).drew).ownsRow B e s v n xs := h.alloc o
theorem src_new_drew {w : World} {n : Nat} (cs : Array Value) (e : TypeId) (hn : n = w.heap.size) (size : Nat) (news : List Value) (hs : news.length = size) (hc : cs.toList = news) : Src ((w.alloc (.cells cs e)).drew) (some ⟨n, 0, none⟩) 1 size news := src_new cs e hn size news hs hc
/-- A look ahead: is the operation this append? -/
theorem step_guard {P : Program} {ops : Array Oper} {o : Oper} {a : Act} {w : World} {K : Act → World → Prop} {Q : Exit → Act → World → Prop} {E : Prop} (s x : Operand) (t : TypeId)
    (_ho : o.op = .call { callee := .builtin .append, args := #[s, x], argTypes := #[t, t] })
    (h : if Region.wanted o (yielded ops a.tmps) = true then Oper.wp P o a w K Q else E) : if Region.wanted o (yielded ops a.tmps) = true then Oper.wp P o a w K Q else E := h
section
variable {w w1 w2 : World}
theorem b0 (w : World) : Below w.heap.size w w := Below.refl _ _
theorem bstep (h : Below w.heap.size w w1) (h2 : Below w1.heap.size w1 w2) : Below w.heap.size w w2 := h.trans (h2.mono h.size)
theorem balloc (h : Below w.heap.size w w1) (o : Obj) : Below w.heap.size w (w1.alloc o) := h.alloc h.size o
theorem bdrew (h : Below w.heap.size w w1) : Below w.heap.size w w1.drew := h.drew
theorem bset (h : Below w.heap.size w w1) {p : Addr} (hp : w.heap.size ≤ p.block) (v : Value) : Below w.heap.size w (w1.setCell p v) := h.setCell hp v
end
end Go.Proofs.YtmghlakedaigpaaDoor
