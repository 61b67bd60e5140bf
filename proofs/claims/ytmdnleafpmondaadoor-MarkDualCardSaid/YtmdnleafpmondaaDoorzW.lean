import Derived.Test.YtmdnleafpmondaaDoorzU
import Derived.Test.YtmdnleafpmondaaDoorzA
import Derived.Deep.RegionLaw
import Derived.Deep.RegionHeld3
import Derived.Deep.DeepCutAuto
import Derived.BigRegion
import Derived.Outline
section
/- A marker's nodes in memory; contracts: mark.keys, linchpinref10.key. -/
namespace Go.Proofs.YtmdnleafpmondaaDoor
open Go Go.RowKit

def fNode : Flat Node := ⟨5, fun n => [.int .i64 n.op, .int .i64 n.a, .int .i64 n.b, .int .i64 n.key, .string n.text], fun n => I64 n.op ∧ I64 n.a ∧ I64 n.b ∧ I64 n.key ∧ n.text.size ≤ maxLen, fun _ => rfl,
  fun _ u h => by simp at h; rcases h with rfl | rfl | rfl | rfl | rfl <;> rfl, by decide⟩
abbrev tNode := fNode.ty
/-- A slice of nodes, opened. -/
theorem SliceRd.nodes {w : World} {F : Nat → Prop} {v : Value} {l : List Node} (h : SliceRd tNode w F v l) :
    ∃ A cap, v = .slice A l.length cap ∧ l.length ≤ cap ∧ cap ≤ maxLen ∧
      ∀ k, (hk : k < l.length) → ∃ g o, A = some ⟨g, o, none⟩ ∧ F g ∧ w.cell? ⟨g, o + k * 5, none⟩ = some (.int .i64 l[k].op) ∧ w.cell? ⟨g, o + k * 5 + 1, none⟩ = some (.int .i64 l[k].a) ∧ w.cell? ⟨g, o + k * 5 + 2, none⟩ = some (.int .i64 l[k].b) ∧ w.cell? ⟨g, o + k * 5 + 3, none⟩ = some (.int .i64 l[k].key) ∧ w.cell? ⟨g, o + k * 5 + 4, none⟩ = some (.string l[k].text) ∧ fNode.ok l[k] := by
  obtain ⟨A, cap, hv, h1, h2, h3⟩ := SliceRd.flat h
  refine ⟨A, cap, hv, h1, h2, fun k hk => ?_⟩
  obtain ⟨g, o, hA, hF, hi, hc⟩ := h3 k hk
  exact ⟨g, o, hA, hF, hc 0 _ rfl, hc 1 _ rfl, hc 2 _ rfl, hc 3 _ rfl, hc 4 _ rfl, hi⟩
def opI : Frm → Int
  | .is _ _ => 1
  | .no _ => 2
  | .two true _ _ => 4
  | .two false _ _ => 3
theorem opI_one (f : Frm) : (opI f == 4) = isOne f := by
  cases f with
  | two c a b => cases c <;> rfl
  | _ => rfl
theorem opI_two (f : Frm) : isTwo f = ((opI f == 4) || (opI f == 3)) := by
  cases f with
  | two c a b => cases c <;> rfl
  | _ => rfl
theorem opI_is (f : Frm) : (opI f == 1) = isIs f := by
  cases f with
  | two c a b => cases c <;> rfl
  | _ => rfl
theorem opI_no (f : Frm) : (opI f == 2) = isNo f := by
  cases f with
  | two c a b => cases c <;> rfl
  | _ => rfl
def nA : Frm → Nat → Int
  | .is _ _, _ => 0
  | .no _, j => (j : Int) - 1
  | .two _ _ b, j => (j : Int) - 1 - b.size
def nB : Frm → Nat → Int
  | .two _ _ _, j => (j : Int) - 1
  | _, _ => 0
def nK : Frm → Int
  | .is k _ => k
  | _ => 0
def nT : Frm → ByteArray
  | .is _ s => s
  | _ => ByteArray.empty
theorem nodeOf_eq (f : Frm) (j : Nat) : nodeOf f j = ⟨opI f, nA f j, nB f j, nK f, nT f⟩ := by
  cases f with
  | two c a b => cases c <;> rfl
  | _ => rfl
/-- The cells of each node of a tree. -/
theorem open_nodes {w : World} {B : Nat} {v : Value} {l : List Node} {G : List Frm} (h : SliceRd tNode w (Lt B) v l) (ht : TreeAt l G) (hp : 0 < l.length) :
    ∃ gb o cap, v = .slice (some ⟨gb, o, none⟩) l.length cap ∧ l.length ≤ cap ∧ cap ≤ maxLen ∧ gb < B ∧
      ∀ (j : Nat) (f : Frm), G[j]? = some f → j < l.length ∧ w.cell? ⟨gb, o + j * 5, none⟩ = some (.int .i64 (opI f)) ∧ w.cell? ⟨gb, o + j * 5 + 1, none⟩ = some (.int .i64 (nA f j)) ∧ w.cell? ⟨gb, o + j * 5 + 2, none⟩ = some (.int .i64 (nB f j)) ∧ w.cell? ⟨gb, o + j * 5 + 3, none⟩ = some (.int .i64 (nK f)) ∧ w.cell? ⟨gb, o + j * 5 + 4, none⟩ = some (.string (nT f)) := by
  obtain ⟨A, cap, rfl, h1, h2, hc⟩ := h.nodes
  obtain ⟨gb, o, rfl, hF, _⟩ := hc 0 hp
  refine ⟨gb, o, cap, rfl, h1, h2, hF, fun j f hf => ?_⟩
  have hj : j < l.length := by rw [ht.len]; exact get_lt hf
  have hn := ht.node j f hf
  rw [List.getElem?_eq_getElem hj, nodeOf_eq] at hn
  injection hn with hn
  obtain ⟨g', o', hA, _, g0, g1, g2, g3, g4, _⟩ := hc j hj
  injection hA with hA
  injection hA with e1 e2
  subst e1; subst e2
  rw [hn] at g0 g1 g2 g3 g4
  exact ⟨hj, g0, g1, g2, g3, g4⟩
theorem cells5 {B : Nat} {w w' : World} (hb : Below B w w') {g o : Nat} (hg : g < B) {x0 x1 x2 x3 x4 : Value} (h : w.cell? ⟨g, o, none⟩ = some x0 ∧ w.cell? ⟨g, o + 1, none⟩ = some x1 ∧ w.cell? ⟨g, o + 2, none⟩ = some x2 ∧ w.cell? ⟨g, o + 3, none⟩ = some x3 ∧ w.cell? ⟨g, o + 4, none⟩ = some x4) :
    w'.cell? ⟨g, o, none⟩ = some x0 ∧ w'.cell? ⟨g, o + 1, none⟩ = some x1 ∧ w'.cell? ⟨g, o + 2, none⟩ = some x2 ∧ w'.cell? ⟨g, o + 3, none⟩ = some x3 ∧ w'.cell? ⟨g, o + 4, none⟩ = some x4 :=
  ⟨cell_below hb hg h.1, cell_below hb hg h.2.1, cell_below hb hg h.2.2.1, cell_below hb hg h.2.2.2.1, cell_below hb hg h.2.2.2.2⟩
theorem str_app (a b : List UInt8) : (⟨a.toArray⟩ ++ ⟨b.toArray⟩ : ByteArray) = ⟨(a ++ b).toArray⟩ := by
  apply ByteArray.ext
  simp [ByteArray.data_append]
theorem str_self (s : ByteArray) : s = ⟨s.data.toList.toArray⟩ := by apply ByteArray.ext; simp
def keysC : Array Value := #[.string ⟨#[111, 115]⟩, .string ⟨#[97, 114, 99, 104]⟩, .string ⟨#[97, 98, 105]⟩]
theorem keys_get {k : Nat} (hk : k < 3) : keysC[k]? = some (.string ⟨(keyL k).toArray⟩) := by
  match k, hk with
  | 0, _ => rfl
  | 1, _ => rfl
  | 2, _ => rfl
theorem keys_cell (w : World) {k : Nat} (hk : k < 3) : (w.alloc (.cells keysC 9)).cell? ⟨w.heap.size, k, none⟩ = some (.string ⟨(keyL k).toArray⟩) := by
  rw [World.cell?_alloc_new]
  match k, hk with
  | 0, _ => rfl
  | 1, _ => rfl
  | 2, _ => rfl

theorem keys_any (w : World) : Calls Tryd.prog 65 #[] w fun e w' => e = .returned (.slice (some ⟨w.heap.size, 0, none⟩) 3 3) ∧ w' = w.alloc (.cells keysC 9) := by
  go_enter Tryd.func65, Tryd.ntmps65
  go_wp2
  go_ret
  exact ⟨rfl, rfl⟩
end Go.Proofs.YtmdnleafpmondaaDoor
end
section
/- A row of nodes read as trees: what is kept beside it. No program stands here. -/
namespace Go.Proofs.YtmdnleafpmondaaDoor
open Go Go.RowKit

/-- Where each tree of a row begins, told at its end. -/
def StackOk (st : List Int) : List Frm → Nat → Prop
  | [], i => i = 0
  | f :: r, i => f.size ≤ i ∧ st[i - 1]? = some ((i - f.size : Nat) : Int) ∧ StackOk st r (i - f.size)
theorem StackOk.keep {st st' : List Int} {S : List Frm} {i : Nat} (h : ∀ j, j < i → st'[j]? = st[j]?) : StackOk st S i → StackOk st' S i := by
  induction S generalizing i with
  | nil => exact id
  | cons f r ih =>
    rintro ⟨h1, h2, h3⟩
    have := Frm.size_pos f
    exact ⟨h1, (h _ (by omega)).trans h2, ih (fun j hj => h j (by omega)) h3⟩
theorem StackOk.sizes {st : List Int} {S : List Frm} {i : Nat} : StackOk st S i → sizes S = i := by
  induction S generalizing i with
  | nil => intro h; exact h.symm
  | cons f r ih =>
    rintro ⟨h1, h2, h3⟩
    simp only [Go.Proofs.YtmdnleafpmondaaDoor.sizes, ih h3]
    omega
theorem StackOk.set {st : List Int} {S : List Frm} {i : Nat} {x : Int} (h : StackOk st S i) : StackOk (st.set i x) S i :=
  h.keep fun j hj => by rw [List.getElem?_set_ne (by omega)]
theorem StackOk.push {st : List Int} {r : List Frm} {f : Frm} {i o : Nat} (h : StackOk st r o) (ho : o + f.size = i + 1) (hi : i < st.length) : StackOk (st.set i o) (f :: r) (i + 1) := by
  have hp := Frm.size_pos f
  refine ⟨by omega, ?_, ?_⟩
  · rw [Nat.add_sub_cancel, List.getElem?_set_self hi]
    congr 2
    omega
  · rw [show i + 1 - f.size = o by omega]
    exact h.keep fun j hj => by rw [List.getElem?_set_ne (by omega)]
theorem tree_none {l : List Node} {k : Nat} {S : List Frm} (hk : k < l.length) (h : treeS 0 [] (l.take k) = some S) (hs : stepS k S l[k] = none) : treeB l = false := by
  have h1 : treeS 0 [] (l.take (k + 1)) = none := by
    rw [List.take_succ_eq_append_getElem hk, treeS_snoc, h]
    show stepS (l.take k).length S l[k] = none
    rw [List.length_take, Nat.min_eq_left (by omega)]
    exact hs
  have h2 : treeS 0 [] l = none := by
    have := treeS_append 0 [] (l.take (k + 1)) (l.drop (k + 1))
    rw [List.take_append_drop, h1] at this
    exact this
  unfold treeB treeF
  rw [h2]
  cases l with
  | nil => simp at hk
  | cons _ _ => rfl
theorem tree_some {l : List Node} {k : Nat} {S S' : List Frm} (hk : k < l.length) (h : treeS 0 [] (l.take k) = some S) (hs : stepS k S l[k] = some S') : treeS 0 [] (l.take (k + 1)) = some S' := by
  rw [List.take_succ_eq_append_getElem hk, treeS_snoc, h]
  show stepS (l.take k).length S l[k] = some S'
  rw [List.length_take, Nat.min_eq_left (by omega)]
  exact hs
theorem tree_end {l : List Node} {S : List Frm} (h0 : l ≠ []) (h : treeS 0 [] l = some S) : treeB l = decide (S.length = 1) := by
  unfold treeB treeF
  rw [h]
  match S with
  | [] =>
    have := (treeS_at h).len
    cases l with
    | nil => exact absurd rfl h0
    | cons n l => simp [gs] at this
  | [f] => cases l <;> simp
  | f :: g :: r => cases l with
    | nil => exact absurd rfl h0
    | cons n l => simp
theorem step_is {k : Nat} {S : List Frm} {n : Node} (h : n.op = 1) (h1 : 0 ≤ n.key) (h2 : n.key < 3) (h3 : wordB n.text.data.toList = true) (h4 : n.a = 0) (h5 : n.b = 0) : stepS k S n = some (.is n.key.toNat n.text :: S) := by
  unfold stepS; rw [if_pos h, if_pos ⟨h1, h2, h3, h4, h5⟩]
theorem step_is_bad {k : Nat} {S : List Frm} {n : Node} (h : n.op = 1) (hb : ¬ (0 ≤ n.key ∧ n.key < 3 ∧ wordB n.text.data.toList = true ∧ n.a = 0 ∧ n.b = 0)) : stepS k S n = none := by
  unfold stepS; rw [if_pos h, if_neg hb]
theorem step_no {k : Nat} {a : Frm} {r : List Frm} {n : Node} (h : n.op = 2) (h1 : n.a = (k : Int) - 1) (h2 : n.b = 0) (h3 : n.key = 0) (h4 : n.text = ByteArray.empty) : stepS k (a :: r) n = some (.no a :: r) := by
  unfold stepS; rw [if_neg (by omega), if_pos h]; simp only; rw [if_pos ⟨h1, h2, h3, h4⟩]
theorem step_no_bad {k : Nat} {S : List Frm} {n : Node} (h : n.op = 2) (hb : S = [] ∨ ¬ (n.a = (k : Int) - 1 ∧ n.b = 0 ∧ n.key = 0 ∧ n.text = ByteArray.empty)) : stepS k S n = none := by
  unfold stepS; rw [if_neg (by omega), if_pos h]
  cases S with
  | nil => rfl
  | cons a r =>
    rcases hb with hb | hb
    · cases hb
    · simp only; rw [if_neg hb]
theorem step_two {k : Nat} {a b : Frm} {r : List Frm} {n : Node} (h : n.op = 3 ∨ n.op = 4) (h1 : n.b = (k : Int) - 1) (h2 : n.a = (k : Int) - 1 - b.size) (h3 : n.key = 0) (h4 : n.text = ByteArray.empty) : stepS k (b :: a :: r) n = some (.two (decide (n.op = 4)) a b :: r) := by
  unfold stepS; rw [if_neg (by omega), if_neg (by omega), if_pos h]; simp only; rw [if_pos ⟨h1, h2, h3, h4⟩]
theorem step_two_bad {k : Nat} {S : List Frm} {n : Node} (h : n.op = 3 ∨ n.op = 4) (hb : (∀ b a r, S = b :: a :: r → ¬ (n.b = (k : Int) - 1 ∧ n.a = (k : Int) - 1 - b.size ∧ n.key = 0 ∧ n.text = ByteArray.empty))) : stepS k S n = none := by
  unfold stepS; rw [if_neg (by omega), if_neg (by omega), if_pos h]
  match S with
  | [] => rfl
  | [b] => rfl
  | b :: a :: r => simp only; rw [if_neg (hb b a r rfl)]
theorem step_else {k : Nat} {S : List Frm} {n : Node} (h1 : n.op ≠ 1) (h2 : n.op ≠ 2) (h3 : n.op ≠ 3) (h4 : n.op ≠ 4) : stepS k S n = none := by
  unfold stepS; rw [if_neg h1, if_neg h2, if_neg (by omega)]
/-- How many trees there are, told by where the last begins. -/
theorem stack_one {st : List Int} {f : Frm} {r : List Frm} {i : Nat} (h : StackOk st (f :: r) i) : (f :: r).length = 1 ↔ i - f.size = 0 := by
  obtain ⟨h1, h2, h3⟩ := h
  cases r with
  | nil => simp only [StackOk] at h3; simp [h3]
  | cons g r =>
    have := h3.1
    have := Frm.size_pos g
    simp only [List.length_cons]
    omega
end Go.Proofs.YtmdnleafpmondaaDoor
end
