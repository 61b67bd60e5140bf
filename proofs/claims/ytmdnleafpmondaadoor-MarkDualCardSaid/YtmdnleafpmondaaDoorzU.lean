import Derived.Test.YtmdnleafpmondaaDoorzS
section
/- Markers as trees: nodes in order, and the trees that end at each. No program stands here. -/
namespace Go.Proofs.YtmdnleafpmondaaDoor
open Go Go.RowKit

/-- A marker's node. -/
structure Node where
  op : Int
  a : Int
  b : Int
  key : Int
  text : ByteArray
  deriving DecidableEq, Inhabited
/-- A marker as a tree. -/
inductive Frm where
  | is (k : Nat) (s : ByteArray)
  | no (a : Frm)
  | two (o : Bool) (a b : Frm)
  deriving Inhabited
namespace Frm
def size : Frm → Nat
  | is _ _ => 1
  | no a => size a + 1
  | two _ a b => size a + size b + 1
def Ok : Frm → Prop
  | is k s => k < 3 ∧ wordB s.data.toList = true
  | no a => Ok a
  | two _ a b => Ok a ∧ Ok b
/-- The nodes of a tree that stands at a place. -/
def post : Frm → Nat → List Node
  | is k s, _ => [⟨1, 0, 0, k, s⟩]
  | no a, o => post a o ++ [⟨2, (o + size a : Nat) - 1, 0, 0, ByteArray.empty⟩]
  | two c a b, o => post a o ++ (post b (o + size a) ++ [⟨if c then 4 else 3, (o + size a : Nat) - 1, (o + size a + size b : Nat) - 1, 0, ByteArray.empty⟩])
/-- The trees that end at each node. -/
def subs : Frm → List Frm
  | is k s => [is k s]
  | no a => subs a ++ [no a]
  | two c a b => subs a ++ (subs b ++ [two c a b])
theorem size_pos (f : Frm) : 1 ≤ size f := by cases f <;> simp [size]
theorem post_length (f : Frm) : ∀ o, (post f o).length = size f := by
  induction f with
  | is k s => intro o; rfl
  | no a ih => intro o; simp [post, size, ih]
  | two c a b iha ihb => intro o; simp [post, size, iha, ihb]; omega
theorem subs_length (f : Frm) : (subs f).length = size f := by
  induction f with
  | is k s => rfl
  | no a ih => simp [subs, size, ih]
  | two c a b iha ihb => simp [subs, size, iha, ihb]; omega
theorem subs_last (f : Frm) : (subs f)[size f - 1]? = some f := by
  cases f with
  | is k s => rfl
  | no a => simp [subs, size, subs_length]
  | two c a b =>
    simp only [subs, size]
    rw [List.getElem?_append_right (by rw [subs_length]; omega), List.getElem?_append_right (by simp only [subs_length]; omega)]
    simp only [subs_length]
    rw [show size a + size b + 1 - 1 - size a - size b = 0 by omega]
    rfl
end Frm
open Frm

/-- A node of a tree that is done, of the trees ahead (the last one first). -/
def stepS (i : Nat) (S : List Frm) (n : Node) : Option (List Frm) :=
  if n.op = 1 then
    if 0 ≤ n.key ∧ n.key < 3 ∧ wordB n.text.data.toList = true ∧ n.a = 0 ∧ n.b = 0 then some (.is n.key.toNat n.text :: S) else none
  else if n.op = 2 then
    match S with
    | a :: r => if n.a = (i : Int) - 1 ∧ n.b = 0 ∧ n.key = 0 ∧ n.text = ByteArray.empty then some (.no a :: r) else none
    | [] => none
  else if n.op = 3 ∨ n.op = 4 then
    match S with
    | b :: a :: r => if n.b = (i : Int) - 1 ∧ n.a = (i : Int) - 1 - size b ∧ n.key = 0 ∧ n.text = ByteArray.empty then some (.two (decide (n.op = 4)) a b :: r) else none
    | _ => none
  else none
def treeS : Nat → List Frm → List Node → Option (List Frm)
  | _, S, [] => some S
  | i, S, n :: l => match stepS i S n with | none => none | some S' => treeS (i + 1) S' l
def sizes : List Frm → Nat
  | [] => 0
  | f :: r => size f + sizes r
/-- The trees that end at each node, of trees side by side (the last one first). -/
def gs : List Frm → List Frm
  | [] => []
  | f :: r => gs r ++ subs f
theorem gs_length (S : List Frm) : (gs S).length = sizes S := by
  induction S with
  | nil => rfl
  | cons f r ih => simp [gs, sizes, ih, subs_length]; omega
/-- What stands at a node where a tree ends. -/
def nodeOf : Frm → Nat → Node
  | .is k s, _ => ⟨1, 0, 0, k, s⟩
  | .no _, j => ⟨2, (j : Int) - 1, 0, 0, ByteArray.empty⟩
  | .two c _ b, j => ⟨if c then 4 else 3, (j : Int) - 1 - size b, (j : Int) - 1, 0, ByteArray.empty⟩
/-- The trees G end at their places, each stands on those ahead. -/
structure TreeAt (l : List Node) (G : List Frm) : Prop where
  len : l.length = G.length
  node : ∀ j f, G[j]? = some f → l[j]? = some (nodeOf f j)
  no : ∀ j a, G[j]? = some (.no a) → 1 ≤ j ∧ G[j - 1]? = some a
  two : ∀ j c a b, G[j]? = some (.two c a b) → size b + 1 ≤ j ∧ G[j - 1]? = some b ∧ G[j - 1 - size b]? = some a
  ok : ∀ (j : Nat) (f : Frm), G[j]? = some f → f.Ok
theorem TreeAt.nil : TreeAt [] [] := ⟨rfl, fun _ _ h => by simp at h, fun _ _ h => by simp at h, fun _ _ _ _ h => by simp at h, fun _ _ h => by simp at h⟩
theorem getElem?_snoc {α : Type} {l : List α} {x y : α} {j : Nat} (h : (l ++ [x])[j]? = some y) : (j < l.length ∧ l[j]? = some y) ∨ (j = l.length ∧ y = x) := by
  rcases Nat.lt_or_ge j l.length with hj | hj
  · rw [List.getElem?_append_left hj] at h
    exact .inl ⟨hj, h⟩
  · rw [List.getElem?_append_right hj] at h
    rcases Nat.eq_zero_or_pos (j - l.length) with e | e
    · rw [e] at h
      exact .inr ⟨by omega, by simpa using h.symm⟩
    · rw [List.getElem?_eq_none (by simp; omega)] at h
      cases h
theorem get_lt {α : Type} {l : List α} {y : α} {j : Nat} (h : l[j]? = some y) : j < l.length := (List.getElem?_eq_some_iff.1 h).1
theorem get_snoc {α : Type} {l : List α} {x y : α} {j : Nat} (h : l[j]? = some y) : (l ++ [x])[j]? = some y := by
  rw [List.getElem?_append_left (get_lt h)]; exact h
theorem TreeAt.snoc {l : List Node} {G : List Frm} {f : Frm} {n : Node} (h : TreeAt l G) (hn : n = nodeOf f l.length) (hk : f.Ok)
    (h1 : ∀ a, f = .no a → 1 ≤ G.length ∧ G[G.length - 1]? = some a)
    (h2 : ∀ c a b, f = .two c a b → size b + 1 ≤ G.length ∧ G[G.length - 1]? = some b ∧ G[G.length - 1 - size b]? = some a) : TreeAt (l ++ [n]) (G ++ [f]) := by
  have hl := h.len
  refine ⟨by simp [hl], fun j g hg => ?_, fun j a hg => ?_, fun j c a b hg => ?_, fun j g hg => ?_⟩
  · rcases getElem?_snoc hg with ⟨hj, hg⟩ | ⟨rfl, rfl⟩
    · exact get_snoc (h.node j g hg)
    · rw [← hl, List.getElem?_concat_length, hn]
  · rcases getElem?_snoc hg with ⟨hj, hg⟩ | ⟨rfl, hf⟩
    · obtain ⟨q1, q2⟩ := h.no j a hg
      exact ⟨q1, get_snoc q2⟩
    · obtain ⟨q1, q2⟩ := h1 a hf.symm
      exact ⟨q1, get_snoc q2⟩
  · rcases getElem?_snoc hg with ⟨hj, hg⟩ | ⟨rfl, hf⟩
    · obtain ⟨q1, q2, q3⟩ := h.two j c a b hg
      exact ⟨q1, get_snoc q2, get_snoc q3⟩
    · obtain ⟨q1, q2, q3⟩ := h2 c a b hf.symm
      exact ⟨q1, get_snoc q2, get_snoc q3⟩
  · rcases getElem?_snoc hg with ⟨hj, hg⟩ | ⟨rfl, rfl⟩
    · exact h.ok j g hg
    · exact hk
theorem TreeAt.eq {l m : List Node} {G : List Frm} (h : TreeAt l G) (h' : TreeAt m G) : l = m := by
  refine List.ext_getElem? fun j => ?_
  rcases Nat.lt_or_ge j G.length with hj | hj
  · have := List.getElem?_eq_getElem hj
    rw [h.node j _ this, h'.node j _ this]
  · rw [List.getElem?_eq_none (by rw [h.len]; exact hj), List.getElem?_eq_none (by rw [h'.len]; exact hj)]
theorem treeS_append (i : Nat) (S : List Frm) (l m : List Node) : treeS i S (l ++ m) = (treeS i S l).bind fun S' => treeS (i + l.length) S' m := by
  induction l generalizing i S with
  | nil => rfl
  | cons n l ih =>
    simp only [List.cons_append, treeS]
    cases stepS i S n with
    | none => rfl
    | some S' =>
      simp only [ih, List.length_cons]
      rw [show i + 1 + l.length = i + (l.length + 1) by omega]
theorem treeS_snoc (S : List Frm) (l : List Node) (n : Node) : treeS 0 S (l ++ [n]) = (treeS 0 S l).bind fun S' => stepS l.length S' n := by
  rw [treeS_append]
  congr 1
  funext S'
  simp only [treeS, Nat.zero_add]
  cases stepS l.length S' n <;> rfl
theorem gs_last (f : Frm) (r : List Frm) : (gs (f :: r))[(gs (f :: r)).length - 1]? = some f := by
  have h1 := size_pos f
  simp only [gs, List.length_append, subs_length]
  rw [List.getElem?_append_right (by omega)]
  rw [show (gs r).length + size f - 1 - (gs r).length = size f - 1 by omega]
  exact subs_last f
theorem gs_second (b a : Frm) (r : List Frm) : size b + 1 ≤ (gs (b :: a :: r)).length ∧ (gs (b :: a :: r))[(gs (b :: a :: r)).length - 1 - size b]? = some a := by
  have h1 := size_pos b
  have h2 := size_pos a
  have h3 := gs_last a r
  have e : (gs (b :: a :: r)) = gs (a :: r) ++ subs b := rfl
  have hl : (gs (a :: r)).length = (gs r).length + size a := by simp [gs, subs_length]
  rw [e, List.length_append, subs_length]
  refine ⟨by omega, ?_⟩
  rw [show (gs (a :: r)).length + size b - 1 - size b = (gs (a :: r)).length - 1 by omega, List.getElem?_append_left (by omega)]
  exact h3
/-- One more node. -/
theorem step_at {l : List Node} {S S' : List Frm} {n : Node} (h : TreeAt l (gs S)) (hs : stepS l.length S n = some S') : TreeAt (l ++ [n]) (gs S') := by
  have hl := h.len
  unfold stepS at hs
  split at hs
  · split at hs
    · next h1 h2 =>
      obtain ⟨k0, k3, kw, ka, kb⟩ := h2
      injection hs with hs
      subst hs
      refine h.snoc ?_ ⟨by omega, kw⟩ (fun a e => by cases e) (fun c a b e => by cases e)
      obtain ⟨o, a, b, k, t⟩ := n
      simp only at h1 k0 k3 ka kb ⊢
      subst h1; subst ka; subst kb
      simp only [nodeOf, Node.mk.injEq, and_true, true_and]
      omega
    · cases hs
  · split at hs
    · split at hs
      · split at hs
        · next h1 _ a r h2 =>
          obtain ⟨ka, kb, kk, kt⟩ := h2
          injection hs with hs
          subst hs
          have hg := gs_last a r
          have hp : 1 ≤ (gs (a :: r)).length := by simp [gs, subs_length]; have := size_pos a; omega
          have hoka : a.Ok := h.ok _ _ hg
          have e : gs (Frm.no a :: r) = gs (a :: r) ++ [.no a] := by simp [gs, subs]
          rw [e]
          refine h.snoc ?_ hoka (fun a' e => ?_) (fun c a b e => by cases e)
          · obtain ⟨o, a', b', k, t⟩ := n
            simp only at h1 ka kb kk kt ⊢
            subst h1; subst ka; subst kb; subst kk; subst kt
            rfl
          · injection e with e
            subst e
            exact ⟨hp, hg⟩
        · cases hs
      · cases hs
    · split at hs
      · next h0 =>
        split at hs
        · split at hs
          · next b a r h2 =>
            obtain ⟨kb, ka, kk, kt⟩ := h2
            injection hs with hs
            subst hs
            have hg := gs_last b (a :: r)
            have hg2 := gs_second b a r
            have hokb : b.Ok := h.ok _ _ hg
            have hoka : a.Ok := h.ok _ _ hg2.2
            have e : ∀ c, gs (Frm.two c a b :: r) = gs (b :: a :: r) ++ [.two c a b] := by intro c; simp [gs, subs]
            rw [e]
            refine h.snoc ?_ ⟨hoka, hokb⟩ (fun a' e => by cases e) (fun c a' b' e => ?_)
            · obtain ⟨o, a', b', k, t⟩ := n
              simp only at h0 ka kb kk kt ⊢
              subst ka; subst kb; subst kk; subst kt
              rcases h0 with rfl | rfl <;> rfl
            · injection e with e1 e2 e3
              subst e2; subst e3
              exact ⟨hg2.1, hg, hg2.2⟩
          · cases hs
        · cases hs
      · cases hs
theorem treeS_at {l : List Node} : ∀ {S : List Frm}, treeS 0 [] l = some S → TreeAt l (gs S) := by
  suffices ∀ (k : Nat) {S : List Frm}, k ≤ l.length → treeS 0 [] (l.take k) = some S → TreeAt (l.take k) (gs S) by
    intro S h
    have := this l.length (S := S) (Nat.le_refl _) (by rw [List.take_length]; exact h)
    rwa [List.take_length] at this
  intro k
  induction k with
  | zero =>
    intro S _ h
    rw [List.take_zero] at h ⊢
    injection h with h
    subst h
    exact TreeAt.nil
  | succ k ih =>
    intro S hk h
    rw [List.take_succ_eq_append_getElem (by omega), treeS_snoc] at h
    rw [List.take_succ_eq_append_getElem (by omega)]
    cases ht : treeS 0 [] (l.take k) with
    | none => rw [ht] at h; cases h
    | some S' =>
      rw [ht] at h
      exact step_at (ih (by omega) ht) h
theorem treeS_post (f : Frm) : ∀ (o : Nat) (S : List Frm) (l : List Node), f.Ok → treeS o S (post f o ++ l) = treeS (o + size f) (f :: S) l := by
  induction f with
  | is k s =>
    intro o S l h
    have h3 : k < 3 := h.1
    have e : stepS o S ⟨1, 0, 0, k, s⟩ = some (.is k s :: S) := by
      unfold stepS
      rw [if_pos rfl, if_pos ⟨Int.natCast_nonneg k, (by show (k : Int) < 3; omega), h.2, rfl, rfl⟩]
      rfl
    simp only [post, List.cons_append, List.nil_append, treeS, e, size]
  | no a ih =>
    intro o S l h
    have hp := size_pos a
    simp only [post, List.append_assoc]
    rw [ih o S _ h]
    have e : stepS (o + size a) (a :: S) ⟨2, (o + size a : Nat) - 1, 0, 0, ByteArray.empty⟩ = some (.no a :: S) := by
      unfold stepS
      rw [if_neg (by show ¬ (2 : Int) = 1; decide), if_pos rfl]
      simp only [and_self, if_true]
    simp only [List.cons_append, List.nil_append, treeS, e, size, Nat.add_assoc]
  | two c a b iha ihb =>
    intro o S l h
    have hp := size_pos a
    have hq := size_pos b
    simp only [post, List.append_assoc]
    rw [iha o S _ h.1, ihb _ _ _ h.2]
    have e : stepS (o + size a + size b) (b :: a :: S) ⟨if c then 4 else 3, (o + size a : Nat) - 1, (o + size a + size b : Nat) - 1, 0, ByteArray.empty⟩ = some (.two c a b :: S) := by
      unfold stepS
      rw [if_neg (by cases c <;> (dsimp only; decide)), if_neg (by cases c <;> (dsimp only; decide)), if_pos (by cases c <;> (dsimp only; decide))]
      dsimp only
      rw [if_pos ⟨rfl, by omega, rfl, rfl⟩]
      cases c <;> rfl
    simp only [List.cons_append, List.nil_append, treeS, e, size]
    simp only [Nat.add_assoc]
/-- The tree that nodes are. -/
def treeF (l : List Node) : Option Frm := match treeS 0 [] l with | some [f] => some f | _ => none
theorem treeF_post {f : Frm} (h : f.Ok) : treeF (post f 0) = some f := by
  have := treeS_post f 0 [] [] h
  rw [List.append_nil] at this
  unfold treeF
  rw [this]
  rfl
theorem treeF_some {l : List Node} {f : Frm} (h : treeF l = some f) : treeS 0 [] l = some [f] := by
  unfold treeF at h
  split at h
  · next g hg => injection h with h; subst h; exact hg
  · cases h
theorem treeF_at {l : List Node} {f : Frm} (h : treeF l = some f) : TreeAt l (subs f) := by
  have := treeS_at (treeF_some h)
  rwa [show gs [f] = subs f from by simp [gs]] at this
theorem treeF_len {l : List Node} {f : Frm} (h : treeF l = some f) : l.length = size f := by
  have := (treeF_at h).len
  rwa [subs_length] at this
theorem treeF_ok {l : List Node} {f : Frm} (h : treeF l = some f) : f.Ok := (treeF_at h).ok _ _ (subs_last f)
theorem treeF_eq {l : List Node} {f : Frm} (h : treeF l = some f) : l = post f 0 :=
  (treeF_at h).eq (treeF_at (treeF_post (treeF_ok h)))
def treeB (l : List Node) : Bool := l.isEmpty || (treeF l).isSome
end Go.Proofs.YtmdnleafpmondaaDoor
end
section
/- Texts, values and what is left of markers. No program stands here. -/
namespace Go.Proofs.YtmdnleafpmondaaDoor
open Go Go.RowKit

/-- A key's name. -/
def keyL : Nat → List UInt8
  | 0 => [111, 115]
  | 1 => [97, 114, 99, 104]
  | _ => [97, 98, 105]
theorem keyL_len (k : Nat) : (keyL k).length ≤ 4 := by
  unfold keyL; split <;> simp
def brk (s : List UInt8) : List UInt8 := [40, 32] ++ s ++ [32, 41]
def heldL (b : Bool) (s : List UInt8) : List UInt8 := if b then brk s else s
theorem brk_len (s : List UInt8) : (brk s).length = s.length + 4 := by simp [brk]
theorem heldL_len (b : Bool) (s : List UInt8) : (heldL b s).length ≤ s.length + 4 ∧ s.length ≤ (heldL b s).length := by
  unfold heldL; split
  · rw [brk_len]; omega
  · omega
def isIs : Frm → Bool
  | .is _ _ => true
  | _ => false
def isNo : Frm → Bool
  | .no _ => true
  | _ => false
def isOne : Frm → Bool
  | .two true _ _ => true
  | _ => false
def isTwo : Frm → Bool
  | .two _ _ _ => true
  | _ => false
/-- The text of not, of the part's text. -/
def noL : Frm → List UInt8 → List UInt8
  | .is k s, _ => keyL k ++ [32, 33, 61, 32] ++ s.data.toList
  | a, t => [110, 111, 116, 32] ++ heldL (!isNo a) t
def textL : Frm → List UInt8
  | .is k s => keyL k ++ [32, 61, 32] ++ s.data.toList
  | .no a => noL a (textL a)
  | .two false a b => heldL (isOne a) (textL a) ++ [32, 97, 110, 100, 32] ++ heldL (isTwo b) (textL b)
  | .two true a b => textL a ++ [32, 111, 114, 32] ++ heldL (isOne b) (textL b)
theorem wordB_len {s : List UInt8} (h : wordB s = true) : 1 ≤ s.length ∧ s.length ≤ 12 := by
  unfold wordB at h
  rw [Bool.and_eq_true, Bool.and_eq_true, decide_eq_true_eq] at h
  refine ⟨?_, h.1.2⟩
  cases s with
  | nil => simp at h
  | cons _ _ => simp
theorem textL_len {f : Frm} (h : f.Ok) : (textL f).length ≤ 20 * f.size := by
  induction f with
  | is k s =>
    have := keyL_len k
    have := wordB_len h.2
    simp [textL, Frm.size] at *
    omega
  | no a ih =>
    have i := ih h
    cases a with
    | is k s =>
      have := keyL_len k
      have := wordB_len (show wordB s.data.toList = true from h.2)
      simp [textL, noL, Frm.size] at *
      omega
    | no b =>
      have := (heldL_len (!isNo (.no b)) (textL (.no b))).1
      simp only [textL, noL, Frm.size, List.length_append, List.length_cons, List.length_nil] at *
      omega
    | two c b d =>
      have := (heldL_len (!isNo (.two c b d)) (textL (.two c b d))).1
      simp only [textL, noL, Frm.size, List.length_append, List.length_cons, List.length_nil] at *
      omega
  | two c a b iha ihb =>
    have ia := iha h.1
    have ib := ihb h.2
    cases c with
    | false =>
      have h1 := (heldL_len (isOne a) (textL a)).1
      have h2 := (heldL_len (isTwo b) (textL b)).1
      simp only [textL, Frm.size, List.length_append, List.length_cons, List.length_nil] at *
      omega
    | true =>
      have h2 := (heldL_len (isOne b) (textL b)).1
      simp only [textL, Frm.size, List.length_append, List.length_cons, List.length_nil] at *
      omega
theorem textL_pos {f : Frm} : 1 ≤ (textL f).length := by
  cases f with
  | is k s => simp [textL]; omega
  | no a => cases a <;> simp [textL, noL] <;> omega
  | two c a b => cases c <;> simp [textL] <;> omega

/-- What a key's value says of a text. -/
def valK (x s : ByteArray) : Int := if x = ByteArray.empty then 1 else if x = s then 2 else 0
def evalF (e : Nat → ByteArray) : Frm → Int
  | .is k s => valK (e k) s
  | .no a => 2 - evalF e a
  | .two false a b => min (evalF e a) (evalF e b)
  | .two true a b => max (evalF e a) (evalF e b)
theorem valK_three (x s : ByteArray) : valK x s = 0 ∨ valK x s = 1 ∨ valK x s = 2 := by
  unfold valK; split
  · exact .inr (.inl rfl)
  · split
    · exact .inr (.inr rfl)
    · exact .inl rfl
theorem evalF_three (e : Nat → ByteArray) (f : Frm) : evalF e f = 0 ∨ evalF e f = 1 ∨ evalF e f = 2 := by
  induction f with
  | is k s => exact valK_three _ _
  | no a ih => simp only [evalF]; omega
  | two c a b iha ihb => cases c <;> simp only [evalF] <;> omega
def leftF (e : Nat → ByteArray) : Frm → Frm
  | .is k s => .is k s
  | .no a => .no (leftF e a)
  | .two c a b => if evalF e a ≠ 1 then leftF e b else if evalF e b ≠ 1 then leftF e a else .two c (leftF e a) (leftF e b)
/-- A platform of which more is known. -/
def Ext (e e' : Nat → ByteArray) : Prop := ∀ k, e k ≠ ByteArray.empty → e' k = e k
theorem stable {e e' : Nat → ByteArray} (h : Ext e e') {f : Frm} : evalF e f ≠ 1 → evalF e' f = evalF e f := by
  induction f with
  | is k s =>
    intro hf
    simp only [evalF, valK] at hf ⊢
    by_cases h0 : e k = ByteArray.empty
    · rw [if_pos h0] at hf; exact absurd rfl hf
    · rw [h k h0]
  | no a ih =>
    intro hf
    simp only [evalF] at hf ⊢
    rw [ih (by omega)]
  | two c a b iha ihb =>
    intro hf
    have t1 := evalF_three e a
    have t2 := evalF_three e b
    have t3 := evalF_three e' a
    have t4 := evalF_three e' b
    cases c <;> simp only [evalF] at hf ⊢ <;>
    · by_cases ha : evalF e a = 1 <;> by_cases hb : evalF e b = 1
      · omega
      · have := ihb hb; omega
      · have := iha ha; omega
      · have := iha ha; have := ihb hb; omega
theorem left_eval {e e' : Nat → ByteArray} (h : Ext e e') {f : Frm} : evalF e f = 1 → evalF e' (leftF e f) = evalF e' f := by
  induction f with
  | is k s => intro _; rfl
  | no a ih =>
    intro hf
    simp only [evalF] at hf
    simp only [leftF, evalF]
    rw [ih (by omega)]
  | two c a b iha ihb =>
    intro hf
    have t1 := evalF_three e a
    have t2 := evalF_three e b
    have t3 := evalF_three e' a
    have t4 := evalF_three e' b
    simp only [leftF]
    by_cases ha : evalF e a = 1
    · by_cases hb : evalF e b = 1
      · rw [if_neg (by simpa using ha), if_neg (by simpa using hb)]
        cases c <;> simp only [evalF] <;> rw [iha ha, ihb hb]
      · rw [if_neg (by simpa using ha), if_pos hb, iha ha]
        have := stable h hb
        cases c <;> simp only [evalF] at hf ⊢ <;> omega
    · rw [if_pos ha]
      have := stable h ha
      cases c <;> simp only [evalF] at hf ⊢
      · rw [ihb (by omega)]; omega
      · rw [ihb (by omega)]; omega
theorem left_twice {e e' : Nat → ByteArray} (h : Ext e e') {f : Frm} : evalF e f = 1 → evalF e' f = 1 → leftF e' (leftF e f) = leftF e' f := by
  induction f with
  | is k s => intro _ _; rfl
  | no a ih =>
    intro hf hf'
    simp only [evalF] at hf hf'
    simp only [leftF]
    rw [ih (by omega) (by omega)]
  | two c a b iha ihb =>
    intro hf hf'
    have t1 := evalF_three e a
    have t2 := evalF_three e b
    have t3 := evalF_three e' a
    have t4 := evalF_three e' b
    rw [show leftF e (.two c a b) = if evalF e a ≠ 1 then leftF e b else if evalF e b ≠ 1 then leftF e a else .two c (leftF e a) (leftF e b) from rfl]
    by_cases ha : evalF e a = 1
    · by_cases hb : evalF e b = 1
      · rw [if_neg (by simpa using ha), if_neg (by simpa using hb)]
        simp only [leftF, left_eval h ha, left_eval h hb]
        by_cases ha' : evalF e' a = 1
        · by_cases hb' : evalF e' b = 1
          · simp only [ha', hb', ne_eq, not_true_eq_false, if_false]
            rw [iha ha ha', ihb hb hb']
          · simp only [ha', hb', ne_eq, not_true_eq_false, not_false_eq_true, if_true, if_false]
            exact iha ha ha'
        · simp only [ha', ne_eq, not_false_eq_true, if_true]
          refine ihb hb ?_
          cases c <;> simp only [evalF] at hf' <;> omega
      · rw [if_neg (by simpa using ha), if_pos hb]
        have hb' := stable h hb
        have ha' : evalF e' a = 1 := by cases c <;> simp only [evalF] at hf hf' <;> omega
        simp only [leftF]
        rw [if_neg (by simpa using ha'), if_pos (by rw [hb']; exact hb)]
        exact iha ha ha'
    · rw [if_pos ha]
      have ha' := stable h ha
      have hb : evalF e b = 1 := by cases c <;> simp only [evalF] at hf <;> omega
      have hb' : evalF e' b = 1 := by cases c <;> simp only [evalF] at hf hf' <;> omega
      simp only [leftF]
      rw [if_pos (by rw [ha']; exact ha)]
      exact ihb hb hb'
theorem left_ok {e : Nat → ByteArray} {f : Frm} (h : f.Ok) : (leftF e f).Ok := by
  induction f with
  | is k s => exact h
  | no a ih => exact ih h
  | two c a b iha ihb =>
    simp only [leftF]
    split
    · exact ihb h.2
    · split
      · exact iha h.1
      · exact ⟨iha h.1, ihb h.2⟩
theorem left_size {e : Nat → ByteArray} {f : Frm} : (leftF e f).size ≤ f.size := by
  induction f with
  | is k s => exact Nat.le_refl _
  | no a ih => simp only [leftF, Frm.size]; omega
  | two c a b iha ihb =>
    simp only [leftF]
    split
    · simp only [Frm.size]; omega
    · split <;> simp only [Frm.size] <;> omega
/-- Of the same kind. -/
def sameOp (f g : Frm) : Prop := isIs f = isIs g ∧ isNo f = isNo g ∧ isOne f = isOne g ∧ isTwo f = isTwo g
theorem noL_is {a : Frm} (h : isIs a = true) : (noL a (textL a)).length = (textL a).length + 1 := by
  cases a with
  | is k s => simp [noL, textL]; omega
  | no b => cases h
  | two c b d => cases h
theorem noL_no {a : Frm} (h : isNo a = true) : (noL a (textL a)).length = (textL a).length + 4 := by
  cases a with
  | is k s => cases h
  | no b => simp only [noL, List.length_append, List.length_cons, List.length_nil, heldL, isNo, Bool.not_true]; simp; omega
  | two c b d => cases h
theorem noL_two {a : Frm} (h : isTwo a = true) : (noL a (textL a)).length = (textL a).length + 8 := by
  cases a with
  | is k s => cases h
  | no b => cases h
  | two c b d => simp only [noL, List.length_append, List.length_cons, List.length_nil, heldL, isNo, Bool.not_false, if_true, brk_len]; omega
theorem kinds (a : Frm) : (isIs a = true ∧ isNo a = false ∧ isTwo a = false) ∨ (isIs a = false ∧ isNo a = true ∧ isTwo a = false) ∨ (isIs a = false ∧ isNo a = false ∧ isTwo a = true) := by
  cases a <;> simp [isIs, isNo, isTwo]
theorem noL_len {a a' : Frm} (h : (textL a').length ≤ (textL a).length) (hs : sameOp a' a ∨ (isIs a = false ∧ (textL a').length + 4 ≤ (textL a).length)) : (noL a' (textL a')).length ≤ (noL a (textL a)).length := by
  have u : (noL a' (textL a')).length ≤ (textL a').length + 8 := by
    rcases kinds a' with ⟨k, _⟩ | ⟨_, k, _⟩ | ⟨_, _, k⟩
    · rw [noL_is k]; omega
    · rw [noL_no k]; omega
    · rw [noL_two k]; omega
  rcases hs with ⟨e1, e2, _, e4⟩ | ⟨e1, hs⟩
  · rcases kinds a with ⟨k, _⟩ | ⟨_, k, _⟩ | ⟨_, _, k⟩
    · rw [noL_is k, noL_is (e1.trans k)]; omega
    · rw [noL_no k, noL_no (e2.trans k)]; omega
    · rw [noL_two k, noL_two (e4.trans k)]; omega
  · rcases kinds a with ⟨k, _⟩ | ⟨_, k, _⟩ | ⟨_, _, k⟩
    · rw [e1] at k; cases k
    · rw [noL_no k]; omega
    · rw [noL_two k]; omega
theorem heldL_mono {b b' : Bool} {t t' : List UInt8} (h : t'.length ≤ t.length) (hs : b' = b ∨ t'.length + 4 ≤ t.length) : (heldL b' t').length ≤ (heldL b t).length := by
  rcases hs with rfl | hs
  · unfold heldL
    split
    · rw [brk_len, brk_len]; omega
    · exact h
  · have h1 := (heldL_len b' t').1
    have h2 := (heldL_len b t).2
    omega
/-- What is left has no longer text. -/
theorem left_len {e : Nat → ByteArray} {f : Frm} : (textL (leftF e f)).length ≤ (textL f).length ∧ (sameOp (leftF e f) f ∨ (isIs f = false ∧ (textL (leftF e f)).length + 4 ≤ (textL f).length)) := by
  induction f with
  | is k s => exact ⟨Nat.le_refl _, .inl ⟨rfl, rfl, rfl, rfl⟩⟩
  | no a ih =>
    refine ⟨?_, .inl ⟨rfl, rfl, rfl, rfl⟩⟩
    exact noL_len ih.1 ih.2
  | two c a b iha ihb =>
    simp only [leftF]
    have ha := (heldL_len (isOne a) (textL a)).2
    have hb := (heldL_len (isTwo b) (textL b)).2
    have hb2 := (heldL_len (isOne b) (textL b)).2
    have pa := textL_pos (f := a)
    have pb := textL_pos (f := b)
    split
    · have : (textL (leftF e b)).length + 4 ≤ (textL (.two c a b)).length := by
        cases c <;> simp only [textL, List.length_append, List.length_cons, List.length_nil] <;> omega
      exact ⟨by omega, .inr ⟨rfl, this⟩⟩
    · split
      · have : (textL (leftF e a)).length + 4 ≤ (textL (.two c a b)).length := by
          cases c <;> simp only [textL, List.length_append, List.length_cons, List.length_nil] <;> omega
        exact ⟨by omega, .inr ⟨rfl, this⟩⟩
      · refine ⟨?_, .inl ⟨rfl, rfl, by cases c <;> rfl, rfl⟩⟩
        have q1 := heldL_mono (b := isOne a) (b' := isOne (leftF e a)) iha.1 (iha.2.imp (fun h => h.2.2.1) And.right)
        have q2 := heldL_mono (b := isTwo b) (b' := isTwo (leftF e b)) ihb.1 (ihb.2.imp (fun h => h.2.2.2) And.right)
        have q3 := heldL_mono (b := isOne b) (b' := isOne (leftF e b)) ihb.1 (ihb.2.imp (fun h => h.2.2.1) And.right)
        have := iha.1
        cases c <;> simp only [textL, List.length_append, List.length_cons, List.length_nil] <;> omega
/-- Does a tree ask a key? -/
def asks : Frm → Nat → Prop
  | .is k _, j => k = j
  | .no a, j => asks a j
  | .two _ a b, j => asks a j ∨ asks b j
theorem eval_congr {e e' : Nat → ByteArray} {f : Frm} (h : ∀ k, asks f k → e k = e' k) : evalF e f = evalF e' f := by
  induction f with
  | is k s => simp only [evalF]; rw [h k rfl]
  | no a ih => simp only [evalF]; rw [ih h]
  | two c a b iha ihb => cases c <;> simp only [evalF] <;> rw [iha fun k hk => h k (.inl hk), ihb fun k hk => h k (.inr hk)]
/-- What is left asks nothing that is known. -/
theorem left_asks {e : Nat → ByteArray} {f : Frm} : evalF e f = 1 → ∀ k, asks (leftF e f) k → e k = ByteArray.empty := by
  induction f with
  | is k s =>
    intro hf j hj
    cases hj
    simp only [evalF, valK] at hf
    split at hf
    · next h => exact h
    · split at hf <;> cases hf
  | no a ih => intro hf; simp only [evalF] at hf; exact ih (by omega)
  | two c a b iha ihb =>
    intro hf k hk
    have t1 := evalF_three e a
    have t2 := evalF_three e b
    simp only [leftF] at hk
    by_cases ha : evalF e a = 1
    · by_cases hb : evalF e b = 1
      · rw [if_neg (by simpa using ha), if_neg (by simpa using hb)] at hk
        rcases hk with hk | hk
        · exact iha ha k hk
        · exact ihb hb k hk
      · rw [if_neg (by simpa using ha), if_pos hb] at hk
        exact iha ha k hk
    · rw [if_pos ha] at hk
      exact ihb (by cases c <;> simp only [evalF] at hf <;> omega) k hk
theorem asks_lt {f : Frm} (h : f.Ok) : ∀ k, asks f k → k < 3 := by
  induction f with
  | is k s => intro j hj; cases hj; exact h.1
  | no a ih => exact ih h
  | two c a b iha ihb => exact fun k hk => hk.elim (iha h.1 k) (ihb h.2 k)
/-- What logic says, where all is known. -/
def truthF (e : Nat → ByteArray) : Frm → Bool
  | .is k s => decide (e k = s)
  | .no a => !truthF e a
  | .two false a b => truthF e a && truthF e b
  | .two true a b => truthF e a || truthF e b
theorem eval_truth {e : Nat → ByteArray} (h : ∀ k, k < 3 → e k ≠ ByteArray.empty) {f : Frm} (hf : f.Ok) : evalF e f = if truthF e f then 2 else 0 := by
  induction f with
  | is k s =>
    simp only [evalF, valK, truthF]
    rw [if_neg (h k hf.1)]
    by_cases hs : e k = s
    · simp [hs]
    · simp [hs]
  | no a ih => simp only [evalF, truthF, ih hf]; rcases Bool.eq_false_or_eq_true (truthF e a) with h1 | h1 <;> simp [h1]
  | two c a b iha ihb => cases c <;> simp only [evalF, truthF, iha hf.1, ihb hf.2] <;> rcases Bool.eq_false_or_eq_true (truthF e a) with h1 | h1 <;> rcases Bool.eq_false_or_eq_true (truthF e b) with h2 | h2 <;> simp [h1, h2] <;> omega
end Go.Proofs.YtmdnleafpmondaaDoor
end
section
/- What a parser of markers reads. No program stands here. -/
namespace Go.Proofs.YtmdnleafpmondaaDoor
open Go Go.RowKit

def wNot : ByteArray := ⟨#[110, 111, 116]⟩
def wOpen : ByteArray := ⟨#[40]⟩
def wClose : ByteArray := ⟨#[41]⟩
def wOr : ByteArray := ⟨#[111, 114]⟩
def wAnd : ByteArray := ⟨#[97, 110, 100]⟩
def wIs : ByteArray := ⟨#[61]⟩
def wIsNot : ByteArray := ⟨#[33, 61]⟩
def keyS (k : Nat) : ByteArray := ⟨(keyL k).toArray⟩
def keyIx (s : ByteArray) : Option Nat := if s = keyS 0 then some 0 else if s = keyS 1 then some 1 else if s = keyS 2 then some 2 else none
abbrev Got := Option (Frm × List ByteArray)
def atomF (k : ByteArray) : List ByteArray → Got
  | s :: v :: r => match keyIx k with
    | some i => if wordB v.data.toList = true then (if s = wIs then some (.is i v, r) else if s = wIsNot then some (.no (.is i v), r) else none) else none
    | none => none
  | _ => none
def loopF (word : ByteArray) (c : Bool) (part : List ByteArray → Got) : Nat → Frm → List ByteArray → Got
  | 0, a, ws => some (a, ws)
  | _ + 1, a, [] => some (a, [])
  | m + 1, a, w :: r => if w = word then (match part r with | none => none | some (b, q) => loopF word c part m (.two c a b) q) else some (a, w :: r)
def chainF (word : ByteArray) (c : Bool) (part : List ByteArray → Got) (n : Nat) (ws : List ByteArray) : Got :=
  match part ws with
  | none => none
  | some (a, r) => loopF word c part n a r
def closeF : Got → Got
  | some (f, z :: q) => if z = wClose then some (f, q) else none
  | _ => none
def notF : Nat → List ByteArray → Got
  | 0, _ => none
  | _ + 1, [] => none
  | n + 1, w :: r => if w = wNot then (notF n r).map (fun x => (.no x.1, x.2))
    else if w = wOpen then closeF (chainF wOr true (chainF wAnd false (notF n) n) n r)
    else atomF w r
def bothF (n : Nat) : List ByteArray → Got := chainF wAnd false (notF n) n
def oneF (n : Nat) : List ByteArray → Got := chainF wOr true (bothF n) n
theorem notF_open (n : Nat) (r : List ByteArray) : notF (n + 1) (wOpen :: r) = closeF (oneF n r) := by
  unfold notF
  rw [if_neg (by decide), if_pos rfl]
  rfl
/-- A part reads something, and what may be. -/
def Reads (F : List ByteArray → Got) : Prop := ∀ ws f q, F ws = some (f, q) → q.length < ws.length ∧ f.Ok ∧ ∀ s ∈ q, s ∈ ws
theorem keyIx_lt {s : ByteArray} {i : Nat} (h : keyIx s = some i) : i < 3 := by
  unfold keyIx at h
  split at h
  · injection h with h; omega
  · split at h
    · injection h with h; omega
    · split at h
      · injection h with h; omega
      · cases h
theorem atomF_reads (k : ByteArray) : Reads (atomF k) := by
  intro ws f q h
  match ws with
  | [] => cases h
  | [_] => cases h
  | s :: v :: r =>
    simp only [atomF] at h
    cases hk : keyIx k with
    | none => rw [hk] at h; cases h
    | some i =>
      rw [hk] at h
      simp only at h
      split at h
      · next hw =>
        split at h
        · injection h with h; injection h with h1 h2; subst h1; subst h2
          exact ⟨by simp only [List.length_cons]; omega, ⟨keyIx_lt hk, hw⟩, fun x hx => by simp [hx]⟩
        · split at h
          · injection h with h; injection h with h1 h2; subst h1; subst h2
            exact ⟨by simp only [List.length_cons]; omega, ⟨keyIx_lt hk, hw⟩, fun x hx => by simp [hx]⟩
          · cases h
      · cases h
theorem loopF_reads {word : ByteArray} {c : Bool} {F : List ByteArray → Got} (hF : Reads F) : ∀ (m : Nat) (a : Frm) (ws : List ByteArray) (f : Frm) (q : List ByteArray), a.Ok → loopF word c F m a ws = some (f, q) → q.length ≤ ws.length ∧ f.Ok ∧ ∀ s ∈ q, s ∈ ws := by
  intro m
  induction m with
  | zero => intro a ws f q ha h; injection h with h; injection h with h1 h2; subst h1; subst h2; exact ⟨Nat.le_refl _, ha, fun _ hx => hx⟩
  | succ m ih =>
    intro a ws f q ha h
    cases ws with
    | nil => injection h with h; injection h with h1 h2; subst h1; subst h2; exact ⟨Nat.le_refl _, ha, fun _ hx => hx⟩
    | cons w r =>
      simp only [loopF] at h
      split at h
      · cases hp : F r with
        | none => rw [hp] at h; cases h
        | some x =>
          obtain ⟨b, q'⟩ := x
          rw [hp] at h
          obtain ⟨h1, h2, h5⟩ := hF _ _ _ hp
          obtain ⟨h3, h4, h6⟩ := ih _ _ _ _ (show (Frm.two c a b).Ok from ⟨ha, h2⟩) h
          exact ⟨by simp only [List.length_cons]; omega, h4, fun x hx => List.mem_cons_of_mem _ (h5 x (h6 x hx))⟩
      · injection h with h; injection h with h1 h2; subst h1; subst h2; exact ⟨Nat.le_refl _, ha, fun _ hx => hx⟩
theorem chainF_reads {word : ByteArray} {c : Bool} {F : List ByteArray → Got} (hF : Reads F) (n : Nat) : Reads (chainF word c F n) := by
  intro ws f q h
  unfold chainF at h
  cases hp : F ws with
  | none => rw [hp] at h; cases h
  | some x =>
    obtain ⟨a, r⟩ := x
    rw [hp] at h
    obtain ⟨h1, h2, h5⟩ := hF _ _ _ hp
    obtain ⟨h3, h4, h6⟩ := loopF_reads hF _ _ _ _ _ h2 h
    exact ⟨by omega, h4, fun x hx => h5 x (h6 x hx)⟩
theorem notF_reads (n : Nat) : Reads (notF n) := by
  induction n with
  | zero => intro ws f q h; cases h
  | succ n ih =>
    intro ws f q h
    cases ws with
    | nil => cases h
    | cons w r =>
      simp only [notF] at h
      split at h
      · cases hp : notF n r with
        | none => rw [hp] at h; cases h
        | some x =>
          rw [hp] at h
          injection h with h; injection h with h1 h2
          obtain ⟨h3, h4, h5⟩ := ih _ _ _ hp
          subst h1; subst h2
          exact ⟨by simp only [List.length_cons]; omega, h4, fun x hx => List.mem_cons_of_mem _ (h5 x hx)⟩
      · split at h
        · cases hp : chainF wOr true (chainF wAnd false (notF n) n) n r with
          | none => rw [hp] at h; cases h
          | some x =>
            obtain ⟨g, q'⟩ := x
            rw [hp] at h
            obtain ⟨h3, h4, h5⟩ := chainF_reads (chainF_reads ih n) n _ _ _ hp
            cases q' with
            | nil => cases h
            | cons z q'' =>
              simp only [closeF] at h
              split at h
              · injection h with h; injection h with h1 h2
                subst h1; subst h2
                simp only [List.length_cons] at h3 ⊢
                exact ⟨by omega, h4, fun x hx => List.mem_cons_of_mem _ (h5 x (List.mem_cons_of_mem _ hx))⟩
              · cases h
        · obtain ⟨h1, h2, h5⟩ := atomF_reads w r f q h
          exact ⟨by simp only [List.length_cons]; omega, h2, fun x hx => List.mem_cons_of_mem _ (h5 x hx)⟩
theorem bothF_reads (n : Nat) : Reads (bothF n) := chainF_reads (notF_reads n) n
theorem oneF_reads (n : Nat) : Reads (oneF n) := chainF_reads (bothF_reads n) n
end Go.Proofs.YtmdnleafpmondaaDoor
end
