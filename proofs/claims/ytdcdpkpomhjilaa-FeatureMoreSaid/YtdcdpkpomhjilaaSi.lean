/- What is reached: the plain law of Close. No program stands here. -/
import Derived.Test.YtdcdpkpomhjilaaSo
import Derived.Test.YtdcdpkpomhjilaaS8
namespace Go.Proofs.Ytdcdpkpomhjilaa
open Go Go.RowKit

/-- What an item asks for, by its kind. -/
def kOf (s : ByteArray) : Int := (itemF s.data.toList).1
def nOf (s : ByteArray) : ByteArray := ⟨(itemF s.data.toList).2.1.toArray⟩
def k1 (s : ByteArray) : Option ByteArray := if kOf s = 1 then some (nOf s) else none
def k2 (s : ByteArray) : Option ByteArray := if kOf s = 2 then some (nOf s) else none
def k3 (s : ByteArray) : Option ByteArray := if kOf s = 1 ∨ kOf s = 2 then none else some s
theorem kOf_range (s : ByteArray) : kOf s = 0 ∨ kOf s = 1 ∨ kOf s = 2 ∨ kOf s = 3 := by
  unfold kOf itemF
  split
  · exact .inr (.inl rfl)
  · split
    · exact .inr (.inr (.inl rfl))
    · split
      · exact .inr (.inr (.inr rfl))
      · exact .inl rfl
theorem kOf_one {s : ByteArray} (h : kOf s = 1) : nOf s = s := by
  unfold kOf nOf itemF at *
  split at h
  · rename_i hw
    rw [if_pos hw]
  · split at h
    · cases h
    · split at h
      · cases h
      · cases h
theorem itemV_eq (s : ByteArray) : ∃ b, itemV s.data.toList = .tuple #[.int .i64 (kOf s), .string (nOf s), .string b] := ⟨_, rfl⟩

inductive Reach (l : List Feat) (asked : List ByteArray) : ByteArray → Prop
  | ask {s} : s ∈ asked → Reach l asked s
  | item {f x a} : Reach l asked f → x ∈ ofF l f → k1 x = some a → Reach l asked a
/-- What the reached features name, of a kind. -/
def Named (k : ByteArray → Option ByteArray) (l : List Feat) (on : ByteArray → Prop) (s : ByteArray) : Prop := ∃ f, on f ∧ ∃ x ∈ ofF l f, k x = some s

/-- How the list of work stands. -/
structure Inv (l : List Feat) (asked on opts pulled todo : List ByteArray) : Prop where
  r : ∀ s, s ∈ on ∨ s ∈ todo → Reach l asked s
  a : ∀ s ∈ asked, s ∈ on ∨ s ∈ todo
  c : ∀ f ∈ on, ∀ x ∈ ofF l f, ∀ a, k1 x = some a → a ∈ on ∨ a ∈ todo
  o : ∀ s, s ∈ opts ↔ Named k2 l (· ∈ on) s
  p : ∀ s, s ∈ pulled ↔ Named k3 l (· ∈ on) s
theorem Inv.start (l : List Feat) (asked : List ByteArray) : Inv l asked [] [] [] asked :=
  ⟨fun s h => h.elim (fun h => (by cases h)) .ask, fun s h => .inr h, fun f h => (by cases h), fun s => ⟨fun h => (by cases h), fun ⟨f, h, _⟩ => (by cases h)⟩, fun s => ⟨fun h => (by cases h), fun ⟨f, h, _⟩ => (by cases h)⟩⟩
section
variable {l : List Feat} {asked on opts pulled todo : List ByteArray} {s : ByteArray}
theorem Inv.had (h : Inv l asked on opts pulled (todo ++ [s])) (hs : s ∈ on) : Inv l asked on opts pulled todo := by
  have hm : ∀ u, u ∈ on ∨ u ∈ todo ++ [s] → u ∈ on ∨ u ∈ todo := fun u hu => by
    rcases hu with hu | hu
    · exact .inl hu
    · rcases List.mem_append.1 hu with hu | hu
      · exact .inr hu
      · rw [List.mem_singleton.1 hu]; exact .inl hs
  exact ⟨fun u hu => h.r u (hu.elim .inl fun hu => .inr (List.mem_append_left _ hu)), fun u hu => hm u (h.a u hu), fun f hf x hx a ha => hm a (h.c f hf x hx a ha), h.o, h.p⟩
theorem mem_fm {k : ByteArray → Option ByteArray} {L : List ByteArray} {u : ByteArray} : u ∈ L.filterMap k ↔ ∃ x ∈ L, k x = some u := List.mem_filterMap
theorem Inv.new (h : Inv l asked on opts pulled (todo ++ [s])) : Inv l asked (on ++ [s]) (opts ++ (ofF l s).filterMap k2) (pulled ++ (ofF l s).filterMap k3) (todo ++ (ofF l s).filterMap k1) := by
  have hrs : Reach l asked s := h.r s (.inr (by simp))
  have hm : ∀ u, u ∈ on ∨ u ∈ todo ++ [s] → u ∈ on ++ [s] ∨ u ∈ todo ++ (ofF l s).filterMap k1 := fun u hu => by
    rcases hu with hu | hu
    · exact .inl (List.mem_append_left _ hu)
    · rcases List.mem_append.1 hu with hu | hu
      · exact .inr (List.mem_append_left _ hu)
      · exact .inl (List.mem_append_right _ hu)
  have hn : ∀ (k : ByteArray → Option ByteArray) (u : ByteArray) (L : List ByteArray), (u ∈ L ↔ Named k l (· ∈ on) u) → (u ∈ L ++ (ofF l s).filterMap k ↔ Named k l (· ∈ on ++ [s]) u) := fun k u L hL => by
    rw [List.mem_append, hL, mem_fm]
    constructor
    · rintro (⟨f, hf, hx⟩ | hx)
      · exact ⟨f, List.mem_append_left _ hf, hx⟩
      · exact ⟨s, by simp, hx⟩
    · rintro ⟨f, hf, hx⟩
      rcases List.mem_append.1 hf with hf | hf
      · exact .inl ⟨f, hf, hx⟩
      · rw [List.mem_singleton.1 hf] at hx; exact .inr hx
  refine ⟨fun u hu => ?_, fun u hu => hm u (h.a u hu), fun f hf x hx a ha => ?_, fun u => hn k2 u _ (h.o u), fun u => hn k3 u _ (h.p u)⟩
  · rcases hu with hu | hu
    · rcases List.mem_append.1 hu with hu | hu
      · exact h.r u (.inl hu)
      · rw [List.mem_singleton.1 hu]; exact hrs
    · rcases List.mem_append.1 hu with hu | hu
      · exact h.r u (.inr (List.mem_append_left _ hu))
      · obtain ⟨x, hx, hk⟩ := mem_fm.1 hu
        exact .item hrs hx hk
  · rcases List.mem_append.1 hf with hf | hf
    · exact hm a (h.c f hf x hx a ha)
    · rw [List.mem_singleton.1 hf] at hx
      exact .inr (List.mem_append_right _ (mem_fm.2 ⟨x, hx, ha⟩))
theorem Inv.done (h : Inv l asked on opts pulled []) (u : ByteArray) : u ∈ on ↔ Reach l asked u := by
  constructor
  · exact fun hu => h.r u (.inl hu)
  · intro hu
    induction hu with
    | ask hs => exact (h.a _ hs).elim id fun h => (by cases h)
    | item _ hx ha ih => exact (h.c _ ih _ hx _ ha).elim id fun h => (by cases h)
end
/-- What is answered. -/
structure Closed (l : List Feat) (asked A B C : List ByteArray) : Prop where
  ra : Rise A
  rb : Rise B
  rc : Rise C
  ma : ∀ s, s ∈ A ↔ Reach l asked s
  mb : ∀ s, s ∈ B ↔ Named k2 l (Reach l asked) s
  mc : ∀ s, s ∈ C ↔ Named k3 l (Reach l asked) s
theorem Closed.uniq {l : List Feat} {asked A B C A' B' C' : List ByteArray} (h : Closed l asked A B C) (h' : Closed l asked A' B' C') : A = A' ∧ B = B' ∧ C = C' :=
  ⟨rising_eqS h.ra h'.ra fun u => (h.ma u).trans (h'.ma u).symm, rising_eqS h.rb h'.rb fun u => (h.mb u).trans (h'.mb u).symm, rising_eqS h.rc h'.rc fun u => (h.mc u).trans (h'.mc u).symm⟩
theorem Named.congr {k : ByteArray → Option ByteArray} {l : List Feat} {p q : ByteArray → Prop} (h : ∀ s, p s ↔ q s) (s : ByteArray) : Named k l p s ↔ Named k l q s := by
  constructor
  · rintro ⟨f, hf, hx⟩; exact ⟨f, (h f).1 hf, hx⟩
  · rintro ⟨f, hf, hx⟩; exact ⟨f, (h f).2 hf, hx⟩
/-- How many items are left. -/
def memB (on : List ByteArray) (n : ByteArray) : Bool := on.any fun s => decide (s = n)
theorem memB_iff {on : List ByteArray} {n : ByteArray} : memB on n = true ↔ n ∈ on := by
  unfold memB
  rw [List.any_eq_true]
  constructor
  · rintro ⟨x, hx, e⟩
    rw [decide_eq_true_eq] at e
    exact e ▸ hx
  · intro h
    exact ⟨n, h, by simp⟩
def restF (l : List Feat) (on : List ByteArray) : Nat := ((l.filter fun f => !(memB on f.name)).map fun f => f.of.length).sum
theorem restF_congr {l : List Feat} {on on' : List ByteArray} (h : ∀ f ∈ l, f.name ∈ on ↔ f.name ∈ on') : restF l on = restF l on' := by
  unfold restF
  rw [List.filter_congr (q := fun f => !(memB on' f.name)) fun f hf => by
    have : memB on f.name = memB on' f.name := by rw [Bool.eq_iff_iff, memB_iff, memB_iff]; exact h f hf
    rw [this]]
theorem restF_all (l : List Feat) : restF l [] = (l.map fun f => f.of.length).sum := by
  unfold restF
  have : (l.filter fun f => !(memB [] f.name)) = l := List.filter_eq_self.2 fun f _ => rfl
  rw [this]
theorem restF_cons (f : Feat) (l : List Feat) (on : List ByteArray) : restF (f :: l) on = (if memB on f.name = true then 0 else f.of.length) + restF l on := by
  unfold restF
  rw [List.filter_cons]
  cases h : memB on f.name
  · simp
  · simp
theorem ofF_cons (f : Feat) (l : List Feat) (s : ByteArray) : ofF (f :: l) s = if f.name = s then f.of else ofF l s := by
  unfold ofF findF
  rw [List.findIdx?_cons]
  by_cases h : f.name = s
  · simp [h]
  · simp only [h, decide_false, Bool.false_eq_true, if_false]
    cases l.findIdx? fun f => decide (f.name = s) with
    | none => rfl
    | some k =>
      show (if ((k + 1 : Nat) : Int) < 0 then [] else ((f :: l).getD ((k + 1 : Nat) : Int).toNat default).of) = if ((k : Nat) : Int) < 0 then [] else (l.getD ((k : Nat) : Int).toNat default).of
      rw [if_neg (by omega), if_neg (by omega)]
      simp
theorem ofF_nil (s : ByteArray) : ofF [] s = [] := rfl
theorem restF_mono {s : ByteArray} (l : List Feat) (on : List ByteArray) : restF l (on ++ [s]) ≤ restF l on := by
  induction l with
  | nil => exact Nat.le_refl _
  | cons f l ih =>
    rw [restF_cons, restF_cons]
    by_cases h : memB on f.name = true
    · rw [if_pos h, if_pos (memB_iff.2 (List.mem_append_left _ (memB_iff.1 h)))]; omega
    · rw [if_neg h]
      split <;> omega
theorem restF_snoc {s : ByteArray} (l : List Feat) (on : List ByteArray) (hs : s ∉ on) : restF l (on ++ [s]) + (ofF l s).length ≤ restF l on := by
  induction l with
  | nil => exact Nat.le_refl _
  | cons f l ih =>
    rw [restF_cons, restF_cons, ofF_cons]
    by_cases h : f.name = s
    · have := restF_mono (s := s) l on
      rw [if_pos h, if_pos (memB_iff.2 (by rw [h]; simp)), if_neg (fun e => hs (by rw [← h]; exact memB_iff.1 e))]
      omega
    · rw [if_neg h]
      by_cases h' : memB on f.name = true
      · rw [if_pos h', if_pos (memB_iff.2 (List.mem_append_left _ (memB_iff.1 h')))]; omega
      · rw [if_neg h', if_neg (fun e => by
          rcases List.mem_append.1 (memB_iff.1 e) with e | e
          · exact h' (memB_iff.2 e)
          · exact h (List.mem_singleton.1 e))]; omega
/-- An item is one of the three. -/
theorem three_snoc (L : List ByteArray) (x : ByteArray) :
    (kOf x = 1 ∧ (L ++ [x]).filterMap k1 = L.filterMap k1 ++ [nOf x] ∧ (L ++ [x]).filterMap k2 = L.filterMap k2 ∧ (L ++ [x]).filterMap k3 = L.filterMap k3) ∨
    (kOf x = 2 ∧ (L ++ [x]).filterMap k1 = L.filterMap k1 ∧ (L ++ [x]).filterMap k2 = L.filterMap k2 ++ [nOf x] ∧ (L ++ [x]).filterMap k3 = L.filterMap k3) ∨
    (kOf x ≠ 1 ∧ kOf x ≠ 2 ∧ (L ++ [x]).filterMap k1 = L.filterMap k1 ∧ (L ++ [x]).filterMap k2 = L.filterMap k2 ∧ (L ++ [x]).filterMap k3 = L.filterMap k3 ++ [x]) := by
  simp only [List.filterMap_append, List.filterMap_cons, List.filterMap_nil]
  by_cases h1 : kOf x = 1
  · left
    have e1 : k1 x = some (nOf x) := by unfold k1; rw [if_pos h1]
    have e2 : k2 x = none := by unfold k2; rw [if_neg (by omega)]
    have e3 : k3 x = none := by unfold k3; rw [if_pos (.inl h1)]
    rw [e1, e2, e3]
    simp [h1]
  · by_cases h2 : kOf x = 2
    · right; left
      have e1 : k1 x = none := by unfold k1; rw [if_neg h1]
      have e2 : k2 x = some (nOf x) := by unfold k2; rw [if_pos h2]
      have e3 : k3 x = none := by unfold k3; rw [if_pos (.inr h2)]
      rw [e1, e2, e3]
      simp [h2]
    · right; right
      have e1 : k1 x = none := by unfold k1; rw [if_neg h1]
      have e2 : k2 x = none := by unfold k2; rw [if_neg h2]
      have e3 : k3 x = some x := by unfold k3; rw [if_neg (by omega)]
      rw [e1, e2, e3]
      simp [h1, h2]
theorem three_length (L : List ByteArray) : (L.filterMap k1).length + (L.filterMap k2).length + (L.filterMap k3).length = L.length := by
  induction L with
  | nil => rfl
  | cons x L ih =>
    rcases three_snoc [] x with ⟨_, e1, e2, e3⟩ | ⟨_, e1, e2, e3⟩ | ⟨_, _, e1, e2, e3⟩ <;>
      (rw [List.nil_append] at e1 e2 e3
       rw [show x :: L = [x] ++ L from rfl]
       simp only [List.filterMap_append, List.length_append, e1, e2, e3, List.filterMap_nil, List.nil_append, List.length_singleton]
       omega)
theorem nOf_size (s : ByteArray) (h : kOf s = 1 ∨ kOf s = 2) : (nOf s).size ≤ s.size := by
  rcases h with h | h
  · rw [kOf_one h]; exact Nat.le_refl _
  · unfold kOf nOf itemF at *
    split at h
    · cases h
    · rename_i h1
      split at h
      · rename_i h2
        rw [if_neg h1, if_pos h2]
        show (s.data.toList.tail.toArray).size ≤ s.data.size
        rw [List.size_toArray, List.length_tail, Array.length_toList]
        omega
      · split at h
        · cases h
        · cases h
/-- What may be has few items. -/
theorem may_of {l : List Feat} (h : mayF l = true) : l.length ≤ 8 ∧ ∀ f ∈ l, f.of.length ≤ 6 ∧ ∀ x ∈ f.of, kOf x ≠ 0 ∧ (kOf x = 1 → knownB l x = true) := by
  unfold mayF at h
  rw [Bool.and_eq_true, decide_eq_true_eq, List.all_eq_true] at h
  refine ⟨h.1, fun f hf => ?_⟩
  obtain ⟨i, hi, rfl⟩ := List.getElem_of_mem hf
  have := h.2 i (List.mem_range.2 hi)
  rw [featOk_at hi, Bool.and_eq_true, Bool.and_eq_true] at this
  have h3 := this.2.2
  unfold itemsB at h3
  rw [Bool.and_eq_true, Bool.and_eq_true, decide_eq_true_eq, List.all_eq_true] at h3
  refine ⟨h3.1, fun x hx => ?_⟩
  have h4 := h3.2.2 x hx
  unfold itemOk at h4
  rw [Bool.and_eq_true, Bool.or_eq_true, decide_eq_true_eq, decide_eq_true_eq] at h4
  refine ⟨h4.1, fun h1 => ?_⟩
  rcases h4.2 with h5 | h5
  · exact absurd h1 h5
  · have := kOf_one h1
    unfold nOf at this
    rw [this] at h5
    exact h5
theorem restF_few {l : List Feat} (h : mayF l = true) : restF l [] ≤ 48 := by
  rw [restF_all]
  obtain ⟨h8, h6⟩ := may_of h
  have : ∀ m : List Feat, (∀ f ∈ m, f.of.length ≤ 6) → (m.map fun f => f.of.length).sum ≤ m.length * 6 := by
    intro m
    induction m with
    | nil => intro _; exact Nat.le_refl _
    | cons f m ih =>
      intro hm
      have := hm f (by simp)
      have := ih fun g hg => hm g (by simp [hg])
      rw [List.map_cons, List.sum_cons, List.length_cons]
      omega
  have := this l fun f hf => (h6 f hf).1
  omega
end Go.Proofs.Ytdcdpkpomhjilaa
