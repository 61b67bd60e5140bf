/- What was asked: the reference puts terms into a rising list, the program sorts and strikes doubles. No program stands here. -/
import Derived.Test.YtmghlakedaigpaaDoorTrimF
namespace Go.Proofs.YtmghlakedaigpaaDoor
open Go Go.RowKit

/-- The order of terms. -/
def ltT (a b : Term) : Prop := a.unit < b.unit ∨ (a.unit = b.unit ∧ a.mask < b.mask)
theorem ltT_irr (a : Term) : ¬ ltT a a := by unfold ltT; omega
theorem ltT_trans {a b c : Term} (h : ltT a b) (h' : ltT b c) : ltT a c := by unfold ltT at *; omega
theorem term_eq {a b : Term} (h1 : a.unit = b.unit) (h2 : a.mask = b.mask) : a = b := by cases a; cases b; simp_all
theorem ltT_tot (a b : Term) : ltT a b ∨ a = b ∨ ltT b a := by
  by_cases h : a = b
  · exact .inr (.inl h)
  · have : ¬ (a.unit = b.unit ∧ a.mask = b.mask) := fun ⟨h1, h2⟩ => h (term_eq h1 h2)
    unfold ltT
    omega
instance (a b : Term) : Decidable (ltT a b) := by unfold ltT; exact inferInstance
/-- Rising lists with the same members are the same. -/
theorem rise_ext : ∀ {a b : List Term}, a.Pairwise ltT → b.Pairwise ltT → (∀ x, x ∈ a ↔ x ∈ b) → a = b
  | [], [], _, _, _ => rfl
  | [], y :: b, _, _, h => by have := (h y).2 (by simp); cases this
  | x :: a, [], _, _, h => by have := (h x).1 (by simp); cases this
  | x :: a, y :: b, ha, hb, h => by
    have ha' := List.pairwise_cons.1 ha
    have hb' := List.pairwise_cons.1 hb
    have hxy : x = y := by
      rcases List.mem_cons.1 ((h x).1 (by simp)) with e | e
      · exact e
      · rcases List.mem_cons.1 ((h y).2 (by simp)) with e2 | e2
        · exact e2.symm
        · exact absurd (ltT_trans (ha'.1 y e2) (hb'.1 x e)) (ltT_irr _)
    subst hxy
    congr 1
    refine rise_ext ha'.2 hb'.2 fun z => ⟨fun hz => ?_, fun hz => ?_⟩
    · rcases List.mem_cons.1 ((h z).1 (by simp [hz])) with e | e
      · subst e; exact absurd (ha'.1 z hz) (ltT_irr _)
      · exact e
    · rcases List.mem_cons.1 ((h z).2 (by simp [hz])) with e | e
      · subst e; exact absurd (hb'.1 z hz) (ltT_irr _)
      · exact e
/-- A term put into a rising list. -/
def insT : List Term → Term → List Term
  | [], t => [t]
  | x :: r, t => if ltT x t then x :: insT r t else if x = t then x :: r else t :: x :: r
theorem insT_mem (l : List Term) (t x : Term) : x ∈ insT l t ↔ x ∈ l ∨ x = t := by
  induction l with
  | nil => simp [insT]
  | cons y r ih =>
    unfold insT
    split
    · simp only [List.mem_cons, ih, or_assoc]
    · split
      · next h => subst h; simp only [List.mem_cons]; constructor
                  · rintro (h | h)
                    · exact .inl (.inl h)
                    · exact .inl (.inr h)
                  · rintro ((h | h) | h)
                    · exact .inl h
                    · exact .inr h
                    · exact .inl h
      · simp only [List.mem_cons]; constructor
        · rintro (h | h | h)
          · exact .inr h
          · exact .inl (.inl h)
          · exact .inl (.inr h)
        · rintro ((h | h) | h)
          · exact .inr (.inl h)
          · exact .inr (.inr h)
          · exact .inl h
theorem insT_rise {l : List Term} (h : l.Pairwise ltT) (t : Term) : (insT l t).Pairwise ltT := by
  induction l with
  | nil => simp [insT]
  | cons y r ih =>
    obtain ⟨h1, h2⟩ := List.pairwise_cons.1 h
    unfold insT
    split
    · next hlt =>
      refine List.pairwise_cons.2 ⟨fun z hz => ?_, ih h2⟩
      rcases (insT_mem _ _ _).1 hz with e | e
      · exact h1 z e
      · rw [e]; exact hlt
    · next hlt =>
      split
      · exact h
      · next hne =>
        have hty : ltT t y := by
          rcases ltT_tot y t with h | h | h
          · exact absurd h hlt
          · exact absurd h hne
          · exact h
        refine List.pairwise_cons.2 ⟨fun z hz => ?_, h⟩
        rcases List.mem_cons.1 hz with e | e
        · rw [e]; exact hty
        · exact ltT_trans hty (h1 z e)
theorem insT_len (l : List Term) (t : Term) : (insT l t).length ≤ l.length + 1 := by
  induction l with
  | nil => simp [insT]
  | cons y r ih =>
    unfold insT
    split
    · simp only [List.length_cons]; omega
    · split <;> simp
/-- By its place. -/
theorem insT_at {l : List Term} {t : Term} : ∀ {k : Nat}, k ≤ l.length → (∀ j, (h : j < l.length) → j < k → ltT l[j] t) → (∀ h : k < l.length, ¬ ltT l[k] t) →
    insT l t = if l[k]? = some t then l else l.take k ++ t :: l.drop k := by
  induction l with
  | nil =>
    intro k hk _ _
    obtain rfl : k = 0 := by simpa using hk
    simp [insT]
  | cons y r ih =>
    intro k hk hlt hge
    cases k with
    | zero =>
      have := hge (by simp)
      simp only [List.getElem_cons_zero] at this
      unfold insT
      rw [if_neg this]
      simp
    | succ k =>
      have h0 := hlt 0 (by simp) (by omega)
      simp only [List.getElem_cons_zero] at h0
      unfold insT
      rw [if_pos h0, ih (k := k) (by simpa using hk) (fun j hj hjk => by have := hlt (j + 1) (by simpa using hj) (by omega); simpa using this) (fun h => by have := hge (by simpa using h); simpa using this)]
      simp only [List.getElem?_cons_succ, List.take_succ_cons, List.drop_succ_cons, List.cons_append]
      split <;> rfl
/-- Doubles that stand side by side struck. -/
def compL : List Term → List Term
  | [] => []
  | [x] => [x]
  | x :: y :: r => if x = y then compL (y :: r) else x :: compL (y :: r)
theorem compL_mem : ∀ (l : List Term) (x : Term), x ∈ compL l ↔ x ∈ l
  | [], x => by simp [compL]
  | [y], x => by simp [compL]
  | y :: z :: r, x => by
    have ih := compL_mem (z :: r) x
    unfold compL
    split
    · next h => rw [ih, h]; simp
    · rw [List.mem_cons, ih, List.mem_cons (a := x) (b := y)]
theorem compL_rise : ∀ {l : List Term}, l.Pairwise (fun a b => ¬ ltT b a) → (compL l).Pairwise ltT
  | [], _ => by simp [compL]
  | [y], _ => by simp [compL]
  | y :: z :: r, h => by
    obtain ⟨h1, h2⟩ := List.pairwise_cons.1 h
    have ih := compL_rise h2
    unfold compL
    split
    · exact ih
    · next hne =>
      refine List.pairwise_cons.2 ⟨fun x hx => ?_, ih⟩
      have hyz : ltT y z := by
        rcases ltT_tot y z with h | h | h
        · exact h
        · exact absurd h hne
        · exact absurd h (h1 z (by simp))
      rcases List.mem_cons.1 ((compL_mem _ _).1 hx) with e | e
      · rw [e]; exact hyz
      · have hzx := (List.pairwise_cons.1 h2).1 x e
        rcases ltT_tot z x with h | h | h
        · exact ltT_trans hyz h
        · rw [← h]; exact hyz
        · exact absurd h hzx
/-- The terms of the first k rows that are used and were asked. -/
def askL (l : List Row) : Nat → List Term
  | 0 => []
  | k + 1 => match l[k]? with | some r => if usedF l k = true ∧ r.kind = 4 then askL l k ++ r.terms else askL l k | none => askL l k
theorem askL_succ {l : List Row} {k : Nat} (hk : k < l.length) : askL l (k + 1) = if usedF l k = true ∧ l[k].kind = 4 then askL l k ++ l[k].terms else askL l k := by
  show (match l[k]? with | some r => if usedF l k = true ∧ r.kind = 4 then askL l k ++ r.terms else askL l k | none => askL l k) = _
  rw [List.getElem?_eq_getElem hk]
def askR (l : List Row) (k : Nat) : List Term := (askL l k).foldl insT []
theorem foldl_ins (a : List Term) : ∀ (s : List Term), s.Pairwise ltT → (a.foldl insT s).Pairwise ltT ∧ (∀ x, x ∈ a.foldl insT s ↔ x ∈ s ∨ x ∈ a) ∧ (a.foldl insT s).length ≤ s.length + a.length := by
  induction a with
  | nil => intro s hs; exact ⟨hs, fun x => by simp, by simp⟩
  | cons t a ih =>
    intro s hs
    obtain ⟨h1, h2, h3⟩ := ih (insT s t) (insT_rise hs t)
    refine ⟨h1, fun x => ?_, ?_⟩
    · rw [List.foldl_cons, h2, insT_mem, List.mem_cons, or_assoc]
    · have := insT_len s t
      simp only [List.foldl_cons, List.length_cons]
      omega
theorem askR_rise (l : List Row) (k : Nat) : (askR l k).Pairwise ltT := (foldl_ins _ [] List.Pairwise.nil).1
theorem askR_len (l : List Row) (k : Nat) : (askR l k).length ≤ (askL l k).length := by
  have := (foldl_ins (askL l k) [] List.Pairwise.nil).2.2
  rw [List.length_nil, Nat.zero_add] at this
  exact this
/-- Sorted and without doubles it is what the reference's rounds give. -/
theorem ask_same {l : List Row} {k : Nat} {s : List Term} (hp : s.Perm (askL l k)) (hs : s.Pairwise (fun a b => ¬ ltT b a)) : compL s = askR l k := by
  refine rise_ext (compL_rise hs) (askR_rise _ _) fun x => ?_
  rw [compL_mem, hp.mem_iff]
  have := (foldl_ins (askL l k) [] List.Pairwise.nil).2.1 x
  unfold askR
  rw [this]
  simp
/-- Of rows that may be an asked one has one term at most. -/
theorem ask_one {l : List Row} (hm : MayP l) {k : Nat} (hk : k < l.length) (h4 : l[k].kind = 4) : l[k].terms.length ≤ 1 := by
  obtain ⟨⟨_, _, _, _, _, _, _, _, h⟩, _⟩ := hm.2.2 k hk
  rcases h h4 with h | h <;> omega
end Go.Proofs.YtmghlakedaigpaaDoor
