/- Texts cut at a sign. No program stands here. -/
import Derived.Test.YtdcdpkpomhjilaaFlat
import Derived.Lib.Split
import Derived.Lib.IndexBytes
namespace Go.Proofs.Ytdcdpkpomhjilaa
open Go Go.RowKit

/-- A text at the first sign c. -/
def cutC (c : UInt8) : List UInt8 → List UInt8 × List UInt8 × Bool
  | [] => ([], [], false)
  | x :: s => if x = c then ([], s, true) else (x :: (cutC c s).1, (cutC c s).2.1, (cutC c s).2.2)
/-- A text at each sign c. -/
def splitC (c : UInt8) : List UInt8 → List (List UInt8)
  | [] => [[]]
  | x :: s => if x = c then [] :: splitC c s else match splitC c s with | w :: ws => (x :: w) :: ws | [] => [[x]]

theorem cut_spec (c : UInt8) : ∀ s : List UInt8, c ∉ (cutC c s).1 ∧ (((cutC c s).2.2 = true ∧ s = (cutC c s).1 ++ c :: (cutC c s).2.1) ∨ ((cutC c s).2.2 = false ∧ s = (cutC c s).1 ∧ (cutC c s).2.1 = []))
  | [] => by simp [cutC]
  | x :: s => by
    by_cases h : x = c
    · subst h; simp [cutC]
    · obtain ⟨h1, h2⟩ := cut_spec c s
      simp only [cutC, if_neg h]
      refine ⟨?_, ?_⟩
      · intro hm
        rcases List.mem_cons.1 hm with e | e
        · exact h e.symm
        · exact h1 e
      · rcases h2 with ⟨a, b⟩ | ⟨a, b, d⟩
        · exact .inl ⟨a, by rw [List.cons_append, ← b]⟩
        · exact .inr ⟨a, by rw [← b], d⟩
theorem cut_len (c : UInt8) (s : List UInt8) (h : (cutC c s).2.2 = true) : (cutC c s).2.1.length < s.length := by
  rcases (cut_spec c s).2 with ⟨_, h2⟩ | ⟨h1, _⟩
  · have := congrArg List.length h2
    simp only [List.length_append, List.length_cons] at this
    omega
  · rw [h] at h1; cases h1
theorem cut_of {c : UInt8} : ∀ {a b : List UInt8}, c ∉ a → cutC c (a ++ c :: b) = (a, b, true)
  | [], b, _ => by simp [cutC]
  | x :: a, b, h => by
    have hx : x ≠ c := fun e => h (by rw [e]; simp)
    have := cut_of (a := a) (b := b) (fun hm => h (List.mem_cons_of_mem _ hm))
    simp only [List.cons_append, cutC, if_neg hx, this]
theorem cut_no {c : UInt8} : ∀ {a : List UInt8}, c ∉ a → cutC c a = (a, [], false)
  | [], _ => rfl
  | x :: a, h => by
    have hx : x ≠ c := fun e => h (by rw [e]; simp)
    have := cut_no (a := a) (fun hm => h (List.mem_cons_of_mem _ hm))
    simp only [cutC, if_neg hx, this]
theorem split_ne (c : UInt8) (s : List UInt8) : splitC c s ≠ [] := by
  cases s with
  | nil => simp [splitC]
  | cons x s =>
    unfold splitC
    split
    · simp
    · split <;> simp
theorem split_cut (c : UInt8) : ∀ s : List UInt8, splitC c s = if (cutC c s).2.2 = true then (cutC c s).1 :: splitC c (cutC c s).2.1 else [(cutC c s).1]
  | [] => by simp [splitC, cutC]
  | x :: s => by
    by_cases h : x = c
    · subst h; simp [splitC, cutC]
    · have ih := split_cut c s
      simp only [splitC, if_neg h, cutC]
      rw [ih]
      by_cases hf : (cutC c s).2.2 = true
      · simp only [hf, if_true]
      · simp only [if_neg hf]
theorem split_of {c : UInt8} {a b : List UInt8} (h : c ∉ a) : splitC c (a ++ c :: b) = a :: splitC c b := by
  rw [split_cut, cut_of h]; simp
theorem split_no {c : UInt8} {a : List UInt8} (h : c ∉ a) : splitC c a = [a] := by
  rw [split_cut, cut_no h]; simp
theorem split_join {c : UInt8} : ∀ {w : List UInt8} {ws : List (List UInt8)}, c ∉ w → (∀ x ∈ ws, c ∉ x) → splitC c (w ++ ws.flatMap fun x => c :: x) = w :: ws
  | w, [], h, _ => by simpa using split_no h
  | w, y :: ws, h, hs => by
    rw [List.flatMap_cons, List.cons_append, split_of h, split_join (hs y (by simp)) (fun x hx => hs x (by simp [hx]))]
theorem join_split (c : UInt8) : ∀ (n : Nat) (s : List UInt8), s.length < n → ∃ w ws, splitC c s = w :: ws ∧ s = w ++ ws.flatMap fun x => c :: x
  | 0, s, h => absurd h (by omega)
  | n + 1, s, h => by
    rw [split_cut]
    rcases (cut_spec c s).2 with ⟨h1, h2⟩ | ⟨h1, h2, h3⟩
    · rw [if_pos h1]
      obtain ⟨w, ws, e1, e2⟩ := join_split c n (cutC c s).2.1 (by have := cut_len c s h1; omega)
      refine ⟨_, _, rfl, ?_⟩
      rw [e1]
      simp only [List.flatMap_cons, List.cons_append]
      rw [← e2]
      exact h2
    · rw [if_neg (by rw [h1]; simp)]
      exact ⟨_, _, rfl, by simpa using h2⟩

/-! The library's words. -/
theorem index_cut (c : UInt8) (s : List UInt8) : ((cutC c s).2.2 = true → Lib.index s [c] = ((cutC c s).1.length : Nat)) ∧ ((cutC c s).2.2 = false → Lib.index s [c] = -1) := by
  obtain ⟨h0, h⟩ := cut_spec c s
  refine ⟨fun hf => ?_, fun hf => ?_⟩
  · rcases h with ⟨_, h2⟩ | ⟨h1, _⟩
    · generalize (cutC c s).1 = a at h0 h2 ⊢
      generalize (cutC c s).2.1 = b at h2
      subst h2
      refine Lib.index_first (by simp) ?_ (fun j hj => ?_)
      · simp [Lib.occAt]
      · unfold Lib.occAt
        rw [List.drop_append_of_le_length (by omega)]
        have hd : a.drop j = a[j] :: a.drop (j + 1) := List.drop_eq_getElem_cons hj
        rw [hd]
        simp only [List.cons_append, List.isPrefixOf]
        have : (c == a[j]) = false := by
          rw [beq_eq_false_iff_ne]
          exact fun e => h0 (e ▸ List.getElem_mem hj)
        rw [this]; rfl
    · rw [hf] at h1; cases h1
  · rcases h with ⟨h1, _⟩ | ⟨_, h2, _⟩
    · rw [hf] at h1; cases h1
    · rw [← h2] at h0
      refine Lib.index_none (fun j hj => ?_)
      unfold Lib.occAt
      cases hd : s.drop j with
      | nil => rfl
      | cons x t =>
        simp only [List.isPrefixOf]
        have : (c == x) = false := by
          rw [beq_eq_false_iff_ne]
          intro e
          subst e
          exact h0 (List.mem_of_mem_drop (i := j) (by rw [hd]; simp))
        rw [this]; rfl
theorem app_take (a b : List UInt8) (c : UInt8) : (a ++ c :: b).take a.length = a ∧ (a ++ c :: b).drop (a.length + 1) = b := by
  refine ⟨by simp, ?_⟩
  rw [show a ++ c :: b = (a ++ [c]) ++ b by simp, show a.length + 1 = (a ++ [c]).length by simp, List.drop_left]
theorem cut_td {c : UInt8} {s : List UInt8} (e : s = (cutC c s).1 ++ c :: (cutC c s).2.1) : s.take (cutC c s).1.length = (cutC c s).1 ∧ s.drop ((cutC c s).1.length + 1) = (cutC c s).2.1 := by
  have h := app_take (cutC c s).1 (cutC c s).2.1 c
  rw [← e] at h
  exact h
theorem lib_cut (c : UInt8) (s : List UInt8) : Lib.cut s [c] = cutC c s := by
  obtain ⟨h1, h2⟩ := index_cut c s
  rcases (cut_spec c s).2 with ⟨hf, e⟩ | ⟨hf, e, e2⟩
  · have hi := h1 hf
    unfold Lib.cut
    rw [hi, if_pos (by omega)]
    obtain ⟨ht, hd⟩ := cut_td e
    simp only [Int.toNat_natCast, List.length_cons, List.length_nil, Nat.zero_add]
    rw [ht, hd]
    exact Prod.ext rfl (Prod.ext rfl hf.symm)
  · have hi := h2 hf
    unfold Lib.cut
    rw [hi, if_neg (by omega)]
    exact Prod.ext e (Prod.ext e2.symm hf.symm)
end Go.Proofs.Ytdcdpkpomhjilaa
