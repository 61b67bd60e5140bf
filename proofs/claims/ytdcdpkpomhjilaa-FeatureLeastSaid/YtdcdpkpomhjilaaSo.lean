/- The order of texts: rising lists, a text put among them. No program stands here. -/
import Derived.Test.YtdcdpkpomhjilaaS0
namespace Go.Proofs.Ytdcdpkpomhjilaa
open Go Go.RowKit

theorem less_iff : ∀ (x y : List UInt8), Op.bytesLess x y = decide (x < y)
  | [], [] => rfl
  | [], _ :: _ => by simp [Op.bytesLess]
  | _ :: _, [] => by simp [Op.bytesLess]
  | a :: x, b :: y => by
    unfold Op.bytesLess
    rw [less_iff x y, Bool.eq_iff_iff]
    by_cases h : a = b
    · subst h; simp
    · simp [h, List.cons_lt_cons_iff]
theorem ltS_iff (a b : ByteArray) : ltS a b = true ↔ a.data.toList < b.data.toList := by
  unfold ltS
  rw [less_iff, decide_eq_true_iff, ByteArray.toList_eq, ByteArray.toList_eq]
theorem ext_ba {a b : ByteArray} (h : a.data.toList = b.data.toList) : a = b := ByteArray.ext (Array.ext' h)
theorem ltS_trans {a b c : ByteArray} (h : ltS a b = true) (h' : ltS b c = true) : ltS a c = true := by
  rw [ltS_iff] at *
  exact List.lt_trans h h'
theorem ltS_irrefl (a : ByteArray) : ltS a a = false := by
  cases h : ltS a a with
  | false => rfl
  | true => exact absurd ((ltS_iff a a).1 h) (List.lt_irrefl _)
theorem lt_or_eq {a b : List UInt8} (h : a ≤ b) : a < b ∨ a = b := by
  by_cases e : a < b
  · exact .inl e
  · exact .inr (List.le_antisymm h (List.not_lt.1 e))
theorem ltS_tri (a b : ByteArray) (h : ltS a b = false) (hne : a ≠ b) : ltS b a = true := by
  rw [ltS_iff]
  rcases List.le_total b.data.toList a.data.toList with h1 | h1
  · rcases lt_or_eq h1 with h2 | h2
    · exact h2
    · exact absurd (ext_ba h2).symm hne
  · rcases lt_or_eq h1 with h2 | h2
    · rw [(ltS_iff a b).2 h2] at h; cases h
    · exact absurd (ext_ba h2) hne
abbrev Rise (l : List ByteArray) : Prop := l.Pairwise fun a b => ltS a b = true
theorem rise_iff : ∀ {l : List ByteArray}, risesB l = true ↔ Rise l := by
  intro l
  rw [risesB_iff]
  constructor
  · intro h
    rw [Rise, List.pairwise_iff_getElem]
    intro i j hi hj hij
    induction j with
    | zero => omega
    | succ j ih =>
      have hs := h (j + 1) (by omega) hj
      simp only [Nat.add_sub_cancel] at hs
      by_cases e : i = j
      · subst e; exact hs
      · exact ltS_trans (ih (by omega) (by omega)) hs
  · intro h i h0 hi
    exact List.pairwise_iff_getElem.1 h (i - 1) i (by omega) hi (by omega)
theorem Rise.nodup {l : List ByteArray} (h : Rise l) : l.Nodup := h.imp fun {a b} hab e => by
  subst e
  rw [ltS_irrefl] at hab
  cases hab
theorem rising_eqS : ∀ {l m : List ByteArray}, Rise l → Rise m → (∀ u, u ∈ l ↔ u ∈ m) → l = m
  | [], [], _, _, _ => rfl
  | [], b :: m, _, _, h => by have := (h b).2 (by simp); cases this
  | a :: l, [], _, _, h => by have := (h a).1 (by simp); cases this
  | a :: l, b :: m, h1, h2, h => by
    have ha := List.pairwise_cons.1 h1
    have hb := List.pairwise_cons.1 h2
    have no : ∀ {x : ByteArray}, ltS x x = true → False := fun {x} hx => by rw [ltS_irrefl] at hx; cases hx
    have hab : a = b := by
      rcases List.mem_cons.1 ((h a).1 (by simp)) with e | e
      · exact e
      · rcases List.mem_cons.1 ((h b).2 (by simp)) with e' | e'
        · exact e'.symm
        · exact (no (ltS_trans (ha.1 b e') (hb.1 a e))).elim
    subst hab
    congr 1
    refine rising_eqS ha.2 hb.2 fun u => ?_
    constructor
    · intro hu
      rcases List.mem_cons.1 ((h u).1 (by simp [hu])) with e | e
      · subst e
        exact (no (ha.1 u hu)).elim
      · exact e
    · intro hu
      rcases List.mem_cons.1 ((h u).2 (by simp [hu])) with e | e
      · subst e
        exact (no (hb.1 u hu)).elim
      · exact e
/-- A text put among texts, ahead of the first that is not less. -/
def putF (l : List ByteArray) (s : ByteArray) : List ByteArray :=
  if (l.dropWhile fun x => ltS x s).head? = some s then l else (l.takeWhile fun x => ltS x s) ++ s :: (l.dropWhile fun x => ltS x s)
theorem while_at {l : List ByteArray} {s : ByteArray} : ∀ {k : Nat}, k ≤ l.length → (∀ i, (hi : i < l.length) → i < k → ltS l[i] s = true) → (∀ hk : k < l.length, ltS l[k] s = false) → (l.takeWhile fun x => ltS x s) = l.take k ∧ (l.dropWhile fun x => ltS x s) = l.drop k := by
  induction l with
  | nil => intro k hk _ _; simp
  | cons a l ih =>
    intro k hk h1 h2
    cases k with
    | zero =>
      have := h2 (by simp)
      simp only [List.getElem_cons_zero] at this
      simp [List.takeWhile, List.dropWhile, this]
    | succ k =>
      have h0 := h1 0 (by simp) (by omega)
      simp only [List.getElem_cons_zero] at h0
      obtain ⟨e1, e2⟩ := ih (k := k) (by simpa using hk) (fun i hi hk => by have := h1 (i + 1) (by simpa using hi) (by omega); rwa [List.getElem_cons_succ] at this) (fun hk => by have := h2 (by simpa using hk); rwa [List.getElem_cons_succ] at this)
      simp [List.takeWhile, List.dropWhile, h0, e1, e2]
theorem putF_in {l : List ByteArray} {s : ByteArray} {k : Nat} (hk : k < l.length) (h1 : ∀ i, (hi : i < l.length) → i < k → ltS l[i] s = true) (h2 : l[k] = s) : putF l s = l := by
  obtain ⟨_, e2⟩ := while_at (Nat.le_of_lt hk) h1 (fun _ => by rw [h2, ltS_irrefl])
  unfold putF
  rw [e2, if_pos (by rw [List.head?_drop, List.getElem?_eq_getElem hk, h2])]
theorem putF_out {l : List ByteArray} {s : ByteArray} {k : Nat} (hk : k ≤ l.length) (h1 : ∀ i, (hi : i < l.length) → i < k → ltS l[i] s = true) (h2 : ∀ hk : k < l.length, ltS l[k] s = false) (h3 : ∀ hk : k < l.length, l[k] ≠ s) : putF l s = l.take k ++ s :: l.drop k := by
  obtain ⟨e1, e2⟩ := while_at hk h1 h2
  unfold putF
  rw [e1, e2, if_neg]
  intro h
  rw [List.head?_drop] at h
  obtain ⟨h4, h5⟩ := List.getElem?_eq_some_iff.1 h
  exact h3 h4 h5
theorem putF_mem (l : List ByteArray) (s u : ByteArray) : u ∈ putF l s ↔ u = s ∨ u ∈ l := by
  have hs : l = (l.takeWhile fun x => ltS x s) ++ (l.dropWhile fun x => ltS x s) := List.takeWhile_append_dropWhile.symm
  unfold putF
  split
  · rename_i h
    have : s ∈ l := by rw [hs]; exact List.mem_append_right _ (List.mem_of_mem_head? (by rw [h]; rfl))
    constructor
    · exact .inr
    · rintro (rfl | h)
      · exact this
      · exact h
  · have : u ∈ l ↔ u ∈ (l.takeWhile fun x => ltS x s) ∨ u ∈ (l.dropWhile fun x => ltS x s) := by rw [← List.mem_append, ← hs]
    rw [this, List.mem_append, List.mem_cons]
    constructor
    · rintro (h | h | h)
      · exact .inr (.inl h)
      · exact .inl h
      · exact .inr (.inr h)
    · rintro (h | h | h)
      · exact .inr (.inl h)
      · exact .inl h
      · exact .inr (.inr h)
theorem putF_length (l : List ByteArray) (s : ByteArray) : (putF l s).length ≤ l.length + 1 := by
  have hs : l.length = ((l.takeWhile fun x => ltS x s) ++ (l.dropWhile fun x => ltS x s)).length := by rw [List.takeWhile_append_dropWhile]
  unfold putF
  split
  · omega
  · rw [List.length_append] at hs
    rw [List.length_append, List.length_cons]
    omega
theorem putF_rise {l : List ByteArray} (h : Rise l) (s : ByteArray) : Rise (putF l s) := by
  have hs : l = (l.takeWhile fun x => ltS x s) ++ (l.dropWhile fun x => ltS x s) := List.takeWhile_append_dropWhile.symm
  unfold putF
  split
  · exact h
  · rename_i hh
    rw [hs] at h
    obtain ⟨h1, h2, h3⟩ := List.pairwise_append.1 h
    have hl : ∀ a ∈ (l.takeWhile fun x => ltS x s), ltS a s = true := fun a ha => List.all_eq_true.1 List.all_takeWhile a ha
    have hr : ∀ b ∈ (l.dropWhile fun x => ltS x s), ltS s b = true := by
      cases hd : (l.dropWhile fun x => ltS x s) with
      | nil => intro b hb; cases hb
      | cons c r =>
        rw [hd] at hh h2
        have hc : ltS c s = false := by
          have := List.head?_dropWhile_not (fun x => ltS x s) l
          rw [hd] at this
          simpa using this
        have hcs : ltS s c = true := ltS_tri c s hc (fun e => hh (by rw [e]; rfl))
        intro b hb
        rcases List.mem_cons.1 hb with e | e
        · rw [e]; exact hcs
        · exact ltS_trans hcs ((List.pairwise_cons.1 h2).1 b e)
    refine List.pairwise_append.2 ⟨h1, List.pairwise_cons.2 ⟨hr, h2⟩, fun a ha b hb => ?_⟩
    rcases List.mem_cons.1 hb with e | e
    · rw [e]; exact hl a ha
    · exact ltS_trans (hl a ha) (hr b e)
def toBA (l : List UInt8) : ByteArray := ⟨l.toArray⟩
theorem toBA_data (l : List UInt8) : (toBA l).data.toList = l := rfl
theorem sorted_riseS {ss : List (List UInt8)} (h : ss.Nodup) : Rise ((ss.mergeSort fun x y => decide (x ≤ y)).map toBA) := by
  have tr : ∀ a b c : List UInt8, decide (a ≤ b) = true → decide (b ≤ c) = true → decide (a ≤ c) = true := fun a b c h1 h2 => by simp only [decide_eq_true_eq] at *; exact List.le_trans h1 h2
  have to : ∀ a b : List UInt8, (decide (a ≤ b) || decide (b ≤ a)) = true := fun a b => by simp only [Bool.or_eq_true, decide_eq_true_eq]; exact List.le_total a b
  have h1 := List.pairwise_mergeSort tr to ss
  have h2 : (ss.mergeSort fun x y => decide (x ≤ y)).Nodup := (List.mergeSort_perm ss _).nodup_iff.2 h
  refine List.pairwise_map.2 (List.Pairwise.imp₂ (R := fun a b => decide (a ≤ b) = true) (S := fun a b => a ≠ b) (fun a b hab hne => ?_) h1 h2)
  rw [ltS_iff, toBA_data, toBA_data]
  simp only [decide_eq_true_eq] at hab
  rcases lt_or_eq hab with h | h
  · exact h
  · exact absurd h hne
end Go.Proofs.Ytdcdpkpomhjilaa
