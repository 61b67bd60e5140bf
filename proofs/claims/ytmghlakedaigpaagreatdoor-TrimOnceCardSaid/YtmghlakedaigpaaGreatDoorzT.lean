import Derived.Test.YtmghlakedaigpaaGreatDoorzW
import Derived.Test.YtmghlakedaigpaaGreatDoorzA
import Derived.Laws.MakeOwn
section
/- What package trim computes: which rows are used, how deep each is, what is left. No program stands here. -/
namespace Go.Proofs.YtmghlakedaigpaaGreatDoor
open Go Go.RowKit

/-- Is row i a part of row r? -/
def kid (r : Row) (i : Nat) : Bool := r.kind == 5 && (i == r.a.toNat || i == r.b.toNat)
/-- Used, as far as the last m rows tell. -/
def usedFrom (l : List Row) : Nat → Nat → Bool
  | 0, i => decide (i + 1 = l.length)
  | m + 1, i => usedFrom l m i || (usedFrom l m (l.length - 1 - m) && match l[l.length - 1 - m]? with | some r => kid r i | none => false)
def usedF (l : List Row) (i : Nat) : Bool := usedFrom l l.length i

theorem usedFrom_zero (l : List Row) (i : Nat) : usedFrom l 0 i = decide (i + 1 = l.length) := rfl
theorem usedFrom_succ {l : List Row} {m k : Nat} (hk : k < l.length) (hm : m + k + 1 = l.length) (i : Nat) : usedFrom l (m + 1) i = (usedFrom l m i || (usedFrom l m k && kid l[k] i)) := by
  have e : l.length - 1 - m = k := by omega
  show (usedFrom l m i || (usedFrom l m (l.length - 1 - m) && match l[l.length - 1 - m]? with | some r => kid r i | none => false)) = _
  rw [e, List.getElem?_eq_getElem hk]
theorem kid_lt {r : Row} {k i : Nat} (hr : RowOkW r k) (h : kid r i = true) : i < k := by
  obtain ⟨_, _, _, _, _, h6, _⟩ := hr
  simp only [kid, Bool.and_eq_true, Bool.or_eq_true, beq_iff_eq] at h
  obtain ⟨h5, h⟩ := h
  have := h6 h5
  omega
theorem usedFrom_mono {l : List Row} {m : Nat} (i : Nat) (h : usedFrom l m i = true) : usedFrom l (m + 1) i = true := by
  show (usedFrom l m i || _) = true
  rw [h]; rfl
/-- What lies at or behind the rows that were seen is settled. -/
theorem used_settled {l : List Row} (hm : MayP l) {i : Nat} : ∀ (m d : Nat), m + i + 1 ≥ l.length → m + d ≤ l.length → usedFrom l (m + d) i = usedFrom l m i
  | _, 0, _, _ => rfl
  | m, d + 1, h1, h2 => by
    rw [← used_settled hm m d h1 (by omega)]
    have hk : l.length - 1 - (m + d) < l.length := by omega
    rw [show m + (d + 1) = (m + d) + 1 by omega, usedFrom_succ hk (by omega)]
    have : kid l[l.length - 1 - (m + d)] i = false := by
      cases hx : kid l[l.length - 1 - (m + d)] i with
      | false => rfl
      | true =>
        have := kid_lt (hm.2.2 _ hk).1 hx
        omega
    rw [this]; simp
theorem used_eq {l : List Row} (hm : MayP l) {i m : Nat} (h : m + i + 1 ≥ l.length) (hl : m ≤ l.length) : usedF l i = usedFrom l m i := by
  unfold usedF
  have := used_settled hm (i := i) m (l.length - m) h (by omega)
  rwa [show m + (l.length - m) = l.length by omega] at this
/-- Where nothing ahead of k is used yet, nothing will be. -/
theorem used_none {l : List Row} {m : Nat} (h0 : ∀ i, i + m < l.length → usedFrom l m i = false) : ∀ (d i : Nat), m + d ≤ l.length → i + m < l.length → usedFrom l (m + d) i = false
  | 0, i, _, hi => h0 i hi
  | d + 1, i, hd, hi => by
    have hk : l.length - 1 - (m + d) < l.length := by omega
    rw [show m + (d + 1) = (m + d) + 1 by omega, usedFrom_succ hk (by omega), used_none h0 d i (by omega) hi, used_none h0 d (l.length - 1 - (m + d)) (by omega) (by omega)]
    rfl
theorem used_last {l : List Row} (hm : MayP l) : usedF l (l.length - 1) = true := by
  have h1 := hm.1
  rw [used_eq hm (m := 0) (by omega) (by omega)]
  simp [usedFrom_zero]; omega
/-- A used row's parts are used. -/
theorem used_kid {l : List Row} (hm : MayP l) {k i : Nat} (hk : k < l.length) (hu : usedF l k = true) (hx : kid l[k] i = true) : usedF l i = true := by
  have hlt := kid_lt (hm.2.2 k hk).1 hx
  rw [used_eq hm (m := l.length - 1 - k) (by omega) (by omega)] at hu
  have h2 : usedFrom l (l.length - 1 - k + 1) i = true := by rw [usedFrom_succ hk (by omega), hu, hx]; simp
  have : ∀ d, l.length - 1 - k + 1 + d ≤ l.length → usedFrom l (l.length - 1 - k + 1 + d) i = true := by
    intro d
    induction d with
    | zero => intro _; exact h2
    | succ d ih => intro hd; exact usedFrom_mono i (ih (by omega))
  have h3 := this k (by omega)
  rwa [show l.length - 1 - k + 1 + k = l.length by omega] at h3

/-- How deep each row is. -/
def deepOf (acc : List Nat) (r : Row) : Nat := if r.kind = 5 then 1 + max (acc.getD r.a.toNat 0) (acc.getD r.b.toNat 0) else 1
def deeps (l : List Row) : List Nat := l.foldl (fun acc r => acc ++ [deepOf acc r]) []
theorem deeps_snoc (l : List Row) (r : Row) : deeps (l ++ [r]) = deeps l ++ [deepOf (deeps l) r] := by simp [deeps]
theorem snoc_ind {α : Type} {p : List α → Prop} (h0 : p []) (h1 : ∀ l x, p l → p (l ++ [x])) (l : List α) : p l := by
  have : ∀ m : List α, p m.reverse := by
    intro m
    induction m with
    | nil => simpa using h0
    | cons x m ih => rw [List.reverse_cons]; exact h1 _ _ ih
  simpa using this l.reverse
theorem deeps_length (l : List Row) : (deeps l).length = l.length := by
  induction l using snoc_ind with
  | h0 => rfl
  | h1 l r ih => rw [deeps_snoc]; simp [ih]
theorem deeps_take {l : List Row} {k : Nat} (h : k < l.length) : deeps (l.take (k + 1)) = deeps (l.take k) ++ [deepOf (deeps (l.take k)) l[k]] := by
  rw [List.take_succ_eq_append_getElem h, deeps_snoc]
theorem deeps_pre (l : List Row) : ∀ m : List Row, ∃ t, deeps (l ++ m) = deeps l ++ t := by
  intro m
  induction m using snoc_ind with
  | h0 => exact ⟨[], by simp⟩
  | h1 m r ih =>
    obtain ⟨t, ht⟩ := ih
    exact ⟨t ++ [deepOf (deeps (l ++ m)) r], by rw [← List.append_assoc, deeps_snoc, ht, List.append_assoc]⟩
/-- The depth at a place is that of the rows up to there. -/
theorem deeps_get {l : List Row} {i k : Nat} (hi : i < k) (hk : k ≤ l.length) : (deeps l).getD i 0 = (deeps (l.take k)).getD i 0 := by
  obtain ⟨t, ht⟩ := deeps_pre (l.take k) (l.drop k)
  rw [List.take_append_drop] at ht
  rw [ht]
  simp only [List.getD_eq_getElem?_getD]
  rw [List.getElem?_append_left (by rw [deeps_length]; simp; omega)]
theorem deeps_at {l : List Row} {k : Nat} (hk : k < l.length) (ha : l[k].kind = 5 → l[k].a.toNat < k ∧ l[k].b.toNat < k) :
    (deeps l).getD k 0 = if l[k].kind = 5 then 1 + max ((deeps l).getD l[k].a.toNat 0) ((deeps l).getD l[k].b.toNat 0) else 1 := by
  rw [deeps_get (i := k) (k := k + 1) (by omega) (by omega), deeps_take hk]
  have e : (deeps (l.take k)).length = k := by rw [deeps_length]; simp; omega
  simp only [List.getD_eq_getElem?_getD]
  rw [List.getElem?_append_right (by omega), e]
  simp only [Nat.sub_self, List.getElem?_cons_zero, Option.getD_some, deepOf]
  split
  · rename_i h5
    obtain ⟨h1, h2⟩ := ha h5
    have e1 := deeps_get (l := l) (i := l[k].a.toNat) (k := k) h1 (by omega)
    have e2 := deeps_get (l := l) (i := l[k].b.toNat) (k := k) h2 (by omega)
    simp only [List.getD_eq_getElem?_getD] at e1 e2
    rw [e1, e2]
    simp [List.getD_eq_getElem?_getD]
  · rfl
theorem deeps_le (l : List Row) : ∀ i, (deeps l).getD i 0 ≤ l.length := by
  induction l using snoc_ind with
  | h0 => intro i; simp [deeps]
  | h1 l r ih =>
    intro i
    rw [deeps_snoc]
    simp only [List.getD_eq_getElem?_getD, List.length_append, List.length_cons, List.length_nil]
    by_cases hi : i < (deeps l).length
    · rw [List.getElem?_append_left hi]
      have := ih i
      simp only [List.getD_eq_getElem?_getD] at this
      omega
    · rw [List.getElem?_append_right (by omega)]
      rcases Nat.eq_zero_or_pos (i - (deeps l).length) with h | h
      · rw [h]
        simp only [List.getElem?_cons_zero, Option.getD_some, deepOf]
        have h1 := ih r.a.toNat
        have h2 := ih r.b.toNat
        split <;> omega
      · rw [List.getElem?_eq_none (by simp; omega)]
        simp

/-- What is left: where each row has gone, and the rows. -/
def turn (to : Nat → Nat) (r : Row) : Row := if r.kind = 5 then { r with a := to r.a.toNat, b := to r.b.toNat } else r
def putRow (out : List Row) (r : Row) : Nat × List Row := if r ∈ out then (out.idxOf r, out) else (out.length, out ++ [r])
def trimStep (l : List Row) (k : Nat) (r : Row) (s : (Nat → Nat) × List Row) : (Nat → Nat) × List Row :=
  if usedF l k then ((fun i => if i = k then (putRow s.2 (turn s.1 r)).1 else s.1 i), (putRow s.2 (turn s.1 r)).2) else s
def trimSt (l : List Row) : Nat → (Nat → Nat) × List Row
  | 0 => (fun _ => 0, [])
  | k + 1 => match l[k]? with | some r => trimStep l k r (trimSt l k) | none => trimSt l k
def trimF (l : List Row) : List Row := (trimSt l l.length).2
theorem trimSt_succ {l : List Row} {k : Nat} (hk : k < l.length) : trimSt l (k + 1) = trimStep l k l[k] (trimSt l k) := by
  show (match l[k]? with | some r => trimStep l k r (trimSt l k) | none => trimSt l k) = _
  rw [List.getElem?_eq_getElem hk]

theorem putRow_mem (out : List Row) (r : Row) : r ∈ (putRow out r).2 ∧ (putRow out r).1 < (putRow out r).2.length ∧ (putRow out r).2[(putRow out r).1]? = some r ∧ (∃ t, (putRow out r).2 = out ++ t) ∧ (putRow out r).2.length ≤ out.length + 1 := by
  unfold putRow
  split
  · rename_i h
    have hi := List.idxOf_lt_length_of_mem h
    exact ⟨h, hi, by rw [List.getElem?_eq_getElem hi, List.getElem_idxOf hi], ⟨[], by simp⟩, Nat.le_succ _⟩
  · exact ⟨by simp, by simp, by simp, ⟨[r], rfl⟩, by simp⟩
theorem putRow_nodup {out : List Row} (h : out.Nodup) (r : Row) : (putRow out r).2.Nodup := by
  unfold putRow
  split
  · exact h
  · rename_i hr
    exact List.nodup_append.2 ⟨h, by simp, fun a ha b hb => by
      have : b = r := by simpa using hb
      subst this
      intro e; subst e; exact hr ha⟩

/-- What holds behind k rows. -/
structure TrimInv (l : List Row) (k : Nat) (s : (Nat → Nat) × List Row) : Prop where
  nodup : s.2.Nodup
  lt : ∀ i, i < k → usedF l i = true → s.1 i < s.2.length
  kids : ∀ p, (h : p < s.2.length) → s.2[p].kind = 5 → s.2[p].a.toNat < p ∧ s.2[p].b.toNat < p ∧ 0 ≤ s.2[p].a ∧ 0 ≤ s.2[p].b
  deep : ∀ i, i < k → usedF l i = true → (deeps s.2).getD (s.1 i) 0 = (deeps l).getD i 0
  count : s.2.length ≤ ((List.range k).filter (usedF l)).length

theorem getD_append_left {α : Type} (d : α) {a t : List α} {i : Nat} (h : i < a.length) : (a ++ t).getD i d = a.getD i d := by
  simp only [List.getD_eq_getElem?_getD]
  rw [List.getElem?_append_left h]
theorem trim_inv {l : List Row} (hm : MayP l) : ∀ k, k ≤ l.length → TrimInv l k (trimSt l k)
  | 0, _ => ⟨List.nodup_nil, fun i h => absurd h (by omega), fun p h => absurd h (by simp [trimSt]), fun i h => absurd h (by omega), by simp [trimSt]⟩
  | k + 1, hk => by
    have ih := trim_inv hm k (by omega)
    rw [trimSt_succ (by omega : k < l.length)]
    unfold trimStep
    by_cases hu : usedF l k = true
    · rw [if_pos hu]
      have hkl : k < l.length := by omega
      have hfit := (hm.2.2 k hkl).1
      obtain ⟨p1, p2, p3, ⟨t, pt⟩, p5⟩ := putRow_mem (trimSt l k).2 (turn (trimSt l k).1 l[k])
      have hkid : l[k].kind = 5 → (usedF l l[k].a.toNat = true ∧ l[k].a.toNat < k) ∧ (usedF l l[k].b.toNat = true ∧ l[k].b.toNat < k) := by
        intro h5
        obtain ⟨_, _, _, _, _, h6, _⟩ := hfit
        have := h6 h5
        exact ⟨⟨used_kid hm hkl hu (by simp [kid, h5]), by omega⟩, ⟨used_kid hm hkl hu (by simp [kid, h5]), by omega⟩⟩
      have hkids : ∀ p, (h : p < (putRow (trimSt l k).2 (turn (trimSt l k).1 l[k])).2.length) → (putRow (trimSt l k).2 (turn (trimSt l k).1 l[k])).2[p].kind = 5 →
          (putRow (trimSt l k).2 (turn (trimSt l k).1 l[k])).2[p].a.toNat < p ∧ (putRow (trimSt l k).2 (turn (trimSt l k).1 l[k])).2[p].b.toNat < p ∧ 0 ≤ (putRow (trimSt l k).2 (turn (trimSt l k).1 l[k])).2[p].a ∧ 0 ≤ (putRow (trimSt l k).2 (turn (trimSt l k).1 l[k])).2[p].b := by
        intro p hp h5
        by_cases hin : turn (trimSt l k).1 l[k] ∈ (trimSt l k).2
        · simp only [putRow, if_pos hin] at hp h5 ⊢
          exact ih.kids p hp h5
        · simp only [putRow, if_neg hin] at hp h5 ⊢
          by_cases hpl : p < (trimSt l k).2.length
          · rw [List.getElem_append_left hpl] at h5 ⊢
            exact ih.kids p hpl h5
          · have e : p = (trimSt l k).2.length := by simp at hp; omega
            subst e
            simp only [List.getElem_concat_length] at h5 ⊢
            have h5' : l[k].kind = 5 := by
              unfold turn at h5
              split at h5
              · assumption
              · exact h5
            obtain ⟨⟨a1, a2⟩, ⟨b1, b2⟩⟩ := hkid h5'
            have x1 := ih.lt _ a2 a1
            have x2 := ih.lt _ b2 b1
            unfold turn
            rw [if_pos h5']
            simp only [Int.toNat_natCast]
            omega
      refine ⟨putRow_nodup ih.nodup _, ?_, hkids, ?_, ?_⟩
      · intro i hi hui
        by_cases hik : i = k
        · subst hik; simp only [if_true]; exact p2
        · simp only [if_neg hik]
          have := ih.lt i (by omega) hui
          rw [pt]; simp; omega
      · intro i hi hui
        by_cases hik : i = k
        · subst hik
          simp only [if_true]
          have e := (List.getElem?_eq_some_iff.1 p3).2
          rw [deeps_at p2 (fun h => ⟨(hkids _ p2 h).1, (hkids _ p2 h).2.1⟩), e, deeps_at hkl (fun h => ⟨(hkid h).1.2, (hkid h).2.2⟩)]
          by_cases h5 : l[i].kind = 5
          · have h5' : (turn (trimSt l i).1 l[i]).kind = 5 := by unfold turn; rw [if_pos h5]; exact h5
            rw [if_pos h5', if_pos h5]
            obtain ⟨⟨a1, a2⟩, ⟨b1, b2⟩⟩ := hkid h5
            have x1 := ih.deep _ a2 a1
            have x2 := ih.deep _ b2 b1
            have y1 := ih.lt _ a2 a1
            have y2 := ih.lt _ b2 b1
            have ea : (turn (trimSt l i).1 l[i]).a.toNat = (trimSt l i).1 l[i].a.toNat := by unfold turn; rw [if_pos h5]; simp
            have eb : (turn (trimSt l i).1 l[i]).b.toNat = (trimSt l i).1 l[i].b.toNat := by unfold turn; rw [if_pos h5]; simp
            obtain ⟨t', ht'⟩ := deeps_pre (trimSt l i).2 t
            rw [ea, eb, pt, ht', getD_append_left 0 (by rw [deeps_length]; exact y1), getD_append_left 0 (by rw [deeps_length]; exact y2), x1, x2]
          · have h5' : ¬ (turn (trimSt l i).1 l[i]).kind = 5 := by unfold turn; rw [if_neg h5]; exact h5
            rw [if_neg h5', if_neg h5]
        · simp only [if_neg hik]
          have x := ih.deep i (by omega) hui
          have y := ih.lt i (by omega) hui
          obtain ⟨t', ht'⟩ := deeps_pre (trimSt l k).2 t
          rw [pt, ht', getD_append_left 0 (by rw [deeps_length]; exact y), x]
      · have := ih.count
        rw [List.range_succ, List.filter_append]
        simp only [List.filter_cons, hu, if_true, List.filter_nil, List.length_append, List.length_cons, List.length_nil]
        omega
    · rw [if_neg hu]
      refine ⟨ih.nodup, fun i hi hui => ?_, ih.kids, fun i hi hui => ?_, ?_⟩
      · have : i ≠ k := fun e => by subst e; exact hu hui
        exact ih.lt i (by omega) hui
      · have : i ≠ k := fun e => by subst e; exact hu hui
        exact ih.deep i (by omega) hui
      · have := ih.count
        rw [List.range_succ, List.filter_append]
        simp only [List.length_append]
        omega

/-- The ways down from a row. -/
def paths (l : List Row) : Nat → Nat → List Nat
  | 0, i => [i]
  | f + 1, i => i :: match l[i]? with | some r => if r.kind = 5 then paths l f r.a.toNat ++ paths l f r.b.toNat else [] | none => []
theorem nodup_le {α : Type} [DecidableEq α] : ∀ {a b : List α}, a.Nodup → (∀ x ∈ a, x ∈ b) → a.length ≤ b.length
  | [], _, _, _ => by simp
  | x :: a, b, hn, h => by
    have hx : x ∈ b := h x (by simp)
    have hn' := List.nodup_cons.1 hn
    have : a.length ≤ (b.erase x).length := nodup_le hn'.2 (fun y hy => by
      refine (List.mem_erase_of_ne (fun e => ?_)).2 (h y (by simp [hy]))
      subst e; exact hn'.1 hy)
    rw [List.length_erase_of_mem hx] at this
    have : 0 < b.length := List.length_pos_of_mem hx
    simp only [List.length_cons]
    omega
theorem paths_self (l : List Row) (f i : Nat) : i ∈ paths l f i := by cases f <;> simp [paths]
theorem paths_succ {l : List Row} {f i : Nat} (hi : i < l.length) : paths l (f + 1) i = i :: if l[i].kind = 5 then paths l f l[i].a.toNat ++ paths l f l[i].b.toNat else [] := by
  show i :: (match l[i]? with | some r => if r.kind = 5 then paths l f r.a.toNat ++ paths l f r.b.toNat else [] | none => []) = _
  rw [List.getElem?_eq_getElem hi]
theorem ok_kids {l : List Row} (hm : MayP l) {i : Nat} (hi : i < l.length) (h5 : l[i].kind = 5) : l[i].a.toNat < i ∧ l[i].b.toNat < i := by
  obtain ⟨⟨_, _, _, _, _, h6, _⟩, _⟩ := hm.2.2 i hi
  have := h6 h5
  omega
theorem paths_closed {l : List Row} (hm : MayP l) : ∀ (f i : Nat), i < f → i < l.length → ∀ k x, (hk : k < l.length) → k ∈ paths l f i → kid l[k] x = true → x ∈ paths l f i
  | 0, i, h, _, _, _, _, _, _ => absurd h (by omega)
  | f + 1, i, hf, hi, k, x, hk, hmem, hx => by
    rw [paths_succ hi] at hmem ⊢
    by_cases h5 : l[i].kind = 5
    · rw [if_pos h5] at hmem ⊢
      obtain ⟨ha, hb⟩ := ok_kids hm hi h5
      rcases List.mem_cons.1 hmem with rfl | hmem
      · simp only [kid, Bool.and_eq_true, Bool.or_eq_true, beq_iff_eq] at hx
        rcases hx.2 with rfl | rfl
        · exact List.mem_cons_of_mem _ (List.mem_append_left _ (paths_self l f _))
        · exact List.mem_cons_of_mem _ (List.mem_append_right _ (paths_self l f _))
      · rcases List.mem_append.1 hmem with h | h
        · exact List.mem_cons_of_mem _ (List.mem_append_left _ (paths_closed hm f _ (by omega) (by omega) k x hk h hx))
        · exact List.mem_cons_of_mem _ (List.mem_append_right _ (paths_closed hm f _ (by omega) (by omega) k x hk h hx))
    · rw [if_neg h5] at hmem ⊢
      have : k = i := by simpa using hmem
      subst this
      exfalso
      simp only [kid, Bool.and_eq_true, beq_iff_eq] at hx
      exact h5 hx.1
theorem used_paths {l : List Row} (hm : MayP l) : ∀ (m i : Nat), m ≤ l.length → usedFrom l m i = true → i ∈ paths l l.length (l.length - 1)
  | 0, i, _, h => by
    have : i + 1 = l.length := by simpa [usedFrom_zero] using h
    have e : i = l.length - 1 := by omega
    rw [e]; exact paths_self _ _ _
  | m + 1, i, hml, h => by
    have h1 := hm.1
    have hk : l.length - 1 - m < l.length := by omega
    rw [usedFrom_succ hk (by omega)] at h
    simp only [Bool.or_eq_true, Bool.and_eq_true] at h
    rcases h with h | ⟨ha, hb⟩
    · exact used_paths hm m i (by omega) h
    · exact paths_closed hm _ _ (by omega) (by omega) _ i hk (used_paths hm m _ (by omega) ha) hb
theorem paths_len {l : List Row} (hm : MayP l) : ∀ (f i : Nat), i < f → i < l.length → (paths l f i).length + 1 ≤ 2 ^ ((deeps l).getD i 0)
  | 0, i, h, _ => absurd h (by omega)
  | f + 1, i, hf, hi => by
    rw [paths_succ hi, deeps_at hi (fun h => ok_kids hm hi h)]
    by_cases h5 : l[i].kind = 5
    · rw [if_pos h5, if_pos h5]
      obtain ⟨ha, hb⟩ := ok_kids hm hi h5
      have h1 := paths_len hm f _ (by omega : l[i].a.toNat < f) (by omega)
      have h2 := paths_len hm f _ (by omega : l[i].b.toNat < f) (by omega)
      have h3 : 2 ^ ((deeps l).getD l[i].a.toNat 0) ≤ 2 ^ (max ((deeps l).getD l[i].a.toNat 0) ((deeps l).getD l[i].b.toNat 0)) := Nat.pow_le_pow_right (by omega) (by omega)
      have h4 : 2 ^ ((deeps l).getD l[i].b.toNat 0) ≤ 2 ^ (max ((deeps l).getD l[i].a.toNat 0) ((deeps l).getD l[i].b.toNat 0)) := Nat.pow_le_pow_right (by omega) (by omega)
      rw [Nat.add_comm 1, Nat.pow_succ]
      simp only [List.length_cons, List.length_append]
      omega
    · rw [if_neg h5, if_neg h5]
      simp
theorem deep_pos {l : List Row} (hm : MayP l) : 1 ≤ (deeps l).getD (l.length - 1) 0 := by
  have h1 := hm.1
  rw [deeps_at (by omega) (fun h => ok_kids hm (by omega) h)]
  split <;> omega
/-- The law: a trimmed proof has at least as many rows as it is deep, and less than 2 to the power of that. -/
theorem trim_counts {l : List Row} (hm : MayP l) : (deeps l).getD (l.length - 1) 0 ≤ (trimF l).length ∧ (trimF l).length < 2 ^ ((deeps l).getD (l.length - 1) 0) ∧ (trimF l).length ≤ l.length := by
  have h1 := hm.1
  have inv := trim_inv hm l.length (Nat.le_refl _)
  have hc := inv.count
  have hle : ((List.range l.length).filter (usedF l)).length ≤ l.length := by
    have := List.length_filter_le (usedF l) (List.range l.length)
    simpa using this
  refine ⟨?_, ?_, Nat.le_trans hc hle⟩
  · have hd := inv.deep (l.length - 1) (by omega) (used_last hm)
    have := deeps_le (trimSt l l.length).2 ((trimSt l l.length).1 (l.length - 1))
    rw [hd] at this
    exact this
  · have hp := paths_len hm l.length (l.length - 1) (by omega) (by omega)
    have hn : ((List.range l.length).filter (usedF l)).length ≤ (paths l l.length (l.length - 1)).length := by
      refine nodup_le (List.Pairwise.filter _ List.nodup_range) (fun x hx => ?_)
      obtain ⟨_, h3⟩ := List.mem_filter.1 hx
      exact used_paths hm l.length x (Nat.le_refl _) h3
    have hc' : (trimF l).length ≤ ((List.range l.length).filter (usedF l)).length := hc
    omega
end Go.Proofs.YtmghlakedaigpaaGreatDoor
end
section
/- An array that the call makes: its block whole. No program stands here. -/
namespace Go.Proofs.YtmghlakedaigpaaGreatDoor
open Go Go.RowKit

/-- Block b holds just these cells. -/
def Arr (e : TypeId) (w : World) (b : Nat) (xs : List Value) : Prop := w.heap[b]? = some (.cells xs.toArray e (0, 0))
section
variable {e : TypeId} {w w' : World} {b : Nat} {xs : List Value}
theorem Arr.cell (h : Arr e w b xs) {i : Nat} (hi : i < xs.length) : w.cell? ⟨b, i, none⟩ = some xs[i] := by
  unfold Arr at h
  rw [cell_of_row w b i _ e (0, 0) h]
  simp [hi]
theorem Arr.free (h : Arr e w b xs) (o : Nat) : w.frozen? ⟨b, o, none⟩ = false := frozen_of_row w b o _ e h
theorem Arr.lt (h : Arr e w b xs) : b < w.heap.size := (Array.getElem?_eq_some_iff.1 h).1
theorem Arr.keep (h : Arr e w b xs) (hk : w'.heap[b]? = w.heap[b]?) : Arr e w' b xs := hk.trans h
theorem Arr.below {B : Nat} (h : Arr e w b xs) (hb : Below B w w') (hB : b < B) : Arr e w' b xs := h.keep (hb.block b hB)
theorem Arr.set (h : Arr e w b xs) (i : Nat) (x : Value) : Arr e (w.setCell ⟨b, i, none⟩ x) b (xs.set i x) := by
  unfold Arr at h ⊢
  rw [heap_setCell_same w b _ _ e _ h]
  simp
theorem Arr.new (e : TypeId) (w : World) (xs : List Value) : Arr e (w.alloc (.cells xs.toArray e)) w.heap.size xs := heap_alloc_new w _
theorem Arr.alloc (h : Arr e w b xs) (o : Obj) : Arr e (w.alloc o) b xs := h.keep (Below.heap_alloc w o b h.lt)
theorem Arr.other (h : Arr e w b xs) {p : Addr} (hp : b ≠ p.block) (x : Value) : Arr e (w.setCell p x) b xs := h.keep (heap_setCell_other _ _ _ _ hp)
theorem Arr.congr {ys : List Value} (h : Arr e w b xs) (he : xs = ys) : Arr e w b ys := he ▸ h
end
/-- n zero cells. -/
def zeros (n : Nat) (z : Value) : Array Value := (List.replicate n z).toArray
theorem run_make_arr {P : Program} {t e : TypeId} {i : TypeInfo} {z : Value} {bytes : Nat} (ht : P.underlying t = some (.slice e)) (hi : P.info? e = some i) (hz : i.zero = some z) (hsize : i.size = 1) (hby : i.bytes = bytes) (hzc : z.cells = #[z])
    (n : Nat) (hb : (bytes : Int) * n ≤ 281474976710656) (hn : (n : Int) ≤ 9223372036854775807) (w : World) :
    (Instr.makeSlice t (.int .i64 n) (.int .i64 n)).run P w = .ok (.slice (some ⟨w.heap.size, 0, none⟩) n n) (w.alloc (.cells (zeros n z) e)) := by
  have hr := run_make w t e i z ht hi hz .i64 .i64 n n (by omega) (Int.le_refl _) (by rw [hby]; exact hb) hn
  rw [hr]
  have hc : madeCells z.cells ((n : Int).toNat * i.size) = zeros n z := by
    rw [hsize, hzc]
    apply Array.ext_getElem?
    intro k
    simp only [madeCells, zeros, Int.toNat_natCast, Nat.mul_one, List.getElem?_toArray, List.getElem?_replicate]
    by_cases hk : k < n <;> simp [hk, Nat.mod_one]
  rw [hc]
  simp
theorem Arr.zeros (e : TypeId) (w : World) (n : Nat) (z : Value) : Arr e (w.alloc (.cells (zeros n z) e)) w.heap.size (List.replicate n z) := heap_alloc_new w _
end Go.Proofs.YtmghlakedaigpaaGreatDoor
end
