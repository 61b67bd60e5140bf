/- Rows with the same text are the same; what the map of texts holds. No program stands here. -/
import Derived.Test.YtmghlakedaigpaaGreatDoorText
import Derived.Test.YtmghlakedaigpaaGreatDoorzD
namespace Go.Proofs.YtmghlakedaigpaaGreatDoor
open Go Go.RowKit

theorem dig_range (k : Nat) (h : k < 10) : UInt8.ofNat (48 + k) ≠ 32 ∧ UInt8.ofNat (48 + k) ≠ 58 ∧ UInt8.ofNat (48 + k) ≠ 45 := by
  match k, h with
  | 0, _ => decide
  | 1, _ => decide
  | 2, _ => decide
  | 3, _ => decide
  | 4, _ => decide
  | 5, _ => decide
  | 6, _ => decide
  | 7, _ => decide
  | 8, _ => decide
  | 9, _ => decide
theorem dec_no (u : Nat) : ∀ c ∈ Lib.decDigits u, c ≠ 32 ∧ c ≠ 58 ∧ c ≠ 45 := by
  induction u using Nat.strongRecOn with
  | _ u ih =>
    intro c hc
    by_cases h : u < 10
    · rw [Lib.decDigits, dif_pos h] at hc
      have : c = UInt8.ofNat (48 + u) := by simpa using hc
      rw [this]; exact dig_range u h
    · rw [Lib.decDigits, dif_neg h] at hc
      rcases List.mem_append.1 hc with hc | hc
      · exact ih (u / 10) (by omega) c hc
      · have : c = UInt8.ofNat (48 + u % 10) := by simpa using hc
        rw [this]; exact dig_range _ (by omega)
theorem ofNat_inj {a b : Nat} (ha : a < 256) (hb : b < 256) (h : UInt8.ofNat a = UInt8.ofNat b) : a = b := by
  have := congrArg UInt8.toNat h
  simp at this
  omega
theorem dec_ne (u : Nat) : Lib.decDigits u ≠ [] := by
  intro h
  have := congrArg List.length h
  rw [Lib.decDigits_length] at this
  have := Lib.nDigits_pos u
  simp at *
  omega
theorem dec_inj : ∀ u v : Nat, Lib.decDigits u = Lib.decDigits v → u = v := by
  intro u
  induction u using Nat.strongRecOn with
  | _ u ih =>
    intro v h
    by_cases hu : u < 10
    · by_cases hv : v < 10
      · rw [Lib.decDigits, dif_pos hu, Lib.decDigits, dif_pos hv] at h
        have := ofNat_inj (by omega) (by omega) (List.cons.inj h).1
        omega
      · exfalso
        rw [Lib.decDigits, dif_pos hu, Lib.decDigits.eq_def v, dif_neg hv] at h
        have h2 := congrArg List.length h
        have h3 := List.length_pos_iff.2 (dec_ne (v / 10))
        simp only [List.length_append, List.length_cons, List.length_nil] at h2
        omega
    · by_cases hv : v < 10
      · exfalso
        rw [Lib.decDigits, dif_neg hu, Lib.decDigits.eq_def v, dif_pos hv] at h
        have h2 := congrArg List.length h
        have h3 := List.length_pos_iff.2 (dec_ne (u / 10))
        simp only [List.length_append, List.length_cons, List.length_nil] at h2
        omega
      · rw [Lib.decDigits, dif_neg hu, Lib.decDigits.eq_def v, dif_neg hv] at h
        obtain ⟨h1, h2⟩ := List.append_inj' h rfl
        have := ih (u / 10) (by omega) _ h1
        have := ofNat_inj (by omega) (by omega) (List.cons.inj h2).1
        omega
theorem itoa_no (n : Int) : ∀ c ∈ Lib.itoa n, c ≠ 32 ∧ c ≠ 58 := by
  intro c hc
  unfold Lib.itoa at hc
  split at hc
  · rcases List.mem_cons.1 hc with rfl | hc
    · decide
    · have := dec_no _ c hc; exact ⟨this.1, this.2.1⟩
  · have := dec_no _ c hc; exact ⟨this.1, this.2.1⟩
theorem itoa_inj {n m : Int} (h : Lib.itoa n = Lib.itoa m) : n = m := by
  have key : ∀ (a : Nat) (l : List UInt8), 45 :: l ≠ Lib.decDigits a := by
    intro a l he
    have : (45 : UInt8) ∈ Lib.decDigits a := by rw [← he]; simp
    exact (dec_no a _ this).2.2 rfl
  unfold Lib.itoa at h
  split at h <;> split at h
  · have := dec_inj _ _ (List.cons.inj h).2; omega
  · exact absurd h (key _ _)
  · exact absurd h.symm (key _ _)
  · have := dec_inj _ _ h; omega
/-- Two words up to a sign that stands in neither. -/
theorem split_inj {c : UInt8} : ∀ {x y a b : List UInt8}, c ∉ x → c ∉ y → (a = [] ∨ ∃ t, a = c :: t) → (b = [] ∨ ∃ t, b = c :: t) → x ++ a = y ++ b → x = y ∧ a = b
  | [], [], _, _, _, _, _, _, h => ⟨rfl, by simpa using h⟩
  | [], d :: y, a, b, _, hy, ha, _, h => by
    exfalso
    rcases ha with rfl | ⟨t, rfl⟩
    · simp at h
    · simp at h
      exact hy (by rw [h.1]; simp)
  | d :: x, [], a, b, hx, _, _, hb, h => by
    exfalso
    rcases hb with rfl | ⟨t, rfl⟩
    · simp at h
    · simp at h
      exact hx (by rw [h.1]; simp)
  | d :: x, e :: y, a, b, hx, hy, ha, hb, h => by
    simp only [List.cons_append, List.cons.injEq] at h
    obtain ⟨h1, h2⟩ := split_inj (x := x) (y := y) (fun hm => hx (List.mem_cons_of_mem _ hm)) (fun hm => hy (List.mem_cons_of_mem _ hm)) ha hb h.2
    exact ⟨by rw [h.1, h1], h2⟩
theorem flat_head (c : UInt8) (l : List (List UInt8)) : l.flatMap (fun w => c :: w) = [] ∨ ∃ t, l.flatMap (fun w => c :: w) = c :: t := by
  cases l with
  | nil => exact .inl rfl
  | cons x l => exact .inr ⟨x ++ l.flatMap (fun w => c :: w), by simp⟩
theorem flat_inj {c : UInt8} : ∀ {a b : List (List UInt8)}, (∀ w ∈ a, c ∉ w) → (∀ w ∈ b, c ∉ w) → a.flatMap (fun w => c :: w) = b.flatMap (fun w => c :: w) → a = b
  | [], [], _, _, _ => rfl
  | [], y :: b, _, _, h => by simp at h
  | x :: a, [], _, _, h => by simp at h
  | x :: a, y :: b, ha, hb, h => by
    simp only [List.flatMap_cons, List.cons_append, List.cons.injEq, true_and] at h
    obtain ⟨h1, h2⟩ := split_inj (ha x (by simp)) (hb y (by simp)) (flat_head c a) (flat_head c b) h
    rw [h1, flat_inj (fun w hw => ha w (by simp [hw])) (fun w hw => hb w (by simp [hw])) h2]
def termW (t : Term) : List UInt8 := Lib.itoa t.unit ++ 58 :: Lib.itoa t.mask
theorem textF_words (r : Row) : textF r = ((nums r).map Lib.itoa ++ r.terms.map termW).flatMap (fun w => 32 :: w) := by
  simp only [textF, List.flatMap_append, List.flatMap_map]
  rfl
theorem termW_inj {s t : Term} (h : termW s = termW t) : s = t := by
  obtain ⟨h1, h2⟩ := split_inj (c := 58) (fun hm => (itoa_no _ _ hm).2 rfl) (fun hm => (itoa_no _ _ hm).2 rfl) (.inr ⟨_, rfl⟩) (.inr ⟨_, rfl⟩) h
  obtain ⟨u, m⟩ := s
  obtain ⟨u', m'⟩ := t
  have := itoa_inj h1
  have := itoa_inj (List.cons.inj h2).2
  simp_all
theorem map_inj {α β : Type} {f : α → β} (hf : ∀ x y, f x = f y → x = y) : ∀ {a b : List α}, a.map f = b.map f → a = b
  | [], [], _ => rfl
  | [], y :: b, h => by simp at h
  | x :: a, [], h => by simp at h
  | x :: a, y :: b, h => by
    simp only [List.map_cons, List.cons.injEq] at h
    rw [hf _ _ h.1, map_inj hf h.2]
theorem textF_inj {r r' : Row} (h : textF r = textF r') : r = r' := by
  rw [textF_words, textF_words] at h
  have hw : ∀ q : Row, ∀ w ∈ (nums q).map Lib.itoa ++ q.terms.map termW, (32 : UInt8) ∉ w := by
    intro q w hw hm
    rcases List.mem_append.1 hw with hw | hw
    · obtain ⟨n, _, rfl⟩ := List.mem_map.1 hw
      exact (itoa_no n _ hm).1 rfl
    · obtain ⟨t, _, rfl⟩ := List.mem_map.1 hw
      rcases List.mem_append.1 hm with hm | hm
      · exact (itoa_no _ _ hm).1 rfl
      · rcases List.mem_cons.1 hm with hm | hm
        · exact absurd hm (by decide)
        · exact (itoa_no _ _ hm).1 rfl
  have h2 := flat_inj (hw r) (hw r') h
  obtain ⟨h3, h4⟩ := List.append_inj h2 (by simp [nums])
  have h5 := map_inj (fun _ _ => itoa_inj) h3
  have h6 := map_inj (fun _ _ => termW_inj) h4
  obtain ⟨k, u, a, b, t⟩ := r
  obtain ⟨k', u', a', b', t'⟩ := r'
  simp [nums] at h5 h6
  simp [h5, h6]

/-- The map of texts: where each row that was kept lies. -/
noncomputable def keptF (out : List Row) : ByteArray → Option Value := fun s => (out.findIdx? (fun r => textF r == s.data.toList)).map (fun (i : Nat) => Value.int .i64 (i : Int))
theorem keptF_nil (s : ByteArray) : keptF [] s = none := rfl
theorem textF_beq (r q : Row) : (textF q == textF r) = (q == r) := by
  rw [Bool.eq_iff_iff, beq_iff_eq, beq_iff_eq]
  exact ⟨textF_inj, fun h => by rw [h]⟩
theorem keptF_at (out : List Row) (r : Row) : keptF out ⟨(textF r).toArray⟩ = if r ∈ out then some (.int .i64 ((out.idxOf r : Nat) : Int)) else none := by
  unfold keptF
  have e : (fun q : Row => textF q == (⟨(textF r).toArray⟩ : ByteArray).data.toList) = (fun q => q == r) := by
    funext q
    exact textF_beq r q
  rw [e]
  by_cases h : r ∈ out
  · rw [if_pos h]
    have hx : out.findIdx? (fun q => q == r) = some (out.idxOf r) := by
      rw [List.findIdx?_eq_some_iff_findIdx_eq]
      exact ⟨List.idxOf_lt_length_of_mem h, rfl⟩
    rw [hx]; rfl
  · rw [if_neg h]
    have hx : out.findIdx? (fun q => q == r) = none := by
      rw [List.findIdx?_eq_none_iff]
      intro q hq
      simp only [beq_eq_false_iff_ne]
      exact fun e => h (e ▸ hq)
    rw [hx]; rfl
theorem keptF_snoc {out : List Row} {r : Row} (h : r ∉ out) (s : ByteArray) : (if s = ⟨(textF r).toArray⟩ then some (Value.int .i64 ((out.length : Nat) : Int)) else keptF out s) = keptF (out ++ [r]) s := by
  unfold keptF
  rw [List.findIdx?_append]
  by_cases hs : s = ⟨(textF r).toArray⟩
  · subst hs
    rw [if_pos rfl]
    have e : (fun q : Row => textF q == (⟨(textF r).toArray⟩ : ByteArray).data.toList) = (fun q => q == r) := by
      funext q
      exact textF_beq r q
    have hx : out.findIdx? (fun q => q == r) = none := by
      rw [List.findIdx?_eq_none_iff]
      intro q hq
      simp only [beq_eq_false_iff_ne]
      exact fun e => h (e ▸ hq)
    rw [e, hx]
    simp
  · rw [if_neg hs]
    have : (textF r == s.data.toList) = false := by
      rw [beq_eq_false_iff_ne]
      intro e
      refine hs ?_
      rw [e]
    simp only [List.findIdx?_cons, this, List.findIdx?_nil]
    simp

/-- Where the rows have gone. -/
noncomputable def toF (l : List Row) (k : Nat) : Int → Option Value := fun j => if 0 ≤ j ∧ j < k ∧ usedF l j.toNat = true then some (.int .i64 (((trimSt l k).1 j.toNat : Nat) : Int)) else none
theorem toF_zero (l : List Row) (j : Int) : none = toF l 0 j := by unfold toF; rw [if_neg (by omega)]
theorem toF_skip {l : List Row} {k : Nat} (hk : k < l.length) (hu : usedF l k = false) (j : Int) : toF l k j = toF l (k + 1) j := by
  have e : trimSt l (k + 1) = trimSt l k := by rw [trimSt_succ hk, trimStep, if_neg (by rw [hu]; simp)]
  unfold toF
  rw [e]
  by_cases h : 0 ≤ j ∧ j < ↑k ∧ usedF l j.toNat = true
  · rw [if_pos h, if_pos ⟨h.1, by omega, h.2.2⟩]
  · rw [if_neg h, if_neg (fun hh => h ⟨hh.1, by
      have : j ≠ k := fun e => by have := hh.2.2; rw [e, Int.toNat_natCast, hu] at this; cases this
      omega, hh.2.2⟩)]
theorem toF_put {l : List Row} {k : Nat} (hk : k < l.length) (hu : usedF l k = true) (j : Int) :
    (if j = ↑k then some (Value.int .i64 (((putRow (trimSt l k).2 (turn (trimSt l k).1 l[k])).1 : Nat) : Int)) else toF l k j) = toF l (k + 1) j := by
  unfold toF
  rw [trimSt_succ hk, trimStep, if_pos hu]
  by_cases hj : j = k
  · subst hj
    rw [if_pos rfl, if_pos ⟨by omega, by omega, by rw [Int.toNat_natCast]; exact hu⟩]
    simp
  · rw [if_neg hj]
    by_cases h : 0 ≤ j ∧ j < ↑k ∧ usedF l j.toNat = true
    · rw [if_pos h, if_pos ⟨h.1, by omega, h.2.2⟩]
      simp only
      rw [if_neg (by omega)]
    · rw [if_neg h, if_neg (fun hh => h ⟨hh.1, by omega, hh.2.2⟩)]
theorem toF_at {l : List Row} {k : Nat} {j : Int} (h0 : 0 ≤ j) (h1 : j < k) (hu : usedF l j.toNat = true) : (toF l k j).getD (.int .i64 0) = .int .i64 (((trimSt l k).1 j.toNat : Nat) : Int) := by
  unfold toF
  rw [if_pos ⟨h0, h1, hu⟩]; rfl

/- Blocks of different kinds. -/
section
variable {κ : Type} {K : KeyEnc κ} {w w' : World} {b n : Nat} {f : κ → Option Value}
theorem MapF.ne_own {B : Nat} {e : TypeId} {s m : Nat} {v : Value} {xs : List Value} (h : MapF K w b n f) (ho : w.ownsRow B e s v m xs) {g : Nat} (hg : v.ownBlock = some g) : g ≠ b := by
  rintro rfl
  obtain ⟨es, clock, h1, _⟩ := h.holds
  rcases ho.2 with ⟨rfl, _⟩ | ⟨a, cap, cur, rfl, _, hh, _⟩
  · cases hg
  · have : a = g := Option.some.inj hg
    subst this
    rw [h1] at hh; cases hh
theorem MapF.by_own {B : Nat} {e : TypeId} {s m : Nat} {v : Value} {xs : List Value} (h : MapF K w b n f) (ho : w.ownsRow B e s v m xs) (hg : w.grownBy w' v.ownBlock) : MapF K w' b n f :=
  h.keep (hg.block b h.lt (fun e => h.ne_own ho e.symm rfl))
theorem Copied.by_map {eR eT : TypeId} {B : Nat} {v : Value} {l : List Row} {tvs : List Value} (h : Copied eR eT w B v l tvs) (hm : MapF K w b n f) (hg : w.grownBy w' (some b)) : Copied eR eT w' B v l tvs :=
  h.keep (fun g hgg => hg.block g (h.lt.1 g hgg).2 (fun e => hm.ne_own h.own hgg (Option.some.inj e)))
    (fun k hk g hgg => hg.block g (h.lt.2 k hk g hgg).2 (fun e => hm.ne_own (h.terms k (by rw [← h.len]; exact hk) hk) hgg (Option.some.inj e)))
theorem Arr.by_own {B : Nat} {e e' : TypeId} {s m : Nat} {v : Value} {xs ys : List Value} (h : Arr e' w b ys) (hne : e' ≠ e) (ho : w.ownsRow B e s v m xs) (hg : w.grownBy w' v.ownBlock) : Arr e' w' b ys := by
  refine h.keep (hg.block b h.lt (fun he => ?_))
  rcases ho.2 with ⟨rfl, _⟩ | ⟨a, cap, cur, rfl, _, hh, _⟩
  · cases he
  · have : b = a := Option.some.inj he
    subst this
    unfold Arr at h
    rw [h] at hh
    injection hh with hh
    injection hh with _ h2
    exact hne h2
theorem Arr.by_map {e : TypeId} {ys : List Value} (h : Arr e w b ys) {b' n' : Nat} {f' : κ → Option Value} (hm : MapF K w b' n' f') (hg : w.grownBy w' (some b')) : Arr e w' b ys := by
  refine h.keep (hg.block b h.lt (fun he => ?_))
  have : b = b' := Option.some.inj he
  subst this
  obtain ⟨es, clock, h1, _⟩ := hm.holds
  unfold Arr at h
  rw [h] at h1; cases h1
theorem MapF.by_map (h : MapF K w b n f) {b' : Nat} (hne : b ≠ b') (hg : w.grownBy w' (some b')) : MapF K w' b n f := h.keep (hg.block b h.lt (fun e => hne (Option.some.inj e)))
end
end Go.Proofs.YtmghlakedaigpaaGreatDoor
