import Derived.Test.YtmbjeppnamhgiaaGreatzBase
import Derived.Outline
section
/- Trails as data: what is left of a unit, levels, sure ones. No program stands here. -/
namespace Go.Proofs.YtmbjeppnamhgiaaGreat
open Go Go.RowKit

/-- A step of a trail. -/
structure StepN where
  u : Nat
  m : Nat
  lv : Nat
  c : Int
  deriving DecidableEq, Inhabited
/-- What is left of a unit behind steps. -/
def leftN (ns : List Nat) (l : List StepN) (u : Nat) : Nat := l.foldl (fun a s => if s.u = u then s.m else a) (fullN ns u)
def levelN (l : List StepN) : Nat := l.foldl (fun _ s => s.lv) 0
/-- Is one mask within another one? -/
def inN (a b : Nat) : Prop := a &&& b = a
instance (a b : Nat) : Decidable (inN a b) := inferInstanceAs (Decidable (_ = _))
theorem in_bit {a b : Nat} : inN a b ↔ ∀ k, a.testBit k = true → b.testBit k = true := by
  constructor
  · intro h k hk
    unfold inN at h
    rw [← h, Nat.testBit_and] at hk
    simp at hk
    exact hk.2
  · intro h
    apply Nat.eq_of_testBit_eq
    intro k
    rw [Nat.testBit_and]
    have := h k
    cases h1 : a.testBit k
    · rfl
    · rw [this h1]; rfl
theorem in_refl (a : Nat) : inN a a := Nat.and_self a
theorem in_trans {a b c : Nat} (h : inN a b) (h' : inN b c) : inN a c := in_bit.2 fun k hk => in_bit.1 h' k (in_bit.1 h k hk)
theorem in_and {a b c : Nat} (h : inN a b) (h' : inN a c) : inN a (b &&& c) := in_bit.2 fun k hk => by
  rw [Nat.testBit_and, in_bit.1 h k hk, in_bit.1 h' k hk]; rfl
/-- What of a mask is not in another one. -/
def lessN (a b : Nat) : Nat := a - (a &&& b)
theorem less_bit {a b : Nat} (ha : a ≤ 31) (k : Nat) : (lessN a b).testBit k = (a.testBit k && !b.testBit k) := by
  have h1 : lessN a b = a ^^^ (a &&& b) := by
    have e : a &&& b = a &&& (b % 32) := by
      apply Nat.eq_of_testBit_eq
      intro j
      rw [Nat.testBit_and, Nat.testBit_and]
      by_cases hj : j < 5
      · rw [show (32 : Nat) = 2 ^ 5 by rfl, Nat.testBit_mod_two_pow]; simp [hj]
      · have : a.testBit j = false := Nat.testBit_lt_two_pow (Nat.lt_of_le_of_lt ha (Nat.lt_of_lt_of_le (by decide : 31 < 2 ^ 5) (Nat.pow_le_pow_right (by decide) (by omega))))
        rw [this]; rfl
    unfold lessN
    rw [e]
    have hb : b % 32 < 32 := Nat.mod_lt _ (by decide)
    generalize b % 32 = c at hb
    have hall : ∀ x : Fin 32, ∀ y : Fin 32, x.val - (x.val &&& y.val) = x.val ^^^ (x.val &&& y.val) := by decide
    exact hall ⟨a, by omega⟩ ⟨c, hb⟩
  rw [h1, Nat.testBit_xor, Nat.testBit_and]
  cases a.testBit k <;> cases b.testBit k <;> rfl
/-- Is an incompatibility sure? -/
def Sure (ns : List Nat) (l : List StepN) (M : Nat → Nat) : Prop := ∀ u, u < ns.length → inN (leftN ns l u) (M u)
def sureB (ns : List Nat) (l : List StepN) (M : Nat → Nat) : Bool := (List.range ns.length).all fun u => decide (inN (leftN ns l u) (M u))
theorem sureB_iff {ns : List Nat} {l : List StepN} {M : Nat → Nat} : sureB ns l M = true ↔ Sure ns l M := by
  unfold sureB Sure
  rw [List.all_eq_true]
  constructor
  · intro h u hu
    simpa using h u (List.mem_range.2 hu)
  · intro h u hu
    simpa using h u (List.mem_range.1 hu)
section
variable {ns : List Nat} {l : List StepN} {s : StepN} {M : Nat → Nat}
theorem left_nil (u : Nat) : leftN ns [] u = fullN ns u := rfl
theorem left_snoc (l : List StepN) (s : StepN) (u : Nat) : leftN ns (l ++ [s]) u = if s.u = u then s.m else leftN ns l u := by
  unfold leftN
  rw [List.foldl_append]
  rfl
theorem level_nil : levelN [] = 0 := rfl
theorem level_snoc (l : List StepN) (s : StepN) : levelN (l ++ [s]) = s.lv := by
  unfold levelN
  rw [List.foldl_append]
  rfl
/-- At which unit an incompatibility is open, if it is: all that is left of the others lies within. -/
def OpenAt (ns : List Nat) (l : List StepN) (M : Nat → Nat) (u : Nat) : Prop :=
  u < ns.length ∧ (∀ v, v < ns.length → v ≠ u → inN (leftN ns l v) (M v)) ∧ ¬ inN (leftN ns l u) (M u) ∧ leftN ns l u &&& M u ≠ 0

/-- A trail that may be, over incompatibilities: what follows is taken, what is decided is decided where nothing follows. -/
inductive TrOk (ns : List Nat) (db : Nat → Nat → Nat) (D : Nat) : List StepN → Prop
  | nil : TrOk ns db D []
  | derive (l : List StepN) (s : StepN) (c : Nat) (h : TrOk ns db D l) (hc : s.c = c) (hd : c < D) (ho : OpenAt ns l (db c) s.u) (hm : s.m = lessN (leftN ns l s.u) (db c s.u)) (hl : s.lv = levelN l) : TrOk ns db D (l ++ [s])
  | decide (l : List StepN) (s : StepN) (h : TrOk ns db D l) (hc : s.c = -1) (hu : s.u < ns.length) (hm : inN s.m (leftN ns l s.u)) (h0 : s.m ≠ 0) (hl : s.lv = levelN l + 1) (hno : ∀ i, i < D → ¬ Sure ns l (db i) ∧ ∀ u, ¬ OpenAt ns l (db i) u) : TrOk ns db D (l ++ [s])
end
section
variable {ns : List Nat} {db : Nat → Nat → Nat} {D : Nat} {l : List StepN} {s : StepN} {M : Nat → Nat}
theorem less_in {a b : Nat} (ha : a ≤ 31) : inN (lessN a b) a := in_bit.2 fun k hk => by
  rw [less_bit ha] at hk
  simp at hk
  exact hk.1
theorem less_ne {a b : Nat} (ha : a ≤ 31) (h : ¬ inN a b) : lessN a b ≠ 0 := by
  intro h0
  apply h
  apply in_bit.2
  intro k hk
  have := less_bit (b := b) ha k
  rw [h0, hk] at this
  cases hb : b.testBit k
  · rw [hb] at this; simp at this
  · rfl
theorem less_or {a b : Nat} (ha : a ≤ 31) {k : Nat} (h : a.testBit k = true) : (lessN a b).testBit k = true ∨ b.testBit k = true := by
  rw [less_bit ha, h]
  cases b.testBit k
  · left; rfl
  · right; rfl
theorem in_le {a b : Nat} (h : inN a b) : a ≤ b := by
  unfold inN at h
  rw [← h]
  exact Nat.and_le_right
theorem TrOk.left (ho : NsOk ns) (h : TrOk ns db D l) : ∀ u, u < ns.length → leftN ns l u ≠ 0 ∧ inN (leftN ns l u) (fullN ns u) := by
  induction h with
  | nil => exact fun u hu => ⟨by have := fullN_pos hu; rw [left_nil]; omega, in_refl _⟩
  | derive l s c h hc hd hop hm hl ih =>
    intro u hu
    rw [left_snoc]
    by_cases e : s.u = u
    · subst e
      rw [if_pos rfl, hm]
      obtain ⟨h1, h2⟩ := ih s.u hu
      have h31 : leftN ns l s.u ≤ 31 := Nat.le_trans (in_le h2) (fullN_le ho _)
      exact ⟨less_ne h31 hop.2.2.1, in_trans (less_in h31) h2⟩
    · rw [if_neg e]
      exact ih u hu
  | decide l s h hc hu' hm h0 hl hno ih =>
    intro u hu
    rw [left_snoc]
    by_cases e : s.u = u
    · subst e
      rw [if_pos rfl]
      exact ⟨h0, in_trans hm (ih s.u hu).2⟩
    · rw [if_neg e]
      exact ih u hu
theorem TrOk.le31 (ho : NsOk ns) (h : TrOk ns db D l) {u : Nat} (hu : u < ns.length) : leftN ns l u ≤ 31 := Nat.le_trans (in_le (h.left ho u hu).2) (fullN_le ho _)
/-- The trail without its last step. -/
theorem TrOk.init (h : TrOk ns db D (l ++ [s])) : TrOk ns db D l ∧ s.u < ns.length ∧ ((∃ c : Nat, s.c = c ∧ c < D ∧ OpenAt ns l (db c) s.u ∧ s.m = lessN (leftN ns l s.u) (db c s.u) ∧ s.lv = levelN l) ∨ (s.c = -1 ∧ inN s.m (leftN ns l s.u) ∧ s.m ≠ 0 ∧ s.lv = levelN l + 1 ∧ ∀ i, i < D → ¬ Sure ns l (db i) ∧ ∀ u, ¬ OpenAt ns l (db i) u)) := by
  generalize hx : l ++ [s] = x at h
  cases h with
  | nil => simp at hx
  | derive l' s' c h hc hd hop hm hl =>
    obtain ⟨rfl, h2⟩ := List.append_inj' hx rfl
    injection h2 with h2
    subst h2
    exact ⟨h, hop.1, .inl ⟨c, hc, hd, hop, hm, hl⟩⟩
  | decide l' s' h hc hu hm h0 hl hno =>
    obtain ⟨rfl, h2⟩ := List.append_inj' hx rfl
    injection h2 with h2
    subst h2
    exact ⟨h, hu, .inr ⟨hc, hm, h0, hl, hno⟩⟩
theorem take_snoc {α : Type} {l : List α} {n : Nat} (h : n < l.length) : l.take (n + 1) = l.take n ++ [l[n]] := by
  rw [List.take_add_one, List.getElem?_eq_getElem h]; rfl
theorem TrOk.take (h : TrOk ns db D l) (n : Nat) : TrOk ns db D (l.take n) := by
  by_cases hn : l.length ≤ n
  · rw [List.take_of_length_le hn]; exact h
  · induction hd : l.length - n generalizing n with
    | zero => omega
    | succ d ih =>
      have h1 : TrOk ns db D (l.take (n + 1)) := by
        by_cases hn1 : l.length ≤ n + 1
        · rw [List.take_of_length_le hn1]; exact h
        · exact ih (n + 1) hn1 (by omega)
      rw [take_snoc (by omega)] at h1
      exact h1.init.1
theorem TrOk.at (h : TrOk ns db D l) {n : Nat} (hn : n < l.length) : TrOk ns db D (l.take n ++ [l[n]]) := by
  rw [← take_snoc hn]; exact h.take _
/-- Behind more steps less is left. -/
theorem TrOk.shrink (ho : NsOk ns) (h : TrOk ns db D l) {n k : Nat} (hnk : n ≤ k) {u : Nat} (hu : u < ns.length) : inN (leftN ns (l.take k) u) (leftN ns (l.take n) u) := by
  induction k with
  | zero => obtain rfl : n = 0 := by omega
            exact in_refl _
  | succ k ih =>
    by_cases e : n = k + 1
    · subst e; exact in_refl _
    · have h1 := ih (by omega)
      by_cases hk : k < l.length
      · rw [take_snoc hk, left_snoc]
        by_cases e2 : l[k].u = u
        · subst e2
          rw [if_pos rfl]
          refine in_trans ?_ h1
          rcases (h.at hk).init.2.2 with ⟨c, _, _, _, hm, _⟩ | ⟨_, hm, _⟩
          · rw [hm]
            exact less_in ((h.take k).le31 ho hu)
          · exact hm
        · rw [if_neg e2]
          exact h1
      · have e1 : l.take (k + 1) = l.take k := by rw [List.take_of_length_le (by omega), List.take_of_length_le (by omega)]
        rw [e1]
        exact h1
theorem TrOk.sure_mono (ho : NsOk ns) (h : TrOk ns db D l) {n k : Nat} (hnk : n ≤ k) (hs : Sure ns (l.take n) M) : Sure ns (l.take k) M := fun u hu => in_trans (h.shrink ho hnk hu) (hs u hu)
/-- Levels rise. -/
theorem TrOk.level_mono (h : TrOk ns db D l) {n k : Nat} (hnk : n ≤ k) : levelN (l.take n) ≤ levelN (l.take k) := by
  induction k with
  | zero => obtain rfl : n = 0 := by omega
            exact Nat.le_refl _
  | succ k ih =>
    by_cases e : n = k + 1
    · subst e; exact Nat.le_refl _
    · have h1 := ih (by omega)
      by_cases hk : k < l.length
      · rw [take_snoc hk, level_snoc]
        rcases (h.at hk).init.2.2 with ⟨c, _, _, _, _, hm⟩ | ⟨_, _, _, hm, _⟩ <;> omega
      · have e1 : l.take (k + 1) = l.take k := by rw [List.take_of_length_le (by omega), List.take_of_length_le (by omega)]
        rw [e1]
        exact h1
theorem TrOk.lv (_h : TrOk ns db D l) {n : Nat} (hn : n < l.length) : l[n].lv = levelN (l.take (n + 1)) := by rw [take_snoc hn, level_snoc]
/-- Behind how many steps it is sure first. -/
def First (ns : List Nat) (l : List StepN) (M : Nat → Nat) (n : Nat) : Prop := n ≤ l.length ∧ Sure ns (l.take n) M ∧ ∀ k, k < n → ¬ Sure ns (l.take k) M
theorem first_of (hs : Sure ns l M) : ∃ n, First ns l M n := by
  have : ∀ d, ∀ n, n ≤ l.length → l.length - n = d → Sure ns (l.take n) M → ∃ n, First ns l M n := by
    intro d
    have hfind : ∃ n, (n ≤ l.length ∧ Sure ns (l.take n) M) ∧ ∀ k, k < n → ¬ (k ≤ l.length ∧ Sure ns (l.take k) M) := by
      have hex : ∃ n, n ≤ l.length ∧ Sure ns (l.take n) M := ⟨l.length, Nat.le_refl _, by rw [List.take_of_length_le (Nat.le_refl _)]; exact hs⟩
      obtain ⟨n, hn⟩ := hex
      induction n using Nat.strongRecOn with
      | _ n ih =>
        by_cases hlt : ∃ k, k < n ∧ (k ≤ l.length ∧ Sure ns (l.take k) M)
        · obtain ⟨k, hk, hk2⟩ := hlt
          exact ih k hk hk2
        · exact ⟨n, hn, fun k hk hk2 => hlt ⟨k, hk, hk2⟩⟩
    obtain ⟨n, ⟨h1, h2⟩, h3⟩ := hfind
    exact fun _ _ _ _ => ⟨n, h1, h2, fun k hk hs => h3 k hk ⟨by omega, hs⟩⟩
  exact this 0 l.length (Nat.le_refl _) (by omega) (by rw [List.take_of_length_le (Nat.le_refl _)]; exact hs)
/-- The join with the cause of the step that made it sure is sure before. -/
theorem First.join (ho : NsOk ns) (h : TrOk ns db D l) {n c : Nat} (hf : First ns l M (n + 1)) (hn : n < l.length) (hc : l[n].c = (c : Int)) :
    c < D ∧ Sure ns (l.take n) (joinN M (db c) l[n].u) ∧ ∀ u, u < ns.length → joinN M (db c) l[n].u u ≠ 0 := by
  obtain ⟨hi, hu, hcase⟩ := (h.at hn).init
  rcases hcase with ⟨c', hc', hd, hop, hm, hl⟩ | ⟨hc', _⟩
  · obtain rfl : c' = c := by omega
    have hs : Sure ns (l.take n) (joinN M (db c') l[n].u) := by
      intro u hu'
      unfold joinN
      have h1 := hf.2.1 u hu'
      rw [take_snoc hn, left_snoc] at h1
      by_cases e : u = l[n].u
      · subst e
        rw [if_pos rfl] at h1 ⊢
        rw [hm] at h1
        refine in_bit.2 fun k hk => ?_
        rw [Nat.testBit_or]
        rcases less_or (b := db c' l[n].u) (hi.le31 ho hu') hk with h2 | h2
        · rw [in_bit.1 h1 k h2]; rfl
        · rw [h2]; simp
      · rw [if_neg (fun e2 => e e2.symm)] at h1
        rw [if_neg e]
        exact in_and h1 (hop.2.1 u hu' e)
    refine ⟨hd, hs, fun u hu' h0 => ?_⟩
    have h1 := hs u hu'
    rw [h0] at h1
    exact (hi.left ho u hu').1 (by have := in_le h1; omega)
  · omega
end
end Go.Proofs.YtmbjeppnamhgiaaGreat
end
section
/- What a conflict says, plainly: joins, one by one, up to where it is open. No program stands here. -/
namespace Go.Proofs.YtmbjeppnamhgiaaGreat
open Go Go.RowKit

/-- The first number up to a bound of which something is so; none: 0. -/
def leastN (n : Nat) (p : Nat → Bool) : Nat := ((List.range (n + 1)).find? p).getD 0
theorem least_is {n k : Nat} {p : Nat → Bool} (hk : k ≤ n) (h : p k = true) (hno : ∀ j, j < k → p j = false) : leastN n p = k := by
  unfold leastN
  have : (List.range (n + 1)).find? p = some k := by
    rw [List.find?_eq_some_iff_append]
    refine ⟨h, List.range k, (List.range' (k + 1) (n - k)), ?_, fun a ha => by rw [hno a (List.mem_range.1 ha)]; rfl⟩
    rw [List.range_eq_range', List.range_eq_range', ← List.range'_succ, show n - k + 1 = n + 1 - k by omega]
    have := (List.range'_append (s := 0) (m := k) (n := n + 1 - k) (step := 1)).symm
    rw [show k + (n + 1 - k) = n + 1 by omega] at this
    simpa using this
  rw [this]
  rfl
/-- Joins so far. -/
structure LSt where
  M : Nat → Nat
  links : List (Nat × Nat)
section
variable {ns : List Nat} {db : Nat → Nat → Nat} {D : Nat} {l : List StepN} {s : StepN} {M : Nat → Nat}
def whenN (ns : List Nat) (l : List StepN) (M : Nat → Nat) : Nat := leastN l.length fun n => sureB ns (l.take n) M
theorem First.eq {n : Nat} (h : First ns l M n) : whenN ns l M = n :=
  least_is h.1 (sureB_iff.2 h.2.1) fun j hj => by
    have := h.2.2 j hj
    cases hb : sureB ns (l.take j) M
    · rfl
    · exact absurd (sureB_iff.1 hb) this
theorem when_first (hs : Sure ns l M) : First ns l M (whenN ns l M) := by
  obtain ⟨n, hn⟩ := first_of hs
  rw [hn.eq]
  exact hn
/-- Behind how many steps it is sure with a later one. -/
def Bef (ns : List Nat) (L : List StepN) (s : StepN) (M : Nat → Nat) (k : Nat) : Prop := k ≤ L.length ∧ Sure ns (L.take k ++ [s]) M ∧ ∀ j, j < k → ¬ Sure ns (L.take j ++ [s]) M
def befK (ns : List Nat) (L : List StepN) (s : StepN) (M : Nat → Nat) : Nat := leastN L.length fun k => sureB ns (L.take k ++ [s]) M
def befN (ns : List Nat) (L : List StepN) (s : StepN) (M : Nat → Nat) : Nat := levelN (L.take (befK ns L s M))
theorem Bef.eq {L : List StepN} {k : Nat} (h : Bef ns L s M k) : befK ns L s M = k :=
  least_is h.1 (sureB_iff.2 h.2.1) fun j hj => by
    have := h.2.2 j hj
    cases hb : sureB ns (L.take j ++ [s]) M
    · rfl
    · exact absurd (sureB_iff.1 hb) this
theorem bef_of {L : List StepN} (hs : Sure ns (L ++ [s]) M) : Bef ns L s M (befK ns L s M) := by
  have hex : ∃ n, n ≤ L.length ∧ Sure ns (L.take n ++ [s]) M := ⟨L.length, Nat.le_refl _, by rw [List.take_of_length_le (Nat.le_refl _)]; exact hs⟩
  have : ∃ k, Bef ns L s M k := by
    obtain ⟨n, hn⟩ := hex
    induction n using Nat.strongRecOn with
    | _ n ih =>
      by_cases hlt : ∃ k, k < n ∧ (k ≤ L.length ∧ Sure ns (L.take k ++ [s]) M)
      · obtain ⟨k, hk, hk2⟩ := hlt
        exact ih k hk hk2
      · exact ⟨n, hn.1, hn.2, fun k hk hk2 => hlt ⟨k, hk, Nat.le_trans (Nat.le_of_lt hk) hn.1, hk2⟩⟩
  obtain ⟨k, hk⟩ := this
  rw [hk.eq]
  exact hk
/-- It says nothing. -/
def blank (ns : List Nat) (M : Nat → Nat) : Bool := (canon ns M).isEmpty
/-- The step that makes it sure. -/
def lastS (ns : List Nat) (l : List StepN) (M : Nat → Nat) : StepN := (l[whenN ns l M - 1]?).getD default
def levN (ns : List Nat) (l : List StepN) (M : Nat → Nat) : Nat := befN ns (l.take (whenN ns l M - 1)) (lastS ns l M) M
def stopB (ns : List Nat) (l : List StepN) (M : Nat → Nat) : Bool := blank ns M || decide ((lastS ns l M).c = -1) || decide (levN ns l M < (lastS ns l M).lv)
def stepL (ns : List Nat) (db : Nat → Nat → Nat) (l : List StepN) (x : LSt) : LSt :=
  ⟨joinN x.M (db (lastS ns l x.M).c.toNat) (lastS ns l x.M).u, x.links ++ [((lastS ns l x.M).u, (lastS ns l x.M).c.toNat)]⟩
def stL (ns : List Nat) (db : Nat → Nat → Nat) (l : List StepN) (M : Nat → Nat) : Nat → LSt
  | 0 => ⟨M, []⟩
  | j + 1 => stepL ns db l (stL ns db l M j)
/-- Sure on no steps: it says nothing. -/
theorem blank_of (hM : IncOk ns M) (h : Sure ns [] M) : blank ns M = true := by
  unfold blank
  have : canon ns M = canon ns (fullN ns) := canon_congr fun u hu => by
    have h1 := h u hu
    rw [left_nil] at h1
    have h2 := hM.sub u hu
    unfold inN at h1
    rw [Nat.and_comm] at h1
    exact h2.symm.trans h1
  rw [this, canon_full]
  rfl
/-- What is so as joins go on. -/
structure LInv (ns : List Nat) (l : List StepN) (x : LSt) : Prop where
  ok : IncOk ns x.M
  sure : Sure ns l x.M
  len : whenN ns l x.M + x.links.length ≤ l.length
variable {x : LSt}
theorem LInv.first (h : LInv ns l x) : First ns l x.M (whenN ns l x.M) := when_first h.sure
/-- It says something: a step made it sure. -/
theorem LInv.at (h : LInv ns l x) (hb : blank ns x.M = false) : ∃ n, ∃ hn : n < l.length, whenN ns l x.M = n + 1 ∧ First ns l x.M (n + 1) ∧ lastS ns l x.M = l[n] ∧ levN ns l x.M = befN ns (l.take n) l[n] x.M := by
  have hf := h.first
  cases hw : whenN ns l x.M with
  | zero =>
    rw [hw] at hf
    have := blank_of h.ok hf.2.1
    rw [this] at hb
    cases hb
  | succ n =>
    rw [hw] at hf
    have hn : n < l.length := hf.1
    have h1 : lastS ns l x.M = l[n] := by unfold lastS; rw [hw, Nat.add_sub_cancel, List.getElem?_eq_getElem hn]; rfl
    refine ⟨n, hn, rfl, hf, h1, ?_⟩
    unfold levN
    rw [h1, hw, Nat.add_sub_cancel]
theorem LInv.step (ho : NsOk ns) (ht : TrOk ns db D l) (hdb : ∀ c, c < D → IncOk ns (db c)) (h : LInv ns l x) (hs : stopB ns l x.M = false) : LInv ns l (stepL ns db l x) ∧ okN ns (joinN x.M (db (lastS ns l x.M).c.toNat) (lastS ns l x.M).u) = true ∧ (lastS ns l x.M).u < ns.length ∧ ∃ c : Nat, (lastS ns l x.M).c = c ∧ c < D := by
  unfold stopB at hs
  simp only [Bool.or_eq_false_iff, decide_eq_false_iff_not] at hs
  obtain ⟨⟨hb, hc⟩, hl⟩ := hs
  obtain ⟨n, hn, hw, hf, hlast, _⟩ := h.at hb
  have hcase := (ht.at hn).init
  obtain ⟨c, hcc, hd⟩ : ∃ c : Nat, l[n].c = c ∧ c < D := by
    rcases hcase.2.2 with ⟨c, h1, h2, _⟩ | ⟨h1, _⟩
    · exact ⟨c, h1, h2⟩
    · rw [hlast] at hc; exact absurd h1 hc
  obtain ⟨_, hsure, hne⟩ := hf.join ho ht hn hcc
  have hcn : (lastS ns l x.M).c.toNat = c := by rw [hlast, hcc]; simp
  have hok : okN ns (joinN x.M (db (lastS ns l x.M).c.toNat) (lastS ns l x.M).u) = true := okN_iff.2 fun u hu => by rw [hcn, hlast]; exact hne u hu
  refine ⟨⟨join_ok h.ok (by rw [hcn]; exact hdb c hd) hok, ?_, ?_⟩, hok, by rw [hlast]; exact hcase.2.1, c, by rw [hlast]; exact hcc, hd⟩
  · show Sure ns l (joinN x.M (db (lastS ns l x.M).c.toNat) (lastS ns l x.M).u)
    rw [hcn, hlast]
    have := ht.sure_mono ho (k := l.length) (Nat.le_of_lt hn) hsure
    rwa [List.take_of_length_le (Nat.le_refl _)] at this
  · show whenN ns l (joinN x.M (db (lastS ns l x.M).c.toNat) (lastS ns l x.M).u) + (x.links ++ [_]).length ≤ l.length
    rw [hcn, hlast]
    have h1 : whenN ns l (joinN x.M (db c) l[n].u) ≤ n := by
      have hs2 : Sure ns l (joinN x.M (db c) l[n].u) := by
        have := ht.sure_mono ho (k := l.length) (Nat.le_of_lt hn) hsure
        rwa [List.take_of_length_le (Nat.le_refl _)] at this
      have hf2 := when_first hs2
      by_cases hle : whenN ns l (joinN x.M (db c) l[n].u) ≤ n
      · exact hle
      · exact absurd hsure (hf2.2.2 n (by omega))
    have := h.len
    rw [hw] at this
    simp
    omega
/-- At the step that counts: its level is above. -/
theorem LInv.stopped (ht : TrOk ns db D l) (h : LInv ns l x) (hb : blank ns x.M = false) (hs : stopB ns l x.M = true) : levN ns l x.M < (lastS ns l x.M).lv := by
  obtain ⟨n, hn, hw, hf, hlast, hlev⟩ := h.at hb
  unfold stopB at hs
  rw [hb] at hs
  simp only [Bool.false_or, Bool.or_eq_true, decide_eq_true_eq] at hs
  rcases hs with hc | hl
  · rcases (ht.at hn).init.2.2 with ⟨c, h1, _⟩ | ⟨_, _, _, h4, _⟩
    · rw [hlast, h1] at hc; omega
    · rw [hlast, hlev, h4]
      unfold befN
      have hk := (ht.take n).level_mono (n := befK ns (l.take n) l[n] x.M) (k := n) (by
        have hs2 : Sure ns (l.take n ++ [l[n]]) x.M := by rw [← take_snoc hn]; exact hf.2.1
        have := (bef_of hs2).1
        rw [List.length_take] at this
        omega)
      have e : (l.take n).take n = l.take n := by rw [List.take_take, Nat.min_self]
      rw [e] at hk
      omega
  · exact hl
/-- Steps up to a level. -/
def backN (l : List StepN) (n : Nat) : List StepN := l.takeWhile fun s => decide (s.lv ≤ n)
theorem back_take (l : List StepN) (n : Nat) : ∃ p, p ≤ l.length ∧ backN l n = l.take p ∧ (∀ i, (h : i < l.length) → i < p → l[i].lv ≤ n) ∧ ∀ h : p < l.length, n < l[p].lv := by
  unfold backN
  induction l with
  | nil => exact ⟨0, Nat.le_refl _, rfl, fun i h => absurd h (by simp), fun h => absurd h (by simp)⟩
  | cons x l ih =>
    by_cases hx : x.lv ≤ n
    · obtain ⟨p, h1, h2, h3, h4⟩ := ih
      refine ⟨p + 1, by simpa using h1, ?_, ?_, ?_⟩
      · rw [List.takeWhile_cons_of_pos (by simpa using hx), h2]; rfl
      · intro i hi hp
        cases i with
        | zero => exact hx
        | succ i => exact h3 i (by simpa using hi) (by omega)
      · intro h
        exact h4 (by simpa using h)
    · refine ⟨0, by simp, ?_, fun i _ hp => absurd hp (by omega), fun _ => by simpa using hx⟩
      rw [List.takeWhile_cons_of_neg (by simpa using hx)]; rfl
/-- Behind the way back what was learnt is open at the unit of the step that counted. -/
theorem LInv.opens (ho : NsOk ns) (ht : TrOk ns db D l) (h : LInv ns l x) (hb : blank ns x.M = false) (hs : stopB ns l x.M = true) :
    ∃ p, p < l.length ∧ backN l (levN ns l x.M) = l.take p ∧ OpenAt ns (l.take p) x.M (lastS ns l x.M).u ∧ levN ns l x.M < l[p]!.lv ∧ levelN (l.take p) ≤ levN ns l x.M := by
  have hlt := h.stopped ht hb hs
  obtain ⟨n, hn, hw, hf, hlast, hlev⟩ := h.at hb
  obtain ⟨p, hp1, hp2, hp3, hp4⟩ := back_take l (levN ns l x.M)
  have hs2 : Sure ns (l.take n ++ [l[n]]) x.M := by rw [← take_snoc hn]; exact hf.2.1
  have hbf := bef_of hs2
  have hkn : befK ns (l.take n) l[n] x.M ≤ n := by have := hbf.1; rw [List.length_take] at this; omega
  have hpn : p ≤ n := by
    by_cases hle : p ≤ n
    · exact hle
    · have := hp3 n hn (by omega)
      rw [hlast] at hlt
      omega
  have hlevk : levN ns l x.M = levelN (l.take (befK ns (l.take n) l[n] x.M)) := by
    rw [hlev]
    unfold befN
    rw [List.take_take, Nat.min_eq_left hkn]
  have hkp : befK ns (l.take n) l[n] x.M ≤ p := by
    by_cases hle : befK ns (l.take n) l[n] x.M ≤ p
    · exact hle
    · have hpl : p < l.length := by omega
      have h1 := hp4 hpl
      rw [ht.lv hpl] at h1
      have := ht.level_mono (n := p + 1) (k := befK ns (l.take n) l[n] x.M) (by omega)
      omega
  have hpl : p < l.length := by omega
  obtain ⟨hi, hu, hcase⟩ := (ht.at hn).init
  have hoth : ∀ v, v < ns.length → v ≠ l[n].u → inN (leftN ns (l.take p) v) (x.M v) := by
    intro v hv hne
    refine in_trans (ht.shrink ho hkp hv) ?_
    have h1 := hbf.2.1 v hv
    rw [left_snoc, if_neg (fun e => hne e.symm), List.take_take, Nat.min_eq_left hkn] at h1
    exact h1
  have hnot : ¬ inN (leftN ns (l.take p) l[n].u) (x.M l[n].u) := by
    intro hin
    refine hf.2.2 p (by omega) fun v hv => ?_
    by_cases e : v = l[n].u
    · subst e; exact hin
    · exact hoth v hv e
  have hsm : inN l[n].m (leftN ns (l.take n) l[n].u) ∧ l[n].m ≠ 0 := by
    rcases hcase with ⟨c, _, _, hop, hm, _⟩ | ⟨_, hm, h0, _⟩
    · rw [hm]
      exact ⟨less_in (hi.le31 ho hu), less_ne (hi.le31 ho hu) hop.2.2.1⟩
    · exact ⟨hm, h0⟩
  have hsM : inN l[n].m (x.M l[n].u) := by
    have := hf.2.1 l[n].u hu
    rwa [take_snoc hn, left_snoc, if_pos rfl] at this
  refine ⟨p, hpl, hp2, ?_, ?_, ?_⟩
  · rw [hlast]
    refine ⟨hu, hoth, hnot, fun h0 => hsm.2 ?_⟩
    have := in_and (in_trans hsm.1 (ht.shrink ho hpn hu)) hsM
    rw [h0] at this
    have := in_le this
    omega
  · rw [getElem!_pos l p hpl]
    exact hp4 hpl
  · by_cases h0 : p = 0
    · subst h0
      exact Nat.zero_le _
    · obtain ⟨q, rfl⟩ : ∃ q, p = q + 1 := ⟨p - 1, by omega⟩
      rw [← ht.lv (by omega)]
      exact hp3 q (by omega) (by omega)
/-- What was learnt is new. -/
theorem LInv.new (ho : NsOk ns) (ht : TrOk ns db D l) (h : LInv ns l x) (hb : blank ns x.M = false) (hs : stopB ns l x.M = true) {i : Nat} (hi : i < D) (hw : ∀ u, u < ns.length → inN (x.M u) (db i u)) : False := by
  obtain ⟨p, hp, _, hop, hlv, hlev⟩ := h.opens ho ht hb hs
  rw [getElem!_pos l p hp] at hlv
  rcases (ht.at hp).init.2.2 with ⟨c, _, _, _, _, hl⟩ | ⟨_, _, _, _, hno⟩
  · omega
  · obtain ⟨h1, h2⟩ := hno i hi
    have hoth : ∀ v, v < ns.length → v ≠ (lastS ns l x.M).u → inN (leftN ns (l.take p) v) (db i v) := fun v hv hne => in_trans (hop.2.1 v hv hne) (hw v hv)
    by_cases hin : inN (leftN ns (l.take p) (lastS ns l x.M).u) (db i (lastS ns l x.M).u)
    · refine h1 fun v hv => ?_
      by_cases e : v = (lastS ns l x.M).u
      · subst e; exact hin
      · exact hoth v hv e
    · refine h2 (lastS ns l x.M).u ⟨hop.1, hoth, hin, fun h0 => hop.2.2.2 ?_⟩
      apply Nat.eq_of_testBit_eq
      intro k
      have h3 := congrArg (fun y => Nat.testBit y k) h0
      simp only [Nat.testBit_and, Nat.zero_testBit] at h3 ⊢
      cases ha : (leftN ns (l.take p) (lastS ns l x.M).u).testBit k
      · rfl
      · rw [ha] at h3
        cases hb2 : (x.M (lastS ns l x.M).u).testBit k
        · rfl
        · rw [in_bit.1 (hw _ hop.1) k hb2] at h3
          exact h3
end
end Go.Proofs.YtmbjeppnamhgiaaGreat
end
section
/- What a conflict says: up to its end; how much is left, as a number. No program stands here. -/
namespace Go.Proofs.YtmbjeppnamhgiaaGreat
open Go Go.RowKit

section
variable {ns : List Nat} {db : Nat → Nat → Nat} {D : Nat} {l : List StepN} {M : Nat → Nat}
/-- A conflict: a trail, and an incompatibility that is sure on it. -/
structure Conf (ns : List Nat) (db : Nat → Nat → Nat) (D : Nat) (l : List StepN) (M : Nat → Nat) : Prop where
  no : NsOk ns
  tr : TrOk ns db D l
  dok : ∀ c, c < D → IncOk ns (db c)
  ok : IncOk ns M
  sure : Sure ns l M
theorem stL_links (j : Nat) : (stL ns db l M j).links.length = j := by
  induction j with
  | zero => rfl
  | succ j ih => show (_ ++ [_]).length = _; simp [ih]
theorem Conf.inv (h : Conf ns db D l M) {j : Nat} (hj : ∀ i, i < j → stopB ns l (stL ns db l M i).M = false) : LInv ns l (stL ns db l M j) := by
  induction j with
  | zero => exact ⟨h.ok, h.sure, by show whenN ns l M + 0 ≤ _; exact (when_first h.sure).1⟩
  | succ j ih => exact ((ih fun i hi => hj i (by omega)).step h.no h.tr h.dok (hj j (by omega))).1
theorem Conf.ends (h : Conf ns db D l M) : ∃ j, j ≤ l.length ∧ stopB ns l (stL ns db l M j).M = true ∧ ∀ i, i < j → stopB ns l (stL ns db l M i).M = false := by
  by_cases hex : ∃ j, j ≤ l.length ∧ stopB ns l (stL ns db l M j).M = true
  · obtain ⟨n, hn⟩ := hex
    induction n using Nat.strongRecOn with
    | _ n ih =>
      by_cases hlt : ∃ k, k < n ∧ (k ≤ l.length ∧ stopB ns l (stL ns db l M k).M = true)
      · obtain ⟨k, hk, hk2⟩ := hlt
        exact ih k hk hk2
      · refine ⟨n, hn.1, hn.2, fun i hi => ?_⟩
        cases hb : stopB ns l (stL ns db l M i).M
        · rfl
        · exact absurd ⟨i, hi, Nat.le_trans (Nat.le_of_lt hi) hn.1, hb⟩ hlt
  · exfalso
    have hno : ∀ i, i ≤ l.length → stopB ns l (stL ns db l M i).M = false := fun i hi => by
      cases hb : stopB ns l (stL ns db l M i).M
      · rfl
      · exact absurd ⟨i, hi, hb⟩ hex
    have hinv := h.inv (j := l.length) fun i hi => hno i (Nat.le_of_lt hi)
    have hl := hinv.len
    rw [stL_links] at hl
    have hf := hinv.first
    rw [show whenN ns l (stL ns db l M l.length).M = 0 by omega] at hf
    have hb := blank_of hinv.ok hf.2.1
    have := hno l.length (Nat.le_refl _)
    unfold stopB at this
    rw [hb] at this
    simp at this
/-- The end is one. -/
theorem stop_one {j k : Nat} (h1 : stopB ns l (stL ns db l M j).M = true) (h2 : ∀ i, i < j → stopB ns l (stL ns db l M i).M = false) (h3 : stopB ns l (stL ns db l M k).M = true) (h4 : ∀ i, i < k → stopB ns l (stL ns db l M i).M = false) : j = k := by
  rcases Nat.lt_trichotomy j k with h | h | h
  · rw [h4 j h] at h1; cases h1
  · exact h
  · rw [h2 k h] at h3; cases h3
/-- Whatever choice makes what was learnt hold makes one of them hold. -/
theorem Conf.sound (h : Conf ns db D l M) {j : Nat} (hj : ∀ i, i < j → stopB ns l (stL ns db l M i).M = false) {c : List Int} (hc : holdN ns (stL ns db l M j).M c = true) : holdN ns M c = true ∨ ∃ i, i < D ∧ holdN ns (db i) c = true := by
  induction j with
  | zero => exact .inl hc
  | succ j ih =>
    have hi := h.inv (j := j) fun i hi => hj i (by omega)
    obtain ⟨_, _, _, c', hc', hd⟩ := hi.step h.no h.tr h.dok (hj j (by omega))
    rcases join_sound hc with h1 | h1
    · exact ih (fun i hi => hj i (by omega)) h1
    · exact .inr ⟨_, by rw [hc']; simpa using hd, h1⟩
/-- Where nothing was decided what is learnt says nothing. -/
def NoDec (l : List StepN) : Prop := ∀ i, (h : i < l.length) → l[i].c ≠ -1
theorem ground_lv (ht : TrOk ns db D l) (hn : NoDec l) : ∀ n, levelN (l.take n) = 0 := by
  intro n
  induction n with
  | zero => rfl
  | succ n ih =>
    by_cases hk : n < l.length
    · rw [take_snoc hk, level_snoc]
      rcases (ht.at hk).init.2.2 with ⟨c, _, _, _, _, hm⟩ | ⟨hc, _⟩
      · rw [hm, ih]
      · exact absurd hc (hn n hk)
    · have e1 : l.take (n + 1) = l.take n := by rw [List.take_of_length_le (by omega), List.take_of_length_le (by omega)]
      rw [e1, ih]
theorem Conf.ground (h : Conf ns db D l M) (hn : NoDec l) {j : Nat} (hj : ∀ i, i < j → stopB ns l (stL ns db l M i).M = false) (hs : stopB ns l (stL ns db l M j).M = true) : blank ns (stL ns db l M j).M = true := by
  have hi := h.inv hj
  cases hb : blank ns (stL ns db l M j).M
  · exfalso
    have h1 := hi.stopped h.tr hb hs
    obtain ⟨n, hn', _, _, hlast, _⟩ := hi.at hb
    rw [hlast, h.tr.lv hn', ground_lv h.tr hn] at h1
    omega
  · rfl
/-- Link by link: each is one of them, each join becomes sure earlier. -/
theorem Conf.link (h : Conf ns db D l M) {j : Nat} (hj : ∀ i, i < j + 1 → stopB ns l (stL ns db l M i).M = false) :
    ∃ c u : Nat, c < D ∧ u < ns.length ∧ (stL ns db l M (j + 1)).links = (stL ns db l M j).links ++ [(u, c)] ∧ (stL ns db l M (j + 1)).M = joinN (stL ns db l M j).M (db c) u ∧ okN ns (joinN (stL ns db l M j).M (db c) u) = true ∧ whenN ns l (stL ns db l M (j + 1)).M < whenN ns l (stL ns db l M j).M := by
  have hi := h.inv (j := j) fun i hi => hj i (by omega)
  have hs := hj j (by omega)
  obtain ⟨_, hok, hu, c, hc, hd⟩ := hi.step h.no h.tr h.dok hs
  have e : (lastS ns l (stL ns db l M j).M).c.toNat = c := by rw [hc]; simp
  have hb : blank ns (stL ns db l M j).M = false := by
    unfold stopB at hs
    simp only [Bool.or_eq_false_iff] at hs
    exact hs.1.1
  obtain ⟨n, hn, hw, hf, hlast, _⟩ := hi.at hb
  refine ⟨c, _, hd, hu, ?_, ?_, by rw [← e]; exact hok, ?_⟩
  · rw [← e]; rfl
  · rw [← e]; rfl
  · obtain ⟨_, hsure, _⟩ := hf.join h.no h.tr hn (c := c) (by rw [← hlast]; exact hc)
    rw [hw]
    show whenN ns l (joinN (stL ns db l M j).M (db (lastS ns l (stL ns db l M j).M).c.toNat) (lastS ns l (stL ns db l M j).M).u) < n + 1
    rw [e, hlast]
    have hs2 : Sure ns l (joinN (stL ns db l M j).M (db c) l[n].u) := by
      have := h.tr.sure_mono h.no (k := l.length) (Nat.le_of_lt hn) hsure
      rwa [List.take_of_length_le (Nat.le_refl _)] at this
    have hf2 := when_first hs2
    by_cases hle : whenN ns l (joinN (stL ns db l M j).M (db c) l[n].u) ≤ n
    · omega
    · exact absurd hsure (hf2.2.2 n (by omega))
end
/-- How many values a mask has. -/
def pcN (x : Nat) : Nat := (List.range 5).countP fun k => x.testBit k
theorem pc_lt {a b : Nat} (hb : b ≤ 31) (h : inN a b) (hne : a ≠ b) : pcN a < pcN b := by
  have hall : ∀ x : Fin 32, ∀ y : Fin 32, x.val &&& y.val = x.val → x ≠ y → pcN x.val < pcN y.val := by decide
  have ha : a ≤ 31 := Nat.le_trans (in_le h) hb
  exact hall ⟨a, by omega⟩ ⟨b, by omega⟩ h (fun e => hne (by injection e))
theorem pc_le (x : Nat) : pcN x ≤ 5 := List.countP_le_length
/-- How much is left in all. -/
def muN (ns : List Nat) (l : List StepN) : Nat := ((List.range ns.length).map fun u => pcN (leftN ns l u)).sum
theorem sum_le {f : Nat → Nat} {b : Nat} (hf : ∀ u, f u ≤ b) : ∀ l : List Nat, (l.map f).sum ≤ l.length * b
  | [] => by simp
  | x :: l => by
    have h1 := sum_le hf l
    have h2 := hf x
    simp only [List.map_cons, List.sum_cons, List.length_cons]
    rw [Nat.add_mul]
    omega
theorem mu_le (ns : List Nat) (l : List StepN) : muN ns l ≤ ns.length * 5 := by
  have := sum_le (f := fun u => pcN (leftN ns l u)) (fun u => pc_le _) (List.range ns.length)
  simpa [muN] using this
theorem sum_lt {f g : Nat → Nat} : ∀ {l : List Nat}, (∀ x ∈ l, f x ≤ g x) → (∃ x ∈ l, f x < g x) → (l.map f).sum < (l.map g).sum
  | [], _, h => by obtain ⟨x, hx, _⟩ := h; cases hx
  | y :: l, h1, h2 => by
    simp only [List.map_cons, List.sum_cons]
    have hle : (l.map f).sum ≤ (l.map g).sum := by
      clear h2
      have h1' : ∀ x ∈ l, f x ≤ g x := fun x hx => h1 x (List.mem_cons_of_mem _ hx)
      clear h1
      induction l with
      | nil => simp
      | cons z l ih =>
        have := ih fun x hx => h1' x (List.mem_cons_of_mem _ hx)
        have := h1' z List.mem_cons_self
        simp only [List.map_cons, List.sum_cons]
        omega
    obtain ⟨x, hx, hlt⟩ := h2
    rcases List.mem_cons.1 hx with rfl | hx
    · omega
    · have := sum_lt (f := f) (g := g) (l := l) (fun x hx => h1 x (List.mem_cons_of_mem _ hx)) ⟨x, hx, hlt⟩
      have := h1 y List.mem_cons_self
      omega
/-- Each step leaves less. -/
theorem mu_lt {ns : List Nat} {db : Nat → Nat → Nat} {D : Nat} {l : List StepN} {s : StepN} (ho : NsOk ns) (h : TrOk ns db D (l ++ [s])) (hc : s.c ≠ -1) : muN ns (l ++ [s]) < muN ns l := by
  obtain ⟨hi, hu, hcase⟩ := h.init
  rcases hcase with ⟨c, _, _, hop, hm, _⟩ | ⟨hc', _⟩
  · have h31 := hi.le31 ho hu
    have hin : inN s.m (leftN ns l s.u) := by rw [hm]; exact less_in h31
    have hne : s.m ≠ leftN ns l s.u := by
      intro e
      apply hop.2.2.2
      apply Nat.eq_of_testBit_eq
      intro k
      rw [Nat.testBit_and, Nat.zero_testBit]
      have h1 := less_bit (b := db c s.u) h31 k
      rw [← hm, e] at h1
      cases ha : (leftN ns l s.u).testBit k
      · rfl
      · rw [ha] at h1
        cases hb : (db c s.u).testBit k
        · rfl
        · rw [hb] at h1; simp at h1
    refine sum_lt (fun u _ => ?_) ⟨s.u, List.mem_range.2 hu, ?_⟩
    · rw [left_snoc]
      by_cases e : s.u = u
      · subst e
        rw [if_pos rfl]
        exact Nat.le_of_lt (pc_lt h31 hin hne)
      · rw [if_neg e]
        exact Nat.le_refl _
    · rw [left_snoc, if_pos rfl]
      exact pc_lt h31 hin hne
  · exact absurd hc' hc
end Go.Proofs.YtmbjeppnamhgiaaGreat
end
