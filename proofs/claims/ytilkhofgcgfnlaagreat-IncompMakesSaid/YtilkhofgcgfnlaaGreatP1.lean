/- Incompatibilities, plainly: of each unit a mask; the terms that say them. No program stands here. -/
import Derived.Test.YtilkhofgcgfnlaaGreatNs
import Derived.Outline
namespace Go.Proofs.YtilkhofgcgfnlaaGreat
open Go Go.RowKit

/-- An integer's 64 bits. -/
def nm (m : Int) : Nat := (BitVec.ofInt 64 m).toNat
theorem nm_lt (m : Int) : nm m < 18446744073709551616 := (BitVec.ofInt 64 m).isLt
theorem nm_nat {k : Nat} (h : k < 18446744073709551616) : nm (k : Int) = k := by
  unfold nm
  rw [BitVec.ofInt_natCast, BitVec.toNat_ofNat]
  exact Nat.mod_eq_of_lt (by omega)
theorem band (x y : Int) (h : nm x &&& nm y < 9223372036854775808) : bits .and .i64 x y = ((nm x &&& nm y : Nat) : Int) := by
  show IntKind.i64.wrap ((BitVec.ofInt 64 x &&& BitVec.ofInt 64 y).toNat : Int) = _
  rw [BitVec.toNat_and, IntKind.wrap_i64]
  unfold nm at *
  omega
theorem bor (x y : Int) (h : nm x ||| nm y < 9223372036854775808) : bits .or .i64 x y = ((nm x ||| nm y : Nat) : Int) := by
  show IntKind.i64.wrap ((BitVec.ofInt 64 x ||| BitVec.ofInt 64 y).toNat : Int) = _
  rw [BitVec.toNat_or, IntKind.wrap_i64]
  unfold nm at *
  omega
theorem bv_andn (a b : BitVec 64) : a &&& ~~~b = 0#64 ↔ a &&& b = a := by
  constructor
  · intro h
    apply BitVec.eq_of_getLsbD_eq
    intro i hi
    have := congrArg (fun z => z.getLsbD i) h
    simp [hi] at this ⊢
    exact this
  · intro h
    apply BitVec.eq_of_getLsbD_eq
    intro i hi
    have := congrArg (fun z => z.getLsbD i) h
    simp [hi] at this ⊢
    exact this
theorem bandn (x y : Int) : (bits .andNot .i64 x y == 0) = decide (nm x &&& nm y = nm x) := by
  have hb := (BitVec.ofInt 64 x &&& ~~~BitVec.ofInt 64 y).isLt
  have h1 : (bits .andNot .i64 x y == 0) = decide ((BitVec.ofInt 64 x &&& ~~~BitVec.ofInt 64 y).toNat = 0) := by
    show (IntKind.i64.wrap ((BitVec.ofInt 64 x &&& ~~~BitVec.ofInt 64 y).toNat : Int) == 0) = _
    rw [IntKind.wrap_i64]
    by_cases h0 : (BitVec.ofInt 64 x &&& ~~~BitVec.ofInt 64 y).toNat = 0
    · simp [h0]
    · rw [decide_eq_false h0]
      simp only [beq_eq_false_iff_ne, ne_eq]
      omega
  rw [h1]
  apply decide_eq_decide.2
  rw [show (0 : Nat) = (0#64).toNat from rfl, BitVec.toNat_inj, bv_andn, ← BitVec.toNat_inj, BitVec.toNat_and]
  rfl
theorem pow_and (k m : Nat) : 2 ^ k &&& m ≠ 0 ↔ m.testBit k = true := by
  constructor
  · intro h
    cases hb : m.testBit k with
    | true => rfl
    | false =>
      exfalso
      apply h
      apply Nat.eq_of_testBit_eq
      intro i
      rw [Nat.testBit_and, Nat.testBit_two_pow, Nat.zero_testBit]
      by_cases e : k = i
      · subst e; simp [hb]
      · simp [e]
  · intro h h0
    have : (2 ^ k &&& m).testBit k = true := by rw [Nat.testBit_and, Nat.testBit_two_pow]; simp [h]
    rw [h0, Nat.zero_testBit] at this
    cases this
theorem and_le31 {a b : Nat} (h : b ≤ 31) : a &&& b ≤ 31 := Nat.le_trans Nat.and_le_right h
theorem or_le31 {a b : Nat} (h : a ≤ 31) (h' : b ≤ 31) : a ||| b ≤ 31 := by
  have : a ||| b < 2 ^ 5 := Nat.or_lt_two_pow (by omega) (by omega)
  omega

/-- The mask of all values of a unit. -/
def fullN (ns : List Nat) (u : Nat) : Nat := match ns[u]? with
  | some n => 2 ^ (n + 1) - 1
  | none => 0
section
variable {ns : List Nat}
theorem fullN_of {u : Nat} (h : u < ns.length) : fullN ns u = 2 ^ (ns[u] + 1) - 1 := by unfold fullN; rw [List.getElem?_eq_getElem h]
theorem fullN_out {u : Nat} (h : ¬ u < ns.length) : fullN ns u = 0 := by unfold fullN; rw [List.getElem?_eq_none (by omega)]
theorem fullN_le (ho : NsOk ns) (u : Nat) : fullN ns u ≤ 31 := by
  by_cases h : u < ns.length
  · rw [fullN_of h]
    have h1 := ho.le u h
    have : 2 ^ (ns[u] + 1) ≤ 2 ^ 5 := Nat.pow_le_pow_right (by decide) (by omega)
    omega
  · rw [fullN_out h]; omega
theorem fullN_pos {u : Nat} (h : u < ns.length) : 1 ≤ fullN ns u := by
  rw [fullN_of h]
  have : 2 ^ 1 ≤ 2 ^ (ns[u] + 1) := Nat.pow_le_pow_right (by decide) (by omega)
  omega
theorem fullF_eq (u : Int) (h : 0 ≤ u) : fullF ns u = (fullN ns u.toNat : Int) := by
  unfold fullF
  by_cases hu : u.toNat < ns.length
  · rw [if_neg (by omega), fullN_of hu, List.getElem?_eq_getElem hu]
    unfold pw
    have : 0 < 2 ^ (ns[u.toNat] + 1) := Nat.pow_pos (by decide)
    simp only [Option.getD_some]
    omega
  · rw [if_pos (by omega), fullN_out hu]; rfl
theorem fullF_neg (u : Int) (h : u < 0) : fullF ns u = 0 := by unfold fullF; rw [if_pos (.inl h)]
theorem fullF_nat (u : Nat) : fullF ns (u : Int) = (fullN ns u : Int) := by rw [fullF_eq _ (by omega)]; simp
theorem full_bit {u : Nat} (h : u < ns.length) (k : Nat) : (fullN ns u).testBit k = decide (k ≤ ns[u]) := by
  rw [fullN_of h, Nat.testBit_two_pow_sub_one]
  apply decide_eq_decide.2
  omega

/-- A mask for each unit that may be. -/
structure IncOk (ns : List Nat) (M : Nat → Nat) : Prop where
  pos : ∀ u, u < ns.length → M u ≠ 0
  sub : ∀ u, u < ns.length → M u &&& fullN ns u = M u
/-- The term of a unit, if it says something. -/
def tm (ns : List Nat) (M : Nat → Nat) (u : Nat) : Option Term := if M u = fullN ns u then none else some ⟨(u : Int), (M u : Int)⟩
/-- The terms up to a unit. -/
def canonTo (ns : List Nat) (M : Nat → Nat) (n : Nat) : List Term := (List.range n).filterMap (tm ns M)
def canon (ns : List Nat) (M : Nat → Nat) : List Term := canonTo ns M ns.length
theorem canonTo_succ (M : Nat → Nat) (n : Nat) : canonTo ns M (n + 1) = canonTo ns M n ++ (tm ns M n).toList := by
  unfold canonTo
  rw [List.range_succ, List.filterMap_append]
  cases h : tm ns M n <;> simp [h]
theorem canonTo_len (M : Nat → Nat) (n : Nat) : (canonTo ns M n).length ≤ n := by
  have := List.length_filterMap_le (tm ns M) (List.range n)
  rwa [List.length_range] at this
theorem canon_len (M : Nat → Nat) : (canon ns M).length ≤ ns.length := canonTo_len M _
theorem canon_mem {M : Nat → Nat} {t : Term} : t ∈ canon ns M ↔ ∃ u, u < ns.length ∧ M u ≠ fullN ns u ∧ t = ⟨(u : Int), (M u : Int)⟩ := by
  unfold canon canonTo
  simp only [List.mem_filterMap, List.mem_range]
  constructor
  · rintro ⟨u, hu, h⟩
    unfold tm at h
    split at h
    · cases h
    · rename_i h1
      exact ⟨u, hu, h1, (Option.some.inj h).symm⟩
  · rintro ⟨u, hu, h1, rfl⟩
    exact ⟨u, hu, by unfold tm; rw [if_neg h1]⟩
theorem filterMap_same {α β : Type} {f g : α → Option β} : ∀ {l : List α}, (∀ x ∈ l, f x = g x) → l.filterMap f = l.filterMap g
  | [], _ => rfl
  | x :: l, h => by
    rw [List.filterMap_cons, List.filterMap_cons, h x (by simp), filterMap_same fun y hy => h y (by simp [hy])]
theorem canon_congr {M M' : Nat → Nat} (h : ∀ u, u < ns.length → M u = M' u) : canon ns M = canon ns M' := by
  unfold canon canonTo
  refine filterMap_same fun u hu => ?_
  unfold tm
  rw [h u (List.mem_range.1 hu)]
theorem canon_inj {M M' : Nat → Nat} (h : canon ns M = canon ns M') : ∀ u, u < ns.length → M u = M' u := by
  intro u hu
  have key : ∀ A B : Nat → Nat, canon ns A = canon ns B → A u ≠ fullN ns u → A u = B u := by
    intro A B he hne
    have hm : (⟨(u : Int), (A u : Int)⟩ : Term) ∈ canon ns B := he ▸ canon_mem.2 ⟨u, hu, hne, rfl⟩
    obtain ⟨v, _, _, e⟩ := canon_mem.1 hm
    injection e with e1 e2
    have : u = v := by omega
    subst this
    omega
  by_cases h1 : M u = fullN ns u
  · by_cases h2 : M' u = fullN ns u
    · rw [h1, h2]
    · exact (key M' M h.symm h2).symm
  · exact key M M' h h1
theorem canon_i64 (ho : NsOk ns) {M : Nat → Nat} (hM : ∀ u, u < ns.length → M u ≤ 31) : ∀ t ∈ canon ns M, I64 t.unit ∧ I64 t.mask := by
  intro t ht
  obtain ⟨u, hu, _, rfl⟩ := canon_mem.1 ht
  have := hM u hu
  have := ho.hi
  unfold I64
  exact ⟨⟨by dsimp only; omega, by dsimp only; omega⟩, ⟨by dsimp only; omega, by dsimp only; omega⟩⟩
theorem IncOk.le {M : Nat → Nat} (ho : NsOk ns) (h : IncOk ns M) : ∀ u, u < ns.length → M u ≤ 31 := fun u hu => by
  rw [← h.sub u hu]
  exact and_le31 (fullN_le ho u)

/-- Terms of masks, if none is empty. -/
def okN (ns : List Nat) (M : Nat → Nat) : Bool := (List.range ns.length).all fun u => M u != 0
def madeN (ns : List Nat) (M : Nat → Nat) : Option (List Term) := if okN ns M then some (canon ns M) else none
theorem okN_iff {M : Nat → Nat} : okN ns M = true ↔ ∀ u, u < ns.length → M u ≠ 0 := by
  unfold okN
  simp [List.all_eq_true]
/-- What terms leave of a unit. -/
def meetN (ns : List Nat) (l : List Term) (u : Nat) : Nat := l.foldl (fun a t => if t.unit = (u : Int) then a &&& nm t.mask else a) (fullN ns u)
def inR (ns : List Nat) (l : List Term) : Bool := l.all fun t => decide (0 ≤ t.unit) && decide (t.unit < ns.length)
def makeN (ns : List Nat) (l : List Term) : Option (List Term) := if inR ns l then madeN ns (meetN ns l) else none
theorem meetN_nil (u : Nat) : meetN ns [] u = fullN ns u := rfl
theorem meetN_snoc (l : List Term) (t : Term) (u : Nat) : meetN ns (l ++ [t]) u = if t.unit = (u : Int) then meetN ns l u &&& nm t.mask else meetN ns l u := by
  unfold meetN
  rw [List.foldl_append]
  rfl
theorem fold_le (l : List Term) (u : Nat) : ∀ a : Nat, l.foldl (fun a t => if t.unit = (u : Int) then a &&& nm t.mask else a) a ≤ a := by
  induction l with
  | nil => intro a; exact Nat.le_refl _
  | cons t l ih =>
    intro a
    rw [List.foldl_cons]
    refine Nat.le_trans (ih _) ?_
    split
    · exact Nat.and_le_left
    · exact Nat.le_refl _
theorem meetN_le (l : List Term) (u : Nat) : meetN ns l u ≤ fullN ns u := fold_le l u _
theorem fold_bit (l : List Term) (u k : Nat) : ∀ a : Nat, (l.foldl (fun a t => if t.unit = (u : Int) then a &&& nm t.mask else a) a).testBit k = (a.testBit k && l.all fun t => decide (t.unit ≠ (u : Int)) || (nm t.mask).testBit k) := by
  induction l with
  | nil => intro a; simp
  | cons t l ih =>
    intro a
    rw [List.foldl_cons, ih, List.all_cons]
    by_cases h : t.unit = (u : Int)
    · rw [if_pos h, Nat.testBit_and]
      simp [h, Bool.and_assoc]
    · rw [if_neg h]
      simp [h]
theorem meet_bit (l : List Term) (u k : Nat) : (meetN ns l u).testBit k = ((fullN ns u).testBit k && l.all fun t => decide (t.unit ≠ (u : Int)) || (nm t.mask).testBit k) := fold_bit l u k _
theorem sub_full {a : Nat} {u : Nat} (h : ∀ k, a.testBit k = true → (fullN ns u).testBit k = true) : a &&& fullN ns u = a := by
  apply Nat.eq_of_testBit_eq
  intro k
  rw [Nat.testBit_and]
  cases hb : a.testBit k with
  | false => rfl
  | true => rw [h k hb]; rfl
theorem IncOk.bit {M : Nat → Nat} (h : IncOk ns M) {u : Nat} (hu : u < ns.length) {k : Nat} (hb : (M u).testBit k = true) : (fullN ns u).testBit k = true := by
  rw [← h.sub u hu, Nat.testBit_and] at hb
  simp at hb
  exact hb.2
theorem meet_ok {l : List Term} (h : okN ns (meetN ns l) = true) : IncOk ns (meetN ns l) :=
  ⟨okN_iff.1 h, fun u _ => sub_full fun k hk => by rw [meet_bit] at hk; simp at hk; exact hk.1⟩
theorem full_ok : IncOk ns (fullN ns) := ⟨fun u hu => by have := fullN_pos hu; omega, fun u _ => Nat.and_self _⟩
theorem canon_full : canon ns (fullN ns) = [] := by
  refine List.eq_nil_iff_forall_not_mem.2 fun t ht => ?_
  obtain ⟨u, _, h, _⟩ := canon_mem.1 ht
  exact h rfl
/-- Whatever Make gives says masks that may be. -/
theorem make_some {l r : List Term} (h : makeN ns l = some r) : IncOk ns (meetN ns l) ∧ r = canon ns (meetN ns l) := by
  unfold makeN at h
  split at h
  · unfold madeN at h
    split at h
    · rename_i h1
      exact ⟨meet_ok h1, (Option.some.inj h).symm⟩
    · cases h
  · cases h
theorem make_getD (l : List Term) : ∃ M, IncOk ns M ∧ (makeN ns l).getD [] = canon ns M := by
  cases h : makeN ns l with
  | none => exact ⟨fullN ns, full_ok, canon_full.symm⟩
  | some r => exact ⟨_, (make_some h).1, (make_some h).2⟩
/-- One unit's terms among those of masks that may be. -/
theorem canon_all (ho : NsOk ns) {M : Nat → Nat} (h : IncOk ns M) {u : Nat} (hu : u < ns.length) (k : Nat) : ((fullN ns u).testBit k && (canon ns M).all fun t => decide (t.unit ≠ (u : Int)) || (nm t.mask).testBit k) = (M u).testBit k := by
  have hle := h.le ho
  by_cases hf : M u = fullN ns u
  · have : ((canon ns M).all fun t => decide (t.unit ≠ (u : Int)) || (nm t.mask).testBit k) = true := by
      rw [List.all_eq_true]
      intro t ht
      obtain ⟨v, hv, hne, rfl⟩ := canon_mem.1 ht
      have : (v : Int) ≠ u := by
        intro e
        have : v = u := by omega
        subst this
        exact hne hf
      simp [this]
    rw [this, hf, Bool.and_true]
  · have hmem : (⟨(u : Int), (M u : Int)⟩ : Term) ∈ canon ns M := canon_mem.2 ⟨u, hu, hf, rfl⟩
    have hn : nm ((M u : Nat) : Int) = M u := nm_nat (by have := hle u hu; omega)
    cases hb : (M u).testBit k with
    | true =>
      rw [h.bit hu hb, Bool.true_and, List.all_eq_true]
      intro t ht
      obtain ⟨v, hv, hne, rfl⟩ := canon_mem.1 ht
      by_cases e : v = u
      · subst e; simp [hn, hb]
      · have : (v : Int) ≠ u := by omega
        simp [this]
    | false =>
      have : ((canon ns M).all fun t => decide (t.unit ≠ (u : Int)) || (nm t.mask).testBit k) = false := by
        rw [List.all_eq_false]
        exact ⟨_, hmem, by simp [hn, hb]⟩
      rw [this, Bool.and_false]
theorem meet_canon (ho : NsOk ns) {M : Nat → Nat} (h : IncOk ns M) {u : Nat} (hu : u < ns.length) : meetN ns (canon ns M) u = M u := by
  apply Nat.eq_of_testBit_eq
  intro k
  rw [meet_bit, canon_all ho h hu]
theorem inR_canon (M : Nat → Nat) : inR ns (canon ns M) = true := by
  unfold inR
  rw [List.all_eq_true]
  intro t ht
  obtain ⟨u, hu, _, rfl⟩ := canon_mem.1 ht
  simp [hu]
theorem inR_append (l m : List Term) : inR ns (l ++ m) = (inR ns l && inR ns m) := by unfold inR; rw [List.all_append]

/-- What a list says of a unit. -/
def maskF (ns : List Nat) (l : List Term) (u : Int) : Int := match l.find? fun t => t.unit == u with
  | some t => t.mask
  | none => fullF ns u
def maskN (ns : List Nat) (M : Nat → Nat) (u : Int) : Nat := if u < 0 ∨ (ns.length : Int) ≤ u then 0 else M u.toNat
theorem maskN_nat (M : Nat → Nat) {u : Nat} (h : u < ns.length) : maskN ns M (u : Int) = M u := by unfold maskN; rw [if_neg (by omega)]; simp
theorem mask_canon (M : Nat → Nat) (u : Int) : maskF ns (canon ns M) u = (maskN ns M u : Int) := by
  unfold maskF
  split
  · rename_i t h
    have h1 := List.find?_some h
    obtain ⟨v, hv, _, rfl⟩ := canon_mem.1 (List.mem_of_find?_eq_some h)
    simp at h1
    subst h1
    rw [maskN_nat M hv]
  · rename_i h
    rw [List.find?_eq_none] at h
    unfold maskN
    split
    · rename_i h1
      unfold fullF
      rw [if_pos h1]; rfl
    · rename_i h1
      have hu : u.toNat < ns.length := by omega
      rw [fullF_eq u (by omega)]
      by_cases hf : M u.toNat = fullN ns u.toNat
      · rw [hf]
      · have := h _ (canon_mem.2 ⟨_, hu, hf, rfl⟩)
        simp at this
        omega
end
end Go.Proofs.YtilkhofgcgfnlaaGreat
