/- Laws of incompatibilities, plainly: choices, joins, what says as much. No program stands here. -/
import Derived.Test.YtilkhofgcgfnlaaGreatP1
import Derived.Outline
namespace Go.Proofs.YtilkhofgcgfnlaaGreat
open Go Go.RowKit

/-- A choice of a world: of each unit none (-1) or one of its candidates. -/
structure ChoiceOk (ns : List Nat) (c : List Int) : Prop where
  len : c.length = ns.length
  val : ∀ u, (h : u < ns.length) → -1 ≤ c.getD u 0 ∧ c.getD u 0 < ns[u]
def valN (c : List Int) (u : Nat) : Nat := 2 ^ (c.getD u 0 + 1).toNat
theorem val_bit (c : List Int) (u m : Nat) : valN c u &&& m ≠ 0 ↔ m.testBit (c.getD u 0 + 1).toNat = true := pow_and _ _
def holdN (ns : List Nat) (M : Nat → Nat) (c : List Int) : Bool := (List.range ns.length).all fun u => valN c u &&& M u != 0
def holdL (c : List Int) (l : List Term) : Bool := l.all fun t => valN c t.unit.toNat &&& nm t.mask != 0
section
variable {ns : List Nat}
theorem holdN_iff {M : Nat → Nat} {c : List Int} : holdN ns M c = true ↔ ∀ u, u < ns.length → (M u).testBit (c.getD u 0 + 1).toNat = true := by
  unfold holdN
  simp only [List.all_eq_true, List.mem_range, bne_iff_ne, val_bit]
theorem holdL_iff {c : List Int} {l : List Term} : holdL c l = true ↔ ∀ t ∈ l, (nm t.mask).testBit (c.getD t.unit.toNat 0 + 1).toNat = true := by
  unfold holdL
  simp only [List.all_eq_true, bne_iff_ne, val_bit]
theorem val_full {c : List Int} (hc : ChoiceOk ns c) {u : Nat} (hu : u < ns.length) : (fullN ns u).testBit (c.getD u 0 + 1).toNat = true := by
  have := hc.val u hu
  rw [full_bit hu]
  exact decide_eq_true (by omega)
theorem holdL_make {c : List Int} (hc : ChoiceOk ns c) {l : List Term} (hl : inR ns l = true) : holdL c l = holdN ns (meetN ns l) c := by
  apply Bool.eq_iff_iff.2
  rw [holdL_iff, holdN_iff]
  unfold inR at hl
  rw [List.all_eq_true] at hl
  constructor
  · intro h u hu
    rw [meet_bit, val_full hc hu, Bool.true_and, List.all_eq_true]
    intro t ht
    by_cases e : t.unit = (u : Int)
    · have := h t ht
      rw [e] at this
      simp only [Int.toNat_natCast] at this
      rw [this, Bool.or_true]
    · simp [e]
  · intro h t ht
    have ht' := hl t ht
    simp at ht'
    have hu : t.unit.toNat < ns.length := by omega
    have := h t.unit.toNat hu
    rw [meet_bit, val_full hc hu, Bool.true_and, List.all_eq_true] at this
    have := this t ht
    have e : t.unit = (t.unit.toNat : Int) := by omega
    rw [← e, decide_eq_false (by simp), Bool.false_or] at this
    exact this
theorem holdN_congr {M M' : Nat → Nat} (h : ∀ u, u < ns.length → M u = M' u) (c : List Int) : holdN ns M c = holdN ns M' c := by
  apply Bool.eq_iff_iff.2
  rw [holdN_iff, holdN_iff]
  constructor
  · intro h1 u hu; rw [← h u hu]; exact h1 u hu
  · intro h1 u hu; rw [h u hu]; exact h1 u hu
theorem okN_congr {M M' : Nat → Nat} (h : ∀ u, u < ns.length → M u = M' u) : okN ns M = okN ns M' := by
  apply Bool.eq_iff_iff.2
  rw [okN_iff, okN_iff]
  constructor
  · intro h1 u hu; rw [← h u hu]; exact h1 u hu
  · intro h1 u hu; rw [h u hu]; exact h1 u hu
theorem madeN_congr {M M' : Nat → Nat} (h : ∀ u, u < ns.length → M u = M' u) : madeN ns M = madeN ns M' := by
  unfold madeN
  rw [okN_congr h, canon_congr h]
theorem holdL_canon (ho : NsOk ns) {c : List Int} (hc : ChoiceOk ns c) {M : Nat → Nat} (hM : IncOk ns M) : holdL c (canon ns M) = holdN ns M c := by
  rw [holdL_make hc (inR_canon M)]
  exact holdN_congr (fun u hu => meet_canon ho hM hu) c
/-- If a choice makes them hold, none is empty. -/
theorem holdN_ok {M : Nat → Nat} {c : List Int} (h : holdN ns M c = true) : okN ns M = true := by
  rw [okN_iff]
  rw [holdN_iff] at h
  intro u hu h0
  have := h u hu
  rw [h0, Nat.zero_testBit] at this
  cases this

/-- What follows of two, as to a unit. -/
def joinN (Ma Mb : Nat → Nat) (unit : Nat) (u : Nat) : Nat := if u = unit then Ma u ||| Mb u else Ma u &&& Mb u
def joinL (ns : List Nat) (Ma Mb : Nat → Nat) (unit : Nat) : List Term := (canon ns Ma ++ canon ns Mb).filter (fun t => t.unit != (unit : Int)) ++ [⟨(unit : Int), ((Ma unit ||| Mb unit : Nat) : Int)⟩]
theorem all_filter_ne {l : List Term} {unit u k : Nat} : ((l.filter fun t => t.unit != (unit : Int)).all fun t => decide (t.unit ≠ (u : Int)) || (nm t.mask).testBit k) = (decide (u = unit) || l.all fun t => decide (t.unit ≠ (u : Int)) || (nm t.mask).testBit k) := by
  by_cases e : u = unit
  · subst e
    rw [decide_eq_true rfl, Bool.true_or, List.all_eq_true]
    intro t ht
    have := (List.mem_filter.1 ht).2
    simp at this
    simp [this]
  · rw [decide_eq_false e, Bool.false_or]
    apply Bool.eq_iff_iff.2
    rw [List.all_eq_true, List.all_eq_true]
    constructor
    · intro h t ht
      by_cases h1 : t.unit = (u : Int)
      · exact h t (List.mem_filter.2 ⟨ht, by simp; omega⟩)
      · simp [h1]
    · intro h t ht
      exact h t (List.mem_filter.1 ht).1
theorem meet_join (ho : NsOk ns) {Ma Mb : Nat → Nat} (ha : IncOk ns Ma) (hb : IncOk ns Mb) {unit u : Nat} (hun : unit < ns.length) (hu : u < ns.length) : meetN ns (joinL ns Ma Mb unit) u = joinN Ma Mb unit u := by
  apply Nat.eq_of_testBit_eq
  intro k
  have h1 := canon_all ho ha hu k
  have h2 := canon_all ho hb hu k
  rw [meet_bit]
  unfold joinL joinN
  rw [List.all_append, all_filter_ne, List.all_append]
  have hle : Ma unit ||| Mb unit ≤ 31 := or_le31 (ha.le ho _ hun) (hb.le ho _ hun)
  have hn : nm ((Ma unit ||| Mb unit : Nat) : Int) = Ma unit ||| Mb unit := nm_nat (by omega)
  simp only [List.all_cons, List.all_nil, Bool.and_true, hn]
  by_cases e : u = unit
  · subst e
    rw [if_pos rfl]
    simp only [decide_true, Bool.true_or, Bool.true_and, ne_eq, not_true_eq_false, decide_false, Bool.false_or]
    cases hb1 : (Ma u ||| Mb u).testBit k with
    | false => simp
    | true =>
      rw [Nat.testBit_or, Bool.or_eq_true] at hb1
      rcases hb1 with h | h
      · rw [ha.bit hu h]; rfl
      · rw [hb.bit hu h]; rfl
  · rw [if_neg e, Nat.testBit_and, ← h1, ← h2]
    have : ¬ ((unit : Int) = (u : Int)) := by omega
    simp only [decide_eq_false e, Bool.false_or, ne_eq, this, not_false_eq_true, decide_true, Bool.true_or, Bool.and_true]
    cases (fullN ns u).testBit k <;> simp
theorem join_make (ho : NsOk ns) {Ma Mb : Nat → Nat} (ha : IncOk ns Ma) (hb : IncOk ns Mb) {unit : Nat} (hun : unit < ns.length) : makeN ns (joinL ns Ma Mb unit) = madeN ns (joinN Ma Mb unit) := by
  unfold makeN
  have h1 : inR ns (joinL ns Ma Mb unit) = true := by
    unfold joinL
    rw [inR_append, Bool.and_eq_true]
    constructor
    · have h2 : inR ns (canon ns Ma ++ canon ns Mb) = true := by rw [inR_append, inR_canon, inR_canon]; rfl
      unfold inR at h2 ⊢
      rw [List.all_eq_true] at h2 ⊢
      intro t ht
      exact h2 t (List.mem_filter.1 ht).1
    · unfold inR
      simp [hun]
  rw [if_pos h1]
  exact madeN_congr fun u hu => meet_join ho ha hb hun hu
theorem join_ok {Ma Mb : Nat → Nat} (ha : IncOk ns Ma) (hb : IncOk ns Mb) {unit : Nat} (h : okN ns (joinN Ma Mb unit) = true) : IncOk ns (joinN Ma Mb unit) := by
  refine ⟨okN_iff.1 h, fun u hu => sub_full fun k hk => ?_⟩
  unfold joinN at hk
  split at hk
  · rw [Nat.testBit_or, Bool.or_eq_true] at hk
    rcases hk with hk | hk
    · exact ha.bit hu hk
    · exact hb.bit hu hk
  · rw [Nat.testBit_and, Bool.and_eq_true] at hk
    exact ha.bit hu hk.1
theorem join_comm (Ma Mb : Nat → Nat) (unit u : Nat) : joinN Ma Mb unit u = joinN Mb Ma unit u := by
  unfold joinN
  split
  · exact Nat.or_comm _ _
  · exact Nat.and_comm _ _
theorem join_self (M : Nat → Nat) (unit u : Nat) : joinN M M unit u = M u := by
  unfold joinN
  split
  · exact Nat.or_self _
  · exact Nat.and_self _
theorem join_sound {Ma Mb : Nat → Nat} {unit : Nat} {c : List Int} (h : holdN ns (joinN Ma Mb unit) c = true) : holdN ns Ma c = true ∨ holdN ns Mb c = true := by
  rw [holdN_iff] at h
  have hrest : ∀ u, u < ns.length → u ≠ unit → (Ma u).testBit (c.getD u 0 + 1).toNat = true ∧ (Mb u).testBit (c.getD u 0 + 1).toNat = true := by
    intro u hu hne
    have := h u hu
    unfold joinN at this
    rw [if_neg hne, Nat.testBit_and, Bool.and_eq_true] at this
    exact this
  by_cases hun : unit < ns.length
  · have := h unit hun
    unfold joinN at this
    rw [if_pos rfl, Nat.testBit_or, Bool.or_eq_true] at this
    rcases this with h1 | h1
    · exact .inl (holdN_iff.2 fun u hu => if e : u = unit then e ▸ h1 else (hrest u hu e).1)
    · exact .inr (holdN_iff.2 fun u hu => if e : u = unit then e ▸ h1 else (hrest u hu e).2)
  · exact .inl (holdN_iff.2 fun u hu => (hrest u hu (by omega)).1)
theorem join_both {Ma Mb : Nat → Nat} {unit : Nat} {c : List Int} (h1 : holdN ns Ma c = true) (h2 : holdN ns Mb c = true) : holdN ns (joinN Ma Mb unit) c = true := by
  rw [holdN_iff] at h1 h2 ⊢
  intro u hu
  unfold joinN
  split
  · rw [Nat.testBit_or, h1 u hu]; rfl
  · rw [Nat.testBit_and, h1 u hu, h2 u hu]; rfl

/-- a says as much as b says, or more. -/
def withinN (ns : List Nat) (Ma Mb : Nat → Nat) : Bool := (List.range ns.length).all fun u => decide (Mb u &&& Ma u = Mb u)
def withinL (ns : List Nat) (l : List Term) (Mb : Nat → Nat) : Bool := l.all fun t => decide (maskN ns Mb t.unit &&& nm t.mask = maskN ns Mb t.unit)
theorem withinN_iff {Ma Mb : Nat → Nat} : withinN ns Ma Mb = true ↔ ∀ u, u < ns.length → Mb u &&& Ma u = Mb u := by
  unfold withinN
  simp only [List.all_eq_true, List.mem_range, decide_eq_true_eq]
theorem within_canon (ho : NsOk ns) {Ma Mb : Nat → Nat} (ha : IncOk ns Ma) (hb : IncOk ns Mb) : withinL ns (canon ns Ma) Mb = withinN ns Ma Mb := by
  have hle := ha.le ho
  apply Bool.eq_iff_iff.2
  rw [withinN_iff]
  unfold withinL
  rw [List.all_eq_true]
  constructor
  · intro h u hu
    by_cases hf : Ma u = fullN ns u
    · rw [hf]; exact hb.sub u hu
    · have := h _ (canon_mem.2 ⟨u, hu, hf, rfl⟩)
      rw [decide_eq_true_eq] at this
      rw [maskN_nat Mb hu, nm_nat (by have := hle u hu; omega)] at this
      exact this
  · intro h t ht
    obtain ⟨u, hu, _, rfl⟩ := canon_mem.1 ht
    rw [decide_eq_true_eq]
    rw [maskN_nat Mb hu, nm_nat (by have := hle u hu; omega)]
    exact h u hu
theorem within_self (M : Nat → Nat) : withinN ns M M = true := withinN_iff.2 fun _u _ => Nat.and_self _
theorem within_anti {Ma Mb : Nat → Nat} (h1 : withinN ns Ma Mb = true) (h2 : withinN ns Mb Ma = true) : canon ns Ma = canon ns Mb := by
  rw [withinN_iff] at h1 h2
  exact canon_congr fun u hu => by rw [← h2 u hu, Nat.and_comm, h1 u hu]
theorem within_hold {Ma Mb : Nat → Nat} {c : List Int} (h : withinN ns Ma Mb = true) (hb : holdN ns Mb c = true) : holdN ns Ma c = true := by
  rw [withinN_iff] at h
  rw [holdN_iff] at hb ⊢
  intro u hu
  have := hb u hu
  rw [← h u hu, Nat.testBit_and, Bool.and_eq_true] at this
  exact this.2

/-- A world's choice by its number. -/
def choiceF : List Nat → Nat → List Int
  | [], _ => []
  | k :: r, n => (((n % (k + 1) : Nat) : Int) - 1) :: choiceF r (n / (k + 1))
def prodN : List Nat → Nat
  | [] => 1
  | k :: r => (k + 1) * prodN r
theorem choice_ok : ∀ (ns : List Nat) (n : Nat), ChoiceOk ns (choiceF ns n)
  | [], _ => ⟨rfl, fun u h => by simp at h⟩
  | k :: r, n => by
    have ih := choice_ok r (n / (k + 1))
    refine ⟨by simp [choiceF, ih.len], fun u h => ?_⟩
    cases u with
    | zero =>
      have := Nat.mod_lt n (show 0 < k + 1 by omega)
      simp only [choiceF, List.getD_cons_zero, List.getElem_cons_zero]
      omega
    | succ u =>
      have := ih.val u (by simpa using h)
      simpa only [choiceF, List.getD_cons_succ, List.getElem_cons_succ] using this
theorem choice_all : ∀ (ns : List Nat) (c : List Int), ChoiceOk ns c → ∃ n, n < prodN ns ∧ choiceF ns n = c
  | [], c, h => by
    have : c = [] := List.eq_nil_of_length_eq_zero h.len
    subst this
    exact ⟨0, by decide, rfl⟩
  | k :: r, [], h => by have := h.len; simp at this
  | k :: r, a :: c, h => by
    obtain ⟨n, hn, hc⟩ := choice_all r c ⟨by simpa using h.len, fun u hu => by
      have := h.val (u + 1) (by simpa using hu)
      simpa only [List.getD_cons_succ, List.getElem_cons_succ] using this⟩
    have h0 := h.val 0 (by simp)
    simp only [List.getD_cons_zero, List.getElem_cons_zero] at h0
    obtain ⟨d, hd⟩ : ∃ d : Nat, a = (d : Int) - 1 := ⟨(a + 1).toNat, by omega⟩
    have hdk : d < k + 1 := by omega
    refine ⟨d + (k + 1) * n, ?_, ?_⟩
    · have h1 : (k + 1) * (n + 1) ≤ (k + 1) * prodN r := Nat.mul_le_mul_left _ hn
      rw [Nat.mul_add] at h1
      show d + (k + 1) * n < (k + 1) * prodN r
      omega
    · have e1 : (d + (k + 1) * n) % (k + 1) = d := by rw [Nat.add_mul_mod_self_left, Nat.mod_eq_of_lt hdk]
      have e2 : (d + (k + 1) * n) / (k + 1) = n := by rw [Nat.add_mul_div_left _ _ (by omega), Nat.div_eq_of_lt hdk]; omega
      simp only [choiceF, e1, e2, hc, hd]
def sizeGo : Nat → List Nat → Nat
  | n, [] => n
  | n, k :: r => if n < 1000000 then sizeGo (n * (k + 1)) r else n
def sizeN (ns : List Nat) : Nat := sizeGo 1 ns
theorem sizeGo_eq : ∀ (ns : List Nat) (n : Nat), sizeGo n ns < 1000000 → sizeGo n ns = n * prodN ns
  | [], n, _ => by simp [sizeGo, prodN]
  | k :: r, n, h => by
    unfold sizeGo at h ⊢
    split
    · rename_i h1
      rw [if_pos h1] at h
      rw [sizeGo_eq r _ h]
      simp [prodN, Nat.mul_assoc]
    · rename_i h1
      rw [if_neg h1] at h
      exact absurd h h1
theorem sizeN_eq (h : sizeN ns < 1000000) : sizeN ns = prodN ns := by
  have := sizeGo_eq ns 1 h
  rw [Nat.one_mul] at this
  exact this
theorem sizeGo_pos : ∀ (ns : List Nat) (n : Nat), 1 ≤ n → 1 ≤ sizeGo n ns
  | [], n, h => h
  | k :: r, n, h => by
    unfold sizeGo
    split
    · exact sizeGo_pos r _ (Nat.le_trans h (Nat.le_mul_of_pos_right _ (by omega)))
    · exact h
theorem sizeN_pos (ns : List Nat) : 1 ≤ sizeN ns := sizeGo_pos ns 1 (Nat.le_refl _)

/-- What every choice says, Within says. -/
theorem within_all {Ma Mb : Nat → Nat} (hb : IncOk ns Mb) (h : ∀ n, n < prodN ns → holdN ns Mb (choiceF ns n) = true → holdN ns Ma (choiceF ns n) = true) : withinN ns Ma Mb = true := by
  rw [withinN_iff]
  intro u hu
  apply Nat.eq_of_testBit_eq
  intro k
  rw [Nat.testBit_and]
  cases hbk : (Mb u).testBit k with
  | false => rfl
  | true =>
    classical
    have pick : ∀ v, v < ns.length → ∃ i, (Mb v).testBit i = true ∧ i ≤ ns.getD v 0 := by
      intro v hv
      obtain ⟨i, hi⟩ := Nat.exists_testBit_of_ne_zero (hb.pos v hv)
      have := hb.bit hv hi
      rw [full_bit hv, decide_eq_true_eq] at this
      exact ⟨i, hi, by rw [List.getD_eq_getElem?_getD, List.getElem?_eq_getElem hv]; exact this⟩
    have hku := hb.bit hu hbk
    rw [full_bit hu, decide_eq_true_eq] at hku
    obtain ⟨f, hf⟩ : ∃ f : Nat → Nat, ∀ v, v < ns.length → (Mb v).testBit (f v) = true ∧ f v ≤ ns.getD v 0 := by
      refine ⟨fun v => if h : ∃ i, (Mb v).testBit i = true ∧ i ≤ ns.getD v 0 then h.choose else 0, fun v hv => ?_⟩
      have hp := pick v hv
      simp only [dif_pos hp]
      exact hp.choose_spec
    let c : List Int := (List.range ns.length).map fun v => ((if v = u then k else f v : Nat) : Int) - 1
    have hcl : c.length = ns.length := by simp [c]
    have hcv : ∀ v, v < ns.length → c.getD v 0 = ((if v = u then k else f v : Nat) : Int) - 1 := by
      intro v hv
      simp [c, List.getD_eq_getElem?_getD, hv]
    have hcok : ChoiceOk ns c := by
      refine ⟨hcl, fun v hv => ?_⟩
      rw [hcv v hv]
      split
      · rename_i e
        subst e
        omega
      · have := (hf v hv).2
        rw [List.getD_eq_getElem?_getD, List.getElem?_eq_getElem hv] at this
        simp only [Option.getD_some] at this
        omega
    have hcb : holdN ns Mb c = true := by
      rw [holdN_iff]
      intro v hv
      rw [hcv v hv]
      split
      · rename_i e
        subst e
        have e2 : ((k : Int) - 1 + 1).toNat = k := by omega
        rw [e2]; exact hbk
      · have e2 : ((f v : Int) - 1 + 1).toNat = f v := by omega
        rw [e2]; exact (hf v hv).1
    obtain ⟨n, hn, hcn⟩ := choice_all ns c hcok
    have ha := h n hn (by rw [hcn]; exact hcb)
    rw [hcn, holdN_iff] at ha
    have := ha u hu
    rw [hcv u hu, if_pos rfl] at this
    have e2 : ((k : Int) - 1 + 1).toNat = k := by omega
    rw [e2] at this
    rw [this]; rfl

/-- Terms of two together. -/
theorem meet_two (ho : NsOk ns) {Ma Mb : Nat → Nat} (ha : IncOk ns Ma) (hb : IncOk ns Mb) {u : Nat} (hu : u < ns.length) : meetN ns (canon ns Ma ++ canon ns Mb) u = Ma u &&& Mb u := by
  apply Nat.eq_of_testBit_eq
  intro k
  rw [meet_bit, List.all_append, Nat.testBit_and, ← canon_all ho ha hu, ← canon_all ho hb hu]
  cases (fullN ns u).testBit k <;> simp
theorem meets_law (ho : NsOk ns) {Ma Mb : Nat → Nat} (ha : IncOk ns Ma) (hb : IncOk ns Mb) (c : List Int) :
    (holdN ns Ma c && holdN ns Mb c) = holdN ns (meetN ns (canon ns Ma ++ canon ns Mb)) c := by
  apply Bool.eq_iff_iff.2
  rw [Bool.and_eq_true, holdN_iff, holdN_iff, holdN_iff]
  constructor
  · intro ⟨h1, h2⟩ u hu
    rw [meet_two ho ha hb hu, Nat.testBit_and, h1 u hu, h2 u hu]; rfl
  · intro h
    exact ⟨fun u hu => by have := h u hu; rw [meet_two ho ha hb hu, Nat.testBit_and, Bool.and_eq_true] at this; exact this.1, fun u hu => by have := h u hu; rw [meet_two ho ha hb hu, Nat.testBit_and, Bool.and_eq_true] at this; exact this.2⟩
theorem make_two (ho : NsOk ns) {Ma Mb : Nat → Nat} (_ : IncOk ns Ma) (_ : IncOk ns Mb) : makeN ns (canon ns Ma ++ canon ns Mb) = madeN ns (meetN ns (canon ns Ma ++ canon ns Mb)) := by
  have _ := ho
  unfold makeN
  rw [inR_append, inR_canon, inR_canon]
  rfl
/-- Without one of its terms. -/
def dropN (ns : List Nat) (M : Nat → Nat) (at_ : Nat) (u : Nat) : Nat := if u = at_ then fullN ns u else M u
theorem drop_ok {M : Nat → Nat} (h : IncOk ns M) (a : Nat) : IncOk ns (dropN ns M a) := by
  refine ⟨fun u hu => ?_, fun u hu => ?_⟩
  · unfold dropN
    split
    · have := fullN_pos hu; omega
    · exact h.pos u hu
  · unfold dropN
    split
    · exact Nat.and_self _
    · exact h.sub u hu
theorem filterMap_drop {α β : Type} {f g : α → Option β} : ∀ {l : List α} {n : Nat} {b : β}, (l.filterMap f)[n]? = some b → (∃ a ∈ l, f a = some b ∧ g a = none ∧ (∀ x ∈ l, x ≠ a → g x = f x) ∧ ∀ x ∈ l, f x = some b → x = a) → l.Nodup → l.filterMap g = (l.filterMap f).take n ++ (l.filterMap f).drop (n + 1)
  | [], n, b, h, _, _ => by simp at h
  | y :: l, n, b, h, ⟨a, hal, ha, hga, hg, hu⟩, hn => by
    have hny := (List.nodup_cons.1 hn).1
    have hnl := (List.nodup_cons.1 hn).2
    by_cases e : y = a
    · subst e
      have hfg : l.filterMap g = l.filterMap f := filterMap_same fun x hx => hg x (by simp [hx]) (fun e => hny (e ▸ hx))
      have e1 : (y :: l).filterMap f = b :: l.filterMap f := by rw [List.filterMap_cons, ha]
      have e2 : (y :: l).filterMap g = l.filterMap g := by rw [List.filterMap_cons, hga]
      rw [e1] at h ⊢
      rw [e2]
      cases n with
      | zero => simp [hfg]
      | succ n =>
        exfalso
        rw [List.getElem?_cons_succ] at h
        have hm := List.mem_of_getElem? h
        obtain ⟨x, hx, hxb⟩ := List.mem_filterMap.1 hm
        exact hny ((hu x (by simp [hx]) hxb) ▸ hx)
    · have hal' : a ∈ l := by
        rcases List.mem_cons.1 hal with h1 | h1
        · exact absurd h1.symm e
        · exact h1
      have hgy : g y = f y := hg y (by simp) e
      have ih := fun n' h' => @filterMap_drop α β f g l n' b h' ⟨a, hal', ha, hga, fun x hx => hg x (by simp [hx]), fun x hx => hu x (by simp [hx])⟩ hnl
      cases hfy : f y with
      | none =>
        have e1 : (y :: l).filterMap f = l.filterMap f := by rw [List.filterMap_cons, hfy]
        have e2 : (y :: l).filterMap g = l.filterMap g := by rw [List.filterMap_cons, hgy, hfy]
        rw [e1] at h ⊢
        rw [e2]
        exact ih n h
      | some z =>
        have e1 : (y :: l).filterMap f = z :: l.filterMap f := by rw [List.filterMap_cons, hfy]
        have e2 : (y :: l).filterMap g = z :: l.filterMap g := by rw [List.filterMap_cons, hgy, hfy]
        rw [e1] at h ⊢
        rw [e2]
        cases n with
        | zero =>
          rw [List.getElem?_cons_zero, Option.some.injEq] at h
          subst h
          exact absurd (hu y (by simp) hfy) e
        | succ n =>
          rw [List.getElem?_cons_succ] at h
          have := ih n h
          simp only [List.take_succ_cons, List.drop_succ_cons, List.cons_append, this]
theorem drop_canon {M : Nat → Nat} {n : Nat} {t : Term} (h : (canon ns M)[n]? = some t) : ∃ u, u < ns.length ∧ M u ≠ fullN ns u ∧ (canon ns M).take n ++ (canon ns M).drop (n + 1) = canon ns (dropN ns M u) := by
  obtain ⟨u, hu, hne, rfl⟩ := canon_mem.1 (List.mem_of_getElem? h)
  refine ⟨u, hu, hne, ?_⟩
  have hfu : tm ns M u = some ⟨(u : Int), (M u : Int)⟩ := by unfold tm; rw [if_neg hne]
  refine (filterMap_drop (f := tm ns M) (g := tm ns (dropN ns M u)) h ⟨u, List.mem_range.2 hu, hfu, ?_, ?_, ?_⟩ List.nodup_range).symm
  · unfold tm dropN; simp
  · intro x _ hx
    unfold tm dropN
    simp [hx]
  · intro x _ hx
    unfold tm at hx
    split at hx
    · cases hx
    · have := congrArg Term.unit (Option.some.inj hx)
      dsimp only at this
      omega
theorem drop_within {M : Nat → Nat} (h : IncOk ns M) {u : Nat} (hu : u < ns.length) (hne : M u ≠ fullN ns u) : withinN ns (dropN ns M u) M = true ∧ withinN ns M (dropN ns M u) = false := by
  constructor
  · rw [withinN_iff]
    intro v hv
    unfold dropN
    split
    · exact h.sub v hv
    · exact Nat.and_self _
  · cases hw : withinN ns M (dropN ns M u) with
    | false => rfl
    | true =>
      exfalso
      rw [withinN_iff] at hw
      have := hw u hu
      unfold dropN at this
      rw [if_pos rfl, Nat.and_comm, h.sub u hu] at this
      exact hne this
/-- With one more term. -/
theorem more_within (ho : NsOk ns) {M : Nat → Nat} (h : IncOk ns M) (t : Term) : withinN ns M (meetN ns (canon ns M ++ [t])) = true := by
  rw [withinN_iff]
  intro u hu
  apply Nat.eq_of_testBit_eq
  intro k
  rw [Nat.testBit_and, meet_bit, List.all_append]
  have := canon_all ho h hu k
  rw [← this]
  cases (fullN ns u).testBit k <;> cases (canon ns M).all _ <;> simp
end
end Go.Proofs.YtilkhofgcgfnlaaGreat
