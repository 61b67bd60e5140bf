/- What is made of terms, by a map of masks, plainly. No program stands here. -/
import Derived.Test.YtilkhofgcgfnlaaGreatP2
import Derived.Test.YtilkhofgcgfnlaaGreatMapi
import Derived.Outline
namespace Go.Proofs.YtilkhofgcgfnlaaGreat
open Go Go.RowKit

/-- What terms leave of a unit, whichever number it is. -/
def meetI (ns : List Nat) (l : List Term) (u : Int) : Nat := if u < 0 then 0 else meetN ns l u.toNat
def named (l : List Term) (u : Int) : Bool := l.any fun t => t.unit == u
def mapOf (ns : List Nat) (l : List Term) (u : Int) : Option Int := if named l u then some ((meetI ns l u : Nat) : Int) else none
def gI (ns : List Nat) (l : List Term) (u : Int) : Option Term := if ((meetI ns l u : Nat) : Int) = fullF ns u then none else some ⟨u, ((meetI ns l u : Nat) : Int)⟩
section
variable {ns : List Nat} {l : List Term}
theorem meetI_snoc (l : List Term) (t : Term) (u : Int) : meetI ns (l ++ [t]) u = if t.unit = u then meetI ns l u &&& nm t.mask else meetI ns l u := by
  unfold meetI
  by_cases h : u < 0
  · simp [h]
  · rw [if_neg h, if_neg h, meetN_snoc]
    have : (u.toNat : Int) = u := by omega
    rw [this]
theorem meetI_take {k : Nat} (hk : k < l.length) (u : Int) : meetI ns (l.take (k + 1)) u = if l[k].unit = u then meetI ns (l.take k) u &&& nm l[k].mask else meetI ns (l.take k) u := by
  rw [List.take_succ_eq_append_getElem hk, meetI_snoc]
theorem meetI_le (ho : NsOk ns) (l : List Term) (u : Int) : meetI ns l u ≤ 31 := by
  unfold meetI
  split
  · omega
  · exact Nat.le_trans (meetN_le l _) (fullN_le ho _)
theorem meetI_nil (u : Int) : ((meetI ns [] u : Nat) : Int) = fullF ns u := by
  unfold meetI
  by_cases h : u < 0
  · rw [if_pos h, fullF_neg u h]; rfl
  · rw [if_neg h, fullF_eq u (by omega)]; rfl
theorem meetN_other {u : Nat} : ∀ {l : List Term}, (∀ t ∈ l, t.unit ≠ (u : Int)) → ∀ a : Nat, l.foldl (fun a t => if t.unit = (u : Int) then a &&& nm t.mask else a) a = a
  | [], _, _ => rfl
  | t :: l, h, a => by
    rw [List.foldl_cons, if_neg (h t (by simp))]
    exact meetN_other (fun t' ht' => h t' (by simp [ht'])) a
theorem meetI_unnamed {u : Int} (h : named l u = false) : ((meetI ns l u : Nat) : Int) = fullF ns u := by
  rw [← meetI_nil]
  unfold meetI
  split
  · rfl
  · rename_i h0
    unfold named at h
    rw [List.any_eq_false] at h
    have : meetN ns l u.toNat = fullN ns u.toNat := meetN_other (fun t ht e => by
      have := h t ht
      simp at this
      omega) _
    rw [this]; rfl
theorem named_take {k : Nat} (hk : k < l.length) (u : Int) : named (l.take (k + 1)) u = (named (l.take k) u || l[k].unit == u) := by
  unfold named
  rw [List.take_succ_eq_append_getElem hk, List.any_append]
  simp
theorem mapOf_step {k : Nat} (hk : k < l.length) (u : Int) : mapOf ns (l.take (k + 1)) u = if u = l[k].unit then some (((meetI ns (l.take k) l[k].unit &&& nm l[k].mask : Nat) : Nat) : Int) else mapOf ns (l.take k) u := by
  unfold mapOf
  rw [named_take hk, meetI_take hk]
  by_cases e : u = l[k].unit
  · subst e; simp
  · have e' : ¬ l[k].unit = u := fun h => e h.symm
    simp [e, e']
/-- What is there at a unit: named or not. -/
theorem have_named {u : Int} (h : named l u = true) : mapOf ns l u = some ((meetI ns l u : Nat) : Int) := by unfold mapOf; rw [if_pos h]
theorem have_unnamed {u : Int} (h : named l u = false) : mapOf ns l u = none := by unfold mapOf; rw [h]; rfl
theorem meetI_zero {k : Nat} {u : Int} (h : meetI ns (l.take k) u = 0) : meetI ns l u = 0 := by
  unfold meetI at h ⊢
  split
  · rfl
  · rename_i h0
    rw [if_neg h0] at h
    have h1 : meetN ns l u.toNat = (l.drop k).foldl (fun a t => if t.unit = (u.toNat : Int) then a &&& nm t.mask else a) (meetN ns (l.take k) u.toNat) := by
      unfold meetN
      rw [← List.foldl_append, List.take_append_drop]
    have h2 := fold_le (l.drop k) u.toNat (meetN ns (l.take k) u.toNat)
    rw [h1]
    omega
theorem make_zero {k : Nat} (hk : k < l.length) (h : meetI ns (l.take (k + 1)) l[k].unit = 0) : makeN ns l = none := by
  have h1 := meetI_zero h
  unfold makeN
  cases hr : inR ns l with
  | false => rfl
  | true =>
    unfold inR at hr
    rw [List.all_eq_true] at hr
    have h2 := hr _ (List.getElem_mem hk)
    simp at h2
    unfold meetI at h1
    rw [if_neg (by omega)] at h1
    unfold madeN
    cases hok : okN ns (meetN ns l) with
    | false => rfl
    | true => exact absurd h1 (okN_iff.1 hok _ (by omega))
theorem make_all (h : ∀ j, (hj : j < l.length) → meetI ns l l[j].unit ≠ 0) : makeN ns l = some (canon ns (meetN ns l)) := by
  have hin : ∀ j, (hj : j < l.length) → 0 ≤ l[j].unit ∧ l[j].unit < ns.length := by
    intro j hj
    have h1 := h j hj
    unfold meetI at h1
    split at h1
    · exact absurd rfl h1
    · rename_i h0
      refine ⟨by omega, ?_⟩
      rcases Nat.lt_or_ge l[j].unit.toNat ns.length with h2 | h2
      · omega
      · exfalso
        have h3 := meetN_le (ns := ns) l l[j].unit.toNat
        rw [fullN_out (by omega)] at h3
        omega
  have hr : inR ns l = true := by
    unfold inR
    rw [List.all_eq_true]
    intro t ht
    obtain ⟨j, hj, rfl⟩ := List.getElem_of_mem ht
    have := hin j hj
    simp [this]
  have hok : okN ns (meetN ns l) = true := by
    rw [okN_iff]
    intro u hu h0
    cases hn : named l (u : Int) with
    | false =>
      have h1 := meetI_unnamed (ns := ns) hn
      unfold meetI at h1
      rw [if_neg (by omega), Int.toNat_natCast, h0, fullF_nat] at h1
      have := fullN_pos hu
      omega
    | true =>
      unfold named at hn
      rw [List.any_eq_true] at hn
      obtain ⟨t, ht, e⟩ := hn
      obtain ⟨j, hj, rfl⟩ := List.getElem_of_mem ht
      simp at e
      have h1 := h j hj
      unfold meetI at h1
      rw [if_neg (by omega), e, Int.toNat_natCast] at h1
      exact h1 h0
  unfold makeN madeN
  rw [hr, hok]
  rfl
theorem keys_canon (hin : inR ns l = true) {ks : List Int} (h1 : ks.Pairwise (· < ·)) (h2 : ∀ u, u ∈ ks ↔ named l u = true) : ks.filterMap (gI ns l) = canon ns (meetN ns l) := by
  have hr : ∀ u, named l u = true → 0 ≤ u ∧ u < ns.length := by
    intro u hu
    unfold named at hu
    rw [List.any_eq_true] at hu
    obtain ⟨t, ht, e⟩ := hu
    unfold inR at hin
    rw [List.all_eq_true] at hin
    have := hin t ht
    simp at this e
    omega
  have hks : ks = ((List.range ns.length).map fun u : Nat => (u : Int)).filter fun u => named l u := by
    refine rising_eq h1 (List.Pairwise.filter _ (List.pairwise_map.2 (List.pairwise_lt_range.imp fun h => by omega))) fun u => ?_
    rw [h2, List.mem_filter]
    constructor
    · intro hu
      have := hr u hu
      exact ⟨List.mem_map.2 ⟨u.toNat, List.mem_range.2 (by omega), by omega⟩, hu⟩
    · exact fun h => h.2
  have hoff : ∀ u, named l u = false → gI ns l u = none := fun u hu => by unfold gI; rw [if_pos (meetI_unnamed hu)]
  have hf : ∀ m : List Int, (m.filter fun u => named l u).filterMap (gI ns l) = m.filterMap (gI ns l) := by
    intro m
    induction m with
    | nil => rfl
    | cons a m ih =>
      cases ha : named l a with
      | true => rw [List.filter_cons_of_pos (by exact ha), List.filterMap_cons, List.filterMap_cons, ih]
      | false => rw [List.filter_cons_of_neg (by rw [ha]; decide), ih, List.filterMap_cons, hoff a ha]
  rw [hks, hf, List.filterMap_map]
  unfold canon canonTo
  refine filterMap_same fun u hu => ?_
  have hu := List.mem_range.1 hu
  show gI ns l (u : Int) = tm ns (meetN ns l) u
  have e0 : meetI ns l (u : Int) = meetN ns l u := by unfold meetI; rw [if_neg (show ¬ (u : Int) < 0 by omega), Int.toNat_natCast]
  unfold gI tm
  rw [e0, fullF_nat]
  by_cases e : meetN ns l u = fullN ns u
  · rw [if_pos (by omega), if_pos e]
  · rw [if_neg (by omega), if_neg e]
end
end Go.Proofs.YtilkhofgcgfnlaaGreat
