import Derived.Test.YtilgijmokjekgaaGreatDoorzBase
import Derived.Maps.OwnSet
import Derived.Maps.Range
import Derived.Lib.SlKeysI
import Derived.Outline
section
/- Maps of integers that the call makes, as functions of their keys. No program stands here. -/
namespace Go.Proofs.YtilgijmokjekgaaGreatDoor
open Go Go.RowKit Go.Maps

section
variable {P : Program} {kt T : TypeId} {w w' : World} {b n : Nat} {f f' : Int → Option Int}
theorem wf_int {u : Int} (h : I64 u) : (Lit.int .i64 u).wf = true := by
  show (decide (IntKind.i64.min ≤ u) && decide (u ≤ IntKind.i64.max)) = true
  rw [Bool.and_eq_true, decide_eq_true_eq, decide_eq_true_eq]
  exact h
theorem int_wf {u : Int} (h : (Lit.int .i64 u).wf = true) : I64 u := by
  have h2 : (decide (IntKind.i64.min ≤ u) && decide (u ≤ IntKind.i64.max)) = true := h
  rw [Bool.and_eq_true, decide_eq_true_eq, decide_eq_true_eq] at h2
  exact h2
theorem keyOf_int (hk : P.underlying kt = some (.int .i64)) {u : Int} (h : I64 u) : keyOf P kt (.int .i64 u) = some (.int .i64 u) := by
  simp [keyOf, hk, mapKey, wf_int h]
/-- Block b holds a map of integers: f of its keys. -/
def MapI (P : Program) (kt : TypeId) (w : World) (b n : Nat) (f : Int → Option Int) : Prop :=
  ∃ D : DataW Unit, w.ownsMap P kt (plainElem P kt) b n D ∧ Tidy D ∧ ∀ u : Int, I64 u → has D (.int .i64 u) = (f u).isSome ∧ ∀ x, f u = some x → ∀ z, D.atKey (.int .i64 u) z = .lit (.int .i64 x)
theorem MapI.lt (h : MapI P kt w b n f) : b < w.heap.size := by obtain ⟨D, h1, _⟩ := h; exact h1.lt
theorem MapI.keep (h : MapI P kt w b n f) (hk : w'.heap[b]? = w.heap[b]?) : MapI P kt w' b n f := by
  obtain ⟨D, ⟨es, clock, h1, h2⟩, h3⟩ := h
  exact ⟨D, ⟨es, clock, hk.trans h1, h2⟩, h3⟩
theorem MapI.below {B : Nat} (h : MapI P kt w b n f) (hb : Below B w w') (hB : b < B) : MapI P kt w' b n f := h.keep (hb.block b hB)
theorem MapI.congr (h : MapI P kt w b n f) (he : ∀ u, I64 u → f u = f' u) : MapI P kt w b n f' := by
  obtain ⟨D, h1, h2, h3⟩ := h
  exact ⟨D, h1, h2, fun u hu => by rw [← he u hu]; exact h3 u hu⟩
theorem MapI.made (P : Program) (kt : TypeId) (w : World) : MapI P kt (w.alloc (.map #[] 0)) w.heap.size 0 (fun _ => none) :=
  ⟨.map [], World.ownsMap_made _ _ _ _, tidy_empty, fun _ _ => ⟨rfl, fun _ h => by cases h⟩⟩
theorem wpList_look2_i {ops : Array Oper} {rest : List Oper} {o : Oper} {a : Act} {Q : Exit → Act → World → Prop} (hg : o.guard = none) (m x : Operand) (hop : o.op = Op.lookup T m x true)
    (hT : P.underlying T = some (.map kt kt)) (hk : P.underlying kt = some (.int .i64)) (hz : (zeroValue kt).run P w = .ok (.int .i64 0) w) (b n : Nat) (f : Int → Option Int) (hm : a.eval m = .map (some b)) (h : MapI P kt w b n f) (u : Int) (hx : a.eval x = .int .i64 u) (hu : I64 u)
    (hK : wpList P ops Q rest (a.put o.dst (.tuple #[.int .i64 ((f u).getD 0), .bool (f u).isSome])) w) : wpList P ops Q (o :: rest) a w := by
  obtain ⟨D, h1, _, h3⟩ := h
  refine wpList_lookup_own_ok_int w hg m x T hop kt kt .i64 (int_keyed hk) hT hk hz b n D hm h1 (.int .i64 u) _ hx (keyOf_int hk hu) fun c hc _ => ?_
  obtain ⟨h4, h5⟩ := h3 u hu
  have e : c = (f u).getD 0 := by
    cases hf : f u with
    | none =>
      rw [hf] at h4
      rw [atKey_of_not_has h4] at hc
      injection hc with hc
      injection hc with _ hc
      exact hc.symm
    | some y =>
      rw [h5 y hf] at hc
      injection hc with hc
      injection hc with _ hc
      exact hc.symm
  rw [h4, e]
  exact hK
theorem wpList_look_i {ops : Array Oper} {rest : List Oper} {o : Oper} {a : Act} {Q : Exit → Act → World → Prop} (hg : o.guard = none) (m x : Operand) (hop : o.op = Op.lookup T m x false)
    (hT : P.underlying T = some (.map kt kt)) (hk : P.underlying kt = some (.int .i64)) (hz : (zeroValue kt).run P w = .ok (.int .i64 0) w) (b n : Nat) (f : Int → Option Int) (hm : a.eval m = .map (some b)) (h : MapI P kt w b n f) (u : Int) (hx : a.eval x = .int .i64 u) (hu : I64 u)
    (hK : wpList P ops Q rest (a.put o.dst (.int .i64 ((f u).getD 0))) w) : wpList P ops Q (o :: rest) a w := by
  obtain ⟨D, h1, _, h3⟩ := h
  refine wpList_lookup_own_int w hg m x T hop kt kt .i64 (int_keyed hk) hT hk hz b n D hm h1 (.int .i64 u) _ hx (keyOf_int hk hu) fun c hc _ => ?_
  obtain ⟨h4, h5⟩ := h3 u hu
  have e : c = (f u).getD 0 := by
    cases hf : f u with
    | none =>
      rw [hf] at h4
      rw [atKey_of_not_has h4] at hc
      injection hc with hc
      injection hc with _ hc
      exact hc.symm
    | some y =>
      rw [h5 y hf] at hc
      injection hc with hc
      injection hc with _ hc
      exact hc.symm
  rw [e]
  exact hK
/-- The look-up as a run. -/
theorem MapI.run_look (hT : P.underlying T = some (.map kt kt)) (hk : P.underlying kt = some (.int .i64)) (hz : (zeroValue kt).run P w = .ok (.int .i64 0) w) (h : MapI P kt w b n f) (u : Int) (hu : I64 u) :
    (Instr.lookup T (.map (some b)) (.int .i64 u) false).run P w = .ok (.int .i64 ((f u).getD 0)) w := by
  obtain ⟨D, h1, _, h3⟩ := h
  obtain ⟨c, hr, hc, _⟩ := h1.lookup_int (int_keyed hk) hT hk hz (keyOf_int hk hu)
  obtain ⟨h4, h5⟩ := h3 u hu
  have e : c = (f u).getD 0 := by
    cases hf : f u with
    | none =>
      rw [hf] at h4
      rw [atKey_of_not_has h4] at hc
      injection hc with hc
      injection hc with _ hc
      exact hc.symm
    | some y =>
      rw [h5 y hf] at hc
      injection hc with hc
      injection hc with _ hc
      exact hc.symm
  rw [hr, e]
theorem wpList_upd_i {ops : Array Oper} {rest : List Oper} {o : Oper} {a : Act} {Q : Exit → Act → World → Prop} (hg : o.guard = none) (m x v : Operand) (hop : o.op = Op.mapUpdate T m x v)
    (hT : P.underlying T = some (.map kt kt)) (hk : P.underlying kt = some (.int .i64)) (b n : Nat) (f : Int → Option Int) (hm : a.eval m = .map (some b)) (h : MapI P kt w b n f) (hn : n < maxLen) (u y : Int) (hx : a.eval x = .int .i64 u) (hv : a.eval v = .int .i64 y) (hu : I64 u) (hy : I64 y)
    (hK : ∀ w', MapI P kt w' b (n + 1) (fun j => if j = u then some y else f j) → w.grownBy w' (some b) → wpList P ops Q rest (a.put o.dst undef) w') : wpList P ops Q (o :: rest) a w := by
  obtain ⟨D, h1, h2, h3⟩ := h
  refine wpList_mapUpdate_own w hg m x v T hop kt kt (int_keyed hk) hT (plainElem P kt) b n D hm h1 hn _ _ (.int .i64 u) hx hv (keyOf_int hk hu) (.lit (.int .i64 y)) [] (plainElem_int hk (wf_int hy)) fun w' h4 h5 => ?_
  have kl : ∀ i : Int, WideAt.IsKeyLit (Lit.int .i64 i) := fun _ => trivial
  refine hK w' ⟨_, h4, h2.put (kl u) _, fun j hj => ?_⟩ h5
  by_cases e : j = u
  · subst e
    simp only [if_true]
    exact ⟨has_put_same h2.isMap (kl j) _, fun x hx => fun z => by rw [atKey_put_same h2.isMap (kl j), Option.some.inj hx]⟩
  · simp only [if_neg e]
    have hne : Lit.int .i64 j ≠ Lit.int .i64 u := fun h => e (by injection h)
    rw [has_put_other hne]
    exact ⟨(h3 j hj).1, fun x hx => fun z => by rw [atKey_put_other hne]; exact (h3 j hj).2 x hx z⟩
/-- What its keys are. -/
theorem MapI.keys (h : MapI P kt w b n f) (hk : P.underlying kt = some (.int .i64)) : ∃ D : DataW Unit, w.ownsMap P kt (plainElem P kt) b n D ∧ Maps.size D ≤ n ∧ ∀ ss : List Int, ss.Perm (intKeys D) → ss.Nodup ∧ ∀ u, u ∈ ss ↔ I64 u ∧ (f u).isSome = true := by
  obtain ⟨D, h1, h2, h3⟩ := h
  refine ⟨D, h1, h1.size_le, fun ss hp => ?_⟩
  obtain ⟨es, hD, hpw, _⟩ := h1.entries (int_keyed hk)
  obtain ⟨es', hD', hko⟩ := h1.keysOf
  obtain rfl : es = es' := by rw [hD] at hD'; simpa using hD'
  have hkey : ∀ p ∈ es, ∃ x, p.1 = .int .i64 x ∧ I64 x := fun p hp => by
    obtain ⟨v, hv⟩ := hko p hp
    obtain ⟨x, _, hx, hw⟩ := Maps.keyOf_i64 hk hv
    exact ⟨x, hx, int_wf hw⟩
  have hnd : (intKeys D).Nodup := by
    rw [hD]
    show (es.map fun p => Go.intOf p.1).Nodup
    refine List.pairwise_map.2 (hpw.imp_of_mem fun {p q} hp' hq' hne e => hne ?_)
    obtain ⟨a, ha, _⟩ := hkey p hp'
    obtain ⟨c, hc, _⟩ := hkey q hq'
    rw [ha, hc] at e ⊢
    exact congrArg _ e
  refine ⟨hp.nodup_iff.2 hnd, fun u => ?_⟩
  rw [hp.mem_iff]
  have hm : u ∈ intKeys D ↔ ∃ p ∈ es, p.1 = .int .i64 u := by
    rw [hD]
    show u ∈ es.map (fun p => Go.intOf p.1) ↔ _
    rw [List.mem_map]
    constructor
    · rintro ⟨p, hp', rfl⟩
      obtain ⟨a, ha, _⟩ := hkey p hp'
      exact ⟨p, hp', by rw [ha]; rfl⟩
    · rintro ⟨p, hp', e⟩
      exact ⟨p, hp', by rw [e]; rfl⟩
  rw [hm]
  constructor
  · rintro ⟨p, hp', e⟩
    obtain ⟨x, hx, hxi⟩ := hkey p hp'
    rw [e] at hx
    injection hx with _ hx
    subst hx
    refine ⟨hxi, ?_⟩
    rw [← (h3 u hxi).1, hD, has_eq, List.any_eq_true]
    exact ⟨p, hp', by rw [e]; simp [Lit.sameKey]⟩
  · rintro ⟨hu, hs⟩
    rw [← (h3 u hu).1, hD, has_eq, List.any_eq_true] at hs
    obtain ⟨p, hp', hs⟩ := hs
    obtain ⟨x, hx, _⟩ := hkey p hp'
    rw [hx] at hs
    exact ⟨p, hp', by rw [hx]; simp [Lit.sameKey] at hs; rw [hs]⟩
end
theorem below_map' {w0 w w' : World} {b : Nat} (h : Below w0.heap.size w0 w) (hg : w.grownBy w' (some b)) (hb : w0.heap.size ≤ b) : Below w0.heap.size w0 w' :=
  h.grown hg h.size (fun k hk => by cases hk; exact hb)
/-- Two rising lists of the same numbers are one. -/
theorem rising_eq : ∀ {l m : List Int}, l.Pairwise (· < ·) → m.Pairwise (· < ·) → (∀ u, u ∈ l ↔ u ∈ m) → l = m
  | [], [], _, _, _ => rfl
  | [], b :: m, _, _, h => by have := (h b).2 (by simp); cases this
  | a :: l, [], _, _, h => by have := (h a).1 (by simp); cases this
  | a :: l, b :: m, h1, h2, h => by
    have ha := List.pairwise_cons.1 h1
    have hb := List.pairwise_cons.1 h2
    have hab : a = b := by
      rcases List.mem_cons.1 ((h a).1 (by simp)) with e | e
      · exact e
      · rcases List.mem_cons.1 ((h b).2 (by simp)) with e' | e'
        · exact e'.symm
        · have := ha.1 b e'
          have := hb.1 a e
          omega
    subst hab
    congr 1
    refine rising_eq ha.2 hb.2 fun u => ?_
    constructor
    · intro hu
      rcases List.mem_cons.1 ((h u).1 (by simp [hu])) with e | e
      · subst e
        have := ha.1 u hu
        omega
      · exact e
    · intro hu
      rcases List.mem_cons.1 ((h u).2 (by simp [hu])) with e | e
      · subst e
        have := hb.1 u hu
        omega
      · exact e
theorem sorted_rising {ss : List Int} (h : ss.Nodup) : (ss.mergeSort fun x y => decide (x ≤ y)).Pairwise (· < ·) := by
  have tr : ∀ a b c : Int, decide (a ≤ b) = true → decide (b ≤ c) = true → decide (a ≤ c) = true := fun a b c h1 h2 => by simp only [decide_eq_true_eq] at *; exact Int.le_trans h1 h2
  have to : ∀ a b : Int, (decide (a ≤ b) || decide (b ≤ a)) = true := fun a b => by simp only [Bool.or_eq_true, decide_eq_true_eq]; exact Int.le_total a b
  have h1 := List.pairwise_mergeSort tr to ss
  have h2 : (ss.mergeSort fun x y => decide (x ≤ y)).Nodup := (List.mergeSort_perm ss _).nodup_iff.2 h
  refine List.Pairwise.imp₂ (R := fun a b => decide (a ≤ b) = true) (S := fun a b => a ≠ b) (fun a b hab hne => ?_) h1 h2
  simp only [decide_eq_true_eq] at hab
  omega
end Go.Proofs.YtilgijmokjekgaaGreatDoor
end
section
/- What is made of terms, by a map of masks, plainly. No program stands here. -/
namespace Go.Proofs.YtilgijmokjekgaaGreatDoor
open Go Go.RowKit

/-- What terms leave of a unit, whichever number it is. -/
def meetI (ns : List Nat) (l : List Term) (u : Int) : Nat := if u < 0 then 0 else meetN ns l u.toNat
def named (l : List Term) (u : Int) : Bool := l.any fun t => t.unit == u
def mapOf (ns : List Nat) (l : List Term) (u : Int) : Option Int := if named l u then some ((meetI ns l u : Nat) : Int) else none
def gI (ns : List Nat) (l : List Term) (u : Int) : Option Term := if ((meetI ns l u : Nat) : Int) = fullF ns u then none else some ⟨u, ((meetI ns l u : Nat) : Int)⟩
section
variable {ns : List Nat} {l : List Term}
theorem meetI_snoc (l : List Term) (t : Term) (u : Int) : meetI ns (l ++ [t]) u = if t.unit = u then meetI ns l u &&& nm t.mask else meetI ns l u := by
  unfold meetI
  by_cases h : u < 0
  · simp [h]
  · rw [if_neg h, if_neg h, meetN_snoc]
    have : (u.toNat : Int) = u := by omega
    rw [this]
theorem meetI_take {k : Nat} (hk : k < l.length) (u : Int) : meetI ns (l.take (k + 1)) u = if l[k].unit = u then meetI ns (l.take k) u &&& nm l[k].mask else meetI ns (l.take k) u := by
  rw [List.take_succ_eq_append_getElem hk, meetI_snoc]
theorem meetI_le (ho : NsOk ns) (l : List Term) (u : Int) : meetI ns l u ≤ 31 := by
  unfold meetI
  split
  · omega
  · exact Nat.le_trans (meetN_le l _) (fullN_le ho _)
theorem meetI_nil (u : Int) : ((meetI ns [] u : Nat) : Int) = fullF ns u := by
  unfold meetI
  by_cases h : u < 0
  · rw [if_pos h, fullF_neg u h]; rfl
  · rw [if_neg h, fullF_eq u (by omega)]; rfl
theorem meetN_other {u : Nat} : ∀ {l : List Term}, (∀ t ∈ l, t.unit ≠ (u : Int)) → ∀ a : Nat, l.foldl (fun a t => if t.unit = (u : Int) then a &&& nm t.mask else a) a = a
  | [], _, _ => rfl
  | t :: l, h, a => by
    rw [List.foldl_cons, if_neg (h t (by simp))]
    exact meetN_other (fun t' ht' => h t' (by simp [ht'])) a
theorem meetI_unnamed {u : Int} (h : named l u = false) : ((meetI ns l u : Nat) : Int) = fullF ns u := by
  rw [← meetI_nil]
  unfold meetI
  split
  · rfl
  · rename_i h0
    unfold named at h
    rw [List.any_eq_false] at h
    have : meetN ns l u.toNat = fullN ns u.toNat := meetN_other (fun t ht e => by
      have := h t ht
      simp at this
      omega) _
    rw [this]; rfl
theorem named_take {k : Nat} (hk : k < l.length) (u : Int) : named (l.take (k + 1)) u = (named (l.take k) u || l[k].unit == u) := by
  unfold named
  rw [List.take_succ_eq_append_getElem hk, List.any_append]
  simp
theorem mapOf_step {k : Nat} (hk : k < l.length) (u : Int) : mapOf ns (l.take (k + 1)) u = if u = l[k].unit then some (((meetI ns (l.take k) l[k].unit &&& nm l[k].mask : Nat) : Nat) : Int) else mapOf ns (l.take k) u := by
  unfold mapOf
  rw [named_take hk, meetI_take hk]
  by_cases e : u = l[k].unit
  · subst e; simp
  · have e' : ¬ l[k].unit = u := fun h => e h.symm
    simp [e, e']
/-- What is there at a unit: named or not. -/
theorem have_named {u : Int} (h : named l u = true) : mapOf ns l u = some ((meetI ns l u : Nat) : Int) := by unfold mapOf; rw [if_pos h]
theorem have_unnamed {u : Int} (h : named l u = false) : mapOf ns l u = none := by unfold mapOf; rw [h]; rfl
theorem meetI_zero {k : Nat} {u : Int} (h : meetI ns (l.take k) u = 0) : meetI ns l u = 0 := by
  unfold meetI at h ⊢
  split
  · rfl
  · rename_i h0
    rw [if_neg h0] at h
    have h1 : meetN ns l u.toNat = (l.drop k).foldl (fun a t => if t.unit = (u.toNat : Int) then a &&& nm t.mask else a) (meetN ns (l.take k) u.toNat) := by
      unfold meetN
      rw [← List.foldl_append, List.take_append_drop]
    have h2 := fold_le (l.drop k) u.toNat (meetN ns (l.take k) u.toNat)
    rw [h1]
    omega
theorem make_zero {k : Nat} (hk : k < l.length) (h : meetI ns (l.take (k + 1)) l[k].unit = 0) : makeN ns l = none := by
  have h1 := meetI_zero h
  unfold makeN
  cases hr : inR ns l with
  | false => rfl
  | true =>
    unfold inR at hr
    rw [List.all_eq_true] at hr
    have h2 := hr _ (List.getElem_mem hk)
    simp at h2
    unfold meetI at h1
    rw [if_neg (by omega)] at h1
    unfold madeN
    cases hok : okN ns (meetN ns l) with
    | false => rfl
    | true => exact absurd h1 (okN_iff.1 hok _ (by omega))
theorem make_all (h : ∀ j, (hj : j < l.length) → meetI ns l l[j].unit ≠ 0) : makeN ns l = some (canon ns (meetN ns l)) := by
  have hin : ∀ j, (hj : j < l.length) → 0 ≤ l[j].unit ∧ l[j].unit < ns.length := by
    intro j hj
    have h1 := h j hj
    unfold meetI at h1
    split at h1
    · exact absurd rfl h1
    · rename_i h0
      refine ⟨by omega, ?_⟩
      rcases Nat.lt_or_ge l[j].unit.toNat ns.length with h2 | h2
      · omega
      · exfalso
        have h3 := meetN_le (ns := ns) l l[j].unit.toNat
        rw [fullN_out (by omega)] at h3
        omega
  have hr : inR ns l = true := by
    unfold inR
    rw [List.all_eq_true]
    intro t ht
    obtain ⟨j, hj, rfl⟩ := List.getElem_of_mem ht
    have := hin j hj
    simp [this]
  have hok : okN ns (meetN ns l) = true := by
    rw [okN_iff]
    intro u hu h0
    cases hn : named l (u : Int) with
    | false =>
      have h1 := meetI_unnamed (ns := ns) hn
      unfold meetI at h1
      rw [if_neg (by omega), Int.toNat_natCast, h0, fullF_nat] at h1
      have := fullN_pos hu
      omega
    | true =>
      unfold named at hn
      rw [List.any_eq_true] at hn
      obtain ⟨t, ht, e⟩ := hn
      obtain ⟨j, hj, rfl⟩ := List.getElem_of_mem ht
      simp at e
      have h1 := h j hj
      unfold meetI at h1
      rw [if_neg (by omega), e, Int.toNat_natCast] at h1
      exact h1 h0
  unfold makeN madeN
  rw [hr, hok]
  rfl
theorem keys_canon (hin : inR ns l = true) {ks : List Int} (h1 : ks.Pairwise (· < ·)) (h2 : ∀ u, u ∈ ks ↔ named l u = true) : ks.filterMap (gI ns l) = canon ns (meetN ns l) := by
  have hr : ∀ u, named l u = true → 0 ≤ u ∧ u < ns.length := by
    intro u hu
    unfold named at hu
    rw [List.any_eq_true] at hu
    obtain ⟨t, ht, e⟩ := hu
    unfold inR at hin
    rw [List.all_eq_true] at hin
    have := hin t ht
    simp at this e
    omega
  have hks : ks = ((List.range ns.length).map fun u : Nat => (u : Int)).filter fun u => named l u := by
    refine rising_eq h1 (List.Pairwise.filter _ (List.pairwise_map.2 (List.pairwise_lt_range.imp fun h => by omega))) fun u => ?_
    rw [h2, List.mem_filter]
    constructor
    · intro hu
      have := hr u hu
      exact ⟨List.mem_map.2 ⟨u.toNat, List.mem_range.2 (by omega), by omega⟩, hu⟩
    · exact fun h => h.2
  have hoff : ∀ u, named l u = false → gI ns l u = none := fun u hu => by unfold gI; rw [if_pos (meetI_unnamed hu)]
  have hf : ∀ m : List Int, (m.filter fun u => named l u).filterMap (gI ns l) = m.filterMap (gI ns l) := by
    intro m
    induction m with
    | nil => rfl
    | cons a m ih =>
      cases ha : named l a with
      | true => rw [List.filter_cons_of_pos (by exact ha), List.filterMap_cons, List.filterMap_cons, ih]
      | false => rw [List.filter_cons_of_neg (by rw [ha]; decide), ih, List.filterMap_cons, hoff a ha]
  rw [hks, hf, List.filterMap_map]
  unfold canon canonTo
  refine filterMap_same fun u hu => ?_
  have hu := List.mem_range.1 hu
  show gI ns l (u : Int) = tm ns (meetN ns l) u
  have e0 : meetI ns l (u : Int) = meetN ns l u := by unfold meetI; rw [if_neg (show ¬ (u : Int) < 0 by omega), Int.toNat_natCast]
  unfold gI tm
  rw [e0, fullF_nat]
  by_cases e : meetN ns l u = fullN ns u
  · rw [if_pos (by omega), if_pos e]
  · rw [if_neg (by omega), if_neg e]
end
end Go.Proofs.YtilgijmokjekgaaGreatDoor
end
