/- Slices that the call itself makes: append from any source; a row of terms; copied rows. No program stands here. -/
import Derived.Test.YtmghlakedaigpaaDoorMem
import Derived.Maps.AppendAt
import Derived.Deep.AppendLies
import Derived.RegionTactic
import Derived.OwnWalk
namespace Go.Proofs.YtmghlakedaigpaaDoor
open Go Go.RowKit

/-- However a region goes: it comes to one state. -/
theorem wp_to {P : Program} {c : Code} {Q : Exit → Act → World → Prop} {a : Act} {w : World} (A : Act) (W : World) (hr : c.wp P (fun e a w => e = .normal ∧ a = A ∧ w = W) a w) (hq : Q .normal A W) : c.wp P Q a w :=
  Code.wp_mono (fun e a w ⟨h1, h2, h3⟩ => by subst h1; subst h2; subst h3; exact hq) hr
/-- Cells that a source slice '.slice A m c' holds: none where m = 0. -/
def Src (w : World) (A : Option Addr) (m : Nat) (size : Nat) (news : List Value) : Prop :=
  news.length = m * size ∧ (0 < m → ∃ ad, A = some ad ∧ ∀ j u, news[j]? = some u → w.cell? (ad.add j) = some u)

section
variable {P : Program} (w : World)

theorem run_append_of_nil (base : Nat) (t ty e : TypeId) (i : TypeInfo) (size : Nat) (ht : P.underlying t = some (.slice e)) (hi : P.info? e = some i)
    (v : Value) (n : Nat) (xs : List Value) (hown : w.ownsRow base e size v n xs) (c : Nat) : (Builtin.append_ #[t, t] ty #[v, .slice none 0 c]).run P w = .ok v w := by
  rcases hown.2 with ⟨rfl, rfl⟩ | ⟨g, cap, cur, rfl, _, _, hnc, _⟩
  · simp [Builtin.append_, run_underlying ht, sizeOf, typeInfo, hi, Builtin.lenOf, Builtin.firstCells]
  · simp [Builtin.append_, run_underlying ht, sizeOf, typeInfo, hi, Builtin.lenOf, Builtin.firstCells, hnc, storeCells]

theorem run_append_src (base : Nat) (t ty e : TypeId) (i : TypeInfo) (z : Value) (size bytes : Nat) (ht : P.underlying t = some (.slice e)) (hi : P.info? e = some i) (hz : i.zero = some z)
    (hsize : i.size = size) (hby : i.bytes = bytes) (hzs : z.cells.size = size) (hsz : 0 < size)
    (v : Value) (n : Nat) (xs : List Value) (hown : w.ownsRow base e size v n xs)
    (A : Option Addr) (m c : Nat) (news : List Value) (hr : Src w A m size news) (h1 : ∀ u ∈ news, u.oneCell' = true)
    (h63 : n + m ≤ maxLen) (hbytes : (n + m) * bytes ≤ 140737488355328) (hbase : base ≤ w.heap.size) :
    ∃ v' w', (Builtin.append_ #[t, t] ty #[v, .slice A m c]).run P w = .ok v' w' ∧ w'.ownsRow base e size v' (n + m) (xs ++ news) ∧ w.grownBy w' v.ownBlock ∧
      (v'.ownBlock = v.ownBlock ∨ v'.ownBlock = some w.heap.size) := by
  rcases A with _ | ad
  · have hm : m = 0 := by
      rcases Nat.eq_zero_or_pos m with h0 | h0
      · exact h0
      · obtain ⟨ad, h, _⟩ := hr.2 h0
        cases h
    subst hm
    have hn : news = [] := List.eq_nil_of_length_eq_zero (by simpa using hr.1)
    subst hn
    exact ⟨v, w, run_append_of_nil w base t ty e i size ht hi v n xs hown c, by simpa using hown, ⟨rfl, rfl, rfl, Nat.le_refl _, fun _ _ _ => rfl⟩, .inl rfl⟩
  · have hcells : ∀ j u, news[j]? = some u → w.cell? (ad.add j) = some u := by
      intro j u hu
      rcases Nat.eq_zero_or_pos m with h0 | h0
      · subst h0
        have hn : news = [] := List.eq_nil_of_length_eq_zero (by simpa using hr.1)
        subst hn
        simp at hu
      · obtain ⟨ad', h, hc⟩ := hr.2 h0
        injection h with h
        subst h
        exact hc j u hu
    obtain ⟨v', w', hrun, h2, h3, _, h5⟩ := run_append_own_at (P := P) w base t ty e i z size bytes ht hi hz hsize hby hzs hsz v n xs hown ad m c news hr.1 hcells h1 h63 hbytes hbase
    exact ⟨v', w', hrun, h2, h3, h5⟩

theorem wp_append_src {o : Oper} {a : Act} {K : Act → World → Prop} {Q : Exit → Act → World → Prop} (s x : Operand) (t : TypeId)
    (ho : o.op = .call { callee := .builtin .append, args := #[s, x], argTypes := #[t, t] })
    (base : Nat) (e : TypeId) (i : TypeInfo) (z : Value) (size bytes : Nat) (ht : P.underlying t = some (.slice e)) (hi : P.info? e = some i) (hz : i.zero = some z)
    (hsize : i.size = size) (hby : i.bytes = bytes) (hzs : z.cells.size = size) (hsz : 0 < size)
    (v : Value) (n : Nat) (xs : List Value) (hs : a.eval s = v) (hown : w.ownsRow base e size v n xs)
    (A : Option Addr) (m c : Nat) (news : List Value) (hx : a.eval x = .slice A m c) (hr : Src w A m size news) (h1 : ∀ u ∈ news, u.oneCell' = true)
    (h63 : n + m ≤ maxLen) (hbytes : (n + m) * bytes ≤ 140737488355328) (hbase : base ≤ w.heap.size)
    (h : ∀ v' w', w'.ownsRow base e size v' (n + m) (xs ++ news) → w.grownBy w' v.ownBlock → (v'.ownBlock = v.ownBlock ∨ v'.ownBlock = some w.heap.size) → K (a.put o.dst v') w') : o.wp P a w K Q := by
  obtain ⟨v', w', hrun, h2, h3, h4⟩ := run_append_src (P := P) w base t o.type e i z size bytes ht hi hz hsize hby hzs hsz v n xs hown A m c news hr h1 h63 hbytes hbase
  unfold Oper.wp execOp
  simp only [ho, resolve, invoke, builtin, Sem.run_bind, Sem.run_pure, Result.andThen_ok, List.map_toArray, List.map_cons, List.map_nil, hs, hx, hrun]
  exact h v' w' h2 h3 h4

theorem wpList_append_src {ops : Array Oper} {rest : List Oper} {o : Oper} {a : Act} {Q : Exit → Act → World → Prop} (hgd : o.guard = none) (s x : Operand) (t : TypeId)
    (ho : o.op = .call { callee := .builtin .append, args := #[s, x], argTypes := #[t, t] })
    (base : Nat) (e : TypeId) (i : TypeInfo) (z : Value) (size bytes : Nat) (ht : P.underlying t = some (.slice e)) (hi : P.info? e = some i) (hz : i.zero = some z)
    (hsize : i.size = size) (hby : i.bytes = bytes) (hzs : z.cells.size = size) (hsz : 0 < size)
    (v : Value) (n : Nat) (xs : List Value) (hs : a.eval s = v) (hown : w.ownsRow base e size v n xs)
    (A : Option Addr) (m c : Nat) (news : List Value) (hx : a.eval x = .slice A m c) (hr : Src w A m size news) (h1 : ∀ u ∈ news, u.oneCell' = true)
    (h63 : n + m ≤ maxLen) (hbytes : (n + m) * bytes ≤ 140737488355328) (hbase : base ≤ w.heap.size)
    (h : ∀ v' w', w'.ownsRow base e size v' (n + m) (xs ++ news) → w.grownBy w' v.ownBlock → (v'.ownBlock = v.ownBlock ∨ v'.ownBlock = some w.heap.size) → wpList P ops Q rest (a.put o.dst v') w') : wpList P ops Q (o :: rest) a w :=
  wpList_plain hgd fun _ hK => wp_append_src w s x t ho base e i z size bytes ht hi hz hsize hby hzs hsz v n xs hs hown A m c news hx hr h1 h63 hbytes hbase fun v' w' h2 h3 h4 => hK _ _ (h v' w' h2 h3 h4)

theorem step_append_src {ops : Array Oper} {o : Oper} {a : Act} {K : Act → World → Prop} {Q : Exit → Act → World → Prop} {E : Prop} (hgd : o.guard = none) (s x : Operand) (t : TypeId)
    (ho : o.op = .call { callee := .builtin .append, args := #[s, x], argTypes := #[t, t] })
    (base : Nat) (e : TypeId) (i : TypeInfo) (z : Value) (size bytes : Nat) (ht : P.underlying t = some (.slice e)) (hi : P.info? e = some i) (hz : i.zero = some z)
    (hsize : i.size = size) (hby : i.bytes = bytes) (hzs : z.cells.size = size) (hsz : 0 < size)
    (v : Value) (n : Nat) (xs : List Value) (hs : a.eval s = v) (hown : w.ownsRow base e size v n xs)
    (A : Option Addr) (m c : Nat) (news : List Value) (hx : a.eval x = .slice A m c) (hr : Src w A m size news) (h1 : ∀ u ∈ news, u.oneCell' = true)
    (h63 : n + m ≤ maxLen) (hbytes : (n + m) * bytes ≤ 140737488355328) (hbase : base ≤ w.heap.size)
    (h : ∀ v' w', w'.ownsRow base e size v' (n + m) (xs ++ news) → w.grownBy w' v.ownBlock → (v'.ownBlock = v.ownBlock ∨ v'.ownBlock = some w.heap.size) → K (a.put o.dst v') w') :
    if Region.wanted o (yielded ops a.tmps) = true then Oper.wp P o a w K Q else E := by
  have hw : Region.wanted o (yielded ops a.tmps) = true := by simp [Region.wanted, hgd]
  rw [if_pos hw]
  exact wp_append_src w s x t ho base e i z size bytes ht hi hz hsize hby hzs hsz v n xs hs hown A m c news hx hr h1 h63 hbytes hbase h
end

/-- The cells of terms. -/
def termCells : List Term → List Value
  | [] => []
  | t :: l => .int .i64 t.unit :: .int .i64 t.mask :: termCells l
theorem termCells_length (l : List Term) : (termCells l).length = l.length * 2 := by
  induction l with
  | nil => rfl
  | cons t l ih => simp [termCells, ih]; omega
theorem termCells_append (l m : List Term) : termCells (l ++ m) = termCells l ++ termCells m := by
  induction l with
  | nil => rfl
  | cons t l ih => simp [termCells, ih]
theorem termCells_one {l : List Term} : ∀ u ∈ termCells l, u.oneCell' = true := by
  induction l with
  | nil => intro u hu; cases hu
  | cons t l ih =>
    intro u hu
    simp only [termCells, List.mem_cons] at hu
    rcases hu with rfl | rfl | hu
    · rfl
    · rfl
    · exact ih u hu
theorem termCells_get {l : List Term} : ∀ {j : Nat} (h : j < l.length), (termCells l)[j * 2]? = some (.int .i64 l[j].unit) ∧ (termCells l)[j * 2 + 1]? = some (.int .i64 l[j].mask) := by
  induction l with
  | nil => intro j h; simp at h
  | cons t l ih =>
    intro j h
    cases j with
    | zero => simp [termCells]
    | succ j =>
      have := ih (j := j) (by simpa using h)
      have e : (j + 1) * 2 = j * 2 + 2 := by omega
      rw [e]
      simpa [termCells] using this

/-- The terms of a slice that came in, as a source. -/
theorem SliceRd.src {w : World} {F : Nat → Prop} {A : Option Addr} {n cap : Nat} {l : List Term} (h : SliceRd tTerm w F (.slice A n cap) l) : n = l.length ∧ Src w A l.length 2 (termCells l) ∧ ∀ t ∈ l, I64 t.unit ∧ I64 t.mask := by
  obtain ⟨A', cap', hv, h1, h2, h3⟩ := h.terms
  injection hv with e1 e2 e3
  subst e1
  refine ⟨e2, ⟨termCells_length l, fun hm => ?_⟩, ?_⟩
  · obtain ⟨g, o, hA, _⟩ := h3 0 hm
    refine ⟨⟨g, o, none⟩, hA, fun j u hu => ?_⟩
    have hj : j < l.length * 2 := by
      rw [← termCells_length]
      exact (List.getElem?_eq_some_iff.1 hu).1
    obtain ⟨g', o', hA', hF, c0, c1, _⟩ := h3 (j / 2) (by omega)
    rw [hA] at hA'
    injection hA' with hA'
    injection hA' with eg eo
    subst eg; subst eo
    rw [add_mk]
    obtain ⟨t0, t1⟩ := termCells_get (l := l) (j := j / 2) (by omega)
    rcases Nat.mod_two_eq_zero_or_one j with hp | hp
    · have e : j = j / 2 * 2 := by omega
      rw [← e] at t0 c0
      rw [c0, ← hu, t0]
    · have e : j = j / 2 * 2 + 1 := by omega
      rw [← e] at t1
      have c1' : w.cell? ⟨g, o + j, none⟩ = some (.int .i64 (l[j / 2]'(by omega)).mask) := by
        rw [← c1]
        congr 2
        omega
      rw [c1', ← hu, t1]
  · intro t ht
    obtain ⟨k, hk, rfl⟩ := List.getElem_of_mem ht
    obtain ⟨_, _, _, _, _, _, i1, i2⟩ := h3 k hk
    exact ⟨i1, i2⟩

/-- Two own rows of different element types lie apart. -/
theorem own_ne {w : World} {B B' : Nat} {e e' : TypeId} {s s' n n' : Nat} {v v' : Value} {xs xs' : List Value} (h : w.ownsRow B e s v n xs) (h' : w.ownsRow B' e' s' v' n' xs') (hne : e ≠ e') :
    ∀ g, v.ownBlock = some g → v'.ownBlock ≠ some g := by
  intro g hg hg'
  rcases h.2 with ⟨rfl, _⟩ | ⟨a, cap, cur, rfl, _, hh, _⟩
  · simp [Value.ownBlock] at hg
  · rcases h'.2 with ⟨rfl, _⟩ | ⟨a', cap', cur', rfl, _, hh', _⟩
    · simp [Value.ownBlock] at hg'
    · simp only [Value.ownBlock, Option.some.injEq] at hg hg'
      subst hg; subst hg'
      rw [hh] at hh'
      injection hh' with hh'
      injection hh' with _ h2
      exact hne h2

theorem own_form {w : World} {B : Nat} {e : TypeId} {s n : Nat} {v : Value} {xs : List Value} (h : w.ownsRow B e s v n xs) : ∃ A c, v = .slice A n c := by
  rcases h.2 with ⟨rfl, rfl⟩ | ⟨a, cap, cur, rfl, _⟩
  · exact ⟨none, 0, rfl⟩
  · exact ⟨_, _, rfl⟩
/-- An own row, where its block is as it was. -/
theorem ownsRow_keep {w w' : World} {B : Nat} {e : TypeId} {s n : Nat} {v : Value} {xs : List Value} (h : w.ownsRow B e s v n xs) (hk : ∀ g, v.ownBlock = some g → w'.heap[g]? = w.heap[g]?) : w'.ownsRow B e s v n xs := by
  refine ⟨h.1, ?_⟩
  rcases h.2 with hn | ⟨g, cap, cur, rfl, hb, hg, rest⟩
  · exact .inl hn
  · exact .inr ⟨g, cap, cur, rfl, hb, (hk g rfl).trans hg, rest⟩
theorem ownsRow_below {w w' : World} {B M : Nat} {e : TypeId} {s n : Nat} {v : Value} {xs : List Value} (h : w.ownsRow B e s v n xs) (hb : Below M w w') (hM : ∀ g, v.ownBlock = some g → g < M) : w'.ownsRow B e s v n xs :=
  ownsRow_keep h fun g hg => hb.block g (hM g hg)

/-- An own row of terms reads as a slice. -/
theorem rd_of_own {w : World} {B : Nat} {e : TypeId} {v : Value} {l : List Term} {F : Nat → Prop} (h : w.ownsRow B e 2 v l.length (termCells l)) (hi : ∀ t ∈ l, I64 t.unit ∧ I64 t.mask) (hF : ∀ g, v.ownBlock = some g → F g) : SliceRd tTerm w F v l := by
  rcases h.2 with ⟨rfl, hn⟩ | ⟨g, cap, cur, rfl, hb, hg, h1, h2, h3, h4⟩
  · have : l = [] := List.eq_nil_of_length_eq_zero hn
    subst this
    exact SliceRd.nil _ _ _
  · refine ⟨⟨some ⟨g, 0, none⟩, cap, rfl, h1, h2, fun k hk => ⟨g, 0, [.int .i64 l[k].unit, .int .i64 l[k].mask], rfl, hF g rfl, rfl, ?_, rfl, hi _ (List.getElem_mem hk)⟩⟩⟩
    intro j hj
    have hj' : j < 2 := hj
    obtain ⟨t0, t1⟩ := termCells_get hk
    rw [cell_of_row w g _ cur e (0, 0) hg]
    have hcur : ∀ i, i < l.length * 2 → cur[i]? = (termCells l)[i]? := by
      intro i hi
      rw [← h4, List.getElem?_take_of_lt hi, Array.getElem?_toList]
    show cur[0 + k * 2 + j]? = _
    rw [hcur _ (by omega)]
    match j, hj' with
    | 0, _ => rw [show 0 + k * 2 + 0 = k * 2 by omega, t0]; rfl
    | 1, _ => rw [show 0 + k * 2 + 1 = k * 2 + 1 by omega, t1]; rfl

end Go.Proofs.YtmghlakedaigpaaDoor
