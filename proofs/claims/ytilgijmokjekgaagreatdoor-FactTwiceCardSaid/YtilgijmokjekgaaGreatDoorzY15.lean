import Derived.Test.YtilgijmokjekgaaGreatDoorzA6
import Derived.Test.YtilgijmokjekgaaGreatDoorzTx
import Derived.Test.YtilgijmokjekgaaGreatDoorzA7
import Derived.Test.YtilgijmokjekgaaGreatDoorN13
import Derived.Test.YtilgijmokjekgaaGreatDoorzBase
section
/- fact.All in plain: rows found by their key; what is put together; masks turned in place. No program stands here. -/
namespace Go.Proofs.YtilgijmokjekgaaGreatDoor
open Go Go.RowKit

def rowOf (ns : List Nat) (r : RowN) : Row := ⟨r.kind, r.u, 0, 0, canon ns r.M⟩
theorem rest_but (u : Int) (l : List Term) : restL u l = butL l u := by
  unfold restL butL
  congr 1
  funext t
  by_cases h : t.unit = u
  · simp [h]
  · simp [h]
/-- The text of a row's key. -/
def keyT (ns : List Nat) (r : RowN) : ByteArray := ⟨((butL (canon ns r.M) r.u).flatMap termF).toArray⟩
theorem keyT_inj {ns : List Nat} {x r : RowN} (h : keyT ns x = keyT ns r) : butL (canon ns x.M) x.u = butL (canon ns r.M) r.u := by
  unfold keyT at h
  have h1 : ((butL (canon ns x.M) x.u).flatMap termF).toArray = ((butL (canon ns r.M) r.u).flatMap termF).toArray := congrArg ByteArray.data h
  have h2 := congrArg Array.toList h1
  simp only at h2
  exact terms_inj h2
/-- Has a row this key? -/
def hasKey (ns : List Nat) (k : Int × Int × ByteArray) (x : RowN) : Bool := decide (x.kind = k.1) && (decide ((x.u : Int) = k.2.1) && decide (keyT ns x = k.2.2))
theorem like_key {ns : List Nat} (x r : RowN) : likeN ns x r = hasKey ns (r.kind, (r.u : Int), keyT ns r) x := by
  unfold likeN hasKey
  by_cases h1 : x.kind = r.kind
  · by_cases h2 : x.u = r.u
    · have h3 : (x.u : Int) = (r.u : Int) := by omega
      rw [decide_eq_true h1, decide_eq_true h2, decide_eq_true h3]
      congr 2
      refine decide_eq_decide.2 ⟨fun h => ?_, fun h => ?_⟩
      · show keyT ns x = keyT ns r
        unfold keyT
        rw [h2, h]
      · have := keyT_inj (x := x) (r := r) h
        rwa [h2] at this
    · have h3 : ¬ (x.u : Int) = (r.u : Int) := by omega
      rw [decide_eq_false h2, decide_eq_false h3]
      simp
  · rw [decide_eq_false h1]
    simp
/-- What the map of keys says. -/
def keyF (ns : List Nat) (rows : List RowN) (k : AlikeK) : Option Value := if k.1.1 = 1 then none else (rows.findIdx? (hasKey ns k.1)).map fun i : Nat => Value.int .i64 (i : Int)
theorem keyF_root {ns : List Nat} {rows : List RowN} (h : ∀ x ∈ rows, x.kind = 1) (k : AlikeK) : keyF ns rows k = none := by
  unfold keyF
  split
  · rfl
  · rename_i hk
    have : rows.findIdx? (hasKey ns k.1) = none := by
      rw [List.findIdx?_eq_none_iff]
      intro x hx
      unfold hasKey
      rw [decide_eq_false (show ¬ x.kind = k.1.1 from fun e => hk (e.symm.trans (h x hx)))]
      rfl
    rw [this]
    rfl
theorem keyF_none {ns : List Nat} {rows : List RowN} {r : RowN} {k : AlikeK} (hk : k.1 = (r.kind, (r.u : Int), keyT ns r)) (hr : r.kind ≠ 1) (h : keyF ns rows k = none) : putN ns rows r = rows ++ [r] := by
  have h1 : ¬ k.1.1 = 1 := by rw [hk]; exact hr
  unfold keyF at h
  rw [if_neg h1, Option.map_eq_none_iff, List.findIdx?_eq_none_iff] at h
  refine put_miss fun i hi => ?_
  rw [like_key, ← hk]
  exact h _ (List.getElem_mem hi)
theorem keyF_some {ns : List Nat} {rows : List RowN} {r : RowN} {k : AlikeK} {v : Value} (hk : k.1 = (r.kind, (r.u : Int), keyT ns r)) (hr : r.kind ≠ 1) (h : keyF ns rows k = some v) :
    ∃ i, ∃ hi : i < rows.length, v = .int .i64 (i : Int) ∧ likeN ns rows[i] r = true ∧ putN ns rows r = rows.set i (bothN rows[i] r) := by
  have h1 : ¬ k.1.1 = 1 := by rw [hk]; exact hr
  unfold keyF at h
  rw [if_neg h1, Option.map_eq_some_iff] at h
  obtain ⟨i, h2, rfl⟩ := h
  rw [List.findIdx?_eq_some_iff_getElem] at h2
  obtain ⟨hi, h3, h4⟩ := h2
  have h5 : likeN ns rows[i] r = true := by rw [like_key, ← hk]; exact h3
  refine ⟨i, hi, rfl, h5, put_hit hi (fun j hj hji => ?_) h5⟩
  rw [like_key, ← hk]
  exact Bool.eq_false_iff.2 (h4 j hji)
theorem keyF_snoc {ns : List Nat} {rows : List RowN} {r : RowN} {k : AlikeK} (hk : k.1 = (r.kind, (r.u : Int), keyT ns r)) (hr : r.kind ≠ 1) (h : keyF ns rows k = none) (j : AlikeK) :
    (if j = k then some (Value.int .i64 (rows.length : Int)) else keyF ns rows j) = keyF ns (rows ++ [r]) j := by
  have h1 : ¬ k.1.1 = 1 := by rw [hk]; exact hr
  by_cases e : j = k
  · subst e
    rw [if_pos rfl]
    unfold keyF at h ⊢
    rw [if_neg h1, Option.map_eq_none_iff] at h
    rw [if_neg h1, List.findIdx?_append, h]
    have : hasKey ns j.1 r = true := by
      unfold hasKey
      rw [hk]
      simp
    simp [List.findIdx?_cons, this]
  · rw [if_neg e]
    unfold keyF
    split
    · rfl
    · have : hasKey ns j.1 r = false := by
        rw [Bool.eq_false_iff]
        intro h2
        unfold hasKey at h2
        simp only [Bool.and_eq_true, decide_eq_true_eq] at h2
        refine e (Subtype.ext ?_)
        rw [hk, h2.1, h2.2.1, h2.2.2]
      rw [List.findIdx?_append]
      cases rows.findIdx? (hasKey ns j.1) with
      | some i => rfl
      | none => simp [List.findIdx?_cons, this]
theorem but_congr {ns : List Nat} {M M' : Nat → Nat} {u : Nat} (h : ∀ v, v ≠ u → M v = M' v) : butL (canon ns M) (u : Int) = butL (canon ns M') (u : Int) := by
  unfold canon
  generalize ns.length = n
  induction n with
  | zero => rfl
  | succ n ih =>
    rw [canonTo_succ, canonTo_succ]
    unfold butL at ih ⊢
    rw [List.filter_append, List.filter_append, ih]
    congr 1
    by_cases e : n = u
    · subst e
      have : ∀ M : Nat → Nat, ((tm ns M n).toList.filter fun t => !(t.unit == (n : Int))) = [] := fun M => by
        unfold tm
        split
        · rfl
        · simp
      rw [this, this]
    · unfold tm
      rw [h n e]
theorem keyF_set {ns : List Nat} {rows : List RowN} {r : RowN} {i : Nat} (hi : i < rows.length) (hl : likeN ns rows[i] r = true) (j : AlikeK) : keyF ns rows j = keyF ns (rows.set i (bothN rows[i] r)) j := by
  have hu : rows[i].u = r.u := by
    unfold likeN at hl
    simp only [Bool.and_eq_true, decide_eq_true_eq] at hl
    exact hl.2.1
  have hb : ∀ k, hasKey ns k (bothN rows[i] r) = hasKey ns k rows[i] := fun k => by
    have : keyT ns (bothN rows[i] r) = keyT ns rows[i] := by
      unfold keyT
      have := but_congr (ns := ns) (u := rows[i].u) (M := (bothN rows[i] r).M) (M' := rows[i].M) (fun v hv => by
        show (if v = r.u then _ else _) = _
        rw [if_neg (by rw [← hu]; exact hv)])
      show (⟨((butL (canon ns (bothN rows[i] r).M) (rows[i].u : Int)).flatMap termF).toArray⟩ : ByteArray) = _
      rw [this]
    unfold hasKey
    rw [this]
    rfl
  have hm : rows.map (hasKey ns j.1) = (rows.set i (bothN rows[i] r)).map (hasKey ns j.1) := by
    rw [List.map_set, hb]
    apply List.ext_getElem
    · simp
    · intro k h1 h2
      rw [List.getElem_set]
      split
      · rename_i e; subst e; simp
      · rfl
  unfold keyF
  split
  · rfl
  · have hf : ∀ l : List RowN, l.findIdx? (hasKey ns j.1) = (l.map (hasKey ns j.1)).findIdx? id := fun l => by rw [List.findIdx?_map]; rfl
    rw [hf, hf, hm]
end Go.Proofs.YtilgijmokjekgaaGreatDoor
end
section
/- Masks turned in place; the clauses of a candidate, put in one by one. No program stands here. -/
namespace Go.Proofs.YtilgijmokjekgaaGreatDoor
open Go Go.RowKit

theorem one_bit {m k : Nat} (h0 : m ≠ 0) (h : ∀ j, m.testBit j = true → j = k) : m = 2 ^ k := by
  apply Nat.eq_of_testBit_eq
  intro j
  rw [Nat.testBit_two_pow]
  by_cases e : k = j
  · subst e
    rw [decide_eq_true rfl]
    cases hb : m.testBit k with
    | true => rfl
    | false =>
      exfalso
      apply h0
      apply Nat.eq_of_testBit_eq
      intro i
      rw [Nat.zero_testBit]
      cases hi : m.testBit i with
      | false => rfl
      | true => have := h i hi; subst this; rw [hb] at hi; cases hi
  · rw [decide_eq_false e]
    cases hi : m.testBit j with
    | false => rfl
    | true => exact absurd (h j hi).symm e
theorem meet_own {us : List UnitW} {u p : Nat} {l : List WantD} {bar : Bool} (hu : u < us.length) (hp : p < 60) (hs : (makeN (nsOf us) (clauseL us u p l bar)).isSome) : meetN (nsOf us) (clauseL us u p l bar) u = 2 ^ (p + 1) := by
  obtain ⟨T, hT⟩ := Option.isSome_iff_exists.1 hs
  obtain ⟨hM1, -⟩ := make_some hT
  have h60 : 2 ^ (p + 1) ≤ 2 ^ 60 := Nat.pow_le_pow_right (by omega) (by omega)
  refine one_bit (hM1.pos u (by simpa [nsOf] using hu)) fun j hj => ?_
  have h1 := meet_head _ _ u rfl j hj
  dsimp only at h1
  rw [nm_nat (by omega), Nat.testBit_two_pow] at h1
  exact (of_decide_eq_true h1).symm
theorem tm_at {ns : List Nat} {M : Nat → Nat} {n x : Nat} (h : M n = x) : tm ns M n = if x = fullN ns n then none else some ⟨(n : Int), (x : Int)⟩ := by
  subst h
  rfl
/-- A mask joined to a unit's term. -/
def orT (u : Int) (m : Nat) (t : Term) : Term := if t.unit = u then ⟨t.unit, ((nm t.mask ||| m : Nat) : Int)⟩ else t
theorem canon_or {ns : List Nat} {M : Nat → Nat} {u m : Nat} (hM : ∀ v, v < ns.length → M v ≤ 31) (h1 : M u ≠ fullN ns u) (h2 : M u ||| m ≠ fullN ns u) : canon ns (fun v => if v = u then M v ||| m else M v) = (canon ns M).map (orT (u : Int) m) := by
  unfold canon
  have key : ∀ n, n ≤ ns.length → canonTo ns (fun v => if v = u then M v ||| m else M v) n = (canonTo ns M n).map (orT (u : Int) m) := by
    intro n
    induction n with
    | zero => intro _; rfl
    | succ n ih =>
      intro hn
      rw [canonTo_succ, canonTo_succ, List.map_append, ih (by omega)]
      congr 1
      by_cases e : n = u
      · subst e
        rw [tm_at (M := fun v => if v = n then M v ||| m else M v) (x := M n ||| m) (if_pos rfl), tm_at (M := M) rfl, if_neg h2, if_neg h1]
        show [_] = [_]
        unfold orT
        dsimp only
        rw [if_pos rfl, nm_nat (by have := hM n (by omega); omega)]
      · rw [tm_at (M := fun v => if v = u then M v ||| m else M v) (x := M n) (if_neg e), tm_at (M := M) rfl]
        split
        · rfl
        · show [_] = [_]
          unfold orT
          dsimp only
          rw [if_neg (by omega)]
  exact key _ (Nat.le_refl _)
theorem both_canon {ns : List Nat} {x r : RowN} {m : Nat} (ho : NsOk ns) (hx : x.Ok ns) (hr : r.Ok ns) (hk : r.kind ≠ 1) (hl : likeN ns x r = true) (hm : r.M r.u = m) : canon ns (bothN x r).M = (canon ns x.M).map (orT (r.u : Int) m) := by
  unfold likeN at hl
  simp only [Bool.and_eq_true, decide_eq_true_eq] at hl
  obtain ⟨e1, e2, -⟩ := hl
  have hb : ∀ a : Nat, a.testBit 0 = false → a ≠ fullN ns r.u := fun a ha e => by
    have := full_bit0 (ns := ns) hr.u
    rw [← e, ha] at this
    cases this
  have hxb := hx.bit (by rw [e1]; exact hk)
  rw [e2] at hxb
  have hrb := hr.bit hk
  have h1 := canon_or (ns := ns) (M := x.M) (u := r.u) (m := m) (fun v hv => Nat.le_trans (by rw [← hx.inc.sub v hv]; exact Nat.and_le_right) (fullN_le ho v)) (hb _ hxb) (hb _ (by rw [Nat.testBit_or, hxb, ← hm, hrb]; rfl))
  rw [← h1]
  congr 1
  funext v
  show (if v = r.u then x.M v ||| r.M v else x.M v) = _
  by_cases e : v = r.u
  · rw [if_pos e, if_pos e, ← hm, e]
  · rw [if_neg e, if_neg e]
/-- A clause, put in. -/
def addC (us : List UnitW) (rows : List RowN) (r : RawN) : List RowN := if (makeN (nsOf us) r.ts).isSome then putN (nsOf us) rows ⟨r.kind, r.u, meetN (nsOf us) r.ts⟩ else rows
theorem cand_clauses (us : List UnitW) (u p : Nat) (rows : List RowN) (c : CandW) : candN us u p rows c = (clausesN us u p c).foldl (addC us) rows := by
  unfold candN clausesN needR barR barsN needsN
  rw [List.foldl_append, List.foldl_map, List.foldl_map]
  rfl
theorem clauses_take {us : List UnitW} {rows : List RowN} {l : List RawN} {k : Nat} (hk : k < l.length) : (l.take (k + 1)).foldl (addC us) rows = addC us ((l.take k).foldl (addC us) rows) l[k] := by
  rw [List.take_succ_eq_append_getElem hk, List.foldl_append]
  rfl
theorem clauses_mem {us : List UnitW} {u p : Nat} {c : CandW} {r : RawN} (h : r ∈ clausesN us u p c) : (∃ l, l ∈ c.needs ∧ r = ⟨2, u, clauseL us u p l false⟩) ∨ ∃ x, x ∈ c.bars ∧ r = ⟨3, u, clauseL us u p [x] true⟩ := by
  unfold clausesN needR barR at h
  rcases List.mem_append.1 h with h | h
  · obtain ⟨l, hl, rfl⟩ := List.mem_map.1 h
    exact .inl ⟨l, hl, rfl⟩
  · obtain ⟨x, hx, rfl⟩ := List.mem_map.1 h
    exact .inr ⟨x, hx, rfl⟩
end Go.Proofs.YtilgijmokjekgaaGreatDoor
end
section
/- Rows of the call's own: one term's mask is turned in place. No program stands here. -/
namespace Go.Proofs.YtilgijmokjekgaaGreatDoor
open Go Go.RowKit

theorem rowsCells_set : ∀ {l : List Row} {tvs : List Value} (i : Nat) (r : Row), (∀ h : i < l.length, r.kind = l[i].kind ∧ r.unit = l[i].unit ∧ r.a = l[i].a ∧ r.b = l[i].b) → rowsCells (l.set i r) tvs = rowsCells l tvs
  | [], _, _, _, _ => rfl
  | x :: l, [], i, r, _ => by cases i <;> simp [rowsCells]
  | x :: l, y :: tvs, 0, r, h => by
    obtain ⟨h1, h2, h3, h4⟩ := h (by simp)
    simp only [List.getElem_cons_zero] at h1 h2 h3 h4
    simp [rowsCells, rowCells, h1, h2, h3, h4]
  | x :: l, y :: tvs, i + 1, r, h => by
    simp only [List.set_cons_succ, rowsCells]
    rw [rowsCells_set (l := l) (tvs := tvs) i r (fun h' => h (Nat.succ_lt_succ h'))]
theorem termCells_set : ∀ {l : List Term} (j : Nat) (t : Term), (∀ h : j < l.length, t.unit = l[j].unit) → termCells (l.set j t) = (termCells l).set (j * 2 + 1) (.int .i64 t.mask)
  | [], _, _, _ => rfl
  | x :: l, 0, t, h => by
    have := h (by simp)
    simp only [List.getElem_cons_zero] at this
    simp [termCells, this]
  | x :: l, j + 1, t, h => by
    have e : (j + 1) * 2 + 1 = (j * 2 + 1) + 1 + 1 := by omega
    simp only [List.set_cons_succ, termCells, e]
    rw [termCells_set (l := l) j t (fun h' => h (Nat.succ_lt_succ h'))]
theorem Copied.setMask {eR eT : TypeId} {w : World} {B : Nat} {v : Value} {l : List Row} {tvs : List Value} (h : Copied eR eT w B v l tvs) {i : Nat} (hi : i < l.length) (hi' : i < tvs.length) {g : Nat} (hg : tvs[i].ownBlock = some g) {j : Nat} (hj : j < l[i].terms.length) (m : Int) (hm : I64 m) :
    Copied eR eT (w.setCell ⟨g, j * 2 + 1, none⟩ (.int .i64 m)) B v (l.set i { l[i] with terms := l[i].terms.set j ⟨l[i].terms[j].unit, m⟩ }) tvs := by
  have hti := h.terms i hi hi'
  have hoth : ∀ g', g' ≠ g → (w.setCell ⟨g, j * 2 + 1, none⟩ (.int .i64 m)).heap[g']? = w.heap[g']? := fun g' hne => heap_setCell_other _ _ _ _ hne
  have hri := h.ints _ (List.getElem_mem hi)
  refine ⟨h.ne, by rw [List.length_set]; exact h.len, ?_, ?_, ?_, h.apart⟩
  · rw [rowsCells_set i _ (fun _ => ⟨rfl, rfl, rfl, rfl⟩), List.length_set]
    exact ownsRow_keep h.own fun g' hg' => hoth g' fun e => own_ne h.own hti h.ne g' hg' (by rw [e]; exact hg)
  · intro r hr
    rcases List.mem_or_eq_of_mem_set hr with hr | rfl
    · exact h.ints r hr
    · refine ⟨hri.kind, hri.unit, hri.a, hri.b, fun t ht => ?_⟩
      rcases List.mem_or_eq_of_mem_set ht with ht | rfl
      · exact hri.terms t ht
      · exact ⟨(hri.terms _ (List.getElem_mem hj)).1, hm⟩
  · intro k hk hk'
    rw [List.length_set] at hk
    by_cases e : i = k
    · subst e
      have e2 : (l.set i { l[i] with terms := l[i].terms.set j ⟨l[i].terms[j].unit, m⟩ })[i]'(by rw [List.length_set]; exact hi) = { l[i] with terms := l[i].terms.set j ⟨l[i].terms[j].unit, m⟩ } := by simp
      rw [e2]
      dsimp only
      rw [List.length_set, termCells_set j _ (fun _ => rfl)]
      exact own_put hti hg (by omega) _
    · have e2 : (l.set i { l[i] with terms := l[i].terms.set j ⟨l[i].terms[j].unit, m⟩ })[k]'(by rw [List.length_set]; exact hk) = l[k] := by rw [List.getElem_set, if_neg e]
      rw [e2]
      refine ownsRow_keep (h.terms k hk hk') fun g' hg' => hoth g' fun e3 => ?_
      subst e3
      rcases Nat.lt_or_gt_of_ne e with hlt | hgt
      · exact h.apart i k hlt hk' g' hg hg'
      · exact h.apart k i hgt hi' g' hg' hg
end Go.Proofs.YtilgijmokjekgaaGreatDoor
end
section
/- Rows of the call's own, opened at one row and one term. No program stands here. -/
namespace Go.Proofs.YtilgijmokjekgaaGreatDoor
open Go Go.RowKit

theorem Copied.at_row {eR eT : TypeId} {w : World} {B : Nat} {v : Value} {l : List Row} {tvs : List Value} (h : Copied eR eT w B v l tvs) {i : Nat} (hi : i < l.length) (hi' : i < tvs.length) :
    ∃ gr c, v = .slice (some ⟨gr, 0, none⟩) l.length c ∧ B ≤ gr ∧ gr < w.heap.size ∧ w.cell? ⟨gr, i * 5 + 4, none⟩ = some tvs[i] := by
  rcases h.own.2 with ⟨_, h0⟩ | ⟨g, cap, cur, hv, hb, hg, h1, h2, h3, h4⟩
  · omega
  · refine ⟨g, cap, hv, hb, (Array.getElem?_eq_some_iff.1 hg).1, ?_⟩
    rw [cell_of_row w g _ cur eR (0, 0) hg]
    have h5 := rowsCells_get h.len hi hi' 4 (by omega)
    rw [← h4, List.getElem?_take_of_lt (by omega), Array.getElem?_toList] at h5
    rw [h5]
    rfl
theorem Copied.at_term {eR eT : TypeId} {w : World} {B : Nat} {v : Value} {l : List Row} {tvs : List Value} (h : Copied eR eT w B v l tvs) {i : Nat} (hi : i < l.length) (hi' : i < tvs.length) (hpos : 0 < l[i].terms.length) :
    ∃ gt c, tvs[i] = .slice (some ⟨gt, 0, none⟩) l[i].terms.length c ∧ tvs[i].ownBlock = some gt ∧ B ≤ gt ∧ gt < w.heap.size ∧ (∀ o, w.frozen? ⟨gt, o, none⟩ = false) ∧
      ∀ j, (hj : j < l[i].terms.length) → w.cell? ⟨gt, j * 2, none⟩ = some (.int .i64 l[i].terms[j].unit) ∧ w.cell? ⟨gt, j * 2 + 1, none⟩ = some (.int .i64 l[i].terms[j].mask) := by
  rcases (h.terms i hi hi').2 with ⟨_, h0⟩ | ⟨g, cap, cur, hv, hb, hg, h1, h2, h3, h4⟩
  · omega
  · refine ⟨g, cap, hv, by rw [hv]; rfl, hb, (Array.getElem?_eq_some_iff.1 hg).1, fun o => frozen_of_row w g o _ eT hg, fun j hj => ?_⟩
    obtain ⟨t1, t2⟩ := termCells_get (l := l[i].terms) hj
    rw [← h4, List.getElem?_take_of_lt (by omega), Array.getElem?_toList] at t1 t2
    exact ⟨by rw [cell_of_row w g _ cur eT (0, 0) hg, t1], by rw [cell_of_row w g _ cur eT (0, 0) hg, t2]⟩
theorem Copied.at_term_set {eR eT : TypeId} {w : World} {B : Nat} {v : Value} {l : List Row} {tvs : List Value} {i : Nat} {r : Row} (h : Copied eR eT w B v (l.set i r) tvs) (hi : i < l.length) (hi' : i < tvs.length) {j : Nat} (hj : j < r.terms.length) :
    ∃ gt c, tvs[i] = .slice (some ⟨gt, 0, none⟩) r.terms.length c ∧ tvs[i].ownBlock = some gt ∧ B ≤ gt ∧ gt < w.heap.size ∧ (∀ o, w.frozen? ⟨gt, o, none⟩ = false) ∧ w.cell? ⟨gt, j * 2, none⟩ = some (.int .i64 r.terms[j].unit) ∧ w.cell? ⟨gt, j * 2 + 1, none⟩ = some (.int .i64 r.terms[j].mask) := by
  have e : (l.set i r)[i]'(by rw [List.length_set]; exact hi) = r := by simp
  have key := h.at_term (i := i) (by rw [List.length_set]; exact hi) hi'
  rw [e] at key
  obtain ⟨gt, c, h1, h2, h3, h4, h5, h6⟩ := key (by omega)
  exact ⟨gt, c, h1, h2, h3, h4, h5, h6 j hj⟩
theorem Copied.setMask_set {eR eT : TypeId} {w : World} {B : Nat} {v : Value} {l : List Row} {tvs : List Value} {i : Nat} {r : Row} (h : Copied eR eT w B v (l.set i r) tvs) (hi : i < l.length) (hi' : i < tvs.length) {g : Nat} (hg : tvs[i].ownBlock = some g) {j : Nat} (hj : j < r.terms.length) (m : Int) (hm : I64 m) :
    Copied eR eT (w.setCell ⟨g, j * 2 + 1, none⟩ (.int .i64 m)) B v (l.set i { r with terms := r.terms.set j ⟨r.terms[j].unit, m⟩ }) tvs := by
  have e : (l.set i r)[i]'(by rw [List.length_set]; exact hi) = r := by simp
  have key := fun hj => h.setMask (i := i) (by rw [List.length_set]; exact hi) hi' hg (j := j) hj m hm
  simp only [List.set_set] at key
  rw [e] at key
  exact key hj
/-- The terms, of which the first j are turned. -/
def turnT (f : Term → Term) (l : List Term) (j : Nat) : List Term := (l.take j).map f ++ l.drop j
theorem turnT_zero (f : Term → Term) (l : List Term) : turnT f l 0 = l := by simp [turnT]
theorem turnT_all (f : Term → Term) (l : List Term) : turnT f l l.length = l.map f := by simp [turnT]
theorem turnT_len (f : Term → Term) (l : List Term) (j : Nat) : (turnT f l j).length = l.length := by
  unfold turnT
  rw [List.length_append, List.length_map, List.length_take, List.length_drop]
  omega
theorem turnT_at (f : Term → Term) (l : List Term) {j : Nat} (hj : j < l.length) : (turnT f l j)[j]'(by rw [turnT_len]; exact hj) = l[j] := by
  unfold turnT
  rw [List.getElem_append_right (by simp; omega)]
  simp [show min j l.length = j by omega]
theorem turnT_get (f : Term → Term) (l : List Term) (j k : Nat) (hj : j ≤ l.length) : (turnT f l j)[k]? = if k < j then l[k]?.map f else l[k]? := by
  unfold turnT
  have hl : ((l.take j).map f).length = j := by rw [List.length_map, List.length_take]; omega
  by_cases h : k < j
  · rw [if_pos h, List.getElem?_append_left (by omega), List.getElem?_map, List.getElem?_take_of_lt h]
  · rw [if_neg h, List.getElem?_append_right (by omega), hl, List.getElem?_drop]
    congr 1
    omega
theorem turnT_succ (f : Term → Term) (l : List Term) {j : Nat} (hj : j < l.length) : turnT f l (j + 1) = (turnT f l j).set j (f l[j]) := by
  apply List.ext_getElem?
  intro k
  rw [turnT_get f l (j + 1) k hj, List.getElem?_set, turnT_len, turnT_get f l j k (by omega)]
  by_cases e : j = k
  · subst e
    rw [if_pos (by omega), if_pos rfl, if_pos hj, List.getElem?_eq_getElem hj]
    rfl
  · rw [if_neg e]
    by_cases h : k < j
    · rw [if_pos h, if_pos (by omega)]
    · rw [if_neg h, if_neg (by omega)]
end Go.Proofs.YtilgijmokjekgaaGreatDoor
end
section
/- What fact.All holds in memory: rows of its own, and the map of their keys. No program stands here. -/
namespace Go.Proofs.YtilgijmokjekgaaGreatDoor
open Go Go.RowKit

section
variable {P : Program} {kt : TypeId} {κ : Type} {K : KeyG P kt κ} {w w' : World} {b n : Nat} {f : κ → Option Value}
theorem MapG.ne_own {B : Nat} {e : TypeId} {s m : Nat} {v : Value} {xs : List Value} (h : MapG K w b n f) (ho : w.ownsRow B e s v m xs) {g : Nat} (hg : v.ownBlock = some g) : g ≠ b := by
  rintro rfl
  obtain ⟨es, clock, h1, _⟩ := h.holds
  rcases ho.2 with ⟨rfl, _⟩ | ⟨a, cap, cur, rfl, _, hh, _⟩
  · cases hg
  · have : a = g := Option.some.inj hg
    subst this
    rw [h1] at hh; cases hh
theorem MapG.by_own {B : Nat} {e : TypeId} {s m : Nat} {v : Value} {xs : List Value} (h : MapG K w b n f) (ho : w.ownsRow B e s v m xs) (hg : w.grownBy w' v.ownBlock) : MapG K w' b n f :=
  h.keep (hg.block b h.lt (fun e => h.ne_own ho e.symm rfl))
theorem Copied.by_mapg {eR eT : TypeId} {B : Nat} {v : Value} {l : List Row} {tvs : List Value} (h : Copied eR eT w B v l tvs) (hm : MapG K w b n f) (hg : w.grownBy w' (some b)) : Copied eR eT w' B v l tvs :=
  h.keep (fun g hgg => hg.block g (h.lt.1 g hgg).2 (fun e => hm.ne_own h.own hgg (Option.some.inj e)))
    (fun k hk g hgg => hg.block g (h.lt.2 k hk g hgg).2 (fun e => hm.ne_own (h.terms k (by rw [← h.len]; exact hk) hk) hgg (Option.some.inj e)))
end
/-- None of the rows' blocks lies between. -/
def Out (B1 B2 : Nat) (rv : Value) (tvs : List Value) : Prop := ∀ b, B1 ≤ b → b < B2 → rv.ownBlock ≠ some b ∧ ∀ tv ∈ tvs, tv.ownBlock ≠ some b
/-- The rows so far. -/
structure AllSt (ns : List Nat) (B : Nat) (w0 wr : World) (mb : Nat) (rv : Value) (rows : List RowN) (tvs : List Value) : Prop where
  cop : Copied 36 55 wr B rv (rows.map (rowOf ns)) tvs
  map : ∃ c, MapG kAlike wr mb c (keyF ns rows)
  bel : Below B w0 wr
  base : B ≤ mb
section
variable {ns : List Nat} {B mb : Nat} {w0 wr w' : World} {rv rv' : Value} {rows : List RowN} {tvs : List Value}
theorem AllSt.later (h : AllSt ns B w0 wr mb rv rows tvs) (hb : Below wr.heap.size wr w') : AllSt ns B w0 w' mb rv rows tvs := by
  obtain ⟨c, hm⟩ := h.map
  have h1 : B ≤ wr.heap.size := Nat.le_trans h.base (Nat.le_of_lt hm.lt)
  exact ⟨h.cop.below hb (Nat.le_refl _), ⟨c, hm.below hb hm.lt⟩, h.bel.trans (hb.mono h1), h.base⟩
theorem AllSt.size (h : AllSt ns B w0 wr mb rv rows tvs) : B ≤ mb ∧ mb < wr.heap.size := by
  obtain ⟨c, hm⟩ := h.map
  exact ⟨h.base, hm.lt⟩
theorem AllSt.len (h : AllSt ns B w0 wr mb rv rows tvs) : tvs.length = rows.length := by
  rw [h.cop.len, List.length_map]
theorem AllSt.form (h : AllSt ns B w0 wr mb rv rows tvs) : ∃ A c, rv = .slice A rows.length c := by
  have := own_form h.cop.own
  rwa [List.length_map] at this
/-- The map turned: Copied and the rest stay. -/
theorem AllSt.turned {rows' : List RowN} (h : AllSt ns B w0 wr mb rv rows tvs) {c : Nat} (hg : wr.grownBy w' (some mb)) (hm : MapG kAlike w' mb c (keyF ns rows')) :
    Copied 36 55 w' B rv (rows.map (rowOf ns)) tvs ∧ MapG kAlike w' mb c (keyF ns rows') ∧ Below B w0 w' := by
  obtain ⟨c0, hm0⟩ := h.map
  refine ⟨h.cop.by_mapg hm0 hg, hm, h.bel.grown hg (Nat.le_trans h.base (Nat.le_of_lt hm0.lt)) fun k hk => ?_⟩
  have := Option.some.inj hk
  rw [← this]
  exact h.base
/-- A row more. -/
theorem AllSt.snoc {r : RowN} {tv : Value} {c : Nat} (h0 : Copied 36 55 wr B rv (rows.map (rowOf ns)) tvs) (hm : MapG kAlike wr mb c (keyF ns (rows ++ [r]))) (hb : Below B w0 wr) (hB : B ≤ mb)
    (ho : w'.ownsRow B 36 5 rv' (rows.length + 1) (rowsCells (rows.map (rowOf ns)) tvs ++ rowCells (rowOf ns r) tv)) (hg : wr.grownBy w' rv.ownBlock) (hr : RowI (rowOf ns r)) (ht : OwnF fTerm 55 B wr tv (canon ns r.M))
    (hap : ∀ k, (hk : k < tvs.length) → ∀ g, tvs[k].ownBlock = some g → tv.ownBlock ≠ some g) : AllSt ns B w0 w' mb rv' (rows ++ [r]) (tvs ++ [tv]) := by
  have ht2 : wr.ownsRow B 55 2 tv (rowOf ns r).terms.length (termCells (rowOf ns r).terms) := by
    have := ht.1
    rw [show fTerm.all (canon ns r.M) = termCells (canon ns r.M) from fTerm_all _] at this
    exact this
  refine ⟨?_, ⟨c, hm.by_own h0.own hg⟩, hb.grown hg (Nat.le_trans hB (Nat.le_of_lt hm.lt)) fun k hk => (h0.lt.1 k hk).1, hB⟩
  rw [List.map_append]
  exact h0.snoc (r := rowOf ns r) (by rw [List.length_map]; exact ho) hg hr ht2 hap
end
end Go.Proofs.YtilgijmokjekgaaGreatDoor
end
