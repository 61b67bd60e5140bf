import Derived.Test.YtilgijmokjekgaaGreatDoorzGW
import Derived.Test.YtilgijmokjekgaaGreatDoorzY15
import Derived.Outline
section
/- Plain: what rows that are put together keep. No program stands here. -/
namespace Go.Proofs.YtilgijmokjekgaaGreatDoor
open Go Go.RowKit

section
variable {ns : List Nat}
theorem like_iff {x r : RowN} : likeN ns x r = true ↔ x.kind = r.kind ∧ x.u = r.u ∧ butL (canon ns x.M) r.u = butL (canon ns r.M) r.u := by
  unfold likeN
  simp only [Bool.and_eq_true, decide_eq_true_eq]
theorem both_but (x r : RowN) : butL (canon ns (bothN x r).M) (r.u : Int) = butL (canon ns x.M) (r.u : Int) := but_congr fun v hv => by
  show (if v = r.u then x.M v ||| r.M v else x.M v) = x.M v
  rw [if_neg hv]
/-- A row that another was put to is like the same rows. -/
theorem like_both {x r s : RowN} (h : likeN ns x r = true) : likeN ns (bothN x r) s = likeN ns x s := by
  obtain ⟨h1, h2, -⟩ := like_iff.1 h
  have key : likeN ns (bothN x r) s = true ↔ likeN ns x s = true := by
    rw [like_iff, like_iff]
    show (x.kind = s.kind ∧ x.u = s.u ∧ _) ↔ _
    constructor
    · rintro ⟨a, b, c⟩
      refine ⟨a, b, ?_⟩
      rw [← c, ← b, h2, both_but]
    · rintro ⟨a, b, c⟩
      refine ⟨a, b, ?_⟩
      rw [← c, ← b, h2, both_but]
  cases e : likeN ns x s with
  | true => exact key.2 e
  | false =>
    cases e2 : likeN ns (bothN x r) s with
    | true => rw [key.1 e2] at e; cases e
    | false => rfl
theorem like_self (r : RowN) : likeN ns r r = true := like_iff.2 ⟨rfl, rfl, rfl⟩
/-- A list of rows has a row within it already. -/
def HasN (ns : List Nat) : List RowN → RowN → Prop
  | [], _ => False
  | x :: l, r => if likeN ns x r then bothN x r = x else HasN ns l r
theorem has_put {rows : List RowN} {r : RowN} (h : HasN ns rows r) : putN ns rows r = rows := by
  induction rows with
  | nil => exact h.elim
  | cons x l ih =>
    unfold HasN at h
    show (if likeN ns x r then bothN x r :: l else x :: putN ns l r) = x :: l
    split at h
    · rename_i hl
      rw [if_pos hl, h]
    · rename_i hl
      rw [if_neg hl, ih h]
theorem or_sub {a b c : Nat} (h : a ||| b = a) : (a ||| c) ||| b = a ||| c := by
  rw [Nat.or_assoc, Nat.or_comm c b, ← Nat.or_assoc, h]
theorem both_at {x r : RowN} (h : bothN x r = x) : x.M r.u ||| r.M r.u = x.M r.u := by
  have h1 := congrFun (congrArg RowN.M h) r.u
  have h2 : (if r.u = r.u then x.M r.u ||| r.M r.u else x.M r.u) = x.M r.u := h1
  rwa [if_pos rfl] at h2
theorem both_of {x r : RowN} (h : x.M r.u ||| r.M r.u = x.M r.u) : bothN x r = x := by
  obtain ⟨k, u, M⟩ := x
  unfold bothN
  dsimp only at h ⊢
  congr 1
  funext v
  split
  · rename_i e; subst e; exact h
  · rfl
theorem has_keep {rows : List RowN} {r s : RowN} (h : HasN ns rows r) : HasN ns (putN ns rows s) r := by
  induction rows with
  | nil => exact h.elim
  | cons x l ih =>
    show HasN ns (if likeN ns x s then bothN x s :: l else x :: putN ns l s) r
    unfold HasN at h
    split
    · rename_i hs
      unfold HasN
      rw [like_both hs]
      split at h
      · rename_i hr
        rw [if_pos hr]
        apply both_of
        have h1 := both_at h
        obtain ⟨-, b1, -⟩ := like_iff.1 hs
        obtain ⟨-, b2, -⟩ := like_iff.1 hr
        show (if r.u = s.u then x.M r.u ||| s.M r.u else x.M r.u) ||| r.M r.u = (if r.u = s.u then x.M r.u ||| s.M r.u else x.M r.u)
        rw [if_pos (by omega)]
        exact or_sub h1
      · rename_i hr
        rw [if_neg hr]
        exact h
    · unfold HasN
      split at h
      · rename_i hr
        rw [if_pos hr]
        exact h
      · rename_i hr
        rw [if_neg hr]
        exact ih h
theorem has_new (rows : List RowN) (r : RowN) : HasN ns (putN ns rows r) r := by
  induction rows with
  | nil =>
    show if likeN ns r r then bothN r r = r else _
    rw [if_pos (like_self r)]
    exact both_of (Nat.or_self _)
  | cons x l ih =>
    show HasN ns (if likeN ns x r then bothN x r :: l else x :: putN ns l r) r
    split
    · rename_i h
      unfold HasN
      rw [like_both h, if_pos h]
      apply both_of
      show (if r.u = r.u then x.M r.u ||| r.M r.u else x.M r.u) ||| r.M r.u = (if r.u = r.u then x.M r.u ||| r.M r.u else x.M r.u)
      rw [if_pos rfl, Nat.or_assoc, Nat.or_self]
    · rename_i h
      unfold HasN
      rw [if_neg h]
      exact ih
/-- No two rows are like each other. -/
def Apart (ns : List Nat) (rows : List RowN) : Prop := rows.Pairwise fun x y => likeN ns x y = false
end
end Go.Proofs.YtilgijmokjekgaaGreatDoor
end
section
/- Plain: a world's rows as one run through its clauses; each clause twice; rows apart; each row says what its clauses say. No program stands here. -/
namespace Go.Proofs.YtilgijmokjekgaaGreatDoor
open Go Go.RowKit

def candsC (us : List UnitW) (u : Nat) (cs : List CandW) : Nat → List RawN
  | 0 => []
  | k + 1 => match cs[k]? with
    | some c => candsC us u cs k ++ clausesN us u k c
    | none => candsC us u cs k
def unitsC (us : List UnitW) : Nat → List RawN
  | 0 => []
  | k + 1 => match us[k]? with
    | some u => unitsC us k ++ candsC us k u.cands u.cands.length
    | none => unitsC us k
def allC (us : List UnitW) : List RawN := unitsC us us.length
section
variable {us : List UnitW}
theorem cands_fold (u : Nat) (rows : List RowN) (cs : List CandW) (k : Nat) : candsN us u rows cs k = (candsC us u cs k).foldl (addC us) rows := by
  induction k with
  | zero => rfl
  | succ k ih =>
    show (match cs[k]? with | some c => candN us u k (candsN us u rows cs k) c | none => candsN us u rows cs k) = (match cs[k]? with | some c => candsC us u cs k ++ clausesN us u k c | none => candsC us u cs k).foldl (addC us) rows
    cases cs[k]? with
    | none => exact ih
    | some c =>
      dsimp only
      rw [ih, cand_clauses, List.foldl_append]
theorem units_fold (k : Nat) : unitsN us k = (unitsC us k).foldl (addC us) [rootN (nsOf us)] := by
  induction k with
  | zero => rfl
  | succ k ih =>
    show (match us[k]? with | some u => candsN us k (unitsN us k) u.cands u.cands.length | none => unitsN us k) = (match us[k]? with | some u => unitsC us k ++ candsC us k u.cands u.cands.length | none => unitsC us k).foldl (addC us) [rootN (nsOf us)]
    cases us[k]? with
    | none => exact ih
    | some u =>
      dsimp only
      rw [ih, cands_fold, List.foldl_append]
theorem all_fold : allN us = (allC us).foldl (addC us) [rootN (nsOf us)] := units_fold _
/-- A clause of a world. -/
def Clause (us : List UnitW) (r : RawN) : Prop := ∃ u x p c, us[u]? = some x ∧ x.cands[p]? = some c ∧ r ∈ clausesN us u p c
theorem fold_keep {P : List RowN → Prop} {l : List RawN} (h : ∀ r ∈ l, ∀ rows, P rows → P (addC us rows r)) : ∀ rows, P rows → P (l.foldl (addC us) rows) := by
  induction l with
  | nil => exact fun _ h => h
  | cons r l ih => exact fun rows h0 => ih (fun x hx => h x (List.mem_cons_of_mem _ hx)) _ (h r (List.mem_cons_self ..) _ h0)
theorem fold_has {P : List RowN → Prop} {l : List RawN} {r : RawN} (hr : r ∈ l) (hm : ∀ rows, P (addC us rows r)) (h : ∀ r ∈ l, ∀ rows, P rows → P (addC us rows r)) : ∀ rows, P (l.foldl (addC us) rows) := by
  induction l with
  | nil => cases hr
  | cons x l ih =>
    intro rows
    rcases List.mem_cons.1 hr with rfl | hr
    · exact fold_keep (fun y hy => h y (List.mem_cons_of_mem _ hy)) _ (hm rows)
    · exact ih hr (fun y hy => h y (List.mem_cons_of_mem _ hy)) _
/- Twice. -/
theorem addC_twice {l : List RawN} : ∀ rows, l.foldl (addC us) (l.foldl (addC us) rows) = l.foldl (addC us) rows := by
  intro rows
  have h1 : ∀ r ∈ l, addC us (l.foldl (addC us) rows) r = l.foldl (addC us) rows := fun r hr => by
    by_cases hs : (makeN (nsOf us) r.ts).isSome
    · have h2 : HasN (nsOf us) (l.foldl (addC us) rows) ⟨r.kind, r.u, meetN (nsOf us) r.ts⟩ := fold_has (P := fun rows => HasN (nsOf us) rows ⟨r.kind, r.u, meetN (nsOf us) r.ts⟩) hr (fun rows => by
          unfold addC; rw [if_pos hs]; exact has_new _ _) (fun s _ rows h => by
          unfold addC
          split
          · exact has_keep h
          · exact h) _
      unfold addC
      rw [if_pos hs]
      exact has_put h2
    · unfold addC
      rw [if_neg hs]
  have h2 : ∀ m : List RawN, (∀ r ∈ m, r ∈ l) → m.foldl (addC us) (l.foldl (addC us) rows) = l.foldl (addC us) rows := by
    intro m
    induction m with
    | nil => exact fun _ => rfl
    | cons r m ih =>
      intro hm
      rw [List.foldl_cons, h1 r (hm r (List.mem_cons_self ..))]
      exact ih fun x hx => hm x (List.mem_cons_of_mem _ hx)
  exact h2 l fun _ h => h
end
/-- A candidate whose needs and bars stand twice. -/
def dblC (c : CandW) : CandW := { c with needs := c.needs ++ c.needs, bars := c.bars ++ c.bars }
def dblU (x : UnitW) : UnitW := { x with cands := x.cands.map dblC }
section
variable {us : List UnitW}
theorem ns_dbl : nsOf (us.map dblU) = nsOf us := by
  unfold nsOf
  rw [List.map_map]
  exact List.map_congr_left fun x _ => by show (x.cands.map dblC).length = _; rw [List.length_map]
theorem metTo_dbl (cs : List CandW) (s : SetD) (k : Nat) : metTo (cs.map dblC) s k = metTo cs s k := by
  induction k with
  | zero => rfl
  | succ k ih =>
    show metTo _ s k + (if (((cs.map dblC)[k]?).map fun c => hasB s c.v).getD false = true then 2 ^ (k + 1) else 0) = metTo cs s k + if ((cs[k]?).map fun c => hasB s c.v).getD false = true then 2 ^ (k + 1) else 0
    rw [ih, List.getElem?_map]
    cases cs[k]? <;> rfl
theorem met_dbl (x : WantD) : metN (us.map dblU) x = metN us x := by
  unfold metN
  rw [List.getElem?_map]
  cases us[x.u.toNat]? with
  | none => rfl
  | some u =>
    show metTo (u.cands.map dblC) x.s (u.cands.map dblC).length = _
    rw [metTo_dbl, List.length_map]
theorem clauseL_dbl (u p : Nat) (l : List WantD) (b : Bool) : clauseL (us.map dblU) u p l b = clauseL us u p l b := by
  unfold clauseL
  rw [List.map_congr_left (g := clauseT us b) fun x _ => by unfold clauseT; rw [met_dbl, ns_dbl]]
theorem clauses_dbl (u p : Nat) (c : CandW) : clausesN (us.map dblU) u p (dblC c) = (needR us u p c.needs ++ needR us u p c.needs) ++ (barR us u p c.bars ++ barR us u p c.bars) := by
  unfold clausesN needR barR dblC
  dsimp only
  rw [List.map_append, List.map_append]
  simp only [clauseL_dbl]
theorem addC_dbl : addC (us.map dblU) = addC us := by
  funext rows r
  unfold addC
  rw [ns_dbl]
theorem cands_dbl (u : Nat) (cs : List CandW) (k : Nat) : ∀ rows, (candsC (us.map dblU) u (cs.map dblC) k).foldl (addC us) rows = (candsC us u cs k).foldl (addC us) rows := by
  induction k with
  | zero => exact fun _ => rfl
  | succ k ih =>
    intro rows
    show ((match (cs.map dblC)[k]? with | some c => candsC (us.map dblU) u (cs.map dblC) k ++ clausesN (us.map dblU) u k c | none => candsC (us.map dblU) u (cs.map dblC) k) : List RawN).foldl (addC us) rows = (match cs[k]? with | some c => candsC us u cs k ++ clausesN us u k c | none => candsC us u cs k).foldl (addC us) rows
    rw [List.getElem?_map]
    cases cs[k]? with
    | none => exact ih rows
    | some c =>
      show (candsC (us.map dblU) u (cs.map dblC) k ++ clausesN (us.map dblU) u k (dblC c)).foldl (addC us) rows = (candsC us u cs k ++ clausesN us u k c).foldl (addC us) rows
      rw [List.foldl_append, List.foldl_append, ih, clauses_dbl]
      unfold clausesN
      rw [List.foldl_append, List.foldl_append, List.foldl_append, List.foldl_append, addC_twice, addC_twice]
theorem units_dbl (k : Nat) : ∀ rows, (unitsC (us.map dblU) k).foldl (addC us) rows = (unitsC us k).foldl (addC us) rows := by
  induction k with
  | zero => exact fun _ => rfl
  | succ k ih =>
    intro rows
    show ((match (us.map dblU)[k]? with | some u => unitsC (us.map dblU) k ++ candsC (us.map dblU) k u.cands u.cands.length | none => unitsC (us.map dblU) k) : List RawN).foldl (addC us) rows = (match us[k]? with | some u => unitsC us k ++ candsC us k u.cands u.cands.length | none => unitsC us k).foldl (addC us) rows
    rw [List.getElem?_map]
    cases us[k]? with
    | none => exact ih rows
    | some x =>
      show (unitsC (us.map dblU) k ++ candsC (us.map dblU) k (x.cands.map dblC) (x.cands.map dblC).length).foldl (addC us) rows = (unitsC us k ++ candsC us k x.cands x.cands.length).foldl (addC us) rows
      rw [List.foldl_append, List.foldl_append, ih, cands_dbl, List.length_map]
/-- Each need and each bar twice: the same rows. -/
theorem all_dbl : allN (us.map dblU) = allN us := by
  rw [all_fold, all_fold, ns_dbl, addC_dbl]
  unfold allC
  rw [List.length_map, units_dbl]
end
end Go.Proofs.YtilgijmokjekgaaGreatDoor
end
section
/- Plain: each row is right, and says what its clauses say. No program stands here. -/
namespace Go.Proofs.YtilgijmokjekgaaGreatDoor
open Go Go.RowKit

section
variable {ns : List Nat}
/-- Does a row of a kind and a unit hold? -/
def saidN (ns : List Nat) (rows : List RowN) (kind : Int) (u : Nat) (c : List Int) : Prop := ∃ x ∈ rows, x.kind = kind ∧ x.u = u ∧ holdN ns x.M c = true
end
section
variable {us : List UnitW}
/-- A row that stems from clauses. -/
def FromC (us : List UnitW) (r : RowN) : Prop := r.kind = 1 ∨ ((r.kind = 2 ∨ r.kind = 3) ∧ ∀ p, (r.M r.u).testBit (p + 1) = true → ∃ x c, us[r.u]? = some x ∧ x.cands[p]? = some c ∧
  ((r.kind = 2 ∧ ∃ l ∈ c.needs, (makeN (nsOf us) (clauseL us r.u p l false)).isSome ∧ ∀ v, v < us.length → v ≠ r.u → r.M v = meetN (nsOf us) (clauseL us r.u p l false) v) ∨
   (r.kind = 3 ∧ ∃ y ∈ c.bars, (makeN (nsOf us) (clauseL us r.u p [y] true)).isSome ∧ ∀ v, v < us.length → v ≠ r.u → r.M v = meetN (nsOf us) (clauseL us r.u p [y] true) v)))
end
end Go.Proofs.YtilgijmokjekgaaGreatDoor
end
section
/- Plain: each row of needs and bars is right, with fewer values, too. No program stands here. -/
namespace Go.Proofs.YtilgijmokjekgaaGreatDoor
open Go Go.RowKit

section
variable {us : List UnitW}
/-- The wants of a world are of its units. -/
def InW (us : List UnitW) (c : CandW) : Prop := (∀ l ∈ c.needs, ∀ x ∈ l, 0 ≤ x.u ∧ x.u < us.length) ∧ ∀ x ∈ c.bars, 0 ≤ x.u ∧ x.u < us.length
end
end Go.Proofs.YtilgijmokjekgaaGreatDoor
end
