import Derived.Test.YthneiolcljnbeaaGreatDoorzA0
import Derived.Test.YthneiolcljnbeaaGreatDoorzY16
import Derived.Outline
import Derived.Test.YthneiolcljnbeaaGreatDoorzH1
import Derived.Test.YthneiolcljnbeaaGreatDoorzY13
namespace Go.Proofs.YthneiolcljnbeaaGreatDoor
open Go Go.RowKit
section
section
variable {ns : List Nat}
theorem like_iff {x r : RowN} : likeN ns x r = true ↔ x.kind = r.kind ∧ x.u = r.u ∧ butL (canon ns x.M) r.u = butL (canon ns r.M) r.u := by
 unfold likeN
 simp only [Bool.and_eq_true, decide_eq_true_eq]
def HasN (ns : List Nat) : List RowN → RowN → Prop
 | [], _ => False
 | x :: l, r => if likeN ns x r then bothN x r = x else HasN ns l r
def Apart (ns : List Nat) (rows : List RowN) : Prop := rows.Pairwise fun x y => likeN ns x y = false
end
end
section
def candsC (us : List UnitW) (u : Nat) (cs : List CandW) : Nat → List RawN
 | 0 => []
 | k + 1 => match cs[k]? with
  | some c => candsC us u cs k ++ clausesN us u k c
  | none => candsC us u cs k
def unitsC (us : List UnitW) : Nat → List RawN
 | 0 => []
 | k + 1 => match us[k]? with
  | some u => unitsC us k ++ candsC us k u.cands u.cands.length
  | none => unitsC us k
def allC (us : List UnitW) : List RawN := unitsC us us.length
section
variable {us : List UnitW}
theorem cands_fold (u : Nat) (rows : List RowN) (cs : List CandW) (k : Nat) : candsN us u rows cs k = (candsC us u cs k).foldl (addC us) rows := by
 induction k with
 | zero => rfl
 | succ k ih =>
  show (match cs[k]? with | some c => candN us u k (candsN us u rows cs k) c | none => candsN us u rows cs k) = (match cs[k]? with | some c => candsC us u cs k ++ clausesN us u k c | none => candsC us u cs k).foldl (addC us) rows
  cases cs[k]? with
  | none => exact ih
  | some c =>
   dsimp only
   rw [ih, cand_clauses, List.foldl_append]
theorem units_fold (k : Nat) : unitsN us k = (unitsC us k).foldl (addC us) [rootN (nsOf us)] := by
 induction k with
 | zero => rfl
 | succ k ih =>
  show (match us[k]? with | some u => candsN us k (unitsN us k) u.cands u.cands.length | none => unitsN us k) = (match us[k]? with | some u => unitsC us k ++ candsC us k u.cands u.cands.length | none => unitsC us k).foldl (addC us) [rootN (nsOf us)]
  cases us[k]? with
  | none => exact ih
  | some u =>
   dsimp only
   rw [ih, cands_fold, List.foldl_append]
theorem all_fold : allN us = (allC us).foldl (addC us) [rootN (nsOf us)] := units_fold _
theorem candsC_mem {u : Nat} {cs : List CandW} {k : Nat} {r : RawN} : r ∈ candsC us u cs k ↔ ∃ p c, p < k ∧ cs[p]? = some c ∧ r ∈ clausesN us u p c := by
 induction k with
 | zero => exact ⟨fun h => (by cases h), fun ⟨p, _, h, _⟩ => absurd h (by omega)⟩
 | succ k ih =>
  show r ∈ (match cs[k]? with | some c => candsC us u cs k ++ clausesN us u k c | none => candsC us u cs k) ↔ _
  constructor
  ·intro h
   cases e : cs[k]? with
   | none =>
    rw [e] at h
    obtain ⟨p, c, h1, h2, h3⟩ := ih.1 h
    exact ⟨p, c, by omega, h2, h3⟩
   | some c =>
    rw [e] at h
    rcases List.mem_append.1 h with h | h
    ·obtain ⟨p, c, h1, h2, h3⟩ := ih.1 h
     exact ⟨p, c, by omega, h2, h3⟩
    ·exact ⟨k, c, by omega, e, h⟩
  ·rintro ⟨p, c, h1, h2, h3⟩
   by_cases e : p = k
   ·subst e
    rw [h2]
    exact List.mem_append.2 (.inr h3)
   ·have h4 := ih.2 ⟨p, c, by omega, h2, h3⟩
    cases cs[k]? with
    | none => exact h4
    | some c => exact List.mem_append.2 (.inl h4)
theorem unitsC_mem {k : Nat} {r : RawN} : r ∈ unitsC us k ↔ ∃ u x p c, u < k ∧ us[u]? = some x ∧ x.cands[p]? = some c ∧ r ∈ clausesN us u p c := by
 induction k with
 | zero => exact ⟨fun h => (by cases h), fun ⟨p, _, _, _, h, _⟩ => absurd h (by omega)⟩
 | succ k ih =>
  show r ∈ (match us[k]? with | some u => unitsC us k ++ candsC us k u.cands u.cands.length | none => unitsC us k) ↔ _
  constructor
  ·intro h
   cases e : us[k]? with
   | none =>
    rw [e] at h
    obtain ⟨u, x, p, c, h1, h2⟩ := ih.1 h
    exact ⟨u, x, p, c, by omega, h2⟩
   | some x =>
    rw [e] at h
    rcases List.mem_append.1 h with h | h
    ·obtain ⟨u, x, p, c, h1, h2⟩ := ih.1 h
     exact ⟨u, x, p, c, by omega, h2⟩
    ·obtain ⟨p, c, h1, h2, h3⟩ := candsC_mem.1 h
     exact ⟨k, x, p, c, by omega, e, h2, h3⟩
  ·rintro ⟨u, x, p, c, h1, h2, h3, h4⟩
   by_cases e : u = k
   ·subst e
    rw [h2]
    exact List.mem_append.2 (.inr (candsC_mem.2 ⟨p, c, (List.getElem?_eq_some_iff.1 h3).1, h3, h4⟩))
   ·have h5 := ih.2 ⟨u, x, p, c, by omega, h2, h3, h4⟩
    cases us[k]? with
    | none => exact h5
    | some x => exact List.mem_append.2 (.inl h5)
def Clause (us : List UnitW) (r : RawN) : Prop := ∃ u x p c, us[u]? = some x ∧ x.cands[p]? = some c ∧ r ∈ clausesN us u p c
theorem allC_mem {r : RawN} : r ∈ allC us ↔ Clause us r := by
 unfold allC
 rw [unitsC_mem]
 exact ⟨fun ⟨u, x, p, c, _, h⟩ => ⟨u, x, p, c, h⟩, fun ⟨u, x, p, c, h⟩ => ⟨u, x, p, c, (List.getElem?_eq_some_iff.1 h.1).1, h⟩⟩
theorem fold_keep {P : List RowN → Prop} {l : List RawN} (h : ∀ r ∈ l, ∀ rows, P rows → P (addC us rows r)) : ∀ rows, P rows → P (l.foldl (addC us) rows) := by
 induction l with
 | nil => exact fun _ h => h
 | cons r l ih => exact fun rows h0 => ih (fun x hx => h x (List.mem_cons_of_mem _ hx)) _ (h r (List.mem_cons_self ..) _ h0)
theorem fold_has {P : List RowN → Prop} {l : List RawN} {r : RawN} (hr : r ∈ l) (hm : ∀ rows, P (addC us rows r)) (h : ∀ r ∈ l, ∀ rows, P rows → P (addC us rows r)) : ∀ rows, P (l.foldl (addC us) rows) := by
 induction l with
 | nil => cases hr
 | cons x l ih =>
  intro rows
  rcases List.mem_cons.1 hr with rfl | hr
  ·exact fold_keep (fun y hy => h y (List.mem_cons_of_mem _ hy)) _ (hm rows)
  ·exact ih hr (fun y hy => h y (List.mem_cons_of_mem _ hy)) _
theorem all_keep {P : List RowN → Prop} (h0 : P [rootN (nsOf us)]) (h : ∀ r, Clause us r → ∀ rows, P rows → P (addC us rows r)) : P (allN us) := by
 rw [all_fold]
 exact fold_keep (fun r hr => h r (allC_mem.1 hr)) _ h0
theorem all_has {P : List RowN → Prop} {r : RawN} (hr : Clause us r) (hm : ∀ rows, P (addC us rows r)) (h : ∀ r, Clause us r → ∀ rows, P rows → P (addC us rows r)) : P (allN us) := by
 rw [all_fold]
 exact fold_has (allC_mem.2 hr) hm (fun r hr => h r (allC_mem.1 hr)) _
end
def dblC (c : CandW) : CandW := { c with needs := c.needs ++ c.needs, bars := c.bars ++ c.bars }
def dblU (x : UnitW) : UnitW := { x with cands := x.cands.map dblC }
section
variable {us : List UnitW}
end
end
section
section
variable {ns : List Nat}
theorem filter_fm {α β : Type} (f : α → Option β) (p : β → Bool) : ∀ l : List α, (l.filterMap f).filter p = l.filterMap fun x => (f x).filter p
  | [] => rfl
  | x :: l => by
    rw [List.filterMap_cons, List.filterMap_cons]
    cases e : f x with
    | none => exact filter_fm f p l
    | some y =>
      simp only [Option.filter_some]
      rw [List.filter_cons]
      split
      · rw [filter_fm f p l]
      · exact filter_fm f p l
theorem but_drop (M : Nat → Nat) (u : Nat) : butL (canon ns M) (u : Int) = canon ns (dropN ns M u) := by
  unfold butL canon canonTo
  rw [filter_fm]
  apply filterMap_same
  intro v _
  unfold tm dropN
  by_cases h : M v = fullN ns v
  · rw [if_pos h]
    by_cases e : v = u
    · subst e; simp
    · simp [e, h]
  · rw [if_neg h]
    by_cases e : v = u
    · subst e; simp
    · have e2 : ¬ (v : Int) = (u : Int) := by omega
      simp [e, h, e2]
theorem but_inj {M M' : Nat → Nat} {u : Nat} (h : butL (canon ns M) (u : Int) = butL (canon ns M') (u : Int)) {v : Nat} (hv : v < ns.length) (hne : v ≠ u) : M v = M' v := by
  rw [but_drop, but_drop] at h
  have := canon_inj h v hv
  unfold dropN at this
  rwa [if_neg hne, if_neg hne] at this
theorem hold_both {x r : RowN} {c : List Int} (h : likeN ns x r = true) (hr : holdN ns r.M c = true) : holdN ns (bothN x r).M c = true := by
  rw [holdN_iff] at hr ⊢
  intro v hv
  show (if v = r.u then x.M v ||| r.M v else x.M v).testBit _ = true
  split
  · rw [Nat.testBit_or, hr v hv, Bool.or_true]
  · rename_i e
    obtain ⟨-, -, h3⟩ := like_iff.1 h
    rw [but_inj h3 hv e]
    exact hr v hv
theorem hold_more {x r : RowN} {c : List Int} (hx : holdN ns x.M c = true) : holdN ns (bothN x r).M c = true := by
  rw [holdN_iff] at hx ⊢
  intro v hv
  show (if v = r.u then x.M v ||| r.M v else x.M v).testBit _ = true
  split
  · rw [Nat.testBit_or, hx v hv]; rfl
  · exact hx v hv
def saidN (ns : List Nat) (rows : List RowN) (kind : Int) (u : Nat) (c : List Int) : Prop := ∃ x ∈ rows, x.kind = kind ∧ x.u = u ∧ holdN ns x.M c = true
theorem said_put {rows : List RowN} {r : RowN} {c : List Int} (hr : holdN ns r.M c = true) : saidN ns (putN ns rows r) r.kind r.u c := by
  induction rows with
  | nil => exact ⟨r, List.mem_singleton_self _, rfl, rfl, hr⟩
  | cons x l ih =>
    show saidN ns (if likeN ns x r then bothN x r :: l else x :: putN ns l r) r.kind r.u c
    split
    · rename_i h
      obtain ⟨h1, h2, -⟩ := like_iff.1 h
      exact ⟨bothN x r, List.mem_cons_self .., h1, h2, hold_both h hr⟩
    · obtain ⟨y, hy, h⟩ := ih
      exact ⟨y, List.mem_cons_of_mem _ hy, h⟩
theorem said_keep {rows : List RowN} {r : RowN} {c : List Int} {kind : Int} {u : Nat} (h : saidN ns rows kind u c) : saidN ns (putN ns rows r) kind u c := by
  induction rows with
  | nil => obtain ⟨y, hy, _⟩ := h; cases hy
  | cons x l ih =>
    obtain ⟨y, hy, h1, h2, h3⟩ := h
    show saidN ns (if likeN ns x r then bothN x r :: l else x :: putN ns l r) kind u c
    split
    · rcases List.mem_cons.1 hy with rfl | hy
      · exact ⟨bothN y r, List.mem_cons_self .., h1, h2, hold_more h3⟩
      · exact ⟨y, List.mem_cons_of_mem _ hy, h1, h2, h3⟩
    · rcases List.mem_cons.1 hy with rfl | hy
      · exact ⟨y, List.mem_cons_self .., h1, h2, h3⟩
      · obtain ⟨z, hz, h⟩ := ih ⟨y, hy, h1, h2, h3⟩
        exact ⟨z, List.mem_cons_of_mem _ hz, h⟩
end
section
variable {us : List UnitW}
theorem clause_split {r : RawN} (h : Clause us r) : ∃ u x p c, us[u]? = some x ∧ x.cands[p]? = some c ∧ ((∃ l ∈ c.needs, r = ⟨2, u, clauseL us u p l false⟩) ∨ ∃ y ∈ c.bars, r = ⟨3, u, clauseL us u p [y] true⟩) := by
  obtain ⟨u, x, p, c, h1, h2, h3⟩ := h
  exact ⟨u, x, p, c, h1, h2, clauses_mem h3⟩
theorem clause_need {u p : Nat} {x : UnitW} {c : CandW} {l : List WantD} (h1 : us[u]? = some x) (h2 : x.cands[p]? = some c) (hl : l ∈ c.needs) : Clause us ⟨2, u, clauseL us u p l false⟩ :=
  ⟨u, x, p, c, h1, h2, List.mem_append.2 (.inl (List.mem_map.2 ⟨l, hl, rfl⟩))⟩
theorem clause_bar {u p : Nat} {x : UnitW} {c : CandW} {y : WantD} (h1 : us[u]? = some x) (h2 : x.cands[p]? = some c) (hy : y ∈ c.bars) : Clause us ⟨3, u, clauseL us u p [y] true⟩ :=
  ⟨u, x, p, c, h1, h2, List.mem_append.2 (.inr (List.mem_map.2 ⟨y, hy, rfl⟩))⟩
theorem said_all {r : RawN} (hr : Clause us r) {c : List Int} (h : holdN (nsOf us) (meetN (nsOf us) r.ts) c = true) (hi : inR (nsOf us) r.ts = true) : saidN (nsOf us) (allN us) r.kind r.u c :=
  all_has (P := fun rows => saidN (nsOf us) rows r.kind r.u c) hr (fun rows => by
    have hs : (makeN (nsOf us) r.ts).isSome := by
      unfold makeN madeN
      rw [if_pos hi, if_pos (holdN_ok h)]
      rfl
    unfold addC
    rw [if_pos hs]
    exact said_put (r := ⟨r.kind, r.u, meetN (nsOf us) r.ts⟩) h) (fun s _ rows h => by
    unfold addC
    split
    · exact said_keep h
    · exact h)
theorem diff_bit {f m u k : Nat} {ns : List Nat} (hu : u < ns.length) (hf : f = fullN ns u) (hm : m ≤ f) : (f - m).testBit k = (f.testBit k && !m.testBit k) := by
  subst hf
  have hb := full_bit hu k
  rw [hb]
  rw [fullN_of hu] at hm ⊢
  have hp := Nat.two_pow_pos (ns[u] + 1)
  have h1 : m < 2 ^ (ns[u] + 1) := by omega
  have h2 := Nat.testBit_two_pow_sub_succ h1 k
  rw [show 2 ^ (ns[u] + 1) - 1 - m = 2 ^ (ns[u] + 1) - (m + 1) by omega, h2]
  congr 1
  exact decide_eq_decide.2 (by omega)
theorem inR_clause {u p : Nat} {l : List WantD} {b : Bool} (hu : u < us.length) (hl : ∀ x ∈ l, 0 ≤ x.u ∧ x.u < us.length) : inR (nsOf us) (clauseL us u p l b) = true := by
  unfold inR clauseL
  rw [List.all_cons, List.all_map]
  have e : (nsOf us).length = us.length := by simp [nsOf]
  rw [e]
  have h1 : (decide ((0 : Int) ≤ (u : Int)) && decide ((u : Int) < (us.length : Int))) = true := by
    rw [Bool.and_eq_true]
    exact ⟨decide_eq_true (by omega), decide_eq_true (by omega)⟩
  show ((decide ((0 : Int) ≤ (u : Int)) && decide ((u : Int) < (us.length : Int))) && _) = true
  rw [h1, Bool.true_and, List.all_eq_true]
  intro x hx
  have h2 := hl x hx
  show (decide (0 ≤ x.u) && decide (x.u < (us.length : Int))) = true
  rw [Bool.and_eq_true]
  exact ⟨decide_eq_true h2.1, decide_eq_true h2.2⟩
theorem clause_bit {u p : Nat} {l : List WantD} {b : Bool} {x : WantD} (ho : NsOk (nsOf us)) (hx : x ∈ l) (h0 : 0 ≤ x.u) (h1 : x.u < us.length) {k : Nat} (h : (meetN (nsOf us) (clauseL us u p l b) x.u.toNat).testBit k = true) : (metN us x).testBit k = b := by
  rw [meet_bit] at h
  rw [Bool.and_eq_true, List.all_eq_true] at h
  have hv : x.u.toNat < (nsOf us).length := by simp [nsOf]; omega
  have h2 := h.2 (clauseT us b x) (List.mem_cons_of_mem _ (List.mem_map.2 ⟨x, hx, rfl⟩))
  rw [Bool.or_eq_true, decide_eq_true_eq] at h2
  have h3 := h2.resolve_left (fun e => e (by show x.u = ((x.u.toNat : Nat) : Int); omega))
  have hle := fullN_le ho x.u.toNat
  have hml := metN_le us x
  have h4 : (if b then metN us x else fullN (nsOf us) x.u.toNat - metN us x).testBit k = true := by
    have e : nm (clauseT us b x).mask = (if b then metN us x else fullN (nsOf us) x.u.toNat - metN us x) := nm_nat (by cases b <;> simp <;> omega)
    rw [← e]
    exact h3
  cases b with
  | true => exact h4
  | false =>
    rw [if_neg (by decide), diff_bit hv rfl hml, Bool.and_eq_true] at h4
    simpa using h4.2
def FromC (us : List UnitW) (r : RowN) : Prop := r.kind = 1 ∨ ((r.kind = 2 ∨ r.kind = 3) ∧ ∀ p, (r.M r.u).testBit (p + 1) = true → ∃ x c, us[r.u]? = some x ∧ x.cands[p]? = some c ∧
  ((r.kind = 2 ∧ ∃ l ∈ c.needs, (makeN (nsOf us) (clauseL us r.u p l false)).isSome ∧ ∀ v, v < us.length → v ≠ r.u → r.M v = meetN (nsOf us) (clauseL us r.u p l false) v) ∨
   (r.kind = 3 ∧ ∃ y ∈ c.bars, (makeN (nsOf us) (clauseL us r.u p [y] true)).isSome ∧ ∀ v, v < us.length → v ≠ r.u → r.M v = meetN (nsOf us) (clauseL us r.u p [y] true) v)))
theorem from_new {r : RawN} (ho : UnitsOk us) (hr : Clause us r) (hs : (makeN (nsOf us) r.ts).isSome) : FromC us ⟨r.kind, r.u, meetN (nsOf us) r.ts⟩ := by
  obtain ⟨u, x, p, c, hx, hc, h⟩ := clause_split hr
  have hu : u < us.length := (List.getElem?_eq_some_iff.1 hx).1
  have hp : p < 60 := by
    have h1 := (List.getElem?_eq_some_iff.1 hc).1
    have h2 := ho.ns.le u (by simpa [nsOf] using hu)
    have h3 : us[u] = x := (List.getElem?_eq_some_iff.1 hx).2
    have h4 : (nsOf us)[u]'(by simpa [nsOf] using hu) = x.cands.length := by simp [nsOf, h3]
    omega
  have hq : ∀ {l b}, (makeN (nsOf us) (clauseL us u p l b)).isSome → ∀ q, (meetN (nsOf us) (clauseL us u p l b) u).testBit (q + 1) = true → q = p := fun hs q h => by
    rw [meet_own hu hp hs, Nat.testBit_two_pow] at h
    have := of_decide_eq_true h
    omega
  rcases h with ⟨l, hl, rfl⟩ | ⟨y, hy, rfl⟩
  · refine .inr ⟨.inl rfl, fun q hq2 => ?_⟩
    obtain rfl := hq hs q hq2
    exact ⟨x, c, hx, hc, .inl ⟨rfl, l, hl, hs, fun _ _ _ => rfl⟩⟩
  · refine .inr ⟨.inr rfl, fun q hq2 => ?_⟩
    obtain rfl := hq hs q hq2
    exact ⟨x, c, hx, hc, .inr ⟨rfl, y, hy, hs, fun _ _ _ => rfl⟩⟩
theorem from_both {x r : RowN} (h : likeN (nsOf us) x r = true) (hx : FromC us x) (hr : FromC us r) (hk : r.kind ≠ 1) : FromC us (bothN x r) := by
  obtain ⟨h1, h2, h3⟩ := like_iff.1 h
  have hlen : (nsOf us).length = us.length := by simp [nsOf]
  rcases hx with hx | ⟨hxk, hx⟩
  · exact absurd (h1.symm.trans hx) hk
  rcases hr with hr | ⟨hrk, hr⟩
  · exact absurd hr hk
  have hoff : ∀ v, v ≠ x.u → (bothN x r).M v = x.M v := fun v hv => by
    show (if v = r.u then x.M v ||| r.M v else x.M v) = x.M v
    rw [if_neg (by omega)]
  have hoff2 : ∀ v, v < us.length → v ≠ x.u → (bothN x r).M v = r.M v := fun v hv hne => by
    rw [hoff v hne]
    exact but_inj h3 (by omega) (by omega)
  refine .inr ⟨hxk, fun p hp => ?_⟩
  have hp2 : (x.M x.u).testBit (p + 1) = true ∨ (r.M r.u).testBit (p + 1) = true := by
    have hp3 : (if x.u = r.u then x.M x.u ||| r.M x.u else x.M x.u).testBit (p + 1) = true := hp
    rw [if_pos h2, Nat.testBit_or, Bool.or_eq_true, h2] at hp3
    rw [h2]
    exact hp3
  rcases hp2 with hp2 | hp2
  · obtain ⟨a, c, e1, e2, e3⟩ := hx p hp2
    refine ⟨a, c, e1, e2, ?_⟩
    rcases e3 with ⟨k, l, hl, hs, hM⟩ | ⟨k, l, hl, hs, hM⟩
    · exact .inl ⟨k, l, hl, hs, fun v hv hne => (hoff v hne).trans (hM v hv hne)⟩
    · exact .inr ⟨k, l, hl, hs, fun v hv hne => (hoff v hne).trans (hM v hv hne)⟩
  · obtain ⟨a, c, e1, e2, e3⟩ := hr p hp2
    rw [← h2] at e1 e3
    refine ⟨a, c, e1, e2, ?_⟩
    rcases e3 with ⟨k, l, hl, hs, hM⟩ | ⟨k, l, hl, hs, hM⟩
    · exact .inl ⟨h1.trans k, l, hl, hs, fun v hv hne => (hoff2 v hv hne).trans (hM v hv hne)⟩
    · exact .inr ⟨h1.trans k, l, hl, hs, fun v hv hne => (hoff2 v hv hne).trans (hM v hv hne)⟩
theorem from_put {rows : List RowN} {r : RowN} (h : ∀ x ∈ rows, FromC us x) (hr : FromC us r) (hk : r.kind ≠ 1) : ∀ x ∈ putN (nsOf us) rows r, FromC us x := by
  induction rows with
  | nil => intro x hx; rcases List.mem_singleton.1 hx with rfl; exact hr
  | cons y l ih =>
    intro x hx
    have hx' : x ∈ (if likeN (nsOf us) y r then bothN y r :: l else y :: putN (nsOf us) l r) := hx
    split at hx'
    · rename_i hl
      rcases List.mem_cons.1 hx' with rfl | hx'
      · exact from_both hl (h y (List.mem_cons_self ..)) hr hk
      · exact h x (List.mem_cons_of_mem _ hx')
    · rcases List.mem_cons.1 hx' with rfl | hx'
      · exact h x (List.mem_cons_self ..)
      · exact ih (fun z hz => h z (List.mem_cons_of_mem _ hz)) x hx'
theorem all_from (ho : UnitsOk us) : ∀ x ∈ allN us, FromC us x :=
  all_keep (P := fun rows => ∀ x ∈ rows, FromC us x) (fun x hx => by rcases List.mem_singleton.1 hx with rfl; exact .inl rfl) fun r hr rows h => by
    unfold addC
    split
    · rename_i hs
      refine from_put h (from_new ho hr hs) ?_
      obtain ⟨u, x, p, c, -, -, h⟩ := clause_split hr
      rcases h with ⟨l, -, rfl⟩ | ⟨y, -, rfl⟩
      · show (2 : Int) ≠ 1; decide
      · show (3 : Int) ≠ 1; decide
    · exact h
end
end
section
section
variable {us : List UnitW}
def InW (us : List UnitW) (c : CandW) : Prop := (∀ l ∈ c.needs, ∀ x ∈ l, 0 ≤ x.u ∧ x.u < us.length) ∧ ∀ x ∈ c.bars, 0 ≤ x.u ∧ x.u < us.length
theorem ok_in (ho : UnitsOk us) {u p : Nat} {x : UnitW} {c : CandW} (hx : us[u]? = some x) (hc : x.cands[p]? = some c) : InW us c := by
 have h1 := List.getElem?_eq_some_iff.1 hx
 have h2 := List.getElem?_eq_some_iff.1 hc
 have h := ho.cands x (h1.2 ▸ List.getElem_mem h1.1) c (h2.2 ▸ List.getElem_mem h2.1)
 exact ⟨fun l hl y hy => ⟨((h.2.1 l hl).2 y hy).1, ((h.2.1 l hl).2 y hy).2.1⟩, fun y hy => ⟨(h.2.2.2 y hy).1, (h.2.2.2 y hy).2.1⟩⟩
theorem and_zero {a b : Nat} (h : ∀ k, a.testBit k = true → b.testBit k = false) : a &&& b = 0 := by
 apply Nat.eq_of_testBit_eq
 intro k
 rw [Nat.testBit_and, Nat.zero_testBit]
 cases e : a.testBit k with
 | false => rfl
 | true => rw [h k e]; rfl
theorem and_left {a b : Nat} (h : ∀ k, a.testBit k = true → b.testBit k = true) : a &&& b = a := by
 apply Nat.eq_of_testBit_eq
 intro k
 rw [Nat.testBit_and]
 cases e : a.testBit k with
 | false => rfl
 | true => rw [h k e]; rfl
theorem left_bit {a b k : Nat} (h : a &&& b = a) (ha : a.testBit k = true) : b.testBit k = true := by
 have := congrArg (fun x => Nat.testBit x k) h
 simp only [Nat.testBit_and, ha, Bool.true_and] at this
 exact this
theorem zero_bit {a b k : Nat} (h : a &&& b = 0) (ha : a.testBit k = true) : b.testBit k = false := by
 have := congrArg (fun x => Nat.testBit x k) h
 simp only [Nat.testBit_and, ha, Bool.true_and, Nat.zero_testBit] at this
 exact this
theorem broken_sub {bar : Bool} {M M' : Nat → Nat} {u p : Nat} {c : CandW} (hi : InW us c) (hs : ∀ v, v < us.length → M' v &&& M v = M' v) (h : brokenN us bar M u p c = true) : brokenN us bar M' u p c = true := by
 unfold brokenN at h ⊢
 cases bar with
 | true =>
  rw [if_pos rfl] at h ⊢
  rw [List.any_eq_true] at h ⊢
  obtain ⟨x, hx, h⟩ := h
  refine ⟨x, hx, ?_⟩
  obtain ⟨h0, h1⟩ := hi.2 x hx
  unfold sureN at h ⊢
  split
  ·rename_i e; rwa [if_pos e] at h
  ·rename_i e
   rw [if_neg e, beq_iff_eq] at h
   rw [beq_iff_eq]
   exact and_left fun k hk => left_bit h (left_bit (hs _ (by omega)) hk)
 | false =>
  rw [if_neg (by decide)] at h ⊢
  rw [List.any_eq_true] at h ⊢
  obtain ⟨l, hl, h⟩ := h
  refine ⟨l, hl, ?_⟩
  rw [List.all_eq_true] at h ⊢
  intro x hx
  obtain ⟨h0, h1⟩ := hi.1 l hl x hx
  have h2 := h x hx
  unfold lostN at h2 ⊢
  rw [beq_iff_eq] at h2 ⊢
  split
  ·rename_i e; rwa [if_pos e] at h2
  ·rename_i e
   rw [if_neg e] at h2
   apply and_zero
   intro k hk
   cases e2 : (M' x.u.toNat).testBit k with
   | false => rfl
   | true =>
    have h3 := zero_bit h2 hk
    rw [left_bit (hs _ (by omega)) e2] at h3
    cases h3
theorem says_sub {bar : Bool} {M M' : Nat → Nat} {u : Nat} (ho : UnitsOk us) (hu : u < us.length) (hs : ∀ v, v < us.length → M' v &&& M v = M' v) (h : saysN us bar M u = true) : saysN us bar M' u = true := by
 obtain ⟨h0, h1⟩ := says_all h
 refine says_true ?_ fun p hp hb => ?_
 ·cases e : (M' u).testBit 0 with
  | false => rfl
  | true => rw [left_bit (hs u hu) e] at h0; cases h0
 ·have h2 := h1 p hp (left_bit (hs u hu) hb)
  unfold brokenAt at h2 ⊢
  cases hx : us[u]? with
  | none => rfl
  | some x =>
   rw [hx] at h2
   dsimp only at h2 ⊢
   cases hc : x.cands[p]? with
   | none => rfl
   | some c =>
    rw [hc] at h2
    exact broken_sub (ok_in ho hx hc) hs h2
theorem from_says {r : RowN} (ho : UnitsOk us) (hok : r.Ok (nsOf us)) (hk : r.kind ≠ 1) (h : FromC us r) : saysN us (decide (r.kind = 3)) r.M r.u = true := by
 have hlen : (nsOf us).length = us.length := by simp [nsOf]
 have hru := hok.u
 rcases h with h | ⟨-, h⟩
 ·exact absurd h hk
 refine says_true (hok.bit hk) fun p hp hb => ?_
 obtain ⟨x, c, hx, hc, h⟩ := h p hb
 have hin := ok_in ho hx hc
 have hp4 : p < 60 := by omega
 have hu : r.u < us.length := by omega
 unfold brokenAt
 rw [hx]
 dsimp only
 rw [hc]
 dsimp only
 rcases h with ⟨k2, l, hl, hs, hM⟩ | ⟨k3, y, hy, hs, hM⟩
 ·rw [k2, show decide ((2 : Int) = 3) = false from rfl]
  unfold brokenN
  rw [if_neg (by decide), List.any_eq_true]
  refine ⟨l, hl, ?_⟩
  rw [List.all_eq_true]
  intro z hz
  obtain ⟨h0, h1⟩ := hin.1 l hl z hz
  unfold lostN
  rw [beq_iff_eq]
  split
  ·rename_i e
   apply and_zero
   intro k hk2
   rw [Nat.testBit_two_pow]
   apply decide_eq_false
   intro e2
   have h2 : (meetN (nsOf us) (clauseL us r.u p l false) r.u).testBit (p + 1) = true := by rw [meet_own hu hp4 hs, Nat.testBit_two_pow]; simp
   have h3 := clause_bit ho.ns hz h0 h1 (k := p + 1) (by rw [show z.u.toNat = r.u by omega]; exact h2)
   rw [← e2, h3] at hk2
   cases hk2
  ·rename_i e
   apply and_zero
   intro k hk2
   cases e2 : (r.M z.u.toNat).testBit k with
   | false => rfl
   | true =>
    rw [hM _ (by omega) (by omega)] at e2
    rw [clause_bit ho.ns hz h0 h1 e2] at hk2
    cases hk2
 ·rw [k3, show decide ((3 : Int) = 3) = true from rfl]
  unfold brokenN
  rw [if_pos rfl, List.any_eq_true]
  refine ⟨y, hy, ?_⟩
  obtain ⟨h0, h1⟩ := hin.2 y hy
  have hz : y ∈ [y] := List.mem_singleton_self y
  unfold sureN
  split
  ·rename_i e
   have h2 : (meetN (nsOf us) (clauseL us r.u p [y] true) r.u).testBit (p + 1) = true := by rw [meet_own hu hp4 hs, Nat.testBit_two_pow]; simp
   have h3 := clause_bit ho.ns hz h0 h1 (k := p + 1) (by rw [show y.u.toNat = r.u by omega]; exact h2)
   rw [bne_iff_ne]
   rw [Nat.and_comm]
   exact (pow_and _ _).2 h3
  ·rename_i e
   rw [beq_iff_eq]
   apply and_left
   intro k hk2
   rw [hM _ (by omega) (by omega)] at hk2
   exact clause_bit ho.ns hz h0 h1 hk2
theorem all_says (ho : UnitsOk us) (h0 : (nsOf us).head? = some 1) {r : RowN} (hr : r ∈ allN us) (hk : r.kind ≠ 1) : saysN us (decide (r.kind = 3)) r.M r.u = true :=
 from_says ho ((units_ok ho h0 us.length (Nat.le_refl _)).1 r hr) hk (all_from ho r hr)
theorem right_row {M : Nat → Nat} {kind : Int} {u : Nat} (ho : UnitsOk us) (hM : IncOk (nsOf us) M) (hk : kind = 2 ∨ kind = 3) (hu : u < us.length) (h : saysN us (decide (kind = 3)) M u = true) : rightR us ⟨kind, u, 0, 0, canon (nsOf us) M⟩ = true := by
 rw [right_says rfl rfl (canon_may hM) (by show kind ≠ 1; omega)]
 show (decide (kind = 2 ∨ kind = 3) && (decide ((0 : Int) ≤ (u : Int) ∧ (u : Int) < (us.length : Int)) && saysN us (decide (kind = 3)) (masksF (nsOf us) (canon (nsOf us) M)) ((u : Int)).toNat)) = true
 have hl : (nsOf us).length = us.length := by simp [nsOf]
 rw [decide_eq_true hk, decide_eq_true (by omega), Int.toNat_natCast, Bool.true_and, Bool.true_and]
 exact says_sub ho hu (fun v hv => by rw [masks_canon (by omega)]; exact Nat.and_self _) h
theorem put_kinds {ns : List Nat} {l : List RowN} {r : RowN} (hl : ∀ x ∈ l, x.kind ≠ 1) (hr : r.kind ≠ 1) : ∀ x ∈ putN ns l r, x.kind ≠ 1 := by
 induction l with
 | nil => intro x hx; rcases List.mem_singleton.1 hx with rfl; exact hr
 | cons y l ih =>
  intro x hx
  have hx' : x ∈ (if likeN ns y r then bothN y r :: l else y :: putN ns l r) := hx
  split at hx'
  ·rcases List.mem_cons.1 hx' with rfl | hx'
   ·exact hl y (List.mem_cons_self ..)
   ·exact hl x (List.mem_cons_of_mem _ hx')
  ·rcases List.mem_cons.1 hx' with rfl | hx'
   ·exact hl x (List.mem_cons_self ..)
   ·exact ih (fun z hz => hl z (List.mem_cons_of_mem _ hz)) x hx'
theorem all_root (_ho : UnitsOk us) (_h0 : (nsOf us).head? = some 1) : ∃ l, allN us = rootN (nsOf us) :: l ∧ ∀ x ∈ l, x.kind ≠ 1 :=
 all_keep (P := fun rows => ∃ l, rows = rootN (nsOf us) :: l ∧ ∀ x ∈ l, x.kind ≠ 1) ⟨[], rfl, fun x hx => by cases hx⟩ fun r hr rows ⟨l, e, hl⟩ => by
  subst e
  have hrk : r.kind ≠ 1 := by
   obtain ⟨u, x, p, c, -, -, h⟩ := clause_split hr
   rcases h with ⟨l, -, rfl⟩ | ⟨y, -, rfl⟩
   ·show (2 : Int) ≠ 1; decide
   ·show (3 : Int) ≠ 1; decide
  unfold addC
  split
  ·have hroot : likeN (nsOf us) (rootN (nsOf us)) ⟨r.kind, r.u, meetN (nsOf us) r.ts⟩ = false := by
    cases e : likeN (nsOf us) (rootN (nsOf us)) ⟨r.kind, r.u, meetN (nsOf us) r.ts⟩ with
    | false => rfl
    | true => exact absurd (like_iff.1 e).1.symm hrk
   refine ⟨putN (nsOf us) l ⟨r.kind, r.u, meetN (nsOf us) r.ts⟩, ?_, ?_⟩
   ·show (if likeN (nsOf us) (rootN (nsOf us)) _ then _ else _) = _
    rw [hroot]
    rfl
   ·exact put_kinds hl hrk
  ·exact ⟨l, rfl, hl⟩
end
end
section
section
variable {us : List UnitW} {c : List Int} {u p : Nat} {x : UnitW} {cd : CandW}
theorem clause_holdH {l : List WantD} {b : Bool} (ho : UnitsOk us) (hc : ChoiceOk (nsOf us) c) (hp : p < 60) (hcu : c.getD u 0 = (p : Int)) (hin : ∀ y ∈ l, 0 ≤ y.u ∧ y.u < us.length) (h : ∀ y ∈ l, metW us c y = b) : holdL c (clauseL us u p l b) = true := by
 rw [holdL_iff]
 intro t ht
 rcases List.mem_cons.1 ht with rfl | ht
 ·show (nm ((2 ^ (p + 1) : Nat) : Int)).testBit (c.getD ((u : Nat) : Int).toNat 0 + 1).toNat = true
  rw [Int.toNat_natCast, hcu, nm_nat (by have := Nat.pow_le_pow_right (n := 2) (by omega) (show p + 1 ≤ 61 by omega); omega), Nat.testBit_two_pow]
  exact decide_eq_true (by omega)
 ·obtain ⟨y, hy, rfl⟩ := List.mem_map.1 ht
  obtain ⟨h0, h1⟩ := hin y hy
  have hv : y.u.toNat < (nsOf us).length := by simp [nsOf]; omega
  have hml := metN_le us y
  have hf := fullN_le ho.ns y.u.toNat
  have hy2 := h y hy
  unfold metW at hy2
  cases b with
  | true =>
   show (nm ((metN us y : Nat) : Int)).testBit _ = true
   rw [nm_nat (by omega)]
   exact hy2
  | false =>
   show (nm ((fullN (nsOf us) y.u.toNat - metN us y : Nat) : Int)).testBit _ = true
   rw [nm_nat (by omega), diff_bit hv rfl hml, Bool.and_eq_true]
   refine ⟨val_full hc hv, ?_⟩
   show (!(metN us y).testBit (c.getD y.u.toNat 0 + 1).toNat) = true
   rw [hy2]
   rfl
theorem said_anyH {kind : Int} (ho : UnitsOk us) (h0 : (nsOf us).head? = some 1) (hc : ChoiceOk (nsOf us) c) (h : saidN (nsOf us) (allN us) kind u c) : ((allN us).map (rowOf (nsOf us))).any (fun r => holdL c r.terms) = true := by
 obtain ⟨r, hr, -, -, h3⟩ := h
 rw [List.any_eq_true]
 refine ⟨_, List.mem_map.2 ⟨r, hr, rfl⟩, ?_⟩
 have hok := (units_ok ho h0 us.length (Nat.le_refl _)).1 r hr
 show holdL c (canon (nsOf us) r.M) = true
 rw [holdL_canon ho.ns hc hok.inc, h3]
theorem cand_smallH (ho : UnitsOk us) (hx : us[u]? = some x) (hcd : x.cands[p]? = some cd) : u < us.length ∧ p < 60 := by
 have h1 := List.getElem?_eq_some_iff.1 hx
 have h2 := (List.getElem?_eq_some_iff.1 hcd).1
 have h3 := ho.ns.le u (by simpa [nsOf] using h1.1)
 have h4 : (nsOf us)[u]'(by simpa [nsOf] using h1.1) = x.cands.length := by simp [nsOf, h1.2]
 exact ⟨h1.1, by omega⟩
theorem need_anyH {l : List WantD} (ho : UnitsOk us) (h0 : (nsOf us).head? = some 1) (hc : ChoiceOk (nsOf us) c) (hx : us[u]? = some x) (hcd : x.cands[p]? = some cd) (hcu : c.getD u 0 = (p : Int)) (hl : l ∈ cd.needs) (hm : l.any (metW us c) = false) : ((allN us).map (rowOf (nsOf us))).any (fun r => holdL c r.terms) = true := by
 obtain ⟨hu, hp⟩ := cand_smallH ho hx hcd
 have hin := (ok_in ho hx hcd).1 l hl
 have hi := inR_clause (us := us) (u := u) (p := p) (l := l) (b := false) hu hin
 refine said_anyH ho h0 hc (said_all (clause_need hx hcd hl) ?_ hi)
 rw [← holdL_make hc hi]
 exact clause_holdH ho hc hp hcu hin fun y hy => by
  cases e : metW us c y with
  | false => rfl
  | true => rw [List.any_eq_true.2 ⟨y, hy, e⟩] at hm; cases hm
theorem bar_anyH {y : WantD} (ho : UnitsOk us) (h0 : (nsOf us).head? = some 1) (hc : ChoiceOk (nsOf us) c) (hx : us[u]? = some x) (hcd : x.cands[p]? = some cd) (hcu : c.getD u 0 = (p : Int)) (hl : y ∈ cd.bars) (hm : metW us c y = true) : ((allN us).map (rowOf (nsOf us))).any (fun r => holdL c r.terms) = true := by
 obtain ⟨hu, hp⟩ := cand_smallH ho hx hcd
 have hin : ∀ z ∈ [y], 0 ≤ z.u ∧ z.u < us.length := fun z hz => by rw [List.mem_singleton.1 hz]; exact (ok_in ho hx hcd).2 y hl
 have hi := inR_clause (us := us) (u := u) (p := p) (l := [y]) (b := true) hu hin
 refine said_anyH ho h0 hc (said_all (clause_bar hx hcd hl) ?_ hi)
 rw [← holdL_make hc hi]
 exact clause_holdH ho hc hp hcu hin fun z hz => by rw [List.mem_singleton.1 hz]; exact hm
theorem rows_rightH (ho : UnitsOk us) (h0 : (nsOf us).head? = some 1) {r : Row} (hr : r ∈ (allN us).map (rowOf (nsOf us))) : rightR us r = true := by
 obtain ⟨y, hy, rfl⟩ := List.mem_map.1 hr
 have hok := (units_ok ho h0 us.length (Nat.le_refl _)).1 y hy
 obtain ⟨l, e, hl⟩ := all_root ho h0
 have hu : y.u < us.length := by have := hok.u; simpa [nsOf] using this
 rw [e] at hy
 rcases List.mem_cons.1 hy with rfl | hy2
 ·obtain ⟨h1, h2⟩ := root_ok ho.ns h0
  have hm : mayL (nsOf us) (canon (nsOf us) (rootN (nsOf us)).M) = true := canon_may h1.inc
  show (decide ((0 : Int) = 0) && (decide ((0 : Int) = 0) && (mayL (nsOf us) (canon (nsOf us) (rootN (nsOf us)).M) && if (1 : Int) = 1 then decide (((0 : Nat) : Int) = 0) && decide (canon (nsOf us) (rootN (nsOf us)).M = [⟨0, 1⟩]) else _))) = true
  rw [hm, h2]
  rfl
 ·have hk := hl y hy2
  have h2 := hok.kind
  exact right_row ho hok.inc (by omega) hu (all_says ho h0 (by rw [e]; exact hy) hk)
theorem kept_fine (ho : UnitsOk us) (h0 : (nsOf us).head? = some 1) (hc : ChoiceOk (nsOf us) c) : ((allN us).map (rowOf (nsOf us))).any (fun r => holdL c r.terms) = !fineC us c := by
 cases hf : fineC us c with
 | true =>
  refine List.any_eq_false.2 fun r hr => ?_
  rw [right_sound ho hc hf (rows_rightH ho h0 hr)]
  decide
 | false =>
  have hl : (nsOf us).length = us.length := by simp [nsOf]
  by_cases hr : 0 ≤ c.getD 0 0
  ·unfold fineC at hf
   rw [decide_eq_true hr, Bool.true_and, List.all_eq_false] at hf
   obtain ⟨u, hu, hfu⟩ := hf
   rw [List.mem_range] at hu
   unfold fineAt at hfu
   split at hfu
   ·exact absurd rfl hfu
   ·rename_i hcu
    rw [List.getElem?_eq_getElem hu] at hfu
    dsimp only at hfu
    cases hcd : us[u].cands[(c.getD u 0).toNat]? with
    | none => rw [hcd] at hfu; exact absurd rfl hfu
    | some cd =>
     rw [hcd] at hfu
     dsimp only at hfu
     have hp : c.getD u 0 = ((c.getD u 0).toNat : Int) := by omega
     unfold servedC at hfu
     rw [Bool.and_eq_true] at hfu
     cases hb : cd.bars.any (metW us c) with
     | true =>
      obtain ⟨y, hy, hm⟩ := List.any_eq_true.1 hb
      exact bar_anyH ho h0 hc (List.getElem?_eq_getElem hu) hcd hp hy hm
     | false =>
      cases hn : cd.needs.all (fun l => l.any (metW us c)) with
      | true => exact absurd ⟨hn, by rw [hb]; rfl⟩ hfu
      | false =>
       obtain ⟨l, hl', hm⟩ := List.all_eq_false.1 hn
       exact need_anyH ho h0 hc (List.getElem?_eq_getElem hu) hcd hp hl' (by simpa using hm)
  ·have hpos : 0 < (nsOf us).length := by
    cases e : nsOf us with
    | nil => rw [e] at h0; cases h0
    | cons a l => simp
   have hlo := (hc.val 0 hpos).1
   have e1 : c.getD 0 0 = -1 := by omega
   obtain ⟨l, e, -⟩ := all_root ho h0
   refine List.any_eq_true.2 ?_
   refine ⟨rowOf (nsOf us) (rootN (nsOf us)), by rw [e]; exact List.mem_cons_self .., ?_⟩
   show holdL c (canon (nsOf us) (rootN (nsOf us)).M) = true
   rw [(root_ok ho.ns h0).2, holdL_iff]
   intro t ht
   rw [List.mem_singleton.1 ht]
   show (nm (1 : Int)).testBit (c.getD (0 : Int).toNat 0 + 1).toNat = true
   rw [show nm (1 : Int) = 1 from nm_nat (k := 1) (by decide), show ((0 : Int).toNat) = 0 from rfl, e1]
   rfl
end
end
end Go.Proofs.YthneiolcljnbeaaGreatDoor
