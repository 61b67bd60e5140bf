import Derived.Test.YthneiolcljnbeaaGreatDoorzY13
import Derived.Test.YthneiolcljnbeaaGreatDoorzV18
import Derived.Test.YthneiolcljnbeaaGreatDoorzMem
import Derived.Test.YthneiolcljnbeaaGreatDoorzLater
import Derived.Maps.OwnSet
import Derived.Maps.Range
import Derived.Lib.SlKeysI
import Derived.Outline
import Derived.Test.YthneiolcljnbeaaGreatDoorzP2
import Derived.Test.YthneiolcljnbeaaGreatDoorShelf
import Derived.Test.YthneiolcljnbeaaGreatDoorzFlat
namespace Go.Proofs.YthneiolcljnbeaaGreatDoor
open Go Go.RowKit
section
theorem one_bit {m k : Nat} (h0 : m ≠ 0) (h : ∀ j, m.testBit j = true → j = k) : m = 2 ^ k := by
 apply Nat.eq_of_testBit_eq
 intro j
 rw [Nat.testBit_two_pow]
 by_cases e : k = j
 ·subst e
  rw [decide_eq_true rfl]
  cases hb : m.testBit k with
  | true => rfl
  | false =>
   exfalso
   apply h0
   apply Nat.eq_of_testBit_eq
   intro i
   rw [Nat.zero_testBit]
   cases hi : m.testBit i with
   | false => rfl
   | true => have := h i hi; subst this; rw [hb] at hi; cases hi
 ·rw [decide_eq_false e]
  cases hi : m.testBit j with
  | false => rfl
  | true => exact absurd (h j hi).symm e
theorem meet_own {us : List UnitW} {u p : Nat} {l : List WantD} {bar : Bool} (hu : u < us.length) (hp : p < 60) (hs : (makeN (nsOf us) (clauseL us u p l bar)).isSome) : meetN (nsOf us) (clauseL us u p l bar) u = 2 ^ (p + 1) := by
 obtain ⟨T, hT⟩ := Option.isSome_iff_exists.1 hs
 obtain ⟨hM1, -⟩ := make_some hT
 have h60 : 2 ^ (p + 1) ≤ 2 ^ 60 := Nat.pow_le_pow_right (by omega) (by omega)
 refine one_bit (hM1.pos u (by simpa [nsOf] using hu)) fun j hj => ?_
 have h1 := meet_head _ _ u rfl j hj
 dsimp only at h1
 rw [nm_nat (by omega), Nat.testBit_two_pow] at h1
 exact (of_decide_eq_true h1).symm
theorem tm_at {ns : List Nat} {M : Nat → Nat} {n x : Nat} (h : M n = x) : tm ns M n = if x = fullN ns n then none else some ⟨(n : Int), (x : Int)⟩ := by
 subst h
 rfl
def orT (u : Int) (m : Nat) (t : Term) : Term := if t.unit = u then ⟨t.unit, ((nm t.mask ||| m : Nat) : Int)⟩ else t
theorem canon_or {ns : List Nat} {M : Nat → Nat} {u m : Nat} (hM : ∀ v, v < ns.length → M v ≤ 31) (h1 : M u ≠ fullN ns u) (h2 : M u ||| m ≠ fullN ns u) : canon ns (fun v => if v = u then M v ||| m else M v) = (canon ns M).map (orT (u : Int) m) := by
 unfold canon
 have key : ∀ n, n ≤ ns.length → canonTo ns (fun v => if v = u then M v ||| m else M v) n = (canonTo ns M n).map (orT (u : Int) m) := by
  intro n
  induction n with
  | zero => intro _; rfl
  | succ n ih =>
   intro hn
   rw [canonTo_succ, canonTo_succ, List.map_append, ih (by omega)]
   congr 1
   by_cases e : n = u
   ·subst e
    rw [tm_at (M := fun v => if v = n then M v ||| m else M v) (x := M n ||| m) (if_pos rfl), tm_at (M := M) rfl, if_neg h2, if_neg h1]
    show [_] = [_]
    unfold orT
    dsimp only
    rw [if_pos rfl, nm_nat (by have := hM n (by omega); omega)]
   ·rw [tm_at (M := fun v => if v = u then M v ||| m else M v) (x := M n) (if_neg e), tm_at (M := M) rfl]
    split
    ·rfl
    ·show [_] = [_]
     unfold orT
     dsimp only
     rw [if_neg (by omega)]
 exact key _ (Nat.le_refl _)
theorem both_canon {ns : List Nat} {x r : RowN} {m : Nat} (ho : NsOk ns) (hx : x.Ok ns) (hr : r.Ok ns) (hk : r.kind ≠ 1) (hl : likeN ns x r = true) (hm : r.M r.u = m) : canon ns (bothN x r).M = (canon ns x.M).map (orT (r.u : Int) m) := by
 unfold likeN at hl
 simp only [Bool.and_eq_true, decide_eq_true_eq] at hl
 obtain ⟨e1, e2, -⟩ := hl
 have hb : ∀ a : Nat, a.testBit 0 = false → a ≠ fullN ns r.u := fun a ha e => by
  have := full_bit0 (ns := ns) hr.u
  rw [← e, ha] at this
  cases this
 have hxb := hx.bit (by rw [e1]; exact hk)
 rw [e2] at hxb
 have hrb := hr.bit hk
 have h1 := canon_or (ns := ns) (M := x.M) (u := r.u) (m := m) (fun v hv => Nat.le_trans (by rw [← hx.inc.sub v hv]; exact Nat.and_le_right) (fullN_le ho v)) (hb _ hxb) (hb _ (by rw [Nat.testBit_or, hxb, ← hm, hrb]; rfl))
 rw [← h1]
 congr 1
 funext v
 show (if v = r.u then x.M v ||| r.M v else x.M v) = _
 by_cases e : v = r.u
 ·rw [if_pos e, if_pos e, ← hm, e]
 ·rw [if_neg e, if_neg e]
def addC (us : List UnitW) (rows : List RowN) (r : RawN) : List RowN := if (makeN (nsOf us) r.ts).isSome then putN (nsOf us) rows ⟨r.kind, r.u, meetN (nsOf us) r.ts⟩ else rows
theorem cand_clauses (us : List UnitW) (u p : Nat) (rows : List RowN) (c : CandW) : candN us u p rows c = (clausesN us u p c).foldl (addC us) rows := by
 unfold candN clausesN needR barR barsN needsN
 rw [List.foldl_append, List.foldl_map, List.foldl_map]
 rfl
theorem clauses_take {us : List UnitW} {rows : List RowN} {l : List RawN} {k : Nat} (hk : k < l.length) : (l.take (k + 1)).foldl (addC us) rows = addC us ((l.take k).foldl (addC us) rows) l[k] := by
 rw [List.take_succ_eq_append_getElem hk, List.foldl_append]
 rfl
theorem clauses_mem {us : List UnitW} {u p : Nat} {c : CandW} {r : RawN} (h : r ∈ clausesN us u p c) : (∃ l, l ∈ c.needs ∧ r = ⟨2, u, clauseL us u p l false⟩) ∨ ∃ x, x ∈ c.bars ∧ r = ⟨3, u, clauseL us u p [x] true⟩ := by
 unfold clausesN needR barR at h
 rcases List.mem_append.1 h with h | h
 ·obtain ⟨l, hl, rfl⟩ := List.mem_map.1 h
  exact .inl ⟨l, hl, rfl⟩
 ·obtain ⟨x, hx, rfl⟩ := List.mem_map.1 h
  exact .inr ⟨x, hx, rfl⟩
end
section
theorem rowsCells_set : ∀ {l : List Row} {tvs : List Value} (i : Nat) (r : Row), (∀ h : i < l.length, r.kind = l[i].kind ∧ r.unit = l[i].unit ∧ r.a = l[i].a ∧ r.b = l[i].b) → rowsCells (l.set i r) tvs = rowsCells l tvs
 | [], _, _, _, _ => rfl
 | x :: l, [], i, r, _ => by cases i <;> simp [rowsCells]
 | x :: l, y :: tvs, 0, r, h => by
  obtain ⟨h1, h2, h3, h4⟩ := h (by simp)
  simp only [List.getElem_cons_zero] at h1 h2 h3 h4
  simp [rowsCells, rowCells, h1, h2, h3, h4]
 | x :: l, y :: tvs, i + 1, r, h => by
  simp only [List.set_cons_succ, rowsCells]
  rw [rowsCells_set (l := l) (tvs := tvs) i r (fun h' => h (Nat.succ_lt_succ h'))]
theorem termCells_set : ∀ {l : List Term} (j : Nat) (t : Term), (∀ h : j < l.length, t.unit = l[j].unit) → termCells (l.set j t) = (termCells l).set (j * 2 + 1) (.int .i64 t.mask)
 | [], _, _, _ => rfl
 | x :: l, 0, t, h => by
  have := h (by simp)
  simp only [List.getElem_cons_zero] at this
  simp [termCells, this]
 | x :: l, j + 1, t, h => by
  have e : (j + 1) * 2 + 1 = (j * 2 + 1) + 1 + 1 := by omega
  simp only [List.set_cons_succ, termCells, e]
  rw [termCells_set (l := l) j t (fun h' => h (Nat.succ_lt_succ h'))]
theorem Copied.setMask {eR eT : TypeId} {w : World} {B : Nat} {v : Value} {l : List Row} {tvs : List Value} (h : Copied eR eT w B v l tvs) {i : Nat} (hi : i < l.length) (hi' : i < tvs.length) {g : Nat} (hg : tvs[i].ownBlock = some g) {j : Nat} (hj : j < l[i].terms.length) (m : Int) (hm : I64 m) :
  Copied eR eT (w.setCell ⟨g, j * 2 + 1, none⟩ (.int .i64 m)) B v (l.set i { l[i] with terms := l[i].terms.set j ⟨l[i].terms[j].unit, m⟩ }) tvs := by
 have hti := h.terms i hi hi'
 have hoth : ∀ g', g' ≠ g → (w.setCell ⟨g, j * 2 + 1, none⟩ (.int .i64 m)).heap[g']? = w.heap[g']? := fun g' hne => heap_setCell_other _ _ _ _ hne
 have hri := h.ints _ (List.getElem_mem hi)
 refine ⟨h.ne, by rw [List.length_set]; exact h.len, ?_, ?_, ?_, h.apart⟩
 ·rw [rowsCells_set i _ (fun _ => ⟨rfl, rfl, rfl, rfl⟩), List.length_set]
  exact ownsRow_keep h.own fun g' hg' => hoth g' fun e => own_ne h.own hti h.ne g' hg' (by rw [e]; exact hg)
 ·intro r hr
  rcases List.mem_or_eq_of_mem_set hr with hr | rfl
  ·exact h.ints r hr
  ·refine ⟨hri.kind, hri.unit, hri.a, hri.b, fun t ht => ?_⟩
   rcases List.mem_or_eq_of_mem_set ht with ht | rfl
   ·exact hri.terms t ht
   ·exact ⟨(hri.terms _ (List.getElem_mem hj)).1, hm⟩
 ·intro k hk hk'
  rw [List.length_set] at hk
  by_cases e : i = k
  ·subst e
   have e2 : (l.set i { l[i] with terms := l[i].terms.set j ⟨l[i].terms[j].unit, m⟩ })[i]'(by rw [List.length_set]; exact hi) = { l[i] with terms := l[i].terms.set j ⟨l[i].terms[j].unit, m⟩ } := by simp
   rw [e2]
   dsimp only
   rw [List.length_set, termCells_set j _ (fun _ => rfl)]
   exact own_put hti hg (by omega) _
  ·have e2 : (l.set i { l[i] with terms := l[i].terms.set j ⟨l[i].terms[j].unit, m⟩ })[k]'(by rw [List.length_set]; exact hk) = l[k] := by rw [List.getElem_set, if_neg e]
   rw [e2]
   refine ownsRow_keep (h.terms k hk hk') fun g' hg' => hoth g' fun e3 => ?_
   subst e3
   rcases Nat.lt_or_gt_of_ne e with hlt | hgt
   ·exact h.apart i k hlt hk' g' hg hg'
   ·exact h.apart k i hgt hi' g' hg' hg
end
section
section
variable {P : Program} {kt : TypeId} {κ : Type} {K : KeyG P kt κ} {w w' : World} {b n : Nat} {f : κ → Option Value}
theorem MapG.ne_own {B : Nat} {e : TypeId} {s m : Nat} {v : Value} {xs : List Value} (h : MapG K w b n f) (ho : w.ownsRow B e s v m xs) {g : Nat} (hg : v.ownBlock = some g) : g ≠ b := by
 rintro rfl
 obtain ⟨es, clock, h1, _⟩ := h.holds
 rcases ho.2 with ⟨rfl, _⟩ | ⟨a, cap, cur, rfl, _, hh, _⟩
 ·cases hg
 ·have : a = g := Option.some.inj hg
  subst this
  rw [h1] at hh; cases hh
theorem MapG.by_own {B : Nat} {e : TypeId} {s m : Nat} {v : Value} {xs : List Value} (h : MapG K w b n f) (ho : w.ownsRow B e s v m xs) (hg : w.grownBy w' v.ownBlock) : MapG K w' b n f :=
 h.keep (hg.block b h.lt (fun e => h.ne_own ho e.symm rfl))
theorem Copied.by_mapg {eR eT : TypeId} {B : Nat} {v : Value} {l : List Row} {tvs : List Value} (h : Copied eR eT w B v l tvs) (hm : MapG K w b n f) (hg : w.grownBy w' (some b)) : Copied eR eT w' B v l tvs :=
 h.keep (fun g hgg => hg.block g (h.lt.1 g hgg).2 (fun e => hm.ne_own h.own hgg (Option.some.inj e)))
  (fun k hk g hgg => hg.block g (h.lt.2 k hk g hgg).2 (fun e => hm.ne_own (h.terms k (by rw [← h.len]; exact hk) hk) hgg (Option.some.inj e)))
end
def Out (B1 B2 : Nat) (rv : Value) (tvs : List Value) : Prop := ∀ b, B1 ≤ b → b < B2 → rv.ownBlock ≠ some b ∧ ∀ tv ∈ tvs, tv.ownBlock ≠ some b
structure AllSt (ns : List Nat) (B : Nat) (w0 wr : World) (mb : Nat) (rv : Value) (rows : List RowN) (tvs : List Value) : Prop where
 cop : Copied 32 69 wr B rv (rows.map (rowOf ns)) tvs
 map : ∃ c, MapG kAlike wr mb c (keyF ns rows)
 bel : Below B w0 wr
 base : B ≤ mb
section
variable {ns : List Nat} {B mb : Nat} {w0 wr w' : World} {rv rv' : Value} {rows : List RowN} {tvs : List Value}
theorem AllSt.later (h : AllSt ns B w0 wr mb rv rows tvs) (hb : Below wr.heap.size wr w') : AllSt ns B w0 w' mb rv rows tvs := by
 obtain ⟨c, hm⟩ := h.map
 have h1 : B ≤ wr.heap.size := Nat.le_trans h.base (Nat.le_of_lt hm.lt)
 exact ⟨h.cop.below hb (Nat.le_refl _), ⟨c, hm.below hb hm.lt⟩, h.bel.trans (hb.mono h1), h.base⟩
theorem AllSt.size (h : AllSt ns B w0 wr mb rv rows tvs) : B ≤ mb ∧ mb < wr.heap.size := by
 obtain ⟨c, hm⟩ := h.map
 exact ⟨h.base, hm.lt⟩
theorem AllSt.len (h : AllSt ns B w0 wr mb rv rows tvs) : tvs.length = rows.length := by
 rw [h.cop.len, List.length_map]
theorem AllSt.form (h : AllSt ns B w0 wr mb rv rows tvs) : ∃ A c, rv = .slice A rows.length c := by
 have := own_form h.cop.own
 rwa [List.length_map] at this
theorem AllSt.turned {rows' : List RowN} (h : AllSt ns B w0 wr mb rv rows tvs) {c : Nat} (hg : wr.grownBy w' (some mb)) (hm : MapG kAlike w' mb c (keyF ns rows')) :
  Copied 32 69 w' B rv (rows.map (rowOf ns)) tvs ∧ MapG kAlike w' mb c (keyF ns rows') ∧ Below B w0 w' := by
 obtain ⟨c0, hm0⟩ := h.map
 refine ⟨h.cop.by_mapg hm0 hg, hm, h.bel.grown hg (Nat.le_trans h.base (Nat.le_of_lt hm0.lt)) fun k hk => ?_⟩
 have := Option.some.inj hk
 rw [← this]
 exact h.base
theorem AllSt.snoc {r : RowN} {tv : Value} {c : Nat} (h0 : Copied 32 69 wr B rv (rows.map (rowOf ns)) tvs) (hm : MapG kAlike wr mb c (keyF ns (rows ++ [r]))) (hb : Below B w0 wr) (hB : B ≤ mb)
  (ho : w'.ownsRow B 32 5 rv' (rows.length + 1) (rowsCells (rows.map (rowOf ns)) tvs ++ rowCells (rowOf ns r) tv)) (hg : wr.grownBy w' rv.ownBlock) (hr : RowI (rowOf ns r)) (ht : OwnF fTerm 69 B wr tv (canon ns r.M))
  (hap : ∀ k, (hk : k < tvs.length) → ∀ g, tvs[k].ownBlock = some g → tv.ownBlock ≠ some g) : AllSt ns B w0 w' mb rv' (rows ++ [r]) (tvs ++ [tv]) := by
 have ht2 : wr.ownsRow B 69 2 tv (rowOf ns r).terms.length (termCells (rowOf ns r).terms) := by
  have := ht.1
  rw [show fTerm.all (canon ns r.M) = termCells (canon ns r.M) from fTerm_all _] at this
  exact this
 refine ⟨?_, ⟨c, hm.by_own h0.own hg⟩, hb.grown hg (Nat.le_trans hB (Nat.le_of_lt hm.lt)) fun k hk => (h0.lt.1 k hk).1, hB⟩
 rw [List.map_append]
 exact h0.snoc (r := rowOf ns r) (by rw [List.length_map]; exact ho) hg hr ht2 hap
end
end
section
open Go Go.RowKit Go.Maps
section
variable {P : Program} {kt T : TypeId} {w w' : World} {b n : Nat} {f f' : Int → Option Int}
theorem wf_int {u : Int} (h : I64 u) : (Lit.int .i64 u).wf = true := by
 show (decide (IntKind.i64.min ≤ u) && decide (u ≤ IntKind.i64.max)) = true
 rw [Bool.and_eq_true, decide_eq_true_eq, decide_eq_true_eq]
 exact h
theorem int_wf {u : Int} (h : (Lit.int .i64 u).wf = true) : I64 u := by
 have h2 : (decide (IntKind.i64.min ≤ u) && decide (u ≤ IntKind.i64.max)) = true := h
 rw [Bool.and_eq_true, decide_eq_true_eq, decide_eq_true_eq] at h2
 exact h2
theorem keyOf_int (hk : P.underlying kt = some (.int .i64)) {u : Int} (h : I64 u) : keyOf P kt (.int .i64 u) = some (.int .i64 u) := by
 simp [keyOf, hk, mapKey, wf_int h]
def MapI (P : Program) (kt : TypeId) (w : World) (b n : Nat) (f : Int → Option Int) : Prop :=
 ∃ D : DataW Unit, w.ownsMap P kt (plainElem P kt) b n D ∧ Tidy D ∧ ∀ u : Int, I64 u → has D (.int .i64 u) = (f u).isSome ∧ ∀ x, f u = some x → ∀ z, D.atKey (.int .i64 u) z = .lit (.int .i64 x)
theorem MapI.lt (h : MapI P kt w b n f) : b < w.heap.size := by obtain ⟨D, h1, _⟩ := h; exact h1.lt
theorem MapI.keep (h : MapI P kt w b n f) (hk : w'.heap[b]? = w.heap[b]?) : MapI P kt w' b n f := by
 obtain ⟨D, ⟨es, clock, h1, h2⟩, h3⟩ := h
 exact ⟨D, ⟨es, clock, hk.trans h1, h2⟩, h3⟩
theorem MapI.below {B : Nat} (h : MapI P kt w b n f) (hb : Below B w w') (hB : b < B) : MapI P kt w' b n f := h.keep (hb.block b hB)
theorem MapI.congr (h : MapI P kt w b n f) (he : ∀ u, I64 u → f u = f' u) : MapI P kt w b n f' := by
 obtain ⟨D, h1, h2, h3⟩ := h
 exact ⟨D, h1, h2, fun u hu => by rw [← he u hu]; exact h3 u hu⟩
theorem MapI.made (P : Program) (kt : TypeId) (w : World) : MapI P kt (w.alloc (.map #[] 0)) w.heap.size 0 (fun _ => none) :=
 ⟨.map [], World.ownsMap_made _ _ _ _, tidy_empty, fun _ _ => ⟨rfl, fun _ h => by cases h⟩⟩
theorem wpList_look2_i {ops : Array Oper} {rest : List Oper} {o : Oper} {a : Act} {Q : Exit → Act → World → Prop} (hg : o.guard = none) (m x : Operand) (hop : o.op = Op.lookup T m x true)
  (hT : P.underlying T = some (.map kt kt)) (hk : P.underlying kt = some (.int .i64)) (hz : (zeroValue kt).run P w = .ok (.int .i64 0) w) (b n : Nat) (f : Int → Option Int) (hm : a.eval m = .map (some b)) (h : MapI P kt w b n f) (u : Int) (hx : a.eval x = .int .i64 u) (hu : I64 u)
  (hK : wpList P ops Q rest (a.put o.dst (.tuple #[.int .i64 ((f u).getD 0), .bool (f u).isSome])) w) : wpList P ops Q (o :: rest) a w := by
 obtain ⟨D, h1, _, h3⟩ := h
 refine wpList_lookup_own_ok_int w hg m x T hop kt kt .i64 (int_keyed hk) hT hk hz b n D hm h1 (.int .i64 u) _ hx (keyOf_int hk hu) fun c hc _ => ?_
 obtain ⟨h4, h5⟩ := h3 u hu
 have e : c = (f u).getD 0 := by
  cases hf : f u with
  | none =>
   rw [hf] at h4
   rw [atKey_of_not_has h4] at hc
   injection hc with hc
   injection hc with _ hc
   exact hc.symm
  | some y =>
   rw [h5 y hf] at hc
   injection hc with hc
   injection hc with _ hc
   exact hc.symm
 rw [h4, e]
 exact hK
theorem wpList_look_i {ops : Array Oper} {rest : List Oper} {o : Oper} {a : Act} {Q : Exit → Act → World → Prop} (hg : o.guard = none) (m x : Operand) (hop : o.op = Op.lookup T m x false)
  (hT : P.underlying T = some (.map kt kt)) (hk : P.underlying kt = some (.int .i64)) (hz : (zeroValue kt).run P w = .ok (.int .i64 0) w) (b n : Nat) (f : Int → Option Int) (hm : a.eval m = .map (some b)) (h : MapI P kt w b n f) (u : Int) (hx : a.eval x = .int .i64 u) (hu : I64 u)
  (hK : wpList P ops Q rest (a.put o.dst (.int .i64 ((f u).getD 0))) w) : wpList P ops Q (o :: rest) a w := by
 obtain ⟨D, h1, _, h3⟩ := h
 refine wpList_lookup_own_int w hg m x T hop kt kt .i64 (int_keyed hk) hT hk hz b n D hm h1 (.int .i64 u) _ hx (keyOf_int hk hu) fun c hc _ => ?_
 obtain ⟨h4, h5⟩ := h3 u hu
 have e : c = (f u).getD 0 := by
  cases hf : f u with
  | none =>
   rw [hf] at h4
   rw [atKey_of_not_has h4] at hc
   injection hc with hc
   injection hc with _ hc
   exact hc.symm
  | some y =>
   rw [h5 y hf] at hc
   injection hc with hc
   injection hc with _ hc
   exact hc.symm
 rw [e]
 exact hK
theorem MapI.run_look (hT : P.underlying T = some (.map kt kt)) (hk : P.underlying kt = some (.int .i64)) (hz : (zeroValue kt).run P w = .ok (.int .i64 0) w) (h : MapI P kt w b n f) (u : Int) (hu : I64 u) :
  (Instr.lookup T (.map (some b)) (.int .i64 u) false).run P w = .ok (.int .i64 ((f u).getD 0)) w := by
 obtain ⟨D, h1, _, h3⟩ := h
 obtain ⟨c, hr, hc, _⟩ := h1.lookup_int (int_keyed hk) hT hk hz (keyOf_int hk hu)
 obtain ⟨h4, h5⟩ := h3 u hu
 have e : c = (f u).getD 0 := by
  cases hf : f u with
  | none =>
   rw [hf] at h4
   rw [atKey_of_not_has h4] at hc
   injection hc with hc
   injection hc with _ hc
   exact hc.symm
  | some y =>
   rw [h5 y hf] at hc
   injection hc with hc
   injection hc with _ hc
   exact hc.symm
 rw [hr, e]
theorem wpList_upd_i {ops : Array Oper} {rest : List Oper} {o : Oper} {a : Act} {Q : Exit → Act → World → Prop} (hg : o.guard = none) (m x v : Operand) (hop : o.op = Op.mapUpdate T m x v)
  (hT : P.underlying T = some (.map kt kt)) (hk : P.underlying kt = some (.int .i64)) (b n : Nat) (f : Int → Option Int) (hm : a.eval m = .map (some b)) (h : MapI P kt w b n f) (hn : n < maxLen) (u y : Int) (hx : a.eval x = .int .i64 u) (hv : a.eval v = .int .i64 y) (hu : I64 u) (hy : I64 y)
  (hK : ∀ w', MapI P kt w' b (n + 1) (fun j => if j = u then some y else f j) → w.grownBy w' (some b) → wpList P ops Q rest (a.put o.dst undef) w') : wpList P ops Q (o :: rest) a w := by
 obtain ⟨D, h1, h2, h3⟩ := h
 refine wpList_mapUpdate_own w hg m x v T hop kt kt (int_keyed hk) hT (plainElem P kt) b n D hm h1 hn _ _ (.int .i64 u) hx hv (keyOf_int hk hu) (.lit (.int .i64 y)) [] (plainElem_int hk (wf_int hy)) fun w' h4 h5 => ?_
 have kl : ∀ i : Int, WideAt.IsKeyLit (Lit.int .i64 i) := fun _ => trivial
 refine hK w' ⟨_, h4, h2.put (kl u) _, fun j hj => ?_⟩ h5
 by_cases e : j = u
 ·subst e
  simp only [if_true]
  exact ⟨has_put_same h2.isMap (kl j) _, fun x hx => fun z => by rw [atKey_put_same h2.isMap (kl j), Option.some.inj hx]⟩
 ·simp only [if_neg e]
  have hne : Lit.int .i64 j ≠ Lit.int .i64 u := fun h => e (by injection h)
  rw [has_put_other hne]
  exact ⟨(h3 j hj).1, fun x hx => fun z => by rw [atKey_put_other hne]; exact (h3 j hj).2 x hx z⟩
theorem MapI.keys (h : MapI P kt w b n f) (hk : P.underlying kt = some (.int .i64)) : ∃ D : DataW Unit, w.ownsMap P kt (plainElem P kt) b n D ∧ Maps.size D ≤ n ∧ ∀ ss : List Int, ss.Perm (intKeys D) → ss.Nodup ∧ ∀ u, u ∈ ss ↔ I64 u ∧ (f u).isSome = true := by
 obtain ⟨D, h1, h2, h3⟩ := h
 refine ⟨D, h1, h1.size_le, fun ss hp => ?_⟩
 obtain ⟨es, hD, hpw, _⟩ := h1.entries (int_keyed hk)
 obtain ⟨es', hD', hko⟩ := h1.keysOf
 obtain rfl : es = es' := by rw [hD] at hD'; simpa using hD'
 have hkey : ∀ p ∈ es, ∃ x, p.1 = .int .i64 x ∧ I64 x := fun p hp => by
  obtain ⟨v, hv⟩ := hko p hp
  obtain ⟨x, _, hx, hw⟩ := Maps.keyOf_i64 hk hv
  exact ⟨x, hx, int_wf hw⟩
 have hnd : (intKeys D).Nodup := by
  rw [hD]
  show (es.map fun p => Go.intOf p.1).Nodup
  refine List.pairwise_map.2 (hpw.imp_of_mem fun {p q} hp' hq' hne e => hne ?_)
  obtain ⟨a, ha, _⟩ := hkey p hp'
  obtain ⟨c, hc, _⟩ := hkey q hq'
  rw [ha, hc] at e ⊢
  exact congrArg _ e
 refine ⟨hp.nodup_iff.2 hnd, fun u => ?_⟩
 rw [hp.mem_iff]
 have hm : u ∈ intKeys D ↔ ∃ p ∈ es, p.1 = .int .i64 u := by
  rw [hD]
  show u ∈ es.map (fun p => Go.intOf p.1) ↔ _
  rw [List.mem_map]
  constructor
  ·rintro ⟨p, hp', rfl⟩
   obtain ⟨a, ha, _⟩ := hkey p hp'
   exact ⟨p, hp', by rw [ha]; rfl⟩
  ·rintro ⟨p, hp', e⟩
   exact ⟨p, hp', by rw [e]; rfl⟩
 rw [hm]
 constructor
 ·rintro ⟨p, hp', e⟩
  obtain ⟨x, hx, hxi⟩ := hkey p hp'
  rw [e] at hx
  injection hx with _ hx
  subst hx
  refine ⟨hxi, ?_⟩
  rw [← (h3 u hxi).1, hD, has_eq, List.any_eq_true]
  exact ⟨p, hp', by rw [e]; simp [Lit.sameKey]⟩
 ·rintro ⟨hu, hs⟩
  rw [← (h3 u hu).1, hD, has_eq, List.any_eq_true] at hs
  obtain ⟨p, hp', hs⟩ := hs
  obtain ⟨x, hx, _⟩ := hkey p hp'
  rw [hx] at hs
  exact ⟨p, hp', by rw [hx]; simp [Lit.sameKey] at hs; rw [hs]⟩
end
theorem below_map' {w0 w w' : World} {b : Nat} (h : Below w0.heap.size w0 w) (hg : w.grownBy w' (some b)) (hb : w0.heap.size ≤ b) : Below w0.heap.size w0 w' :=
 h.grown hg h.size (fun k hk => by cases hk; exact hb)
theorem rising_eq : ∀ {l m : List Int}, l.Pairwise (· < ·) → m.Pairwise (· < ·) → (∀ u, u ∈ l ↔ u ∈ m) → l = m
 | [], [], _, _, _ => rfl
 | [], b :: m, _, _, h => by have := (h b).2 (by simp); cases this
 | a :: l, [], _, _, h => by have := (h a).1 (by simp); cases this
 | a :: l, b :: m, h1, h2, h => by
  have ha := List.pairwise_cons.1 h1
  have hb := List.pairwise_cons.1 h2
  have hab : a = b := by
   rcases List.mem_cons.1 ((h a).1 (by simp)) with e | e
   ·exact e
   ·rcases List.mem_cons.1 ((h b).2 (by simp)) with e' | e'
    ·exact e'.symm
    ·have := ha.1 b e'
     have := hb.1 a e
     omega
  subst hab
  congr 1
  refine rising_eq ha.2 hb.2 fun u => ?_
  constructor
  ·intro hu
   rcases List.mem_cons.1 ((h u).1 (by simp [hu])) with e | e
   ·subst e
    have := ha.1 u hu
    omega
   ·exact e
  ·intro hu
   rcases List.mem_cons.1 ((h u).2 (by simp [hu])) with e | e
   ·subst e
    have := hb.1 u hu
    omega
   ·exact e
theorem sorted_rising {ss : List Int} (h : ss.Nodup) : (ss.mergeSort fun x y => decide (x ≤ y)).Pairwise (· < ·) := by
 have tr : ∀ a b c : Int, decide (a ≤ b) = true → decide (b ≤ c) = true → decide (a ≤ c) = true := fun a b c h1 h2 => by simp only [decide_eq_true_eq] at *; exact Int.le_trans h1 h2
 have ttl : ∀ a b : Int, (decide (a ≤ b) || decide (b ≤ a)) = true := fun a b => by simp only [Bool.or_eq_true, decide_eq_true_eq]; exact Int.le_total a b
 have h1 := List.pairwise_mergeSort tr ttl ss
 have h2 : (ss.mergeSort fun x y => decide (x ≤ y)).Nodup := (List.mergeSort_perm ss _).nodup_iff.2 h
 refine List.Pairwise.imp₂ (R := fun a b => decide (a ≤ b) = true) (S := fun a b => a ≠ b) (fun a b hab hne => ?_) h1 h2
 simp only [decide_eq_true_eq] at hab
 omega
end
section
def meetI (ns : List Nat) (l : List Term) (u : Int) : Nat := if u < 0 then 0 else meetN ns l u.toNat
def named (l : List Term) (u : Int) : Bool := l.any fun t => t.unit == u
def mapOf (ns : List Nat) (l : List Term) (u : Int) : Option Int := if named l u then some ((meetI ns l u : Nat) : Int) else none
def gI (ns : List Nat) (l : List Term) (u : Int) : Option Term := if ((meetI ns l u : Nat) : Int) = fullF ns u then none else some ⟨u, ((meetI ns l u : Nat) : Int)⟩
section
variable {ns : List Nat} {l : List Term}
theorem meetI_snoc (l : List Term) (t : Term) (u : Int) : meetI ns (l ++ [t]) u = if t.unit = u then meetI ns l u &&& nm t.mask else meetI ns l u := by
 unfold meetI
 by_cases h : u < 0
 ·simp [h]
 ·rw [if_neg h, if_neg h, meetN_snoc]
  have : (u.toNat : Int) = u := by omega
  rw [this]
theorem meetI_take {k : Nat} (hk : k < l.length) (u : Int) : meetI ns (l.take (k + 1)) u = if l[k].unit = u then meetI ns (l.take k) u &&& nm l[k].mask else meetI ns (l.take k) u := by
 rw [List.take_succ_eq_append_getElem hk, meetI_snoc]
theorem meetI_le (ho : NsOk ns) (l : List Term) (u : Int) : meetI ns l u ≤ 31 := by
 unfold meetI
 split
 ·omega
 ·exact Nat.le_trans (meetN_le l _) (fullN_le ho _)
theorem meetI_nil (u : Int) : ((meetI ns [] u : Nat) : Int) = fullF ns u := by
 unfold meetI
 by_cases h : u < 0
 ·rw [if_pos h, fullF_neg u h]; rfl
 ·rw [if_neg h, fullF_eq u (by omega)]; rfl
theorem meetN_other {u : Nat} : ∀ {l : List Term}, (∀ t ∈ l, t.unit ≠ (u : Int)) → ∀ a : Nat, l.foldl (fun a t => if t.unit = (u : Int) then a &&& nm t.mask else a) a = a
 | [], _, _ => rfl
 | t :: l, h, a => by
  rw [List.foldl_cons, if_neg (h t (by simp))]
  exact meetN_other (fun t' ht' => h t' (by simp [ht'])) a
theorem meetI_unnamed {u : Int} (h : named l u = false) : ((meetI ns l u : Nat) : Int) = fullF ns u := by
 rw [← meetI_nil]
 unfold meetI
 split
 ·rfl
 ·rename_i h0
  unfold named at h
  rw [List.any_eq_false] at h
  have : meetN ns l u.toNat = fullN ns u.toNat := meetN_other (fun t ht e => by
   have := h t ht
   simp at this
   omega) _
  rw [this]; rfl
theorem named_take {k : Nat} (hk : k < l.length) (u : Int) : named (l.take (k + 1)) u = (named (l.take k) u || l[k].unit == u) := by
 unfold named
 rw [List.take_succ_eq_append_getElem hk, List.any_append]
 simp
theorem mapOf_step {k : Nat} (hk : k < l.length) (u : Int) : mapOf ns (l.take (k + 1)) u = if u = l[k].unit then some (((meetI ns (l.take k) l[k].unit &&& nm l[k].mask : Nat) : Nat) : Int) else mapOf ns (l.take k) u := by
 unfold mapOf
 rw [named_take hk, meetI_take hk]
 by_cases e : u = l[k].unit
 ·subst e; simp
 ·have e' : ¬ l[k].unit = u := fun h => e h.symm
  simp [e, e']
theorem have_named {u : Int} (h : named l u = true) : mapOf ns l u = some ((meetI ns l u : Nat) : Int) := by unfold mapOf; rw [if_pos h]
theorem have_unnamed {u : Int} (h : named l u = false) : mapOf ns l u = none := by unfold mapOf; rw [h]; rfl
theorem meetI_zero {k : Nat} {u : Int} (h : meetI ns (l.take k) u = 0) : meetI ns l u = 0 := by
 unfold meetI at h ⊢
 split
 ·rfl
 ·rename_i h0
  rw [if_neg h0] at h
  have h1 : meetN ns l u.toNat = (l.drop k).foldl (fun a t => if t.unit = (u.toNat : Int) then a &&& nm t.mask else a) (meetN ns (l.take k) u.toNat) := by
   unfold meetN
   rw [← List.foldl_append, List.take_append_drop]
  have h2 := fold_le (l.drop k) u.toNat (meetN ns (l.take k) u.toNat)
  rw [h1]
  omega
theorem make_zero {k : Nat} (hk : k < l.length) (h : meetI ns (l.take (k + 1)) l[k].unit = 0) : makeN ns l = none := by
 have h1 := meetI_zero h
 unfold makeN
 cases hr : inR ns l with
 | false => rfl
 | true =>
  unfold inR at hr
  rw [List.all_eq_true] at hr
  have h2 := hr _ (List.getElem_mem hk)
  simp at h2
  unfold meetI at h1
  rw [if_neg (by omega)] at h1
  unfold madeN
  cases hok : okN ns (meetN ns l) with
  | false => rfl
  | true => exact absurd h1 (okN_iff.1 hok _ (by omega))
theorem make_all (h : ∀ j, (hj : j < l.length) → meetI ns l l[j].unit ≠ 0) : makeN ns l = some (canon ns (meetN ns l)) := by
 have hin : ∀ j, (hj : j < l.length) → 0 ≤ l[j].unit ∧ l[j].unit < ns.length := by
  intro j hj
  have h1 := h j hj
  unfold meetI at h1
  split at h1
  ·exact absurd rfl h1
  ·rename_i h0
   refine ⟨by omega, ?_⟩
   rcases Nat.lt_or_ge l[j].unit.toNat ns.length with h2 | h2
   ·omega
   ·exfalso
    have h3 := meetN_le (ns := ns) l l[j].unit.toNat
    rw [fullN_out (by omega)] at h3
    omega
 have hr : inR ns l = true := by
  unfold inR
  rw [List.all_eq_true]
  intro t ht
  obtain ⟨j, hj, rfl⟩ := List.getElem_of_mem ht
  have := hin j hj
  simp [this]
 have hok : okN ns (meetN ns l) = true := by
  rw [okN_iff]
  intro u hu h0
  cases hn : named l (u : Int) with
  | false =>
   have h1 := meetI_unnamed (ns := ns) hn
   unfold meetI at h1
   rw [if_neg (by omega), Int.toNat_natCast, h0, fullF_nat] at h1
   have := fullN_pos hu
   omega
  | true =>
   unfold named at hn
   rw [List.any_eq_true] at hn
   obtain ⟨t, ht, e⟩ := hn
   obtain ⟨j, hj, rfl⟩ := List.getElem_of_mem ht
   simp at e
   have h1 := h j hj
   unfold meetI at h1
   rw [if_neg (by omega), e, Int.toNat_natCast] at h1
   exact h1 h0
 unfold makeN madeN
 rw [hr, hok]
 rfl
theorem keys_canon (hin : inR ns l = true) {ks : List Int} (h1 : ks.Pairwise (· < ·)) (h2 : ∀ u, u ∈ ks ↔ named l u = true) : ks.filterMap (gI ns l) = canon ns (meetN ns l) := by
 have hr : ∀ u, named l u = true → 0 ≤ u ∧ u < ns.length := by
  intro u hu
  unfold named at hu
  rw [List.any_eq_true] at hu
  obtain ⟨t, ht, e⟩ := hu
  unfold inR at hin
  rw [List.all_eq_true] at hin
  have := hin t ht
  simp at this e
  omega
 have hks : ks = ((List.range ns.length).map fun u : Nat => (u : Int)).filter fun u => named l u := by
  refine rising_eq h1 (List.Pairwise.filter _ (List.pairwise_map.2 (List.pairwise_lt_range.imp fun h => by omega))) fun u => ?_
  rw [h2, List.mem_filter]
  constructor
  ·intro hu
   have := hr u hu
   exact ⟨List.mem_map.2 ⟨u.toNat, List.mem_range.2 (by omega), by omega⟩, hu⟩
  ·exact fun h => h.2
 have hoff : ∀ u, named l u = false → gI ns l u = none := fun u hu => by unfold gI; rw [if_pos (meetI_unnamed hu)]
 have hf : ∀ m : List Int, (m.filter fun u => named l u).filterMap (gI ns l) = m.filterMap (gI ns l) := by
  intro m
  induction m with
  | nil => rfl
  | cons a m ih =>
   cases ha : named l a with
   | true => rw [List.filter_cons_of_pos (by exact ha), List.filterMap_cons, List.filterMap_cons, ih]
   | false => rw [List.filter_cons_of_neg (by rw [ha]; decide), ih, List.filterMap_cons, hoff a ha]
 rw [hks, hf, List.filterMap_map]
 unfold canon canonTo
 refine filterMap_same fun u hu => ?_
 have hu := List.mem_range.1 hu
 show gI ns l (u : Int) = tm ns (meetN ns l) u
 have e0 : meetI ns l (u : Int) = meetN ns l u := by unfold meetI; rw [if_neg (show ¬ (u : Int) < 0 by omega), Int.toNat_natCast]
 unfold gI tm
 rw [e0, fullF_nat]
 by_cases e : meetN ns l u = fullN ns u
 ·rw [if_pos (by omega), if_pos e]
 ·rw [if_neg (by omega), if_neg e]
end
end
section
open Go Go.RowKit Go.Maps Go.Sort Go.Shelf
theorem keys_any (mb : Option Nat) (W : World) : Calls Tryz.prog 49 #[.map mb] W fun e w' => e = .returned (.func (.func 82) #[] #[.pointer (some ⟨W.heap.size, 0, none⟩)]) ∧ w' = W.alloc (.cells #[.map mb] 112) :=
  callsIn_wide.1 (AnyZI.keys_in Tryz.keysA Fence.wide 5 trivial rfl mb W)
theorem sorts_wide (m : Nat) : AnyZI.SortsIn Tryz.prog Tryz.sortedA_ren Fence.wide m :=
  ⟨fun blk off cap ss W hH hblk hsz => callsIn_wide.2 (AnyM.slices_Sort_int Tryz.sortA blk off cap ss W hH hblk hsz),
   fun p cap W => callsIn_wide.2 (AnyM.slices_Sort_int_none Tryz.sortA p cap W)⟩
def SortedPost (f : Int → Option Int) (nn : Nat) (w : World) (e : Ending) (w' : World) : Prop := ∃ v ks, e = .returned v ∧ OwnF fInt 3 w.heap.size w' v ks ∧ ks.Pairwise (· < ·) ∧ (∀ u, u ∈ ks ↔ I64 u ∧ (f u).isSome = true) ∧ ks.length ≤ nn ∧ Below w.heap.size w w'
set_option maxHeartbeats 1000000 in
theorem sorted_any (kb mb nn : Nat) (f : Int → Option Int) (w : World) (hcell : w.cell? ⟨kb, 0, none⟩ = some (.map (some mb))) (hkb : kb < w.heap.size) (hM : MapI Tryz.prog 3 w mb nn f) (hn : nn ≤ 10000) :
    Calls Tryz.prog 48 #[.func (.func 82) #[] #[.pointer (some ⟨kb, 0, none⟩)]] w (SortedPost f nn w) := by
  obtain ⟨D, hown, hsz, hkeys⟩ := hM.keys Tryz.underlying3
  have hseq : SeqGives Fence.wide 2 Tryz.prog 82 #[.pointer (some ⟨kb, 0, none⟩)] encZ (fun ss => ss.Perm (intKeys D)) (Maps.size D) w :=
    AnyZI.keys_gives (ρ := Tryz.keysA_ren) { Tryz.keysA with } Fence.wide _ trivial rfl (by omega) kb mb nn D _ hkb hcell hown
  have cS := AnyZI.sorted_in Tryz.sortedA Fence.wide 5 trivial trivial trivial trivial rfl (by omega) (sorts_wide _) (enters_of Tryz.func81 (by kernel_rfl) rfl) 82 #[.pointer (some ⟨kb, 0, none⟩)] trivial (enters_of Tryz.func82 (by kernel_rfl) rfl) _ _ (by unfold maxLen; omega) (by omega) _ hseq
  change CallsIn _ _ Tryz.prog 48 _ _ _ at cS
  refine (callsIn_wide.1 cS).mono ?_
  rintro e w' ⟨v, ss, rfl, hS, hrow, -, hb⟩
  obtain ⟨hnd, hmem⟩ := hkeys ss hS
  have hlen : (ss.mergeSort fun x y => decide (x ≤ y)).length = ss.length := (List.mergeSort_perm ss _).length_eq
  refine ⟨v, ss.mergeSort fun x y => decide (x ≤ y), rfl, ⟨?_, fun x hx => ?_⟩, sorted_rising hnd, fun u => ?_, ?_, hb⟩
  · rw [ints_all, hlen]
    exact hrow
  · exact ((hmem x).1 ((List.mergeSort_perm ss _).mem_iff.1 hx)).1
  · rw [(List.mergeSort_perm ss _).mem_iff]
    exact hmem u
  · rw [hlen, hS.length_eq]
    refine Nat.le_trans ?_ hsz
    cases D <;> simp [intKeys, Maps.size]
end
end Go.Proofs.YthneiolcljnbeaaGreatDoor
