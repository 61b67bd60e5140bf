import Derived.Test.YtbfbppjccbppiaaGreatDoorzA
import Derived.Lib.AppendStr
import Derived.Lib.UnsafeStr
import Derived.Lib.OthersKept
import Derived.MapKept
import Derived.Maps.OwnOps
import Derived.Maps.OwnSet
import Derived.OrdersHeld
import Derived.Deep.RegionHeld3
namespace Go.Proofs.YtbfbppjccbppiaaGreatDoor
open Go Go.RowKit
section
structure Wr (e : TypeId) (B : Nat) (w0 w : World) (v : Value) (s : List UInt8) : Prop where
 below : Below B w0 w
 kept : Lib.OthersKept e none w0 w
 own : w.ownsRow B e 1 v s.length (Lib.byteCells s)
 base : B ≤ w0.heap.size
theorem byteCells_append (s t : List UInt8) : Lib.byteCells (s ++ t) = Lib.byteCells s ++ Lib.byteCells t := by simp [Lib.byteCells]
theorem byteCells_length (s : List UInt8) : (Lib.byteCells s).length = s.length := by simp [Lib.byteCells]
theorem byteCells_one (s : List UInt8) : ∀ u ∈ Lib.byteCells s, u.oneCell' = true := by
 intro u hu
 simp only [Lib.byteCells, List.mem_map] at hu
 obtain ⟨b, _, rfl⟩ := hu
 rfl
variable {e : TypeId} {B : Nat} {w0 w w' : World} {v v' : Value} {s t : List UInt8}
theorem Wr.start (h : B ≤ w.heap.size) : Wr e B w w (.slice none 0 0) [] := ⟨Below.refl _ _, Lib.OthersKept.refl _ _ _, ⟨rfl, .inl ⟨rfl, rfl⟩⟩, h⟩
theorem Wr.size (h : Wr e B w0 w v s) : w0.heap.size ≤ w.heap.size ∧ B ≤ w.heap.size := ⟨h.below.size, Nat.le_trans h.base h.below.size⟩
theorem kept_alloc (e : TypeId) (w : World) (o : Obj) : Lib.OthersKept e none w (w.alloc o) := by
 intro k o' hk _ _
 have hlt : k < w.heap.size := (Array.getElem?_eq_some_iff.1 hk).1
 rw [Below.heap_alloc w o k hlt, hk]
theorem Wr.alloc (h : Wr e B w0 w v s) (o : Obj) : Wr e B w0 (w.alloc o) v s :=
 ⟨h.below.alloc (Nat.le_trans h.base h.below.size) _, h.kept.trans (kept_alloc _ _ _), h.own.alloc _, h.base⟩
theorem kept_drew (e : TypeId) (w : World) : Lib.OthersKept e none w w.drew := fun _ _ h _ _ => h
theorem Wr.drew (h : Wr e B w0 w v s) : Wr e B w0 w.drew v s :=
 ⟨h.below.drew, h.kept.trans (kept_drew _ _), h.own, h.base⟩
theorem kept_grown {n : Nat} {xs : List Value} (ho : w.ownsRow B e 1 v n xs) (hg : w.grownBy w' v.ownBlock) : Lib.OthersKept e none w w' := by
 intro k o hk _ hc
 refine (hg.block k (Array.getElem?_eq_some_iff.1 hk).1 ?_).trans hk
 intro he
 rcases ho.2 with ⟨rfl, _⟩ | ⟨g, cap, cur, rfl, hb, hgg, _⟩
 ·cases he
 ·injection he with he
  have hkg : k = g := he
  subst hkg
  rw [hgg] at hk
  injection hk with hk
  exact hc _ _ hk.symm
theorem Wr.grown (h : Wr e B w0 w v s) (hg : w.grownBy w' v.ownBlock) (ho : w'.ownsRow B e 1 v' (s.length + t.length) (Lib.byteCells s ++ Lib.byteCells t)) : Wr e B w0 w' v' (s ++ t) := by
 refine ⟨h.below.grown hg (Nat.le_trans h.base h.below.size) ?_, h.kept.trans (kept_grown h.own hg), ?_, h.base⟩
 ·intro k hk
  rcases h.own.2 with ⟨rfl, _⟩ | ⟨g, cap, cur, rfl, hb, _⟩
  ·cases hk
  ·injection hk with hk
   exact hk ▸ hb
 ·rw [List.length_append, byteCells_append]
  exact ho
theorem Wr.call (h : Wr e B w0 w v s) (hb : Below B w w') (hk : Lib.OthersKept e none w w') (ho : w'.ownsRow B e 1 v' (s.length + t.length) (Lib.byteCells s ++ Lib.byteCells t)) : Wr e B w0 w' v' (s ++ t) :=
 ⟨h.below.trans hb, h.kept.trans hk, by rw [List.length_append, byteCells_append]; exact ho, h.base⟩
theorem Wr.next (h : Wr e B w0 w v (s ++ t)) : ∃ S A c, v = .slice A S.length c ∧ Hid (S = s ++ t) ∧ S.length ≤ s.length + t.length ∧ Hid (Wr e B w0 w v S) := by
 obtain ⟨A, c, hv⟩ := qb1 h.own
 exact ⟨s ++ t, A, c, hv, hid rfl, by simp, hid h⟩
def Grew (e : TypeId) (B : Nat) (w0 : World) (S t : List UInt8) (n : Nat) (v : Value) (w : World) : Prop := ∃ S' A c, v = .slice A S'.length c ∧ S' = S ++ t ∧ S'.length ≤ S.length + n ∧ Wr e B w0 w v S'
theorem Wr.obj (h : Wr e B w0 w v s) {k : Nat} {o : Obj} (hk : w0.heap[k]? = some o) (ho : ∀ c fz, o ≠ .cells c e fz) : w.heap[k]? = some o := h.kept k o hk (by simp) ho
theorem own_lit {w : World} (b : UInt8) {c : Int} (hc : (b.toNat : Int) = c) : Src (w.alloc (.cells #[.int .u8 c] e)) (some ⟨w.heap.size, 0, none⟩) 1 1 (Lib.byteCells [b]) := by subst hc; exact qe1 _ _ rfl 1 _ rfl rfl
end
section
structure KeyEnc (κ : Type) where
 d : TypeDesc
 enc : κ → Value
 isKey : ∀ k, Go.MapKept.IsKey d (enc k)
 inj : ∀ {k j}, enc k = enc j → k = j
def kInt : KeyEnc Int := ⟨.int .i64, fun k => .int .i64 k, fun _ => rfl, fun h => by injection h⟩
def kStr : KeyEnc ByteArray := ⟨.string, fun k => .string k, fun _ => trivial, fun h => by injection h⟩
structure MapF {κ : Type} (K : KeyEnc κ) (w : World) (b : Nat) (n : Nat) (f : κ → Option Value) : Prop where
 holds : ∃ es clock, w.heap[b]? = some (.map es clock) ∧ es.size = n ∧ (∀ x ∈ es.toList, ∃ k, x.key = K.enc k) ∧ (es.toList.map (·.key)).Nodup ∧ ∀ k v, f k = some v ↔ ∃ e ∈ es.toList, e.key = K.enc k ∧ e.val = v
section
variable {κ : Type} {K : KeyEnc κ} {P : Program} {w w' : World} {b n : Nat} {f : κ → Option Value} {T kt et : TypeId}
theorem MapF.lt (h : MapF K w b n f) : b < w.heap.size := by
 obtain ⟨es, clock, h1, _⟩ := h.holds
 exact (Array.getElem?_eq_some_iff.1 h1).1
theorem MapF.keep (h : MapF K w b n f) (hk : w'.heap[b]? = w.heap[b]?) : MapF K w' b n f := by
 obtain ⟨es, clock, h1, h2⟩ := h.holds
 exact ⟨es, clock, hk.trans h1, h2⟩
theorem MapF.below {B : Nat} (h : MapF K w b n f) (hb : Below B w w') (hB : b < B) : MapF K w' b n f := h.keep (hb.block b hB)
theorem MapF.congr {f' : κ → Option Value} (h : MapF K w b n f) (he : ∀ k, f k = f' k) : MapF K w b n f' := by
 have : f = f' := funext he
 rw [← this]; exact h
theorem MapF.made (K : KeyEnc κ) (w : World) : MapF K (w.alloc (.map #[] 0)) w.heap.size 0 (fun _ => none) :=
 ⟨#[], 0, heap_alloc_new w _, rfl, by simp, by simp, by simp⟩
theorem MapF.zero (h : MapF K w b n f) : n = 0 ↔ ∀ k, f k = none := by
 obtain ⟨es, clock, h1, h2, h3, h4, h5⟩ := h.holds
 constructor
 ·intro h0 k
  cases hf : f k with
  | none => rfl
  | some v =>
   obtain ⟨e, he, _⟩ := (h5 k v).1 hf
   have : es.toList = [] := List.eq_nil_of_length_eq_zero (by rw [Array.length_toList, h2, h0])
   rw [this] at he; cases he
 ·intro hf
  rcases Nat.eq_zero_or_pos n with h0 | h0
  ·exact h0
  ·have hlt : 0 < es.toList.length := by simp; omega
   obtain ⟨k, hk⟩ := h3 _ (List.getElem_mem hlt)
   have := (h5 k _).2 ⟨_, List.getElem_mem hlt, hk, rfl⟩
   rw [hf k] at this; cases this
theorem MapF.find (h : MapF K w b n f) (k : κ) : ∃ es clock, w.heap[b]? = some (.map es clock) ∧ es.size = n ∧
  ((Instr.findNow K.d (K.enc k) es.toList 0 = some none ∧ f k = none) ∨ ∃ i e, Instr.findNow K.d (K.enc k) es.toList 0 = some (some (i, e.val)) ∧ es[i]? = some e ∧ e.key = K.enc k ∧ f k = some e.val) := by
 obtain ⟨es, clock, h1, h2, h3, h4, h5⟩ := h.holds
 refine ⟨es, clock, h1, h2, ?_⟩
 rcases Go.MapKept.findNow_spec (K.isKey k) es.toList 0 (fun x hx => by obtain ⟨j, hj⟩ := h3 x hx; rw [hj]; exact K.isKey j) with ⟨e1, e2⟩ | ⟨j, e, e1, e2, e3⟩
 ·refine .inl ⟨e1, ?_⟩
  cases hf : f k with
  | none => rfl
  | some v =>
   obtain ⟨e, he, hk, _⟩ := (h5 k v).1 hf
   exact absurd hk (e2 e he)
 ·refine .inr ⟨j, e, by simpa using e1, by simpa using e2, e3, ?_⟩
  exact (h5 k _).2 ⟨e, List.mem_of_getElem? e2, e3, rfl⟩
theorem MapF.run_lookup (h : MapF K w b n f) (hT : P.underlying T = some (.map kt et)) (hk : P.underlying kt = some K.d) {z : Value} (hz : (zeroValue et).run P w = .ok z w) (k : κ) :
  (Instr.lookup T (.map (some b)) (K.enc k) false).run P w = .ok ((f k).getD z) w ∧ (Instr.lookup T (.map (some b)) (K.enc k) true).run P w = .ok (.tuple #[(f k).getD z, .bool (f k).isSome]) w := by
 obtain ⟨es, clock, hb, _, hor⟩ := h.find k
 unfold Instr.lookup
 simp only [Sem.run_bind, run_underlying hT, Result.andThen_ok, Go.MapKept.run_getObj_map hb, Sem.run_pure, Go.MapKept.run_checkKey hk (K.isKey k) _ 9999]
 rcases hor with ⟨e1, e2⟩ | ⟨i, e, e1, _, _, e2⟩
 ·simp only [Go.MapKept.run_findKey hk e1, Result.andThen_ok, Sem.run_bind, hz, Sem.run_pure, e2]
  exact ⟨rfl, rfl⟩
 ·simp only [Go.MapKept.run_findKey hk e1, Result.andThen_ok, Sem.run_bind, Sem.run_pure, e2]
  exact ⟨rfl, rfl⟩
theorem grown_set {w : World} {b : Nat} {o o' : Obj} (hb : w.heap[b]? = some o) : w.grownBy { w with heap := w.heap.setIfInBounds b o' } (some b) :=
 ⟨rfl, rfl, rfl, by simp, fun k _ hne => (Go.MapKept.heap_set hb).2 k (fun e => hne (by rw [e]))⟩
theorem MapF.run_update (h : MapF K w b n f) (hT : P.underlying T = some (.map kt et)) (hk : P.underlying kt = some K.d) [DecidableEq κ] (k : κ) (v : Value) :
  ∃ w' n', (Instr.mapUpdate T (.map (some b)) (K.enc k) v).run P w = .ok () w' ∧ MapF K w' b n' (fun j => if j = k then some v else f j) ∧ n ≤ n' ∧ n' ≤ n + 1 ∧ w.grownBy w' (some b) ∧ w'.heap.size = w.heap.size := by
 obtain ⟨es, clock, hb, h2, h3, h4, h5⟩ := h.holds
 rcases Go.MapKept.findNow_spec (K.isKey k) es.toList 0 (fun x hx => by obtain ⟨j, hj⟩ := h3 x hx; rw [hj]; exact K.isKey j) with ⟨e1, e2⟩ | ⟨i, e, e1, e2, e3⟩
 ·refine ⟨_, n + 1, by simp [Instr.mapUpdate, run_underlying hT, Go.MapKept.run_getObj_map hb, Go.MapKept.run_checkKey hk (K.isKey k), Go.MapKept.run_findKey hk e1, Go.MapKept.run_setObj_map _ hb, Result.andThen]; rfl, ?_, by omega, by omega, grown_set hb, by simp⟩
  refine ⟨es.push { key := K.enc k, val := v, born := clock }, clock + 1, (Go.MapKept.heap_set hb).1, by simp [h2], ?_, ?_, ?_⟩
  ·intro x hx
   simp only [Array.toList_push, List.mem_append, List.mem_singleton] at hx
   rcases hx with hx | rfl
   ·exact h3 x hx
   ·exact ⟨k, rfl⟩
  ·simp only [Array.toList_push, List.map_append, List.map_cons, List.map_nil]
   refine List.nodup_append.2 ⟨h4, by simp, ?_⟩
   intro a ha c hc
   simp only [List.mem_singleton] at hc
   subst hc
   obtain ⟨x, hx, rfl⟩ := List.mem_map.1 ha
   exact e2 x hx
  ·intro j u
   simp only [Array.toList_push, List.mem_append, List.mem_singleton]
   by_cases hjk : j = k
   ·subst hjk
    simp only [if_true]
    constructor
    ·intro hu; cases hu; exact ⟨_, .inr rfl, rfl, rfl⟩
    ·rintro ⟨x, hx | rfl, hx1, hx2⟩
     ·exact absurd hx1 (e2 x hx)
     ·exact congrArg some hx2
   ·simp only [if_neg hjk]
    rw [h5]
    constructor
    ·rintro ⟨x, hx, hx1⟩; exact ⟨x, .inl hx, hx1⟩
    ·rintro ⟨x, hx | rfl, hx1, hx2⟩
     ·exact ⟨x, hx, hx1, hx2⟩
     ·exact absurd (K.inj hx1).symm hjk
 ·simp only [Nat.zero_add] at e1
  have hj : es[i]? = some e := by simpa using e2
  have hilt : i < es.size := (Array.getElem?_eq_some_iff.1 hj).1
  refine ⟨_, n, by simp [Instr.mapUpdate, run_underlying hT, Go.MapKept.run_getObj_map hb, Go.MapKept.run_checkKey hk (K.isKey k), Go.MapKept.run_findKey hk e1, hj, e3, Go.MapKept.run_keyThatStays (K.isKey k), Go.MapKept.run_setObj_map _ hb, Result.andThen]; rfl, ?_, by omega, by omega, grown_set hb, by simp⟩
  have hmem : ∀ x, x ∈ (es.modify i fun e => { e with key := K.enc k, val := v }).toList ↔ (x = { e with key := K.enc k, val := v } ∨ ∃ m, m ≠ i ∧ es[m]? = some x) := by
   intro x
   rw [List.mem_iff_getElem?]
   constructor
   ·rintro ⟨m, hm⟩
    rw [Array.getElem?_toList, Array.getElem?_modify] at hm
    by_cases hmi : i = m
    ·subst hmi; simp [hj] at hm; exact .inl hm.symm
    ·simp [hmi] at hm; exact .inr ⟨m, fun q => hmi q.symm, hm⟩
   ·rintro (rfl | ⟨m, hm, hx⟩)
    ·exact ⟨i, by rw [Array.getElem?_toList, Array.getElem?_modify]; simp [hj]⟩
    ·exact ⟨m, by rw [Array.getElem?_toList, Array.getElem?_modify]; simp [Ne.symm hm, hx]⟩
  refine ⟨es.modify i fun e => { e with key := K.enc k, val := v }, clock, (Go.MapKept.heap_set hb).1, by simp [h2], ?_, ?_, ?_⟩
  ·intro x hx
   rcases (hmem x).1 hx with rfl | ⟨m, _, hx⟩
   ·exact ⟨k, rfl⟩
   ·exact h3 x (Array.mem_toList_iff.2 (Array.mem_of_getElem? hx))
  ·rw [Go.MapKept.modify_keys i _ (fun e' he' => by rw [hj] at he'; cases he'; exact e3.symm)]
   exact h4
  ·intro j u
   by_cases hjk : j = k
   ·subst hjk
    simp only [if_true]
    constructor
    ·intro hu; cases hu; exact ⟨_, (hmem _).2 (.inl rfl), rfl, rfl⟩
    ·rintro ⟨x, hx, hx1, hx2⟩
     rcases (hmem x).1 hx with rfl | ⟨m, hm, hx⟩
     ·exact congrArg some hx2
     ·exfalso
      have hml : m < es.size := (Array.getElem?_eq_some_iff.1 hx).1
      have q := (List.getElem_inj (i := m) (j := i) (h₀ := by simpa using hml) (h₁ := by simpa using hilt) h4).1 (by
       simp only [List.getElem_map, Array.getElem_toList]
       rw [(Array.getElem?_eq_some_iff.1 hx).2, (Array.getElem?_eq_some_iff.1 hj).2, hx1, e3])
      exact hm q
   ·simp only [if_neg hjk]
    rw [h5]
    constructor
    ·rintro ⟨x, hx, hx1, hx2⟩
     obtain ⟨m, hm⟩ := List.mem_iff_getElem?.1 hx
     rw [Array.getElem?_toList] at hm
     refine ⟨x, (hmem x).2 (.inr ⟨m, ?_, hm⟩), hx1, hx2⟩
     rintro rfl
     rw [hj] at hm
     cases hm
     exact hjk (K.inj (hx1.symm.trans e3))
    ·rintro ⟨x, hx, hx1, hx2⟩
     rcases (hmem x).1 hx with rfl | ⟨m, hm, hx⟩
     ·exact absurd (K.inj hx1).symm hjk
     ·exact ⟨x, Array.mem_toList_iff.2 (Array.mem_of_getElem? hx), hx1, hx2⟩
theorem qb0 {ops : Array Oper} {rest : List Oper} {o : Oper} {a : Act} {Q : Exit → Act → World → Prop} (hg : o.guard = none) (m x : Operand) (hop : o.op = Op.lookup T m x true)
  (K : KeyEnc κ) (hT : P.underlying T = some (.map kt et)) (hk : P.underlying kt = some K.d) (z : Value) (hz : (zeroValue et).run P w = .ok z w) (b n : Nat) (f : κ → Option Value) (hm : a.eval m = .map (some b)) (h : MapF K w b n f) (k : κ) (hx : a.eval x = K.enc k)
  (hK : wpList P ops Q rest (a.put o.dst (.tuple #[(f k).getD z, .bool (f k).isSome])) w) : wpList P ops Q (o :: rest) a w := by
 refine wpList_plain hg fun K' hK' => ?_
 unfold Oper.wp
 simp only [execOp, hop, hm, hx, (h.run_lookup hT hk hz k).2, Sem.run_bind, Result.andThen_ok, Sem.run_pure]
 exact hK' _ _ hK
theorem zl6 [DecidableEq κ] {ops : Array Oper} {rest : List Oper} {o : Oper} {a : Act} {Q : Exit → Act → World → Prop} (hg : o.guard = none) (m x v : Operand) (hop : o.op = Op.mapUpdate T m x v)
  (K : KeyEnc κ) (hT : P.underlying T = some (.map kt et)) (hk : P.underlying kt = some K.d) (b n : Nat) (f : κ → Option Value) (hm : a.eval m = .map (some b)) (h : MapF K w b n f) (k : κ) (val : Value) (hx : a.eval x = K.enc k) (hv : a.eval v = val)
  (hK : ∀ w' n', MapF K w' b n' (fun j => if j = k then some val else f j) → n ≤ n' → n' ≤ n + 1 → w.grownBy w' (some b) → w'.heap.size = w.heap.size → wpList P ops Q rest (a.put o.dst undef) w') : wpList P ops Q (o :: rest) a w := by
 refine wpList_plain hg fun K' hK' => ?_
 obtain ⟨w', n', hrun, r1, r2, r3, r4, r5⟩ := h.run_update hT hk k val
 unfold Oper.wp
 simp only [execOp, hop, hm, hx, hv, hrun, Sem.run_bind, Result.andThen_ok, Sem.run_pure]
 exact hK' _ _ (hK w' n' r1 r2 r3 r4 r5)
theorem MapF.drew (h : MapF K w b n f) : MapF K w.drew b n f := h.keep rfl
theorem MapF.alloc (h : MapF K w b n f) (o : Obj) : MapF K (w.alloc o) b n f := h.keep (Below.heap_alloc w o b h.lt)
theorem MapF.other (h : MapF K w b n f) {p : Addr} (hp : b ≠ p.block) (x : Value) : MapF K (w.setCell p x) b n f := h.keep (heap_setCell_other _ _ _ _ hp)
theorem MapF.one [DecidableEq κ] (K : KeyEnc κ) (w : World) (k : κ) (v : Value) : MapF K (w.alloc (.map #[⟨K.enc k, v, 0⟩] 1)) w.heap.size 1 (fun j => if j = k then some v else none) := by
 refine ⟨#[⟨K.enc k, v, 0⟩], 1, heap_alloc_new w _, rfl, by simp; exact ⟨k, rfl⟩, by simp, fun j u => ?_⟩
 by_cases h : j = k
 ·subst h; simp
 ·simp only [if_neg h]
  constructor
  ·intro h; cases h
  ·rintro ⟨e, he, h1, _⟩
   have : e = ⟨K.enc k, v, 0⟩ := by simpa using he
   subst this
   exact absurd (K.inj h1).symm h
theorem below_map {B : Nat} {w0 w w' : World} {b : Nat} (h : Below B w0 w) (hg : w.grownBy w' (some b)) (hb : B ≤ b) (hs : B ≤ w.heap.size) : Below B w0 w' :=
 h.grown hg hs (fun k hk => by cases hk; exact hb)
theorem qx6 {w w' : World} {b k : Nat} (hg : w.grownBy w' (some b)) (hk : k < w.heap.size) (hne : k ≠ b) : w'.heap[k]? = w.heap[k]? :=
 hg.block k hk (fun e => hne (Option.some.inj e))
end
end
section
theorem qw8 {P : Program} {w : World} {T kt et : TypeId} {d : TypeDesc} (hT : P.underlying T = some (.map kt et)) (hk : P.underlying kt = some d) (es : Array MapEntry) (clock : Nat) (key x : Value) (hkey : Go.MapKept.IsKey d key)
  (hf : Instr.findNow d key es.toList 0 = some none) :
  (Instr.mapUpdate T (.map (some w.heap.size)) key x).run P (w.alloc (.map es clock)) = .ok () (w.alloc (.map (es.push { key := key, val := x, born := clock }) (clock + 1))) := by
 have hb : (w.alloc (.map es clock)).heap[w.heap.size]? = some (.map es clock) := heap_alloc_new w _
 unfold Instr.mapUpdate
 simp only [Sem.run_bind, run_underlying hT, Result.andThen_ok, Go.MapKept.run_getObj_map hb, Go.MapKept.run_checkKey hk hkey false 9999, Go.MapKept.run_findKey hk hf, Go.MapKept.run_setObj_map _ hb]
 have e : ∀ (h : Array Obj) (x y : Obj), (h.push x).setIfInBounds h.size y = h.push y := by
  intro h x y
  apply Array.ext_getElem?
  intro i
  by_cases hi : i = h.size
  ·subst hi; simp
  ·simp [Array.getElem?_push, hi, Ne.symm hi]
 simp only [World.alloc, e]
theorem zm0 {P : Program} {w : World} {T kt et : TypeId} {d : TypeDesc} (hT : P.underlying T = some (.map kt et)) (hk : P.underlying kt = some d) {b : Nat} {es : Array MapEntry} {clock : Nat} (hb : w.heap[b]? = some (.map es clock)) (key : Value) (hkey : Go.MapKept.IsKey d key) {i : Nat} {v : Value}
  (hf : Instr.findNow d key es.toList 0 = some (some (i, v))) :
  (Instr.lookup T (.map (some b)) key false).run P w = .ok v w := by
 unfold Instr.lookup
 simp only [Sem.run_bind, run_underlying hT, Result.andThen_ok, Go.MapKept.run_getObj_map hb, Sem.run_pure, Go.MapKept.run_checkKey hk hkey _ 9999, Go.MapKept.run_findKey hk hf]
 rfl
end
section
open Go
section
variable {P : Program} {ops : Array Oper} {Q : Exit → Act → World → Prop} {md : Region.Mode} {S : World → Prop} {t : Nat}
def Till (P : Program) (md : Region.Mode) (ops : Array Oper) (Q : Exit → Act → World → Prop) (S : World → Prop) (t : Nat) : Nat → Array Bool → Act → World → Prop
 | 0, done, a, w => Region.ready md ops done = [] ∧ Q .normal a w
 | n + 1, done, a, w => (Region.ready md ops done = [] → Q .normal a w) ∧ ∀ i ∈ Region.ready md ops done, wpOp P ops Q i (fun a' w' => ((done.setIfInBounds i true).getD t false = false → S w') ∧ Till P md ops Q S t n (done.setIfInBounds i true) a' w') a w
theorem Till.any : ∀ (n : Nat) (done : Array Bool) (a : Act) (w : World), Till P md ops Q S t n done a w → wpAny P md ops Q n done a w
 | 0, _, _, _, h => h
 | n + 1, _, _, _, h => ⟨h.1, fun i hi => wpOp_mono (fun a' w' h' => Till.any n _ a' w' h'.2) (h.2 i hi)⟩
theorem Till.first {i : Nat} {oi : Oper} {v : Value} (hi : ops[i]? = some oi) (hsel : ∀ (j : Nat) (o : Oper) cs b, ops[j]? = some o → o.op ≠ .select cs b) (hQ : ∀ c a w, Q (.panic c) (a.put oi.dst v) w → Q (.panic c) a w)
  (hit : i ≠ t) (hwait : ∃ ot, ops[t]? = some ot ∧ ∃ e ∈ ot.after, Region.binds md e = true ∧ e.on = i) :
  ∀ (n : Nat) (done : Array Bool) (a : Act) (w : World), (∀ j oj, ops[j]? = some oj → j ≠ i → done.getD j true = false → (∀ e ∈ oj.after, Region.binds md e = true → e.on ≠ i) → oi.apart ops oj = true) →
   i ∈ Region.ready md ops done → done.getD t false = false → YieldsIf P ops S oi v a → S w → Till P md ops Q S t n (done.setIfInBounds i true) (a.put oi.dst v) w → Till P md ops Q S t (n + 1) done a w := by
 intro n
 induction n with
 | zero =>
  intro done a w _ hr ht hy hS H
  refine ⟨fun h => (by rw [h] at hr; cases hr), fun j hj => ?_⟩
  by_cases hji : j = i
  ·rw [hji]; exact hy.wpOp hi hS ⟨fun _ => hS, H⟩
  ·have h0 := ready_mono hj hji
   rw [H.1] at h0
   cases h0
 | succ n ih =>
  intro done a w hfree hr ht hy hS H
  refine ⟨fun h => (by rw [h] at hr; cases hr), fun j hj => ?_⟩
  by_cases hji : j = i
  ·rw [hji]; exact hy.wpOp hi hS ⟨fun _ => hS, H⟩
  ·obtain ⟨hjun, oj, hoj, hall⟩ := mem_ready.1 hj
   have hun := (mem_ready.1 hr).1
   have hnot : ∀ e ∈ oj.after, Region.binds md e = true → e.on ≠ i := fun e he hb heq => by
    have h1 := hall e he hb
    rw [heq] at h1
    rcases Nat.lt_or_ge i done.size with h' | h'
    ·simp [h'] at hun h1; rw [hun] at h1; cases h1
    ·simp [Array.getElem?_eq_none h'] at h1
   have hjt : j ≠ t := fun e => by
    obtain ⟨ot, hot, x, hx, hb, hxi⟩ := hwait
    rw [e, hot] at hoj
    injection hoj with hoj
    rw [hoj] at hx
    exact hnot x hx hb hxi
   have ht' : (done.setIfInBounds j true).getD t false = false := by rw [getD_set_ne false hjt]; exact ht
   have h2 := wpOp_putIf hoj (hfree j oj hoj hji hjun hnot) (fun cs b => hsel i oi cs b hi) (fun cs b => hsel j oj cs b hoj) hQ hy (H.2 j (ready_mono hj hji))
   have hset : ((done.setIfInBounds i true).setIfInBounds j true).getD t false = false := by rw [getD_set_ne false hjt, getD_set_ne false hit]; exact ht
   refine wpOp_mono (fun a' w' h3 => ⟨fun _ => h3.2.1 hset, ih (done.setIfInBounds j true) a' w' (fun k ok hk hki hku hno => hfree k ok hk hki ?_ hno) (ready_mono hr (Ne.symm hji)) ht' h3.1 (h3.2.1 hset) ?_⟩) h2
   ·by_cases hjk : j = k
    ·rw [← hjk]; exact hjun
    ·rw [getD_set_ne true hjk] at hku; exact hku
   ·rw [Array.setIfInBounds_comm _ _ hji]
    exact h3.2.2
theorem Till.firstW {i : Nat} {oi : Oper} {v : Value} (hi : ops[i]? = some oi) (hsel : ∀ (j : Nat) (o : Oper) cs b, ops[j]? = some o → o.op ≠ .select cs b) (hQ : ∀ c a w, Q (.panic c) (a.put oi.dst v) w → Q (.panic c) a w) (hit : i ≠ t) :
  ∀ (n : Nat) (done : Array Bool) (a : Act) (w : World), (∀ j oj, ops[j]? = some oj → j ≠ i → done.getD j true = false → (∀ e ∈ oj.after, Region.binds md e = true → e.on ≠ i) → oi.apart ops oj = true) →
   i ∈ Region.ready md ops done → (done.getD t false = false → S w) → YieldsIf P ops (fun _ => True) oi v a → Till P md ops Q S t n (done.setIfInBounds i true) (a.put oi.dst v) w → Till P md ops Q S t (n + 1) done a w := by
 intro n
 induction n with
 | zero =>
  intro done a w _ hr hS hy H
  refine ⟨fun h => (by rw [h] at hr; cases hr), fun j hj => ?_⟩
  by_cases hji : j = i
  ·rw [hji]; exact hy.wpOp hi trivial ⟨fun h => hS (by rw [getD_set_ne false hit] at h; exact h), H⟩
  ·have h0 := ready_mono hj hji
   rw [H.1] at h0
   cases h0
 | succ n ih =>
  intro done a w hfree hr hS hy H
  refine ⟨fun h => (by rw [h] at hr; cases hr), fun j hj => ?_⟩
  by_cases hji : j = i
  ·rw [hji]; exact hy.wpOp hi trivial ⟨fun h => hS (by rw [getD_set_ne false hit] at h; exact h), H⟩
  ·obtain ⟨hjun, oj, hoj, hall⟩ := mem_ready.1 hj
   have hun := (mem_ready.1 hr).1
   have hnot : ∀ e ∈ oj.after, Region.binds md e = true → e.on ≠ i := fun e he hb heq => by
    have h1 := hall e he hb
    rw [heq] at h1
    rcases Nat.lt_or_ge i done.size with h' | h'
    ·simp [h'] at hun h1; rw [hun] at h1; cases h1
    ·simp [Array.getElem?_eq_none h'] at h1
   have h2 := wpOp_putIf hoj (hfree j oj hoj hji hjun hnot) (fun cs b => hsel i oi cs b hi) (fun cs b => hsel j oj cs b hoj) hQ hy (H.2 j (ready_mono hj hji))
   have hcom : ((done.setIfInBounds i true).setIfInBounds j true).getD t false = (done.setIfInBounds j true).getD t false := by
    rw [Array.setIfInBounds_comm _ _ (Ne.symm hji), getD_set_ne false hit]
   refine wpOp_mono (fun a' w' h3 => ⟨fun h => h3.2.1 (by rw [hcom]; exact h), ih (done.setIfInBounds j true) a' w' (fun k ok hk hki hku hno => hfree k ok hk hki ?_ hno) (ready_mono hr (Ne.symm hji)) (fun h => h3.2.1 (by rw [hcom]; exact h)) h3.1 ?_⟩) h2
   ·by_cases hjk : j = k
    ·rw [← hjk]; exact hjun
    ·rw [getD_set_ne true hjk] at hku; exact hku
   ·rw [Array.setIfInBounds_comm _ _ hji]
    exact h3.2.2
theorem Till.takeW (i : Nat) {oi : Oper} {v : Value} {n : Nat} {done : Array Bool} {a : Act} {w : World} (hi : ops[i]? = some oi) (hs : Region.noSelect ops = true) (hf : Region.free md ops done i = true) (hr : (Region.ready md ops done).contains i = true)
  (hQ : ∀ c a w, Q (.panic c) (a.put oi.dst v) w → Q (.panic c) a w) (hit : (i == t) = false) (hS : S w) (hy : YieldsIf P ops (fun _ => True) oi v a)
  (h : Till P md ops Q S t n (done.setIfInBounds i true) (a.put oi.dst v) w) : Till P md ops Q S t (n + 1) done a w :=
 Till.firstW hi (Region.noSelect_spec hs) hQ (beq_eq_false_iff_ne.1 hit) n done a w (Region.free_spec hi hf) (by simpa using hr) (fun _ => hS) hy h
def waitsB (md : Region.Mode) (ops : Array Oper) (t i : Nat) : Bool := match ops[t]? with
 | some ot => ot.after.any fun e => Region.binds md e && e.on == i
 | none => false
theorem Till.take (i : Nat) {oi : Oper} {v : Value} {n : Nat} {done : Array Bool} {a : Act} {w : World} (hi : ops[i]? = some oi) (hs : Region.noSelect ops = true) (hf : Region.free md ops done i = true) (hr : (Region.ready md ops done).contains i = true)
  (hQ : ∀ c a w, Q (.panic c) (a.put oi.dst v) w → Q (.panic c) a w) (hw : waitsB md ops t i = true) (hit : (i == t) = false) (ht : done.getD t false = false) (hy : YieldsIf P ops S oi v a) (hS : S w)
  (h : Till P md ops Q S t n (done.setIfInBounds i true) (a.put oi.dst v) w) : Till P md ops Q S t (n + 1) done a w := by
 refine Till.first hi (Region.noSelect_spec hs) hQ (beq_eq_false_iff_ne.1 hit) ?_ n done a w (Region.free_spec hi hf) (by simpa using hr) ht hy hS h
 unfold waitsB at hw
 cases hot : ops[t]? with
 | none => rw [hot] at hw; cases hw
 | some ot =>
  rw [hot] at hw
  rw [Array.any_eq_true] at hw
  obtain ⟨k, hk, hb⟩ := hw
  rw [Bool.and_eq_true, beq_iff_eq] at hb
  exact ⟨ot, rfl, ot.after[k], Array.getElem_mem hk, hb.1, hb.2⟩
def Steps (P : Program) (md : Region.Mode) (ops : Array Oper) (Q : Exit → Act → World → Prop) (S : World → Prop) (t n : Nat) (done : Array Bool) (a : Act) (w : World) (L : List Nat) : Prop :=
 ∀ i ∈ L, (Region.ready md ops done).contains i = true → wpOp P ops Q i (fun a' w' => ((done.setIfInBounds i true).getD t false = false → S w') ∧ Till P md ops Q S t n (done.setIfInBounds i true) a' w') a w
theorem Steps.nil {n : Nat} {done : Array Bool} {a : Act} {w : World} : Steps P md ops Q S t n done a w [] := fun _ h => by cases h
theorem Steps.skip (i : Nat) {n : Nat} {done : Array Bool} {a : Act} {w : World} {L : List Nat} (h : (Region.ready md ops done).contains i = false) (hs : Steps P md ops Q S t n done a w L) : Steps P md ops Q S t n done a w (i :: L) := fun j hj hr => by
 rcases List.mem_cons.1 hj with e | hj
 ·rw [e, h] at hr; cases hr
 ·exact hs j hj hr
theorem Steps.cons (i : Nat) {o : Oper} {n : Nat} {done : Array Bool} {a : Act} {w : World} {L : List Nat} (ho : ops[i]? = some o)
  (h : ∀ K : Act → World → Prop, Shut (∀ a w, ((done.setIfInBounds i true).getD t false = false → S w) → Till P md ops Q S t n (done.setIfInBounds i true) a w → K a w) → if Region.wanted o (yielded ops a.tmps) = true then Oper.wp P o a w K Q else K (a.put o.dst undef) w)
  (hs : Steps P md ops Q S t n done a w L) : Steps P md ops Q S t n done a w (i :: L) := fun j hj hr => by
 rcases List.mem_cons.1 hj with e | hj
 ·rw [e]
  exact wpOp_step ho (fun K hK => h K (fun a w h1 h2 => hK a w ⟨h1, h2⟩))
 ·exact hs j hj hr
theorem Till.over (L : List Nat) {n : Nat} {done : Array Bool} {a : Act} {w : World} (hne : (Region.ready md ops done).isEmpty = false) (hL : ((Region.ready md ops done).all fun i => L.contains i) = true)
  (h : Steps P md ops Q S t n done a w L) : Till P md ops Q S t (n + 1) done a w := by
 refine ⟨fun h0 => (by rw [h0] at hne; cases hne), fun i hi => ?_⟩
 have h1 := List.all_eq_true.1 hL i hi
 exact h i (by simpa using h1) (by simpa using hi)
theorem Till.done {done : Array Bool} {a : Act} {w : World} (hr : Region.ready md ops done = []) (h : Q .normal a w) : ∀ n, Till P md ops Q S t n done a w
 | 0 => ⟨hr, h⟩
 | _ + 1 => ⟨fun _ => h, by rw [hr]; simp⟩
theorem zm3 {id : Nat} {a : Act} {w : World} (t : Nat) (hm : P.follows .mixedOrders = true) (hS : S w.drew) (h : S w.drew → Till P .any ops Q S t ops.size (Array.replicate ops.size false) a w.drew) : (Code.region id ops true).wp P Q a w :=
 wp_region_any hm (Till.any _ _ _ _ (h hS))
end
end
end Go.Proofs.YtbfbppjccbppiaaGreatDoor
