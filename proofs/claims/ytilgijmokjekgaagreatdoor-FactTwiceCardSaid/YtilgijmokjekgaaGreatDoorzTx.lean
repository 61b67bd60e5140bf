import Derived.Test.YtilgijmokjekgaaGreatDoorzBase
import Derived.Lib.AppendStr
import Derived.Lib.UnsafeStr
import Derived.Lib.OthersKept
import Derived.Lib.ItoaLen
import Derived.Lib.BufferRead
import Derived.Laws.IdiomStrings
import Derived.Test.YtilgijmokjekgaaGreatDoorShela
import Derived.Test.YtilgijmokjekgaaGreatDoorzY5
import Derived.Deep.RegionHeld3
import Derived.Deep.DeepCutAuto
import Derived.Deep.RegionLaw
import Derived.Outline
import Derived.MapKept
import Derived.Maps.OwnOps
import Derived.Maps.OwnSet
import Derived.Maps.Keyed
import Derived.DeepKeys4
section
/- A byte row that the call writes, bit by bit. No program stands here. -/
namespace Go.Proofs.YtilgijmokjekgaaGreatDoor
open Go Go.RowKit

/-- The bytes that the call has written, from 'w0' on; its own blocks begin at 'B'. -/
structure Wr (e : TypeId) (B : Nat) (w0 w : World) (v : Value) (s : List UInt8) : Prop where
  below : Below B w0 w
  kept : Lib.OthersKept e none w0 w
  own : w.ownsRow B e 1 v s.length (Lib.byteCells s)
  base : B ≤ w0.heap.size

theorem byteCells_append (s t : List UInt8) : Lib.byteCells (s ++ t) = Lib.byteCells s ++ Lib.byteCells t := by simp [Lib.byteCells]
theorem byteCells_length (s : List UInt8) : (Lib.byteCells s).length = s.length := by simp [Lib.byteCells]
theorem byteCells_one (s : List UInt8) : ∀ u ∈ Lib.byteCells s, u.oneCell' = true := by
  intro u hu
  simp only [Lib.byteCells, List.mem_map] at hu
  obtain ⟨b, _, rfl⟩ := hu
  rfl

variable {e : TypeId} {B : Nat} {w0 w w' : World} {v v' : Value} {s t : List UInt8}
theorem Wr.start (h : B ≤ w.heap.size) : Wr e B w w (.slice none 0 0) [] := ⟨Below.refl _ _, Lib.OthersKept.refl _ _ _, ⟨rfl, .inl ⟨rfl, rfl⟩⟩, h⟩
theorem Wr.size (h : Wr e B w0 w v s) : w0.heap.size ≤ w.heap.size ∧ B ≤ w.heap.size := ⟨h.below.size, Nat.le_trans h.base h.below.size⟩
theorem kept_alloc (e : TypeId) (w : World) (o : Obj) : Lib.OthersKept e none w (w.alloc o) := by
  intro k o' hk _ _
  have hlt : k < w.heap.size := (Array.getElem?_eq_some_iff.1 hk).1
  rw [Below.heap_alloc w o k hlt, hk]
theorem Wr.alloc (h : Wr e B w0 w v s) (o : Obj) : Wr e B w0 (w.alloc o) v s :=
  ⟨h.below.alloc (Nat.le_trans h.base h.below.size) _, h.kept.trans (kept_alloc _ _ _), h.own.alloc _, h.base⟩
theorem kept_drew (e : TypeId) (w : World) : Lib.OthersKept e none w w.drew := fun _ _ h _ _ => h
theorem Wr.drew (h : Wr e B w0 w v s) : Wr e B w0 w.drew v s :=
  ⟨h.below.drew, h.kept.trans (kept_drew _ _), h.own, h.base⟩
theorem kept_grown {n : Nat} {xs : List Value} (ho : w.ownsRow B e 1 v n xs) (hg : w.grownBy w' v.ownBlock) : Lib.OthersKept e none w w' := by
  intro k o hk _ hc
  refine (hg.block k (Array.getElem?_eq_some_iff.1 hk).1 ?_).trans hk
  intro he
  rcases ho.2 with ⟨rfl, _⟩ | ⟨g, cap, cur, rfl, hb, hgg, _⟩
  · cases he
  · injection he with he
    have hkg : k = g := he
    subst hkg
    rw [hgg] at hk
    injection hk with hk
    exact hc _ _ hk.symm
theorem Wr.grown (h : Wr e B w0 w v s) (hg : w.grownBy w' v.ownBlock) (ho : w'.ownsRow B e 1 v' (s.length + t.length) (Lib.byteCells s ++ Lib.byteCells t)) : Wr e B w0 w' v' (s ++ t) := by
  refine ⟨h.below.grown hg (Nat.le_trans h.base h.below.size) ?_, h.kept.trans (kept_grown h.own hg), ?_, h.base⟩
  · intro k hk
    rcases h.own.2 with ⟨rfl, _⟩ | ⟨g, cap, cur, rfl, hb, _⟩
    · cases hk
    · injection hk with hk
      exact hk ▸ hb
  · rw [List.length_append, byteCells_append]
    exact ho
theorem Wr.call (h : Wr e B w0 w v s) (hb : Below B w w') (hk : Lib.OthersKept e none w w') (ho : w'.ownsRow B e 1 v' (s.length + t.length) (Lib.byteCells s ++ Lib.byteCells t)) : Wr e B w0 w' v' (s ++ t) :=
  ⟨h.below.trans hb, h.kept.trans hk, by rw [List.length_append, byteCells_append]; exact ho, h.base⟩
theorem Wr.next (h : Wr e B w0 w v (s ++ t)) : ∃ S A c, v = .slice A S.length c ∧ Hid (S = s ++ t) ∧ S.length ≤ s.length + t.length ∧ Hid (Wr e B w0 w v S) := by
  obtain ⟨A, c, hv⟩ := own_form h.own
  exact ⟨s ++ t, A, c, hv, hid rfl, by simp, hid h⟩
/-- So much was written behind S. -/
def Grew (e : TypeId) (B : Nat) (w0 : World) (S t : List UInt8) (n : Nat) (v : Value) (w : World) : Prop := ∃ S' A c, v = .slice A S'.length c ∧ S' = S ++ t ∧ S'.length ≤ S.length + n ∧ Wr e B w0 w v S'
/-- A block that is no byte row stays. -/
theorem Wr.obj (h : Wr e B w0 w v s) {k : Nat} {o : Obj} (hk : w0.heap[k]? = some o) (ho : ∀ c fz, o ≠ .cells c e fz) : w.heap[k]? = some o := h.kept k o hk (by simp) ho
theorem Wr.comp {w1 : World} {o : Obj} (h : Wr e B w0 w v s) (h' : Wr e B w1 w' v' t) (hw : w1 = w.alloc o) : Wr e B w0 w' v' t := by
  subst hw
  exact ⟨((h.alloc o).below).trans h'.below, ((h.alloc o).kept).trans h'.kept, h'.own, h.base⟩
theorem two_cells {w : World} {b : Nat} {x y : Value} {eT : TypeId} (h : w.heap[b]? = some (.cells #[x, y] eT (0, 0))) : w.cell? ⟨b, 0, none⟩ = some x ∧ w.cell? ⟨b, 1, none⟩ = some y ∧ ∀ o, w.frozen? ⟨b, o, none⟩ = false := by
  refine ⟨?_, ?_, fun o => frozen_of_row w b o _ eT h⟩ <;> rw [cell_of_row w b _ _ eT (0, 0) h] <;> rfl
theorem own_lit {w : World} (b : UInt8) {c : Int} (hc : (b.toNat : Int) = c) : Src (w.alloc (.cells #[.int .u8 c] e)) (some ⟨w.heap.size, 0, none⟩) 1 1 (Lib.byteCells [b]) := by subst hc; exact src_new _ _ rfl 1 _ rfl rfl
end Go.Proofs.YtilgijmokjekgaaGreatDoor
end
section
/- Terms as texts; two lists with the same text are the same. No program stands here. -/
namespace Go.Proofs.YtilgijmokjekgaaGreatDoor
open Go Go.RowKit

def termF (t : Term) : List UInt8 := 32 :: Lib.itoa t.unit ++ 58 :: Lib.itoa t.mask
theorem termF_len {t : Term} (h : I64 t.unit ∧ I64 t.mask) : (termF t).length ≤ 44 := by
  have h1 := Lib.itoa_length_le t.unit h.1.1 h.1.2
  have h2 := Lib.itoa_length_le t.mask h.2.1 h.2.2
  simp [termF]
  omega
theorem termF_take {l : List Term} {k : Nat} (h : k < l.length) : (l.take (k + 1)).flatMap termF = (l.take k).flatMap termF ++ termF l[k] := by
  rw [List.take_succ_eq_append_getElem h]
  simp only [List.flatMap_append, List.flatMap_cons, List.flatMap_nil, List.append_nil]
theorem conv_own {P : Program} {w : World} {src e dst : TypeId} {B : Nat} {v : Value} {l : List UInt8} (hs : P.underlying src = some (.slice e)) (he : P.underlying e = some (.int .u8)) (hd : P.underlying dst = some .string)
    (h : w.ownsRow B e 1 v l.length (Lib.byteCells l)) : (convert src dst v).run P w = .ok (.string ⟨l.toArray⟩) w := by
  have hc := fun g (hg : v.ownBlock = some g) => h.cells hg
  rcases h.2 with ⟨rfl, h0⟩ | ⟨g, cap, cur, rfl, _⟩
  · have : l = [] := List.eq_nil_of_length_eq_zero h0
    subst this
    exact Lib.run_convert_nil_bytes w src dst e 0 hs he hd
  · refine run_convert_bytes_back w src dst e _ cap l hs he hd fun j hj => ?_
    refine hc g rfl j _ ?_
    simp [Lib.byteCells, hj]
theorem dig_range (k : Nat) (h : k < 10) : UInt8.ofNat (48 + k) ≠ 32 ∧ UInt8.ofNat (48 + k) ≠ 58 ∧ UInt8.ofNat (48 + k) ≠ 45 := by
  match k, h with
  | 0, _ => decide
  | 1, _ => decide
  | 2, _ => decide
  | 3, _ => decide
  | 4, _ => decide
  | 5, _ => decide
  | 6, _ => decide
  | 7, _ => decide
  | 8, _ => decide
  | 9, _ => decide
theorem dec_no (u : Nat) : ∀ c ∈ Lib.decDigits u, c ≠ 32 ∧ c ≠ 58 ∧ c ≠ 45 := by
  induction u using Nat.strongRecOn with
  | _ u ih =>
    intro c hc
    by_cases h : u < 10
    · rw [Lib.decDigits, dif_pos h] at hc
      have : c = UInt8.ofNat (48 + u) := by simpa using hc
      rw [this]; exact dig_range u h
    · rw [Lib.decDigits, dif_neg h] at hc
      rcases List.mem_append.1 hc with hc | hc
      · exact ih (u / 10) (by omega) c hc
      · have : c = UInt8.ofNat (48 + u % 10) := by simpa using hc
        rw [this]; exact dig_range _ (by omega)
theorem ofNat_inj {a b : Nat} (ha : a < 256) (hb : b < 256) (h : UInt8.ofNat a = UInt8.ofNat b) : a = b := by
  have := congrArg UInt8.toNat h
  simp at this
  omega
theorem dec_ne (u : Nat) : Lib.decDigits u ≠ [] := by
  intro h
  have := congrArg List.length h
  rw [Lib.decDigits_length] at this
  have := Lib.nDigits_pos u
  simp at *
  omega
theorem dec_inj : ∀ u v : Nat, Lib.decDigits u = Lib.decDigits v → u = v := by
  intro u
  induction u using Nat.strongRecOn with
  | _ u ih =>
    intro v h
    by_cases hu : u < 10
    · by_cases hv : v < 10
      · rw [Lib.decDigits, dif_pos hu, Lib.decDigits, dif_pos hv] at h
        have := ofNat_inj (by omega) (by omega) (List.cons.inj h).1
        omega
      · exfalso
        rw [Lib.decDigits, dif_pos hu, Lib.decDigits.eq_def v, dif_neg hv] at h
        have h2 := congrArg List.length h
        have h3 := List.length_pos_iff.2 (dec_ne (v / 10))
        simp only [List.length_append, List.length_cons, List.length_nil] at h2
        omega
    · by_cases hv : v < 10
      · exfalso
        rw [Lib.decDigits, dif_neg hu, Lib.decDigits.eq_def v, dif_pos hv] at h
        have h2 := congrArg List.length h
        have h3 := List.length_pos_iff.2 (dec_ne (u / 10))
        simp only [List.length_append, List.length_cons, List.length_nil] at h2
        omega
      · rw [Lib.decDigits, dif_neg hu, Lib.decDigits.eq_def v, dif_neg hv] at h
        obtain ⟨h1, h2⟩ := List.append_inj' h rfl
        have := ih (u / 10) (by omega) _ h1
        have := ofNat_inj (by omega) (by omega) (List.cons.inj h2).1
        omega
theorem itoa_no (n : Int) : ∀ c ∈ Lib.itoa n, c ≠ 32 ∧ c ≠ 58 := by
  intro c hc
  unfold Lib.itoa at hc
  split at hc
  · rcases List.mem_cons.1 hc with rfl | hc
    · decide
    · have := dec_no _ c hc; exact ⟨this.1, this.2.1⟩
  · have := dec_no _ c hc; exact ⟨this.1, this.2.1⟩
theorem itoa_inj {n m : Int} (h : Lib.itoa n = Lib.itoa m) : n = m := by
  have key : ∀ (a : Nat) (l : List UInt8), 45 :: l ≠ Lib.decDigits a := by
    intro a l he
    have : (45 : UInt8) ∈ Lib.decDigits a := by rw [← he]; simp
    exact (dec_no a _ this).2.2 rfl
  unfold Lib.itoa at h
  split at h <;> split at h
  · have := dec_inj _ _ (List.cons.inj h).2; omega
  · exact absurd h (key _ _)
  · exact absurd h.symm (key _ _)
  · have := dec_inj _ _ h; omega
/-- Two words up to a sign that stands in neither. -/
theorem split_inj {c : UInt8} : ∀ {x y a b : List UInt8}, c ∉ x → c ∉ y → (a = [] ∨ ∃ t, a = c :: t) → (b = [] ∨ ∃ t, b = c :: t) → x ++ a = y ++ b → x = y ∧ a = b
  | [], [], _, _, _, _, _, _, h => ⟨rfl, by simpa using h⟩
  | [], d :: y, a, b, _, hy, ha, _, h => by
    exfalso
    rcases ha with rfl | ⟨t, rfl⟩
    · simp at h
    · simp at h
      exact hy (by rw [h.1]; simp)
  | d :: x, [], a, b, hx, _, _, hb, h => by
    exfalso
    rcases hb with rfl | ⟨t, rfl⟩
    · simp at h
    · simp at h
      exact hx (by rw [h.1]; simp)
  | d :: x, e :: y, a, b, hx, hy, ha, hb, h => by
    simp only [List.cons_append, List.cons.injEq] at h
    obtain ⟨h1, h2⟩ := split_inj (x := x) (y := y) (fun hm => hx (List.mem_cons_of_mem _ hm)) (fun hm => hy (List.mem_cons_of_mem _ hm)) ha hb h.2
    exact ⟨by rw [h.1, h1], h2⟩
theorem flat_head (c : UInt8) (l : List (List UInt8)) : l.flatMap (fun w => c :: w) = [] ∨ ∃ t, l.flatMap (fun w => c :: w) = c :: t := by
  cases l with
  | nil => exact .inl rfl
  | cons x l => exact .inr ⟨x ++ l.flatMap (fun w => c :: w), by simp⟩
theorem flat_inj {c : UInt8} : ∀ {a b : List (List UInt8)}, (∀ w ∈ a, c ∉ w) → (∀ w ∈ b, c ∉ w) → a.flatMap (fun w => c :: w) = b.flatMap (fun w => c :: w) → a = b
  | [], [], _, _, _ => rfl
  | [], y :: b, _, _, h => by simp at h
  | x :: a, [], _, _, h => by simp at h
  | x :: a, y :: b, ha, hb, h => by
    simp only [List.flatMap_cons, List.cons_append, List.cons.injEq, true_and] at h
    obtain ⟨h1, h2⟩ := split_inj (ha x (by simp)) (hb y (by simp)) (flat_head c a) (flat_head c b) h
    rw [h1, flat_inj (fun w hw => ha w (by simp [hw])) (fun w hw => hb w (by simp [hw])) h2]
def termW (t : Term) : List UInt8 := Lib.itoa t.unit ++ 58 :: Lib.itoa t.mask
theorem termW_inj {s t : Term} (h : termW s = termW t) : s = t := by
  obtain ⟨h1, h2⟩ := split_inj (c := 58) (fun hm => (itoa_no _ _ hm).2 rfl) (fun hm => (itoa_no _ _ hm).2 rfl) (.inr ⟨_, rfl⟩) (.inr ⟨_, rfl⟩) h
  obtain ⟨u, m⟩ := s
  obtain ⟨u', m'⟩ := t
  have := itoa_inj h1
  have := itoa_inj (List.cons.inj h2).2
  simp_all
theorem map_inj {α β : Type} {f : α → β} (hf : ∀ x y, f x = f y → x = y) : ∀ {a b : List α}, a.map f = b.map f → a = b
  | [], [], _ => rfl
  | [], y :: b, h => by simp at h
  | x :: a, [], h => by simp at h
  | x :: a, y :: b, h => by
    simp only [List.map_cons, List.cons.injEq] at h
    rw [hf _ _ h.1, map_inj hf h.2]
theorem terms_inj {a b : List Term} (h : a.flatMap termF = b.flatMap termF) : a = b := by
  have e : ∀ l : List Term, l.flatMap termF = (l.map termW).flatMap (fun w => 32 :: w) := fun l => by
    rw [List.flatMap_map]
    rfl
  rw [e, e] at h
  refine map_inj (f := termW) (fun _ _ h => termW_inj h) (flat_inj ?_ ?_ h)
  all_goals
    intro w hw
    obtain ⟨t, -, rfl⟩ := List.mem_map.1 hw
    intro hm
    rcases List.mem_append.1 hm with hm | hm
    · exact (itoa_no _ _ hm).1 rfl
    · rcases List.mem_cons.1 hm with hm | hm
      · cases hm
      · exact (itoa_no _ _ hm).1 rfl
end Go.Proofs.YtilgijmokjekgaaGreatDoor
end
section
/- Contract: fact.rest. -/
namespace Go.Proofs.YtilgijmokjekgaaGreatDoor
open Go Go.RowKit

theorem byte_info : (Tryz.prog.info? 5).map (fun i => (i.zero, i.size, i.bytes)) = some (some (.int .u8 0), 1, 1) := by kernel_rfl
/-- A row's terms but that of its unit. -/
def restL (u : Int) (l : List Term) : List Term := l.filter fun t => decide (t.unit ≠ u)
theorem rest_take {u : Int} {l : List Term} {k : Nat} (hk : k < l.length) : (restL u (l.take (k + 1))).flatMap termF = (restL u (l.take k)).flatMap termF ++ if l[k].unit = u then [] else termF l[k] := by
  unfold restL
  rw [List.take_succ_eq_append_getElem hk, List.filter_append, List.flatMap_append]
  congr 1
  by_cases e : l[k].unit = u
  · rw [if_pos e, List.filter_cons, if_neg (by simp [e])]; rfl
  · rw [if_neg e, List.filter_cons, if_pos (by simp [e])]; simp
set_option maxRecDepth 100000 in
set_option maxHeartbeats 1000000 in
theorem rest_any (r : Row) (tv : Value) (w : World) (ht : SliceRd tTerm w (Lt w.heap.size) tv r.terms) (hr : RowI r) (hl : r.terms.length ≤ 1000)
    (htab : Lib.TabBelow Tryz.prog w.heap.size w "internal/strconv.uint64pow10" .u64 Lib.pow10Tab) :
    Calls Tryz.prog 43 #[.agg #[.int .i64 r.kind, .int .i64 r.unit, .int .i64 r.a, .int .i64 r.b, tv]] w fun e w' => e = .returned (.string ⟨((restL r.unit r.terms).flatMap termF).toArray⟩) ∧ Below w.heap.size w w' := by
  obtain ⟨TA, tcap, rfl, htcap, htmax, htc⟩ := ht.terms
  unfold maxLen at htmax
  have HC := hid htc
  have HR := hid hr
  have HTAB := hid htab
  clear ht htc htab
  obtain ⟨ib, hib⟩ := info_parts byte_info
  have HIB := hid hib
  clear hib
  have hru := hr.unit
  clear hr
  go_enter Tryz.func43, Tryz.ntmps43
  go_wp2_with fail
  obtain ⟨w0, hw0⟩ : ∃ w0 : World, w0 = w.alloc (.cells #[.int .i64 r.kind, .int .i64 r.unit, .int .i64 r.a, .int .i64 r.b, .slice TA r.terms.length tcap] 36) := ⟨_, rfl⟩
  have HBX0 : Hid (Box 36 w0 w.heap.size r (.slice TA r.terms.length tcap)) := hid (by rw [hw0]; exact Box.new _ w r _)
  have HB0 : Hid (Below w.heap.size w w0) := hid (by rw [hw0]; exact (Below.refl _ _).alloc (Nat.le_refl _) _)
  rw [← hw0]
  clear hw0
  go_loopw [3, 9] (fun bv iv wx => ∃ j : Nat, j ≤ r.terms.length ∧ iv = .int .i64 j ∧ Hid (Grew 5 w.heap.size w0 [] ((restL r.unit (r.terms.take j)).flatMap termF) (44 * j) bv wx)) (fun _ iv _ => r.terms.length - (intOf iv).toNat)
  case atStart => exact ⟨0, by omega, rfl, hid ⟨[], none, 0, rfl, rfl, by simp, Wr.start HB0.out.size⟩⟩
  case round =>
    obtain ⟨j, hj, rfl, hgr⟩ := hrel
    obtain ⟨S6, A6, c6, rfl, hS6, hs6, hw6⟩ := hgr.out
    have HS6 := hid hS6
    have HW6 := hid hw6
    simp only [List.length_nil, Nat.zero_add] at hs6
    clear hS6 hw6 hgr
    by_cases hjt : j < r.terms.length
    · obtain ⟨tg, tof, hTA, htF, t0, t1, u1, u2⟩ := HC.out j hjt
      subst hTA
      have hbt : Below w.heap.size w wr := HB0.out.trans HW6.out.below
      have hbx : Box 36 wr w.heap.size r (.slice (some ⟨tg, tof, none⟩) r.terms.length tcap) := HW6.out.obj HBX0.out (by intro c fz h; cases h)
      obtain ⟨⟨f0, f1, f2, f3, f4⟩, ff⟩ := hbx.cells
      have hblt := hbx.lt
      have s0 := cell_below hbt htF t0
      have s1 := cell_below hbt htF t1
      have htg : tg < wr.heap.size := Nat.lt_of_lt_of_le htF hbt.size
      have hiu := Lib.itoa_length_le r.terms[j].unit u1.1 u1.2
      have him := Lib.itoa_length_le r.terms[j].mask u2.1 u2.2
      have HTK := hid (rest_take (u := r.unit) hjt)
      clear t0 t1 hbx
      have q1 : (0 : Int) ≤ ↑j := by omega
      have q2 : (↑j : Int) < ↑r.terms.length := by omega
      by_cases heq : r.terms[j].unit = r.unit
      · have HTK2 : Hid ((restL r.unit (r.terms.take (j + 1))).flatMap termF = (restL r.unit (r.terms.take j)).flatMap termF) := hid (by rw [HTK.out, if_pos heq, List.append_nil])
        have hd : decide (r.terms[j].unit = r.unit) = true := decide_eq_true heq
        go_wp2
        exact ⟨⟨j + 1, by omega, by go_num, hid ⟨S6, _, _, rfl, by rw [HTK2.out]; exact HS6.out, by simp; omega, HW6.out.alloc _⟩⟩, by simp [intOf]; omega⟩
      · have HTK2 : Hid ((restL r.unit (r.terms.take (j + 1))).flatMap termF = (restL r.unit (r.terms.take j)).flatMap termF ++ termF r.terms[j]) := hid (by rw [HTK.out, if_neg heq])
        go_upto_region 6 with (fail)
        obtain ⟨wt, hwt⟩ : ∃ wt : World, wt = wr.alloc (.cells #[.int .i64 r.terms[j].unit, .int .i64 r.terms[j].mask] 55) := ⟨_, rfl⟩
        have HWT := hid hwt
        have HT0 : Hid (wt.heap[wr.heap.size]? = some (.cells #[.int .i64 r.terms[j].unit, .int .i64 r.terms[j].mask] 55 (0, 0))) := hid (by rw [hwt]; exact heap_alloc_new wr _)
        have HBT : Hid (Below w.heap.size w wt) := hid (by rw [hwt]; exact hbt.alloc hbt.size _)
        have HWW : Hid (Wr 5 w.heap.size wt wt (.slice A6 S6.length c6) S6) := hid ⟨Below.refl _ _, Lib.OthersKept.refl _ _ _, by rw [hwt]; exact HW6.out.own.alloc _, HBT.out.size⟩
        rw [← hwt]
        have hzt : wr.heap.size < wt.heap.size := (Array.getElem?_eq_some_iff.1 HT0.out).1
        obtain ⟨p0, p1, pf⟩ := two_cells HT0.out
        clear hwt
        go_cut [3] (fun s5 wx => Grew 5 w.heap.size wt S6 (32 :: Lib.itoa r.terms[j].unit) 22 s5 wx)
        case first =>
          go_region_law ((first
            | (refine step_guard (.tmp 18) (.tmp 19) _ rfl ?_
               refine step_append_src _ rfl (.tmp 18) (.tmp 19) _ rfl w.heap.size 5 ib _ 1 1 Tryz.underlying136 HIB.out.1 HIB.out.2.1 HIB.out.2.2.1 HIB.out.2.2.2 rfl (by omega) (.slice A6 S6.length c6) S6.length (Lib.byteCells S6) rfl (by exact (HWW.out.drew.alloc _).own) _ 1 1 (Lib.byteCells [32]) rfl (by exact own_lit 32 rfl) (byteCells_one _) (by unfold maxLen; omega) (by omega) (by exact (HWW.out.drew.alloc _).size.2) ?_
               intro v7 w7 hown7 hg7 _
               obtain ⟨S7, A7, c7, rfl, hS7, hs7, hw7⟩ := ((HWW.out.drew.alloc _).grown (t := [32]) hg7 hown7).next
               simp only [List.length_cons, List.length_nil] at hs7
               obtain ⟨x0, x1, xf⟩ := two_cells (hw7.out.obj HT0.out (by intro c fz h; cases h))
               clear hown7 hg7)
            | (go_simp
               go_at_call 81
               refine (Tryz.strconv_AppendInt_10 w.heap.size S7.length r.terms[j].unit u1.1 u1.2 _ (Lib.byteCells S7) _ (by exact hw7.out.own) (by exact hw7.out.size.2) (by omega) (by exact fun w' h' => HTAB.out w' ((HBT.out.trans hw7.out.below).trans h'))).mono ?_
               rintro e8 w8 ⟨v8, rfl, hown8, hb8, hk8⟩
               obtain ⟨S8, A8, c8, rfl, hS8, hs8, hw8⟩ := (hw7.out.call (t := Lib.itoa r.terms[j].unit) hb8 hk8 hown8).next)))
          all_goals (go_wp2_with fail)
          all_goals (go_meet; exact ⟨S8, _, _, rfl, by rw [hS8.out, hS7.out]; simp, by omega, hw8.out⟩)
        case rest =>
          obtain ⟨S7, A7, c7, rfl, hS7, hs7, hw7⟩ := hcut
          have HW7 := hid hw7
          have HS7 := hid hS7
          obtain ⟨r0, r1, rf⟩ := two_cells (hw7.obj HT0.out (by intro c fz h; cases h))
          have hz7 : wr.heap.size < wc.heap.size := Nat.lt_of_lt_of_le hzt hw7.size.1
          clear hw7 hS7
          go_wp2_with fail
          go_region_law ((first
            | (refine step_guard (.tmp 24) (.tmp 25) _ rfl ?_
               refine step_append_src _ rfl (.tmp 24) (.tmp 25) _ rfl w.heap.size 5 ib _ 1 1 Tryz.underlying136 HIB.out.1 HIB.out.2.1 HIB.out.2.2.1 HIB.out.2.2.2 rfl (by omega) (.slice A7 S7.length c7) S7.length (Lib.byteCells S7) rfl (by exact (HW7.out.drew.alloc _).own) _ 1 1 (Lib.byteCells [58]) rfl (by exact own_lit 58 rfl) (byteCells_one _) (by unfold maxLen; omega) (by omega) (by exact (HW7.out.drew.alloc _).size.2) ?_
               intro v8 w8 hown8 hg8 _
               obtain ⟨S8, A8, c8, rfl, hS8, hs8, hw8⟩ := ((HW7.out.drew.alloc _).grown (t := [58]) hg8 hown8).next
               simp only [List.length_cons, List.length_nil] at hs8
               obtain ⟨x0, x1, xf⟩ := two_cells (hw8.out.obj HT0.out (by intro c fz h; cases h))
               clear hown8 hg8)
            | (go_simp
               go_at_call 81
               refine (Tryz.strconv_AppendInt_10 w.heap.size S8.length r.terms[j].mask u2.1 u2.2 _ (Lib.byteCells S8) _ (by exact hw8.out.own) (by exact hw8.out.size.2) (by omega) (by exact fun w' h' => HTAB.out w' ((HBT.out.trans hw8.out.below).trans h'))).mono ?_
               rintro e9 w9 ⟨v9, rfl, hown9, hb9, hk9⟩
               obtain ⟨S9, A9, c9, rfl, hS9, hs9, hw9⟩ := (hw8.out.call (t := Lib.itoa r.terms[j].mask) hb9 hk9 hown9).next)))
          all_goals (go_wp2_with fail)
          all_goals exact ⟨⟨j + 1, by omega, by go_num, hid ⟨S9, _, _, rfl, by rw [HTK2.out, hS9.out, hS8.out, HS7.out, HS6.out]; simp [termF], by simp only [List.length_nil]; omega, HW6.out.comp hw9.out HWT.out⟩⟩, by simp [intOf]; omega⟩
    · have hj' : j = r.terms.length := by omega
      have HE : Hid (S6 = (restL r.unit r.terms).flatMap termF) := hid (by rw [HS6.out, hj', List.take_length]; rfl)
      have hcv := conv_own (P := Tryz.prog) (src := 136) (dst := 9) Tryz.underlying136 Tryz.underlying5 Tryz.underlying9 HW6.out.own
      clear hj'
      go_wp2_with fail
      go_ret
      exact ⟨by rw [HE.out]; rfl, HB0.out.trans HW6.out.below⟩
end Go.Proofs.YtilgijmokjekgaaGreatDoor
end
section
/- Maps that the call makes, as functions of their keys: look-up, store, delete, length. No program stands here. -/
namespace Go.Proofs.YtilgijmokjekgaaGreatDoor
open Go Go.RowKit

/-- A kind of keys that the model takes for keys: structs, too. -/
structure KeyG (P : Program) (kt : TypeId) (κ : Type) where
  keyed : Go.Maps.Keyed P kt
  enc : κ → Value
  isKey : ∀ k, ∃ l, keyOf P kt (enc k) = some l
  inj : ∀ {k j}, enc k = enc j → k = j

/-- Block b holds a map of n entries: 'f' of its keys. -/
structure MapG {P : Program} {kt : TypeId} {κ : Type} (K : KeyG P kt κ) (w : World) (b : Nat) (n : Nat) (f : κ → Option Value) : Prop where
  holds : ∃ es clock, w.heap[b]? = some (.map es clock) ∧ es.size = n ∧ (∀ x ∈ es.toList, ∃ k, x.key = K.enc k) ∧ (es.toList.map (·.key)).Nodup ∧ ∀ k v, f k = some v ↔ ∃ e ∈ es.toList, e.key = K.enc k ∧ e.val = v

section
variable {P : Program} {kt : TypeId} {κ : Type} {K : KeyG P kt κ} {w w' : World} {b n : Nat} {f : κ → Option Value} {T et : TypeId}
theorem MapG.lt (h : MapG K w b n f) : b < w.heap.size := by
  obtain ⟨es, clock, h1, _⟩ := h.holds
  exact (Array.getElem?_eq_some_iff.1 h1).1
theorem MapG.keep (h : MapG K w b n f) (hk : w'.heap[b]? = w.heap[b]?) : MapG K w' b n f := by
  obtain ⟨es, clock, h1, h2⟩ := h.holds
  exact ⟨es, clock, hk.trans h1, h2⟩
theorem MapG.below {B : Nat} (h : MapG K w b n f) (hb : Below B w w') (hB : b < B) : MapG K w' b n f := h.keep (hb.block b hB)
theorem MapG.congr {f' : κ → Option Value} (h : MapG K w b n f) (he : ∀ k, f k = f' k) : MapG K w b n f' := by
  have : f = f' := funext he
  rw [← this]; exact h
theorem MapG.made (K : KeyG P kt κ) (w : World) : MapG K (w.alloc (.map #[] 0)) w.heap.size 0 (fun _ => none) :=
  ⟨#[], 0, heap_alloc_new w _, rfl, by simp, by simp, by simp⟩
theorem MapG.zero (h : MapG K w b n f) : n = 0 ↔ ∀ k, f k = none := by
  obtain ⟨es, clock, h1, h2, h3, h4, h5⟩ := h.holds
  constructor
  · intro h0 k
    cases hf : f k with
    | none => rfl
    | some v =>
      obtain ⟨e, he, _⟩ := (h5 k v).1 hf
      have : es.toList = [] := List.eq_nil_of_length_eq_zero (by rw [Array.length_toList, h2, h0])
      rw [this] at he; cases he
  · intro hf
    rcases Nat.eq_zero_or_pos n with h0 | h0
    · exact h0
    · have hlt : 0 < es.toList.length := by simp; omega
      obtain ⟨k, hk⟩ := h3 _ (List.getElem_mem hlt)
      have := (h5 k _).2 ⟨_, List.getElem_mem hlt, hk, rfl⟩
      rw [hf k] at this; cases this
theorem MapG.find (h : MapG K w b n f) (k : κ) : ∃ es clock, w.heap[b]? = some (.map es clock) ∧ es.size = n ∧
    (((Instr.findKey kt (K.enc k) es.toList).run P w = .ok none w ∧ f k = none) ∨ ∃ i e, (Instr.findKey kt (K.enc k) es.toList).run P w = .ok (some (i, e.val)) w ∧ es[i]? = some e ∧ e.key = K.enc k ∧ f k = some e.val) := by
  obtain ⟨es, clock, h1, h2, h3, h4, h5⟩ := h.holds
  refine ⟨es, clock, h1, h2, ?_⟩
  obtain ⟨lk, hlk⟩ := K.isKey k
  rcases K.keyed.find w hlk es.toList (fun x hx => by obtain ⟨j, hj⟩ := h3 x hx; rw [hj]; exact K.isKey j) with ⟨e1, e2⟩ | ⟨j, e, e1, e2, e3⟩
  · refine .inl ⟨e1, ?_⟩
    cases hf : f k with
    | none => rfl
    | some v =>
      obtain ⟨e, he, hk, _⟩ := (h5 k v).1 hf
      exact absurd hk (e2 e he)
  · refine .inr ⟨j, e, e1, by simpa using e2, e3, ?_⟩
    exact (h5 k _).2 ⟨e, List.mem_of_getElem? e2, e3, rfl⟩

theorem MapG.run_lookup (h : MapG K w b n f) (hT : P.underlying T = some (.map kt et)) {z : Value} (hz : (zeroValue et).run P w = .ok z w) (k : κ) :
    (Instr.lookup T (.map (some b)) (K.enc k) false).run P w = .ok ((f k).getD z) w ∧ (Instr.lookup T (.map (some b)) (K.enc k) true).run P w = .ok (.tuple #[(f k).getD z, .bool (f k).isSome]) w := by
  obtain ⟨es, clock, hb, _, hor⟩ := h.find k
  obtain ⟨lk, hlk⟩ := K.isKey k
  unfold Instr.lookup
  simp only [Sem.run_bind, run_underlying hT, Result.andThen_ok, Go.MapKept.run_getObj_map hb, Sem.run_pure, K.keyed.check w _ hlk]
  rcases hor with ⟨e1, e2⟩ | ⟨i, e, e1, _, _, e2⟩
  · simp only [e1, Result.andThen_ok, Sem.run_bind, hz, Sem.run_pure, e2]
    exact ⟨rfl, rfl⟩
  · simp only [e1, Result.andThen_ok, Sem.run_bind, Sem.run_pure, e2]
    exact ⟨rfl, rfl⟩

theorem grown_setG {w : World} {b : Nat} {o o' : Obj} (hb : w.heap[b]? = some o) : w.grownBy { w with heap := w.heap.setIfInBounds b o' } (some b) :=
  ⟨rfl, rfl, rfl, by simp, fun k _ hne => (Go.MapKept.heap_set hb).2 k (fun e => hne (by rw [e]))⟩

theorem MapG.run_update (h : MapG K w b n f) (hT : P.underlying T = some (.map kt et)) [DecidableEq κ] (k : κ) (v : Value) :
    ∃ w' n', (Instr.mapUpdate T (.map (some b)) (K.enc k) v).run P w = .ok () w' ∧ MapG K w' b n' (fun j => if j = k then some v else f j) ∧ n ≤ n' ∧ n' ≤ n + 1 ∧ w.grownBy w' (some b) ∧ w'.heap.size = w.heap.size := by
  obtain ⟨es, clock, hb, h2, h3, h4, h5⟩ := h.holds
  obtain ⟨lk, hlk⟩ := K.isKey k
  rcases K.keyed.find w hlk es.toList (fun x hx => by obtain ⟨j, hj⟩ := h3 x hx; rw [hj]; exact K.isKey j) with ⟨e1, e2⟩ | ⟨i, e, e1, e2, e3⟩
  · refine ⟨_, n + 1, by simp [Instr.mapUpdate, run_underlying hT, Go.MapKept.run_getObj_map hb, K.keyed.check w _ hlk, e1, Go.MapKept.run_setObj_map _ hb, Result.andThen]; rfl, ?_, by omega, by omega, grown_setG hb, by simp⟩
    refine ⟨es.push { key := K.enc k, val := v, born := clock }, clock + 1, (Go.MapKept.heap_set hb).1, by simp [h2], ?_, ?_, ?_⟩
    · intro x hx
      simp only [Array.toList_push, List.mem_append, List.mem_singleton] at hx
      rcases hx with hx | rfl
      · exact h3 x hx
      · exact ⟨k, rfl⟩
    · simp only [Array.toList_push, List.map_append, List.map_cons, List.map_nil]
      refine List.nodup_append.2 ⟨h4, by simp, ?_⟩
      intro a ha c hc
      simp only [List.mem_singleton] at hc
      subst hc
      obtain ⟨x, hx, rfl⟩ := List.mem_map.1 ha
      exact e2 x hx
    · intro j u
      simp only [Array.toList_push, List.mem_append, List.mem_singleton]
      by_cases hjk : j = k
      · subst hjk
        simp only [if_true]
        constructor
        · intro hu; cases hu; exact ⟨_, .inr rfl, rfl, rfl⟩
        · rintro ⟨x, hx | rfl, hx1, hx2⟩
          · exact absurd hx1 (e2 x hx)
          · exact congrArg some hx2
      · simp only [if_neg hjk]
        rw [h5]
        constructor
        · rintro ⟨x, hx, hx1⟩; exact ⟨x, .inl hx, hx1⟩
        · rintro ⟨x, hx | rfl, hx1, hx2⟩
          · exact ⟨x, hx, hx1, hx2⟩
          · exact absurd (K.inj hx1).symm hjk
  · have hj : es[i]? = some e := by simpa using e2
    have hilt : i < es.size := (Array.getElem?_eq_some_iff.1 hj).1
    refine ⟨_, n, by simp [Instr.mapUpdate, run_underlying hT, Go.MapKept.run_getObj_map hb, K.keyed.check w _ hlk, e1, hj, e3, K.keyed.stays w hlk, Go.MapKept.run_setObj_map _ hb, Result.andThen]; rfl, ?_, by omega, by omega, grown_setG hb, by simp⟩
    have hmem : ∀ x, x ∈ (es.modify i fun e => { e with key := K.enc k, val := v }).toList ↔ (x = { e with key := K.enc k, val := v } ∨ ∃ m, m ≠ i ∧ es[m]? = some x) := by
      intro x
      rw [List.mem_iff_getElem?]
      constructor
      · rintro ⟨m, hm⟩
        rw [Array.getElem?_toList, Array.getElem?_modify] at hm
        by_cases hmi : i = m
        · subst hmi; simp [hj] at hm; exact .inl hm.symm
        · simp [hmi] at hm; exact .inr ⟨m, fun q => hmi q.symm, hm⟩
      · rintro (rfl | ⟨m, hm, hx⟩)
        · exact ⟨i, by rw [Array.getElem?_toList, Array.getElem?_modify]; simp [hj]⟩
        · exact ⟨m, by rw [Array.getElem?_toList, Array.getElem?_modify]; simp [Ne.symm hm, hx]⟩
    refine ⟨es.modify i fun e => { e with key := K.enc k, val := v }, clock, (Go.MapKept.heap_set hb).1, by simp [h2], ?_, ?_, ?_⟩
    · intro x hx
      rcases (hmem x).1 hx with rfl | ⟨m, _, hx⟩
      · exact ⟨k, rfl⟩
      · exact h3 x (Array.mem_toList_iff.2 (Array.mem_of_getElem? hx))
    · rw [Go.MapKept.modify_keys i _ (fun e' he' => by rw [hj] at he'; cases he'; exact e3.symm)]
      exact h4
    · intro j u
      by_cases hjk : j = k
      · subst hjk
        simp only [if_true]
        constructor
        · intro hu; cases hu; exact ⟨_, (hmem _).2 (.inl rfl), rfl, rfl⟩
        · rintro ⟨x, hx, hx1, hx2⟩
          rcases (hmem x).1 hx with rfl | ⟨m, hm, hx⟩
          · exact congrArg some hx2
          · exfalso
            have hml : m < es.size := (Array.getElem?_eq_some_iff.1 hx).1
            have q := (List.getElem_inj (i := m) (j := i) (h₀ := by simpa using hml) (h₁ := by simpa using hilt) h4).1 (by
              simp only [List.getElem_map, Array.getElem_toList]
              rw [(Array.getElem?_eq_some_iff.1 hx).2, (Array.getElem?_eq_some_iff.1 hj).2, hx1, e3])
            exact hm q
      · simp only [if_neg hjk]
        rw [h5]
        constructor
        · rintro ⟨x, hx, hx1, hx2⟩
          obtain ⟨m, hm⟩ := List.mem_iff_getElem?.1 hx
          rw [Array.getElem?_toList] at hm
          refine ⟨x, (hmem x).2 (.inr ⟨m, ?_, hm⟩), hx1, hx2⟩
          rintro rfl
          rw [hj] at hm
          cases hm
          exact hjk (K.inj (hx1.symm.trans e3))
        · rintro ⟨x, hx, hx1, hx2⟩
          rcases (hmem x).1 hx with rfl | ⟨m, hm, hx⟩
          · exact absurd (K.inj hx1).symm hjk
          · exact ⟨x, Array.mem_toList_iff.2 (Array.mem_of_getElem? hx), hx1, hx2⟩

/- At the operation. -/
theorem wpList_lookup_g {ops : Array Oper} {rest : List Oper} {o : Oper} {a : Act} {Q : Exit → Act → World → Prop} (hg : o.guard = none) (m x : Operand) (hop : o.op = Op.lookup T m x false)
    (K : KeyG P kt κ) (hT : P.underlying T = some (.map kt et)) (z : Value) (hz : (zeroValue et).run P w = .ok z w) (b n : Nat) (f : κ → Option Value) (hm : a.eval m = .map (some b)) (h : MapG K w b n f) (k : κ) (hx : a.eval x = K.enc k)
    (hK : wpList P ops Q rest (a.put o.dst ((f k).getD z)) w) : wpList P ops Q (o :: rest) a w := by
  refine wpList_plain hg fun K' hK' => ?_
  unfold Oper.wp
  simp only [execOp, hop, hm, hx, (h.run_lookup hT hz k).1, Sem.run_bind, Result.andThen_ok, Sem.run_pure]
  exact hK' _ _ hK
theorem wpList_lookup2_g {ops : Array Oper} {rest : List Oper} {o : Oper} {a : Act} {Q : Exit → Act → World → Prop} (hg : o.guard = none) (m x : Operand) (hop : o.op = Op.lookup T m x true)
    (K : KeyG P kt κ) (hT : P.underlying T = some (.map kt et)) (z : Value) (hz : (zeroValue et).run P w = .ok z w) (b n : Nat) (f : κ → Option Value) (hm : a.eval m = .map (some b)) (h : MapG K w b n f) (k : κ) (hx : a.eval x = K.enc k)
    (hK : wpList P ops Q rest (a.put o.dst (.tuple #[(f k).getD z, .bool (f k).isSome])) w) : wpList P ops Q (o :: rest) a w := by
  refine wpList_plain hg fun K' hK' => ?_
  unfold Oper.wp
  simp only [execOp, hop, hm, hx, (h.run_lookup hT hz k).2, Sem.run_bind, Result.andThen_ok, Sem.run_pure]
  exact hK' _ _ hK
theorem wpList_update_g [DecidableEq κ] {ops : Array Oper} {rest : List Oper} {o : Oper} {a : Act} {Q : Exit → Act → World → Prop} (hg : o.guard = none) (m x v : Operand) (hop : o.op = Op.mapUpdate T m x v)
    (K : KeyG P kt κ) (hT : P.underlying T = some (.map kt et)) (b n : Nat) (f : κ → Option Value) (hm : a.eval m = .map (some b)) (h : MapG K w b n f) (k : κ) (val : Value) (hx : a.eval x = K.enc k) (hv : a.eval v = val)
    (hK : ∀ w' n', MapG K w' b n' (fun j => if j = k then some val else f j) → n ≤ n' → n' ≤ n + 1 → w.grownBy w' (some b) → w'.heap.size = w.heap.size → wpList P ops Q rest (a.put o.dst undef) w') : wpList P ops Q (o :: rest) a w := by
  refine wpList_plain hg fun K' hK' => ?_
  obtain ⟨w', n', hrun, r1, r2, r3, r4, r5⟩ := h.run_update hT k val
  unfold Oper.wp
  simp only [execOp, hop, hm, hx, hv, hrun, Sem.run_bind, Result.andThen_ok, Sem.run_pure]
  exact hK' _ _ (hK w' n' r1 r2 r3 r4 r5)
end
end Go.Proofs.YtilgijmokjekgaaGreatDoor
end
section
/- The keys of fact.All's map. -/
namespace Go.Proofs.YtilgijmokjekgaaGreatDoor
open Go Go.RowKit

/-- What rows that are put together have in common. -/
abbrev AlikeK := { k : Int × Int × ByteArray // I64 k.1 ∧ I64 k.2.1 ∧ k.2.2.size ≤ maxLen }
instance : DecidableEq AlikeK := fun a b => decidable_of_iff (a.1 = b.1) Subtype.ext_iff.symm
def alikeV (k : AlikeK) : Value := .agg #[.int .i64 k.1.1, .int .i64 k.1.2.1, .string k.1.2.2]
theorem alike_kt : Tryz.prog.keyTypeAt 3 92 = true := by kernel_rfl
theorem alike_tiled : Tryz.prog.tiled 3 92 = true := by kernel_rfl
theorem alike_kt2 : Tryz.prog.keyType 92 = true := by kernel_rfl
theorem alike_cells : Tryz.prog.cellsOf 92 = 3 := by kernel_rfl
theorem int_cells : Tryz.prog.cellsOf 3 = 1 := by kernel_rfl
theorem str_cells : Tryz.prog.cellsOf 9 = 1 := by kernel_rfl
theorem types_pos : decide (2 ≤ Tryz.prog.types.size) = true := by kernel_rfl
theorem alike_keyed : Go.Maps.Keyed Tryz.prog 92 := by
  refine Go.Maps.Keyed.of_law (deep_law (m := 3) (by omega) alike_kt alike_tiled ?_)
  rw [Tryz.underlying92]
theorem wf_i64 {n : Int} (h : I64 n) : (Lit.int .i64 n).wf = true := by
  obtain ⟨h1, h2⟩ := h
  show (decide (IntKind.i64.min ≤ n) && decide (n ≤ IntKind.i64.max)) = true
  rw [decide_eq_true (show IntKind.i64.min ≤ n from h1), decide_eq_true (show n ≤ IntKind.i64.max from h2)]
  rfl
theorem alike_isKey (k : AlikeK) : ∃ l, keyOf Tryz.prog 92 (alikeV k) = some l := by
  obtain ⟨⟨a, b, s⟩, h1, h2, h3⟩ := k
  have hu := Tryz.underlying92
  have hi := Tryz.underlying3
  have hs := Tryz.underlying9
  have hp := of_decide_eq_true types_pos
  obtain ⟨m, hm⟩ : ∃ m, Tryz.prog.types.size = m + 1 := ⟨Tryz.prog.types.size - 1, by omega⟩
  have w1 := wf_i64 h1
  have w2 := wf_i64 h2
  have h3' : s.size ≤ maxLen := h3
  unfold keyOf
  rw [hu]
  simp only [alike_kt2, alikeV, Value.formed, hu, alike_cells, hm]
  simp [Program.keyLits, hu, hi, hs, int_cells, str_cells, alike_cells, Value.cells, w1, w2, h3']
def kAlike : KeyG Tryz.prog 92 AlikeK := ⟨alike_keyed, alikeV, alike_isKey, fun {k j} h => by
  obtain ⟨⟨a, b, s⟩, hk⟩ := k
  obtain ⟨⟨a', b', s'⟩, hj⟩ := j
  simp only [alikeV, Value.agg.injEq, Array.mk.injEq, List.cons.injEq, Value.int.injEq, Value.string.injEq, true_and, and_true] at h
  obtain ⟨rfl, rfl, rfl⟩ := h
  rfl⟩
end Go.Proofs.YtilgijmokjekgaaGreatDoor
end
