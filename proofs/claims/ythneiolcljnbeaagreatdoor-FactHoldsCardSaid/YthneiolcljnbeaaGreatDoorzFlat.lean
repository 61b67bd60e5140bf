import Derived.Test.YthneiolcljnbeaaGreatDoorzMem
import Derived.Test.YthneiolcljnbeaaGreatDoorRows
import Derived.Laws.IdiomStrings
namespace Go.Proofs.YthneiolcljnbeaaGreatDoor
open Go Go.RowKit
section
structure Flat (α : Type) where
 size : Nat
 cells : α → List Value
 ok : α → Prop
 len : ∀ x, (cells x).length = size
 one : ∀ x, ∀ u ∈ cells x, u.oneCell' = true
 pos : 0 < size
section
variable {α : Type}
def Flat.ty (f : Flat α) : Ty α where
 size := f.size
 rd _ _ cs x := cs = f.cells x ∧ f.ok x
 len h := by rw [h.1, f.len]
 keep _ h := h
 more _ h := h
def Flat.all (f : Flat α) (l : List α) : List Value := l.flatMap f.cells
theorem Flat.all_nil (f : Flat α) : f.all [] = [] := rfl
theorem Flat.all_cons (f : Flat α) (x : α) (l : List α) : f.all (x :: l) = f.cells x ++ f.all l := rfl
theorem Flat.all_length (f : Flat α) (l : List α) : (f.all l).length = l.length * f.size := by
 induction l with
 | nil => simp [Flat.all]
 | cons x l ih => rw [f.all_cons, List.length_append, f.len, ih, List.length_cons, Nat.add_mul]; omega
theorem Flat.all_append (f : Flat α) (l m : List α) : f.all (l ++ m) = f.all l ++ f.all m := by simp [Flat.all]
theorem Flat.all_snoc (f : Flat α) (l : List α) (x : α) : f.all (l ++ [x]) = f.all l ++ f.cells x := by simp [Flat.all]
theorem Flat.all_one (f : Flat α) (l : List α) : ∀ u ∈ f.all l, u.oneCell' = true := by
 intro u hu
 obtain ⟨x, _, hx⟩ := List.mem_flatMap.1 hu
 exact f.one x u hx
theorem Flat.all_get (f : Flat α) {l : List α} : ∀ {k : Nat} (hk : k < l.length) {j : Nat}, j < f.size → (f.all l)[k * f.size + j]? = (f.cells l[k])[j]? := by
 induction l with
 | nil => intro k hk; simp at hk
 | cons x l ih =>
  intro k hk j hj
  cases k with
  | zero =>
   rw [f.all_cons, Nat.zero_mul, Nat.zero_add, List.getElem?_append_left (by rw [f.len]; exact hj)]
   rfl
  | succ k =>
   have := ih (k := k) (by simpa using hk) hj
   rw [f.all_cons, List.getElem?_append_right (by rw [f.len, Nat.add_mul]; omega), f.len]
   have e : (k + 1) * f.size + j - f.size = k * f.size + j := by rw [Nat.add_mul]; omega
   rw [e, this]
   rfl
theorem SliceRd.flat {f : Flat α} {w : World} {F : Nat → Prop} {v : Value} {l : List α} (h : SliceRd f.ty w F v l) :
  ∃ A cap, v = .slice A l.length cap ∧ l.length ≤ cap ∧ cap ≤ maxLen ∧
   ∀ k, (hk : k < l.length) → ∃ g o, A = some ⟨g, o, none⟩ ∧ F g ∧ f.ok l[k] ∧ ∀ j u, (f.cells l[k])[j]? = some u → w.cell? ⟨g, o + k * f.size + j, none⟩ = some u := by
 obtain ⟨A, cap, hv, h1, h2, h3⟩ := h.shape
 refine ⟨A, cap, hv, h1, h2, fun k hk => ?_⟩
 obtain ⟨g, o, cs, hA, hF, hc, hcell, rfl, hi⟩ := h3 k hk
 refine ⟨g, o, hA, hF, hi, fun j u hu => ?_⟩
 have hj : j < f.size := by
  rw [← f.len l[k]]
  exact (List.getElem?_eq_some_iff.1 hu).1
 exact (hcell j hj).trans hu
theorem SliceRd.srcF {f : Flat α} {w : World} {F : Nat → Prop} {A : Option Addr} {n cap : Nat} {l : List α} (h : SliceRd f.ty w F (.slice A n cap) l) : n = l.length ∧ Src w A l.length f.size (f.all l) ∧ ∀ x ∈ l, f.ok x := by
 obtain ⟨A', cap', hv, h1, h2, h3⟩ := h.flat
 injection hv with e1 e2 e3
 subst e1
 refine ⟨e2, ⟨f.all_length l, fun hm => ?_⟩, ?_⟩
 ·obtain ⟨g, o, hA, _⟩ := h3 0 hm
  refine ⟨⟨g, o, none⟩, hA, fun j u hu => ?_⟩
  have hj : j < l.length * f.size := by
   rw [← f.all_length]
   exact (List.getElem?_eq_some_iff.1 hu).1
  have hp := f.pos
  have hq : j / f.size < l.length := (Nat.div_lt_iff_lt_mul hp).2 hj
  obtain ⟨g', o', hA', hF, _, hc⟩ := h3 (j / f.size) hq
  rw [hA] at hA'
  injection hA' with hA'
  injection hA' with eg eo
  subst eg; subst eo
  rw [add_mk]
  have hr : j % f.size < f.size := Nat.mod_lt _ hp
  have e : j / f.size * f.size + j % f.size = j := by rw [Nat.mul_comm]; exact Nat.div_add_mod _ _
  have h4 := f.all_get hq hr
  rw [e, hu] at h4
  have h5 := hc _ _ h4.symm
  rwa [Nat.add_assoc, e] at h5
 ·intro x hx
  obtain ⟨k, hk, rfl⟩ := List.getElem_of_mem hx
  obtain ⟨_, _, _, _, hi, _⟩ := h3 k hk
  exact hi
theorem rd_of_ownF {f : Flat α} {w : World} {B : Nat} {e : TypeId} {v : Value} {l : List α} {F : Nat → Prop} (h : w.ownsRow B e f.size v l.length (f.all l)) (hi : ∀ x ∈ l, f.ok x) (hF : ∀ g, v.ownBlock = some g → F g) : SliceRd f.ty w F v l := by
 rcases h.2 with ⟨rfl, hn⟩ | ⟨g, cap, cur, rfl, hb, hg, h1, h2, h3, h4⟩
 ·have : l = [] := List.eq_nil_of_length_eq_zero hn
  subst this
  exact SliceRd.nil _ _ _
 ·refine ⟨⟨some ⟨g, 0, none⟩, cap, rfl, h1, h2, fun k hk => ⟨g, 0, f.cells l[k], rfl, hF g rfl, f.len _, ?_, rfl, hi _ (List.getElem_mem hk)⟩⟩⟩
  intro j hj
  have hj' : j < f.size := hj
  rw [cell_of_row w g _ cur e (0, 0) hg]
  have hlt : k * f.size + j < l.length * f.size := by
   have : (k + 1) * f.size ≤ l.length * f.size := Nat.mul_le_mul_right _ hk
   rw [Nat.add_mul] at this
   omega
  have hcur : cur[k * f.size + j]? = (f.all l)[k * f.size + j]? := by
   rw [← h4, List.getElem?_take_of_lt hlt, Array.getElem?_toList]
  show cur[0 + k * f.size + j]? = _
  rw [Nat.zero_add, hcur]
  exact f.all_get hk hj'
end
def fInt : Flat Int := ⟨1, fun n => [.int .i64 n], I64, fun _ => rfl, fun _ u h => by simp at h; subst h; rfl, by decide⟩
def fStr : Flat ByteArray := ⟨1, fun s => [.string s], fun s => s.size ≤ maxLen, fun _ => rfl, fun _ u h => by simp at h; subst h; rfl, by decide⟩
def fTerm : Flat Term := ⟨2, fun t => [.int .i64 t.unit, .int .i64 t.mask], fun t => I64 t.unit ∧ I64 t.mask, fun _ => rfl, fun _ u h => by simp at h; rcases h with rfl | rfl <;> rfl, by decide⟩
theorem fTerm_all (l : List Term) : fTerm.all l = termCells l := by
 induction l with
 | nil => rfl
 | cons t l ih => rw [fTerm.all_cons, ih]; rfl
@[go_sem] theorem yu (f : (b : Bool) → (fun _ => Option Bool) (some (Value.bool b))) (g : (x : Option Value) → (fun _ => Option Bool) x) : Go.yielded.match_1 (fun _ => Option Bool) (some undef) f g = g (some undef) := rfl
theorem own_alloc_drew {w : World} {B : Nat} {e : TypeId} {s n : Nat} {v : Value} {xs : List Value} (h : w.ownsRow B e s v n xs) (o : Obj) : ((w.alloc o).drew).ownsRow B e s v n xs := h.alloc o
theorem src_new_drew {w : World} {n : Nat} (cs : Array Value) (e : TypeId) (hn : n = w.heap.size) (size : Nat) (news : List Value) (hs : news.length = size) (hc : cs.toList = news) : Src ((w.alloc (.cells cs e)).drew) (some ⟨n, 0, none⟩) 1 size news := src_new cs e hn size news hs hc
theorem step_guard {P : Program} {ops : Array Oper} {o : Oper} {a : Act} {w : World} {K : Act → World → Prop} {Q : Exit → Act → World → Prop} {E : Prop} (s x : Operand) (t : TypeId)
  (_ho : o.op = .call { callee := .builtin .append, args := #[s, x], argTypes := #[t, t] })
  (h : if Region.wanted o (yielded ops a.tmps) = true then Oper.wp P o a w K Q else E) : if Region.wanted o (yielded ops a.tmps) = true then Oper.wp P o a w K Q else E := h
section
variable {w w1 w2 : World}
theorem b0 (w : World) : Below w.heap.size w w := Below.refl _ _
theorem bstep (h : Below w.heap.size w w1) (h2 : Below w1.heap.size w1 w2) : Below w.heap.size w w2 := h.trans (h2.mono h.size)
theorem balloc (h : Below w.heap.size w w1) (o : Obj) : Below w.heap.size w (w1.alloc o) := h.alloc h.size o
theorem bdrew (h : Below w.heap.size w w1) : Below w.heap.size w w1.drew := h.drew
theorem bset (h : Below w.heap.size w w1) {p : Addr} (hp : w.heap.size ≤ p.block) (v : Value) : Below w.heap.size w (w1.setCell p v) := h.setCell hp v
end
end
section
theorem ret_int {k : IntKind} {a b : Int} (h : a = b) : Ending.returned (.int k a) = .returned (.int k b) := by rw [h]
theorem ret_bool {a b : Bool} (h : a = b) : Ending.returned (.bool a) = .returned (.bool b) := by rw [h]
def placeF (v n : Int) : Int := if n < 1 then 0 else v % n
theorem placeF_lo (v n : Int) : 0 ≤ placeF v n := by
 unfold placeF; split
 ·omega
 ·exact Int.emod_nonneg _ (by omega)
theorem placeF_hi (v n : Int) (h : 1 ≤ n) : placeF v n < n := by
 unfold placeF; rw [if_neg (by omega)]; exact Int.emod_lt_of_pos _ (by omega)
theorem tmod_neg {v n : Int} (hn : 1 ≤ n) (h : v.tmod n < 0) : v.tmod n + n = v % n := by
 have h1 := Int.tmod_eq_emod (a := v) (b := n)
 have h2 := Int.emod_nonneg v (show n ≠ 0 by omega)
 have h3 := Int.emod_lt_of_pos v (show 0 < n by omega)
 split at h1 <;> omega
theorem tmod_nonneg {v n : Int} (hn : 1 ≤ n) (h : ¬ v.tmod n < 0) : v.tmod n = v % n := by
 have h1 := Int.tmod_eq_emod (a := v) (b := n)
 have h2 := Int.emod_nonneg v (show n ≠ 0 by omega)
 have h3 := Int.emod_lt_of_pos v (show 0 < n by omega)
 split at h1 <;> omega
set_option maxHeartbeats 400000 in
theorem place_any (v n : Int) (w : World) (hv : I64 v) (hn : I64 n) :
  Calls Tryz.prog 42 #[.int .i64 v, .int .i64 n] w fun e w' => e = .returned (.int .i64 (placeF v n)) ∧ w = w' := by
 obtain ⟨hv1, hv2⟩ := hv
 obtain ⟨hn1, hn2⟩ := hn
 go_enter Tryz.func42, Tryz.ntmps42
 by_cases h : n < 1
 ·go_wp2
  go_ret
  exact ⟨ret_int (by unfold placeF; rw [if_pos h]), rfl⟩
 ·have hz : (n == 0) = false := by simp; omega
  have t1 : v.tmod n < n := by
   have h1 := Int.tmod_eq_emod (a := v) (b := n)
   have h3 := Int.emod_lt_of_pos v (show 0 < n by omega)
   split at h1 <;> omega
  have t2 : -n < v.tmod n := by
   have h1 := Int.tmod_eq_emod (a := v) (b := n)
   have h2 := Int.emod_nonneg v (show n ≠ 0 by omega)
   split at h1 <;> omega
  go_wp2
  all_goals go_ret
  ·exact ⟨ret_int (by unfold placeF; rw [if_neg (by omega)]; exact tmod_neg (by omega) ‹_›), rfl⟩
  ·exact ⟨ret_int (by unfold placeF; rw [if_neg (by omega)]; exact tmod_nonneg (by omega) (by omega)), rfl⟩
def atF (l : List Int) (i : Int) : Int := if i < 0 ∨ (l.length : Int) ≤ i then i.tmod 3 else l.getD i.toNat 0
theorem atF_i64 {l : List Int} {i : Int} (hl : ∀ x ∈ l, I64 x) (hi : I64 i) : I64 (atF l i) := by
 unfold atF
 split
 ·have h1 := Int.tmod_eq_emod (a := i) (b := 3)
  obtain ⟨h2, h3⟩ := hi
  unfold I64
  split at h1 <;> omega
 ·rename_i h
  have hlt : i.toNat < l.length := by omega
  rw [List.getD_eq_getElem?_getD, List.getElem?_eq_getElem hlt]
  exact hl _ (List.getElem_mem hlt)
theorem SliceRd.ints {w : World} {F : Nat → Prop} {v : Value} {l : List Int} (h : SliceRd tInt w F v l) :
  ∃ A cap, v = .slice A l.length cap ∧ l.length ≤ cap ∧ cap ≤ maxLen ∧
   ∀ k, (hk : k < l.length) → ∃ g o, A = some ⟨g, o, none⟩ ∧ F g ∧ w.cell? ⟨g, o + k, none⟩ = some (.int .i64 l[k]) ∧ I64 l[k] := by
 obtain ⟨A, cap, hv, h1, h2, h3⟩ := h.shape
 refine ⟨A, cap, hv, h1, h2, fun k hk => ?_⟩
 obtain ⟨g, o, cs, hA, hF, hc, hcell, rfl, hi⟩ := h3 k hk
 have e0 := hcell 0 (by show 0 < 1; omega)
 simp only [tInt, Nat.mul_one, Nat.add_zero] at e0
 exact ⟨g, o, hA, hF, e0, hi⟩
set_option maxHeartbeats 400000 in
theorem at_any (v : Value) (l : List Int) (i : Int) (w : World) (F : Nat → Prop) (h : SliceRd tInt w F v l) (hi : I64 i) :
  Calls Tryz.prog 43 #[v, .int .i64 i] w fun e w' => e = .returned (.int .i64 (atF l i)) ∧ w = w' := by
 obtain ⟨A, cap, rfl, hcap, hmax, hc⟩ := h.ints
 unfold maxLen at hmax
 obtain ⟨hi1, hi2⟩ := hi
 have HC := hid hc
 clear hc h
 go_enter Tryz.func43, Tryz.ntmps43
 by_cases h1 : i < 0
 ·go_wp2
  go_ret
  exact ⟨ret_int (by unfold atF; rw [if_pos (.inl h1)]), rfl⟩
 ·by_cases h2 : (l.length : Int) ≤ i
  ·go_wp2
   go_ret
   exact ⟨ret_int (by unfold atF; rw [if_pos (.inr h2)]; first | rfl | exact (Int.tmod_eq_emod_of_nonneg (by omega)).symm | trace_state), rfl⟩
  ·obtain ⟨g, o, hA, hF, g0, hj⟩ := HC.out i.toNat (by omega)
   cases hA
   go_wp2
   go_ret
   exact ⟨ret_int (by unfold atF; rw [if_neg (by omega), List.getD_eq_getElem?_getD, List.getElem?_eq_getElem (by omega)]; rfl), rfl⟩
end
section
structure Ver where
 major : Int
 minor : Int
 patch : Int
 pre : ByteArray
 build : ByteArray
 deriving DecidableEq, Inhabited
structure Cut where
 en : Int
 v : Ver
 after : Bool
 deriving DecidableEq, Inhabited
structure Span where
 lo : Cut
 hi : Cut
 deriving DecidableEq, Inhabited
def VB (a b c : Int) (p q : ByteArray) : Prop := (-100000 ≤ a ∧ a ≤ 100000) ∧ (-100000 ≤ b ∧ b ≤ 100000) ∧ (-100000 ≤ c ∧ c ≤ 100000) ∧ p.size ≤ 1000 ∧ q.size ≤ 1000
def Ver.B (v : Ver) : Prop := VB v.major v.minor v.patch v.pre v.build
def Cut.B (c : Cut) : Prop := (-100000 ≤ c.en ∧ c.en ≤ 100000) ∧ c.v.B
def Span.B (s : Span) : Prop := s.lo.B ∧ s.hi.B
def verCells (v : Ver) : List Value := [.int .i64 v.major, .int .i64 v.minor, .int .i64 v.patch, .string v.pre, .string v.build]
def cutCells (c : Cut) : List Value := [.int .i64 c.en, .int .i64 c.v.major, .int .i64 c.v.minor, .int .i64 c.v.patch, .string c.v.pre, .string c.v.build, .bool c.after]
def spanCells (s : Span) : List Value := cutCells s.lo ++ cutCells s.hi
def fVer : Flat Ver := ⟨5, verCells, Ver.B, fun _ => rfl, fun _ u h => by simp [verCells] at h; rcases h with rfl | rfl | rfl | rfl | rfl <;> rfl, by decide⟩
theorem cutCells_one (c : Cut) : ∀ u ∈ cutCells c, u.oneCell' = true := by
 intro u h
 simp [cutCells] at h
 rcases h with rfl | rfl | rfl | rfl | rfl | rfl | rfl <;> rfl
def fCut : Flat Cut := ⟨7, cutCells, Cut.B, fun _ => rfl, fun c => cutCells_one c, by decide⟩
def fSpan : Flat Span := ⟨14, spanCells, Span.B, fun _ => rfl, fun s u h => by rcases List.mem_append.1 h with h | h <;> exact cutCells_one _ u h, by decide⟩
def splitC (c : UInt8) : List UInt8 → List (List UInt8)
 | [] => [[]]
 | x :: s => if x = c then [] :: splitC c s else match splitC c s with | w :: ws => (x :: w) :: ws | [] => [[x]]
theorem split_ne (c : UInt8) (s : List UInt8) : splitC c s ≠ [] := by
 cases s with
 | nil => simp [splitC]
 | cons x s =>
  unfold splitC
  split
  ·simp
  ·split <;> simp
theorem split_no {c : UInt8} : ∀ {a : List UInt8}, c ∉ a → splitC c a = [a]
 | [], _ => rfl
 | x :: a, h => by
  have hx : x ≠ c := fun e => h (by rw [e]; simp)
  have := split_no (a := a) (fun hm => h (List.mem_cons_of_mem _ hm))
  simp only [splitC, if_neg hx, this]
theorem split_of {c : UInt8} : ∀ {a b : List UInt8}, c ∉ a → splitC c (a ++ c :: b) = a :: splitC c b
 | [], b, _ => by simp [splitC]
 | x :: a, b, h => by
  have hx : x ≠ c := fun e => h (by rw [e]; simp)
  have := split_of (a := a) (b := b) (fun hm => h (List.mem_cons_of_mem _ hm))
  simp only [List.cons_append, splitC, if_neg hx, this]
theorem split_sum (c : UInt8) : ∀ s : List UInt8, (splitC c s).length ≤ s.length + 1 ∧ ∀ x ∈ splitC c s, x.length ≤ s.length
 | [] => by simp [splitC]
 | x :: s => by
  obtain ⟨h1, h2⟩ := split_sum c s
  unfold splitC
  split
  ·refine ⟨by simp; omega, fun y hy => ?_⟩
   rcases List.mem_cons.1 hy with rfl | hy
   ·simp
   ·have := h2 y hy; simp; omega
  ·split
   ·rename_i w ws hw
    rw [hw] at h1 h2
    refine ⟨by simpa using Nat.le_succ_of_le h1, fun y hy => ?_⟩
    rcases List.mem_cons.1 hy with rfl | hy
    ·have := h2 w (by simp); simpa using this
    ·have := h2 y (by simp [hy]); simp; omega
   ·exact absurd (by assumption) (split_ne c s)
def digC (c : UInt8) : Bool := decide (48 ≤ c.toNat) && decide (c.toNat ≤ 57)
def tagC (c : UInt8) : Bool := (decide (97 ≤ c.toNat) && decide (c.toNat ≤ 122)) || digC c || c.toNat == 45
def valF (s : List UInt8) : Nat := s.foldl (fun n c => 10 * n + (c.toNat - 48)) 0
theorem val_snoc (s : List UInt8) (c : UInt8) : valF (s ++ [c]) = 10 * valF s + (c.toNat - 48) := by simp [valF]
theorem val_take {s : List UInt8} {k : Nat} (h : k < s.length) : valF (s.take (k + 1)) = 10 * valF (s.take k) + (s[k].toNat - 48) := by
 rw [List.take_succ_eq_append_getElem h, val_snoc]
theorem val_lt (s : List UInt8) : ∀ k, k ≤ s.length → (s.take k).all digC = true → valF (s.take k) < 10 ^ k
 | 0, _, _ => by simp [valF]
 | k + 1, h, ha => by
  have hk : k < s.length := h
  rw [List.take_succ_eq_append_getElem hk, List.all_append, Bool.and_eq_true] at ha
  have ih := val_lt s k (by omega) ha.1
  rw [val_take hk]
  have hd : digC s[k] = true := by simpa using ha.2
  simp only [digC, Bool.and_eq_true, decide_eq_true_eq] at hd
  rw [Nat.pow_succ]
  omega
def numericB (s : List UInt8) : Bool := !s.isEmpty && s.all digC
def tagB (s : List UInt8) : Bool := decide (1 ≤ s.length) && decide (s.length ≤ 8) && s.all tagC
def numOk (s : List UInt8) : Prop := 1 ≤ s.length ∧ s.length ≤ 9 ∧ (1 < s.length → s.head? ≠ some 48) ∧ s.all digC = true ∧ valF s ≤ 9999
instance (s : List UInt8) : Decidable (numOk s) := by unfold numOk; infer_instance
def numberF (s : List UInt8) : Option Nat := if numOk s then some (valF s) else none
theorem number_no {s : List UInt8} (h : ∃ c ∈ s, digC c = false) : numberF s = none := by
 unfold numberF
 rw [if_neg]
 rintro ⟨_, _, _, h2, _⟩
 obtain ⟨c, hc, hd⟩ := h
 rw [List.all_eq_true] at h2
 rw [h2 c hc] at hd
 cases hd
def numRes (s : List UInt8) : Value := match numberF s with
 | some n => .tuple #[.int .i64 (n : Int), .bool true]
 | none => .tuple #[.int .i64 0, .bool false]
def tagOk (pre : Bool) (s : List UInt8) : Bool := tagB s && !(pre && numericB s && (numberF s).isNone)
def tagsF (s : List UInt8) (pre : Bool) : Bool := s.isEmpty || (decide ((splitC 46 s).length ≤ 4) && (splitC 46 s).all (tagOk pre))
def fitsB (n : Int) : Bool := decide (0 ≤ n) && decide (n ≤ 9999)
def mayV (v : Ver) : Bool := fitsB v.major && fitsB v.minor && fitsB v.patch && tagsF v.pre.data.toList true && tagsF v.build.data.toList false
def intsF (a b : Int) : Int := if a < b then -1 else if b < a then 1 else 0
end
section
theorem byte_list (s : ByteArray) (i : Nat) (h : i < s.size) : s.data.toList[i]'(by simpa using h) = s[i] := rfl
set_option maxHeartbeats 400000 in
theorem digit_any (c : UInt8) (w : World) :
  Calls Tryz.prog 112 #[.int .u8 (c.toNat : Int)] w fun e w' => e = .returned (.bool (digC c)) ∧ w' = w := by
 have hu := c.toNat_lt
 by_cases h1 : c.toNat < 48
 ·have e1 : ¬ (48 : Int) ≤ c.toNat := by omega
  have H : Hid (digC c = false) := hid (by simp [digC]; omega)
  go_enter Tryz.func112, Tryz.ntmps112
  go_wp2
  go_ret
  exact ⟨ret_bool H.out.symm, rfl⟩
 ·have e1 : (48 : Int) ≤ c.toNat := by omega
  by_cases h2 : c.toNat ≤ 57
  ·have e2 : (c.toNat : Int) ≤ 57 := by omega
   have e3 : decide ((c.toNat : Int) ≤ 57) = true := decide_eq_true e2
   have H : Hid (digC c = true) := hid (by simp [digC]; omega)
   go_enter Tryz.func112, Tryz.ntmps112
   go_wp2
   go_ret
   exact ⟨ret_bool H.out.symm, rfl⟩
  ·have e2 : ¬ (c.toNat : Int) ≤ 57 := by omega
   have e3 : decide ((c.toNat : Int) ≤ 57) = false := decide_eq_false e2
   have H : Hid (digC c = false) := hid (by simp [digC]; omega)
   go_enter Tryz.func112, Tryz.ntmps112
   go_wp2
   go_ret
   exact ⟨ret_bool H.out.symm, rfl⟩
set_option maxHeartbeats 400000 in
theorem num_any (n : Int) (w : World) :
  Calls Tryz.prog 69 #[.int .i64 n] w fun e w' => e = .returned (.bool (fitsB n)) ∧ w' = w := by
 by_cases h1 : 0 ≤ n
 ·by_cases h2 : n ≤ 9999
  ·have e3 : decide (n ≤ 9999) = true := decide_eq_true h2
   have H : Hid (fitsB n = true) := hid (by simp [fitsB]; omega)
   go_enter Tryz.func69, Tryz.ntmps69
   go_wp2
   go_ret
   exact ⟨ret_bool H.out.symm, rfl⟩
  ·have e3 : decide (n ≤ 9999) = false := decide_eq_false h2
   have H : Hid (fitsB n = false) := hid (by simp [fitsB]; omega)
   go_enter Tryz.func69, Tryz.ntmps69
   go_wp2
   go_ret
   exact ⟨ret_bool H.out.symm, rfl⟩
 ·have H : Hid (fitsB n = false) := hid (by simp [fitsB]; omega)
  go_enter Tryz.func69, Tryz.ntmps69
  go_wp2
  go_ret
  exact ⟨ret_bool H.out.symm, rfl⟩
set_option maxHeartbeats 400000 in
theorem ints_any (a b : Int) (w : World) :
  Calls Tryz.prog 143 #[.int .i64 a, .int .i64 b] w fun e w' => e = .returned (.int .i64 (intsF a b)) ∧ w' = w := by
 by_cases h1 : a < b
 ·have H : Hid (intsF a b = -1) := hid (by unfold intsF; rw [if_pos h1])
  go_enter Tryz.func143, Tryz.ntmps143
  go_wp2
  go_ret
  exact ⟨ret_int H.out.symm, rfl⟩
 ·by_cases h2 : b < a
  ·have H : Hid (intsF a b = 1) := hid (by unfold intsF; rw [if_neg h1, if_pos h2])
   go_enter Tryz.func143, Tryz.ntmps143
   go_wp2
   go_ret
   exact ⟨ret_int H.out.symm, rfl⟩
  ·have H : Hid (intsF a b = 0) := hid (by unfold intsF; rw [if_neg h1, if_neg h2])
   go_enter Tryz.func143, Tryz.ntmps143
   go_wp2
   go_ret
   exact ⟨ret_int H.out.symm, rfl⟩
theorem isEmpty_false {s : List UInt8} {n : Nat} (h : s.length = n) (hn : 0 < n) : s.isEmpty = false := by
 cases s with
 | nil => simp at h; omega
 | cons _ _ => rfl
set_option maxHeartbeats 400000 in
theorem numeric_any (s : ByteArray) (w : World) (hs : s.size ≤ 1000) :
  Calls Tryz.prog 95 #[.string s] w fun e w' => e = .returned (.bool (numericB s.data.toList)) ∧ w' = w := by
 have HSZ := hid (show s.data.toList.length = s.size by simp)
 go_enter Tryz.func95, Tryz.ntmps95
 go_wp2
 go_loop [3] (fun iv => ∃ k : Nat, k ≤ s.size ∧ iv = .int .i64 k ∧ Hid ((s.data.toList.take k).all digC = true)) (fun iv => s.size - (intOf iv).toNat)
 case atStart => exact ⟨0, Nat.zero_le _, rfl, hid rfl⟩
 case round =>
  obtain ⟨k, hk, rfl, hall⟩ := hrel
  by_cases hlt : k < s.size
  ·have hlt' : k < s.data.toList.length := by rw [HSZ.out]; exact hlt
   have hu := s[k].toNat_lt
   have HAT := hid (show (s.data.toList.take (k + 1)).all digC = ((s.data.toList.take k).all digC && digC s[k]) by rw [List.take_succ_eq_append_getElem hlt', List.all_append]; simp; rfl)
   have i1 : (0 : Int) ≤ ↑k := by omega
   have i2 : (↑k : Int) < ↑s.size := by omega
   by_cases hd : digC s[k] = true
   ·have HD := hid hd
    simp only [digC, Bool.and_eq_true, decide_eq_true_eq] at hd
    have e1 : ¬ (s[k].toNat : Int) < 48 := by omega
    have e2 : ¬ (57 : Int) < s[k].toNat := by omega
    clear hd
    go_wp2
    go_round
    case rel => exact ⟨k + 1, by omega, by go_num, hid (by rw [HAT.out, hall.out, HD.out]; rfl)⟩
    case measure => simp [intOf]; omega
   ·have HN : Hid (numericB s.data.toList = false) := hid (by
     unfold numericB
     rw [Bool.and_eq_false_iff]
     refine .inr ?_
     rw [List.all_eq_false]
     exact ⟨s[k], by rw [← byte_list s k hlt]; exact List.getElem_mem _, hd⟩)
    have hd2 : s[k].toNat < 48 ∨ 57 < s[k].toNat := by
     simp only [digC, Bool.and_eq_true, decide_eq_true_eq] at hd
     omega
    clear hd
    rcases hd2 with h | h
    ·have e1 : (s[k].toNat : Int) < 48 := by omega
     go_wp2
     go_ret
     exact ⟨ret_bool HN.out.symm, rfl⟩
    ·have e1 : ¬ (s[k].toNat : Int) < 48 := by omega
     have e2 : (57 : Int) < s[k].toNat := by omega
     go_wp2
     go_ret
     exact ⟨ret_bool HN.out.symm, rfl⟩
  ·have hk' : k = s.size := by omega
   have HA : Hid (s.data.toList.all digC = true) := hid (by
    have := hall.out
    rwa [hk', List.take_of_length_le (by rw [HSZ.out]; omega)] at this)
   clear hk'
   by_cases h0 : 0 < s.size
   ·have e0 : decide (0 < s.size) = true := decide_eq_true h0
    have HN : Hid (numericB s.data.toList = true) := hid (by unfold numericB; rw [HA.out, isEmpty_false HSZ.out h0]; rfl)
    go_wp2
    go_ret
    exact ⟨ret_bool HN.out.symm, rfl⟩
   ·have e0 : decide (0 < s.size) = false := decide_eq_false h0
    have HN : Hid (numericB s.data.toList = false) := hid (by
     have : s.data.toList = [] := List.eq_nil_of_length_eq_zero (by rw [HSZ.out]; omega)
     rw [this]; rfl)
    go_wp2
    go_ret
    exact ⟨ret_bool HN.out.symm, rfl⟩
theorem tagC_cases (c : UInt8) : tagC c = true ↔ ((97 ≤ c.toNat ∧ c.toNat ≤ 122) ∨ (48 ≤ c.toNat ∧ c.toNat ≤ 57) ∨ c.toNat = 45) := by
 simp only [tagC, digC, Bool.or_eq_true, Bool.and_eq_true, decide_eq_true_eq, beq_iff_eq]
 omega
set_option maxRecDepth 100000 in
set_option maxHeartbeats 1000000 in
theorem tag_any (s : ByteArray) (w : World) (hs : s.size ≤ 1000) :
  Calls Tryz.prog 93 #[.string s] w fun e w' => e = .returned (.bool (tagB s.data.toList)) ∧ w' = w := by
 have HSZ := hid (show s.data.toList.length = s.size by simp)
 by_cases h1 : s.size < 1
 ·have HN : Hid (tagB s.data.toList = false) := hid (by unfold tagB; rw [HSZ.out, decide_eq_false (by omega : ¬ 1 ≤ s.size)]; rfl)
  go_enter Tryz.func93, Tryz.ntmps93
  go_wp2
  go_ret
  exact ⟨ret_bool HN.out.symm, rfl⟩
 ·by_cases h2 : 8 < s.size
  ·have HN : Hid (tagB s.data.toList = false) := hid (by unfold tagB; rw [HSZ.out, decide_eq_false (by omega : ¬ s.size ≤ 8)]; simp)
   go_enter Tryz.func93, Tryz.ntmps93
   go_wp2
   go_ret
   exact ⟨ret_bool HN.out.symm, rfl⟩
  ·have HT : Hid (tagB s.data.toList = s.data.toList.all tagC) := hid (by unfold tagB; rw [HSZ.out, decide_eq_true (by omega : 1 ≤ s.size), decide_eq_true (by omega : s.size ≤ 8)]; rfl)
   go_enter Tryz.func93, Tryz.ntmps93
   go_wp2
   go_loop [3] (fun iv => ∃ k : Nat, k ≤ s.size ∧ iv = .int .i64 k ∧ Hid ((s.data.toList.take k).all tagC = true)) (fun iv => s.size - (intOf iv).toNat)
   case atStart => exact ⟨0, Nat.zero_le _, rfl, hid rfl⟩
   case round =>
    obtain ⟨k, hk, rfl, hall⟩ := hrel
    by_cases hlt : k < s.size
    ·have hlt' : k < s.data.toList.length := by rw [HSZ.out]; exact hlt
     have hu := s[k].toNat_lt
     have HAT := hid (show (s.data.toList.take (k + 1)).all tagC = ((s.data.toList.take k).all tagC && tagC s[k]) by rw [List.take_succ_eq_append_getElem hlt', List.all_append]; simp; rfl)
     have i1 : (0 : Int) ≤ ↑k := by omega
     have i2 : (↑k : Int) < ↑s.size := by omega
     by_cases hd : tagC s[k] = true
     ·have HD := hid hd
      rw [tagC_cases] at hd
      rcases hd with ⟨a1, a2⟩ | ⟨a1, a2⟩ | a1
      ·have e1 : ¬ (s[k].toNat : Int) < 97 := by omega
       have e2 : ¬ (122 : Int) < s[k].toNat := by omega
       go_wp2
       go_round
       case rel => exact ⟨k + 1, by omega, by go_num, hid (by rw [HAT.out, hall.out, HD.out]; rfl)⟩
       case measure => simp [intOf]; omega
      ·have e1 : (s[k].toNat : Int) < 97 := by omega
       have e2 : ¬ (s[k].toNat : Int) < 48 := by omega
       have e3 : ¬ (57 : Int) < s[k].toNat := by omega
       go_wp2
       go_round
       case rel => exact ⟨k + 1, by omega, by go_num, hid (by rw [HAT.out, hall.out, HD.out]; rfl)⟩
       case measure => simp [intOf]; omega
      ·have e1 : (s[k].toNat : Int) < 97 := by omega
       have e2 : (s[k].toNat : Int) < 48 := by omega
       have e3 : ((s[k].toNat : Int) != 45) = false := by simp; omega
       clear a1
       go_wp2
       go_round
       case rel => exact ⟨k + 1, by omega, by go_num, hid (by rw [HAT.out, hall.out, HD.out]; rfl)⟩
       case measure => simp [intOf]; omega
     ·have HN : Hid (tagB s.data.toList = false) := hid (by
       rw [HT.out, List.all_eq_false]
       exact ⟨s[k], by rw [← byte_list s k hlt]; exact List.getElem_mem _, hd⟩)
      have hd2 : (s[k].toNat < 48 ∧ s[k].toNat ≠ 45) ∨ (57 < s[k].toNat ∧ s[k].toNat < 97) ∨ 122 < s[k].toNat := by
       rw [tagC_cases] at hd
       omega
      clear hd
      rcases hd2 with ⟨h, h'⟩ | ⟨h, h'⟩ | h
      ·have e1 : (s[k].toNat : Int) < 97 := by omega
       have e2 : (s[k].toNat : Int) < 48 := by omega
       have e3 : ((s[k].toNat : Int) != 45) = true := by simp; omega
       clear h'
       go_wp2
       go_ret
       exact ⟨ret_bool HN.out.symm, rfl⟩
      ·have e1 : (s[k].toNat : Int) < 97 := by omega
       have e2 : ¬ (s[k].toNat : Int) < 48 := by omega
       have e4 : (57 : Int) < s[k].toNat := by omega
       have e3 : ((s[k].toNat : Int) != 45) = true := by simp; omega
       go_wp2
       go_ret
       exact ⟨ret_bool HN.out.symm, rfl⟩
      ·have e1 : ¬ (s[k].toNat : Int) < 97 := by omega
       have e2 : ¬ (s[k].toNat : Int) < 48 := by omega
       have e4 : (57 : Int) < s[k].toNat := by omega
       have e5 : (122 : Int) < s[k].toNat := by omega
       have e3 : ((s[k].toNat : Int) != 45) = true := by simp; omega
       go_wp2
       go_ret
       exact ⟨ret_bool HN.out.symm, rfl⟩
    ·have hk' : k = s.size := by omega
     have HN : Hid (tagB s.data.toList = true) := hid (by
      have := hall.out
      rw [hk', List.take_of_length_le (by rw [HSZ.out]; omega)] at this
      rw [HT.out, this])
     clear hk'
     go_wp2
     go_ret
     exact ⟨ret_bool HN.out.symm, rfl⟩
end
section
set_option maxRecDepth 100000 in
set_option maxHeartbeats 1000000 in
theorem number1_any (s : ByteArray) (w : World) (hs : s.size ≤ 1000) :
  Calls Tryz.prog 94 #[.string s] w fun e w' => e = .returned (numRes s.data.toList) ∧ w' = w := by
 have hsz : s.data.toList.length = s.size := by simp
 by_cases h1 : s.size < 1
 ·have hn : numberF s.data.toList = none := by rw [numberF, if_neg]; rintro ⟨h, _⟩; omega
  have HN := hid hn
  clear hn hsz
  go_enter Tryz.func94, Tryz.ntmps94
  go_wp2
  go_ret2
  exact ⟨by unfold numRes; rw [HN.out]; rfl, rfl⟩
 ·by_cases h2 : 9 < s.size
  ·have hn : numberF s.data.toList = none := by rw [numberF, if_neg]; rintro ⟨_, h, _⟩; omega
   have HN := hid hn
   clear hn hsz
   go_enter Tryz.func94, Tryz.ntmps94
   go_wp2
   go_ret2
   exact ⟨by unfold numRes; rw [HN.out]; rfl, rfl⟩
  ·have h0 : 0 < s.size := by omega
   have HSZ := hid hsz
   have hhd : s.data.toList.head? = some s[0] := by
    rw [List.head?_eq_getElem?, List.getElem?_eq_getElem (by omega)]; rfl
   have HHD := hid hhd
   clear hsz hhd
   by_cases hz : s[0].toNat = 48 ∧ 1 < s.size
   ·obtain ⟨hz0, hz1⟩ := hz
    have HN : Hid (numberF s.data.toList = none) := hid (by
     rw [numberF, if_neg]
     rintro ⟨_, _, h, _⟩
     refine h (by rw [HSZ.out]; exact hz1) ?_
     rw [HHD.out]
     exact congrArg some (UInt8.toNat_inj.1 hz0))
    have hz0' : (s[0].toNat : Int) = 48 := by omega
    go_enter Tryz.func94, Tryz.ntmps94
    go_wp2
    go_ret2
    exact ⟨by unfold numRes; rw [HN.out]; rfl, rfl⟩
   ·have HLD : Hid (1 < s.data.toList.length → s.data.toList.head? ≠ some 48) := hid (fun hl he => by
     rw [HHD.out] at he
     rw [HSZ.out] at hl
     exact hz ⟨by rw [Option.some.inj he]; rfl, hl⟩)
    have hcase : s.size = 1 ∨ (1 < s.size ∧ ((s[0].toNat : Int) == 48) = false) := by
     rcases Nat.lt_or_ge 1 s.size with h | h
     ·refine .inr ⟨h, ?_⟩
      rw [beq_eq_false_iff_ne]
      intro e
      exact hz ⟨by omega, h⟩
     ·exact .inl (by omega)
    clear hz
    rcases hcase with h3 | ⟨h3, h4⟩
    all_goals
     go_enter Tryz.func94, Tryz.ntmps94
     go_wp2
     go_loopw [4, 5] (fun nv iv wr => ∃ k : Nat, k ≤ s.size ∧ iv = .int .i64 k ∧ nv = .int .i64 (valF (s.data.toList.take k) : Nat) ∧ Hid ((s.data.toList.take k).all digC = true) ∧ wr = w) (fun _ iv _ => s.size - (intOf iv).toNat)
     case atStart => exact ⟨0, Nat.zero_le _, rfl, rfl, hid rfl, rfl⟩
     case round =>
      obtain ⟨k, hk, rfl, rfl, hall, rfl⟩ := hrel
      have hvl : valF (s.data.toList.take k) < 1000000000 := by
       have h1 := val_lt s.data.toList k (by rw [HSZ.out]; exact hk) hall.out
       have h2 : (10 : Nat) ^ k ≤ 10 ^ 9 := Nat.pow_le_pow_right (by omega) (by omega)
       omega
      by_cases hlt : k < s.size
      ·have hlt' : k < s.data.toList.length := by rw [HSZ.out]; exact hlt
       have hu := s[k].toNat_lt
       have HVT := hid (val_take hlt')
       have HAT := hid (show (s.data.toList.take (k + 1)).all digC = ((s.data.toList.take k).all digC && digC s[k]) by rw [List.take_succ_eq_append_getElem hlt', List.all_append]; simp; rfl)
       have i1 : (0 : Int) ≤ ↑k := by omega
       have i2 : (↑k : Int) < ↑s.size := by omega
       generalize hv : valF (s.data.toList.take k) = v at hvl HVT ⊢
       clear hv
       by_cases hd : digC s[k] = true
       ·have HD := hid hd
        have hd2 := hd
        simp only [digC, Bool.and_eq_true, decide_eq_true_eq] at hd2
        have e3 : (48 : Int) ≤ s[k].toNat := by omega
        have e2 : ¬ (57 : Int) < s[k].toNat := by omega
        have HVT2 : Hid ((valF (s.data.toList.take (k + 1)) : Int) = v * 10 + ((s[k].toNat : Int) - 48)) := hid (by rw [HVT.out, byte_list s k hlt]; omega)
        clear hd2
        go_wp2_with (go_at_call 112; refine (digit_any s[k] _).mono ?_; rintro e w' ⟨rfl, rfl⟩)
        exact ⟨⟨k + 1, by omega, by go_num, by rw [HVT2.out], hid (by rw [HAT.out, hall.out, HD.out]; rfl), trivial⟩, by simp [intOf]; omega⟩
       ·have hd' : digC s[k] = false := by simpa using hd
        have HN : Hid (numberF s.data.toList = none) := hid (number_no ⟨s[k], by rw [← byte_list s k hlt]; exact List.getElem_mem _, hd'⟩)
        clear hd
        go_wp2_with (go_at_call 112; refine (digit_any s[k] _).mono ?_; rintro e w' ⟨rfl, rfl⟩)
        go_ret2
        exact ⟨by unfold numRes; rw [HN.out]; rfl, rfl⟩
      ·have hk' : k = s.size := by omega
       have HV : Hid (valF (s.data.toList.take k) = valF s.data.toList) := hid (by rw [hk', List.take_of_length_le (by rw [HSZ.out]; omega)])
       have HA : Hid (s.data.toList.all digC = true) := hid (by
        have := hall.out
        rwa [hk', List.take_of_length_le (by rw [HSZ.out]; omega)] at this)
       clear hk'
       generalize hv : valF (s.data.toList.take k) = v at hvl HV ⊢
       clear hv
       by_cases hb : 9999 < v
       ·have HN : Hid (numberF s.data.toList = none) := hid (by
         rw [numberF, if_neg]
         rintro ⟨_, _, _, _, h⟩
         rw [← HV.out] at h
         omega)
        go_wp2
        go_ret2
        exact ⟨by unfold numRes; rw [HN.out]; rfl, rfl⟩
       ·have HN : Hid (numberF s.data.toList = some v) := hid (by
         rw [numberF, if_pos, HV.out]
         exact ⟨by rw [HSZ.out]; omega, by rw [HSZ.out]; omega, HLD.out, HA.out, by rw [← HV.out]; omega⟩)
        go_wp2
        go_ret2
        exact ⟨by unfold numRes; rw [HN.out]; rfl, rfl⟩
end
section
theorem piece_list (s : ByteArray) (a b : Nat) : (s.extract a b).data.toList = (s.data.toList.drop a).take (b - a) := by
  simp [ByteArray.data_extract, List.extract_eq_take_drop]
theorem str_info : (Tryz.prog.info? 9).map (fun i => (i.zero, i.size, i.bytes)) = some (some (.string ⟨#[]⟩), 1, 16) := by kernel_rfl
def SplitPost (c : UInt8) (s : ByteArray) (w : World) (e : Ending) (w' : World) : Prop :=
  ∃ (WB : List ByteArray) (A : Option Addr) (cap : Nat), e = .returned (.slice A WB.length cap) ∧ w'.ownsRow w.heap.size 9 1 (.slice A WB.length cap) WB.length (WB.map Value.string) ∧ WB.map (fun x => x.data.toList) = splitC c s.data.toList ∧ Below w.heap.size w w'
theorem split_done {c : UInt8} {s : List UInt8} {a k : Nat} (hk : s.length ≤ k) (h : c ∉ (s.drop a).take (k - a)) : splitC c (s.drop a) = [s.drop a] := by
  rw [List.take_of_length_le (by simp; omega)] at h
  exact split_no h
theorem drop_at {s : List UInt8} {a k : Nat} (ha : a ≤ k) (hk : k < s.length) : s.drop a = (s.drop a).take (k - a) ++ s[k] :: s.drop (k + 1) := by
  have h1 := (List.take_append_drop (k - a) (s.drop a)).symm
  rw [List.drop_drop, show a + (k - a) = k by omega, List.drop_eq_getElem_cons hk] at h1
  exact h1
theorem take_next {s : List UInt8} {a k : Nat} (ha : a ≤ k) (hk : k < s.length) : (s.drop a).take (k + 1 - a) = (s.drop a).take (k - a) ++ [s[k]] := by
  rw [show k + 1 - a = (k - a) + 1 by omega, List.take_succ_eq_append_getElem (by simp; omega)]
  simp [show a + (k - a) = k by omega]
theorem byte_eq {x c : UInt8} : ((x.toNat : Int) == (c.toNat : Int)) = decide (x = c) := by
  rw [Bool.eq_iff_iff, beq_iff_eq, decide_eq_true_iff]
  constructor
  · intro h
    exact UInt8.toNat_inj.1 (by omega)
  · rintro rfl
    rfl
set_option maxRecDepth 100000 in
set_option maxHeartbeats 1000000 in
theorem split1_any (s : ByteArray) (c : UInt8) (w : World) (hs : s.size ≤ 100000) :
    Calls Tryz.prog 92 #[.string s, .int .u8 (c.toNat : Int)] w (SplitPost c s w) := by
  obtain ⟨ii, hii⟩ := info_parts str_info
  have HII := hid hii
  have HSZ := hid (show s.data.toList.length = s.size by simp)
  clear hii
  go_enter Tryz.func92, Tryz.ntmps92
  go_wp2
  go_loopw [5, 6, 7] (fun ov av iv wr => ∃ (k a : Nat) (L : List ByteArray), k ≤ s.size ∧ a ≤ k ∧ L.length ≤ k ∧ iv = .int .i64 k ∧ av = .int .i64 a ∧ Hid (wr.ownsRow w.heap.size 9 1 ov L.length (L.map Value.string)) ∧ Hid (splitC c s.data.toList = L.map (fun x => x.data.toList) ++ splitC c (s.data.toList.drop a)) ∧ Hid (c ∉ (s.data.toList.drop a).take (k - a)) ∧ Hid (Below w.heap.size w wr)) (fun _ _ iv _ => s.size - (intOf iv).toNat)
  case atStart => exact ⟨0, 0, [], Nat.zero_le _, Nat.le_refl _, Nat.le_refl _, rfl, rfl, hid ⟨rfl, .inl ⟨rfl, rfl⟩⟩, hid (by simp), hid (by simp), hid (Below.refl _ _)⟩
  case round =>
    obtain ⟨k, a, L, hk, hak, hL, rfl, rfl, hown, hsp, hno, hb⟩ := hrel
    obtain ⟨A, cap, rfl⟩ := own_form hown.out
    have hbz := hb.out.size
    have i1 : (0 : Int) ≤ ↑k := by omega
    have a1 : (0 : Int) ≤ ↑a := by omega
    have a2 : (↑a : Int) ≤ ↑k := by omega
    have a3 : (↑a : Int) ≤ ↑s.size := by omega
    have i3 : (↑k : Int) ≤ ↑s.size := by omega
    by_cases hlt : k < s.size
    · have i2 : (↑k : Int) < ↑s.size := by omega
      have hlt' : k < s.data.toList.length := by rw [HSZ.out]; exact hlt
      have HAT := hid (show s.data.toList[k] = s[k] from rfl)
      have HTN := hid (take_next hak hlt')
      have HDA := hid (drop_at hak hlt')
      by_cases hc : s[k] = c
      · have hq : ((s[k].toNat : Int) == (c.toNat : Int)) = true := by rw [byte_eq]; exact decide_eq_true hc
        have HC := hid hc
        clear hc
        go_wp2_with (first
          | (at_builtin
             refine wpList_append_src _ rfl (.tmp 19) (.tmp 24) _ rfl w.heap.size 9 ii _ 1 16 Tryz.underlying96 HII.out.1 HII.out.2.1 HII.out.2.2.1 HII.out.2.2.2 rfl (by omega) (.slice A L.length cap) L.length (L.map Value.string) rfl (by exact hown.out.alloc _) (some ⟨wr.heap.size, 0, none⟩) 1 1 [.string (s.extract a k)] rfl (by exact src_new _ _ rfl 1 _ rfl rfl) (by simp [Value.oneCell']) (by unfold maxLen; omega) (by omega) (by simp; omega) ?_
             intro v4 w4 hown4 hg4 _
             have HB4 := hid (show Below w.heap.size w w4 from Below.grown (hb.out.alloc hbz _) hg4 (by simp; omega) (fun k hk => (hown.out.lt k hk).1))
             have HO4 := hid hown4
             clear hown4 hg4))
        refine ⟨⟨k + 1, k + 1, L ++ [s.extract a k], by omega, Nat.le_refl _, by simp; omega, by go_num, by go_num, hid ?_, hid ?_, hid (by simp), HB4⟩, by simp [intOf]; omega⟩
        · rw [List.length_append, List.map_append]
          exact HO4.out
        · rw [hsp.out, HDA.out, HAT.out, HC.out, split_of hno.out, List.map_append, List.append_assoc]
          congr 1
          simp only [List.map_cons, List.map_nil, List.cons_append, List.nil_append]
          rw [piece_list]
      · have hq : ((s[k].toNat : Int) == (c.toNat : Int)) = false := by rw [byte_eq]; exact decide_eq_false hc
        have HC := hid hc
        clear hc
        go_wp2
        refine ⟨⟨k + 1, a, L, by omega, by omega, by omega, by go_num, rfl, hown, hsp, hid ?_, hb⟩, by simp [intOf]; omega⟩
        rw [HTN.out]
        intro hm
        rcases List.mem_append.1 hm with hm | hm
        · exact hno.out hm
        · exact HC.out (by rw [← HAT.out]; exact (List.mem_singleton.1 hm).symm)
    · have hk' : k = s.size := by omega
      have HDN := hid (split_done (c := c) (s := s.data.toList) (a := a) (k := k) (by rw [HSZ.out]; omega) hno.out)
      have i2 : ¬ (↑k : Int) < ↑s.size := by omega
      clear hk'
      go_wp2_with (first
        | (at_builtin
           refine wpList_append_src _ rfl (.tmp 28) (.tmp 32) _ rfl w.heap.size 9 ii _ 1 16 Tryz.underlying96 HII.out.1 HII.out.2.1 HII.out.2.2.1 HII.out.2.2.2 rfl (by omega) (.slice A L.length cap) L.length (L.map Value.string) rfl (by exact hown.out.alloc _) (some ⟨wr.heap.size, 0, none⟩) 1 1 [.string (s.extract a s.size)] rfl (by exact src_new _ _ rfl 1 _ rfl rfl) (by simp [Value.oneCell']) (by unfold maxLen; omega) (by omega) (by simp; omega) ?_
           intro v4 w4 hown4 hg4 _
           obtain ⟨A4, c4, rfl⟩ := own_form hown4
           have HB4 := hid (show Below w.heap.size w w4 from Below.grown (hb.out.alloc hbz _) hg4 (by simp; omega) (fun k hk => (hown.out.lt k hk).1))
           have HO4 := hid hown4
           clear hown4 hg4))
      go_ret
      refine ⟨L ++ [s.extract a s.size], A4, c4, by rw [List.length_append]; rfl, ?_, ?_, HB4.out⟩
      · rw [List.length_append, List.map_append]
        exact HO4.out
      · rw [hsp.out, HDN.out, List.map_append]
        congr 1
        simp only [List.map_cons, List.map_nil]
        rw [piece_list, List.take_of_length_le (by rw [List.length_drop, HSZ.out]; exact Nat.le_refl _)]
end
end Go.Proofs.YthneiolcljnbeaaGreatDoor
