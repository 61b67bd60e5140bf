import Derived.WalkKit
import Derived.WalkSpells
import Derived.WalkLawsBesides
import Derived.BigQuiet
import Derived.Deep.QuietTactic
import Derived.Handy
import Derived.Maps.AppendAt
import Derived.Deep.AppendLies
import Derived.RegionTactic
import Derived.OwnWalk
namespace Go.Proofs.YthneiolcljnbeaaGreatDoor
open Go Go.RowKit
section
theorem hid {p : Prop} (h : p) : Hid p := h
@[go_sem] theorem add_mk (g o n : Nat) : (⟨g, o, none⟩ : Addr).add n = ⟨g, o + n, none⟩ := by
 unfold Addr.add
 by_cases h : n = 0 <;> simp [h]
def Keeps (F : Nat → Prop) (w w' : World) : Prop := ∀ k, F k → w'.heap[k]? = w.heap[k]?
theorem Keeps.of_below {B : Nat} {F : Nat → Prop} {w w' : World} (h : Below B w w') (hF : ∀ k, F k → k < B) : Keeps F w w' := fun k hk => h.block k (hF k hk)
theorem Keeps.mono {F F' : Nat → Prop} {w w' : World} (h : Keeps F w w') (hF : ∀ k, F' k → F k) : Keeps F' w w' := fun k hk => h k (hF k hk)
theorem Keeps.trans {F : Nat → Prop} {a b c : World} (h : Keeps F a b) (h' : Keeps F b c) : Keeps F a c := fun k hk => (h' k hk).trans (h k hk)
structure Ty (α : Type) where
 size : Nat
 rd : World → (Nat → Prop) → List Value → α → Prop
 len : ∀ {w F cs x}, rd w F cs x → cs.length = size
 keep : ∀ {w w' F cs x}, Keeps F w w' → rd w F cs x → rd w' F cs x
 more : ∀ {w} {F F' : Nat → Prop} {cs x}, (∀ k, F k → F' k) → rd w F cs x → rd w F' cs x
def I64 (n : Int) : Prop := -9223372036854775808 ≤ n ∧ n ≤ 9223372036854775807
def tInt : Ty Int where
 size := 1
 rd _ _ cs n := cs = [.int .i64 n] ∧ I64 n
 len h := by rw [h.1]; rfl
 keep _ h := h
 more _ h := h
def tBool : Ty Bool where
 size := 1
 rd _ _ cs b := cs = [.bool b]
 len h := by rw [h]; rfl
 keep _ h := h
 more _ h := h
def tStr : Ty ByteArray where
 size := 1
 rd _ _ cs s := cs = [.string s] ∧ s.size ≤ maxLen
 len h := by rw [h.1]; rfl
 keep _ h := h
 more _ h := h
structure SliceRd {α : Type} (t : Ty α) (w : World) (F : Nat → Prop) (v : Value) (l : List α) : Prop where
 shape : ∃ A cap, v = .slice A l.length cap ∧ l.length ≤ cap ∧ cap ≤ maxLen ∧
  ∀ k, (h : k < l.length) → ∃ g o cs, A = some ⟨g, o, none⟩ ∧ F g ∧ cs.length = t.size ∧ (∀ j, j < t.size → w.cell? ⟨g, o + k * t.size + j, none⟩ = cs[j]?) ∧ t.rd w F cs l[k]
theorem SliceRd.keep {α : Type} {t : Ty α} {w w' : World} {F : Nat → Prop} {v : Value} {l : List α} (hk : Keeps F w w') (h : SliceRd t w F v l) : SliceRd t w' F v l := by
 obtain ⟨A, cap, hv, h1, h2, h3⟩ := h.shape
 refine ⟨A, cap, hv, h1, h2, fun k hl => ?_⟩
 obtain ⟨g, o, cs, hA, hF, hc, hcell, hr⟩ := h3 k hl
 refine ⟨g, o, cs, hA, hF, hc, fun j hj => ?_, t.keep hk hr⟩
 rw [← hcell j hj]
 exact World.cell?_of_block (hk _ hF)
theorem SliceRd.more {α : Type} {t : Ty α} {w : World} {F F' : Nat → Prop} {v : Value} {l : List α} (hF : ∀ k, F k → F' k) (h : SliceRd t w F v l) : SliceRd t w F' v l := by
 obtain ⟨A, cap, hv, h1, h2, h3⟩ := h.shape
 refine ⟨A, cap, hv, h1, h2, fun k hl => ?_⟩
 obtain ⟨g, o, cs, hA, hFF, hc, hcell, hr⟩ := h3 k hl
 exact ⟨g, o, cs, hA, hF _ hFF, hc, hcell, t.more hF hr⟩
theorem SliceRd.nil {α : Type} (t : Ty α) (w : World) (F : Nat → Prop) : SliceRd t w F (.slice none 0 0) [] :=
 ⟨none, 0, rfl, Nat.le_refl _, by unfold maxLen; omega, fun k h => absurd h (by simp)⟩
def tSlice {α : Type} (t : Ty α) : Ty (List α) where
 size := 1
 rd w F cs l := ∃ v, cs = [v] ∧ SliceRd t w F v l
 len h := by obtain ⟨v, rfl, _⟩ := h; rfl
 keep hk h := by obtain ⟨v, rfl, h⟩ := h; exact ⟨v, rfl, h.keep hk⟩
 more hF h := by obtain ⟨v, rfl, h⟩ := h; exact ⟨v, rfl, h.more hF⟩
structure Term where
 unit : Int
 mask : Int
 deriving DecidableEq, Inhabited
structure Row where
 kind : Int
 unit : Int
 a : Int
 b : Int
 terms : List Term
 deriving DecidableEq, Inhabited
def tTerm : Ty Term where
 size := 2
 rd _ _ cs t := cs = [.int .i64 t.unit, .int .i64 t.mask] ∧ I64 t.unit ∧ I64 t.mask
 len h := by rw [h.1]; rfl
 keep _ h := h
 more _ h := h
def tRow : Ty Row where
 size := 5
 rd w F cs r := ∃ v, cs = [.int .i64 r.kind, .int .i64 r.unit, .int .i64 r.a, .int .i64 r.b, v] ∧ I64 r.kind ∧ I64 r.unit ∧ I64 r.a ∧ I64 r.b ∧ SliceRd tTerm w F v r.terms
 len h := by obtain ⟨v, rfl, _⟩ := h; rfl
 keep hk h := by obtain ⟨v, h0, h1, h2, h3, h4, h5⟩ := h; exact ⟨v, h0, h1, h2, h3, h4, h5.keep hk⟩
 more hF h := by obtain ⟨v, h0, h1, h2, h3, h4, h5⟩ := h; exact ⟨v, h0, h1, h2, h3, h4, h5.more hF⟩
theorem SliceRd.terms {w : World} {F : Nat → Prop} {v : Value} {l : List Term} (h : SliceRd tTerm w F v l) :
  ∃ A cap, v = .slice A l.length cap ∧ l.length ≤ cap ∧ cap ≤ maxLen ∧
   ∀ k, (hk : k < l.length) → ∃ g o, A = some ⟨g, o, none⟩ ∧ F g ∧ w.cell? ⟨g, o + k * 2, none⟩ = some (.int .i64 l[k].unit) ∧ w.cell? ⟨g, o + k * 2 + 1, none⟩ = some (.int .i64 l[k].mask) ∧ I64 l[k].unit ∧ I64 l[k].mask := by
 obtain ⟨A, cap, hv, h1, h2, h3⟩ := h.shape
 refine ⟨A, cap, hv, h1, h2, fun k hk => ?_⟩
 obtain ⟨g, o, cs, hA, hF, hc, hcell, rfl, hi, hj⟩ := h3 k hk
 exact ⟨g, o, hA, hF, hcell 0 (by show 0 < 2; omega), hcell 1 (by show 1 < 2; omega), hi, hj⟩
theorem SliceRd.rows {w : World} {F : Nat → Prop} {v : Value} {l : List Row} (h : SliceRd tRow w F v l) :
  ∃ A cap, v = .slice A l.length cap ∧ l.length ≤ cap ∧ cap ≤ maxLen ∧
   ∀ k, (hk : k < l.length) → ∃ g o tv, A = some ⟨g, o, none⟩ ∧ F g ∧ w.cell? ⟨g, o + k * 5, none⟩ = some (.int .i64 l[k].kind) ∧ w.cell? ⟨g, o + k * 5 + 1, none⟩ = some (.int .i64 l[k].unit) ∧
    w.cell? ⟨g, o + k * 5 + 2, none⟩ = some (.int .i64 l[k].a) ∧ w.cell? ⟨g, o + k * 5 + 3, none⟩ = some (.int .i64 l[k].b) ∧ w.cell? ⟨g, o + k * 5 + 4, none⟩ = some tv ∧
    (I64 l[k].kind ∧ I64 l[k].unit ∧ I64 l[k].a ∧ I64 l[k].b) ∧ SliceRd tTerm w F tv l[k].terms := by
 obtain ⟨A, cap, hv, h1, h2, h3⟩ := h.shape
 refine ⟨A, cap, hv, h1, h2, fun k hk => ?_⟩
 obtain ⟨g, o, cs, hA, hF, hc, hcell, tv, rfl, i0, i1, i2, i3, ht⟩ := h3 k hk
 exact ⟨g, o, tv, hA, hF, hcell 0 (by show 0 < 5; omega), hcell 1 (by show 1 < 5; omega), hcell 2 (by show 2 < 5; omega), hcell 3 (by show 3 < 5; omega), hcell 4 (by show 4 < 5; omega), ⟨i0, i1, i2, i3⟩, ht⟩
theorem cell_below {B : Nat} {w w' : World} (hb : Below B w w') {g o : Nat} {v : Value} (hg : g < B) (h : w.cell? ⟨g, o, none⟩ = some v) : w'.cell? ⟨g, o, none⟩ = some v := (hb.cell (p := ⟨g, o, none⟩) hg).trans h
theorem not_dec_t {P : Prop} [Decidable P] (h : (!decide P) = true) : ¬ P := by simpa using h
theorem not_dec_f {P : Prop} [Decidable P] (h : (!decide P) = false) : P := by simpa using h
def Lt (B : Nat) : Nat → Prop := fun k => k < B
theorem SliceRd.below {α : Type} {t : Ty α} {B : Nat} {w w' : World} {v : Value} {l : List α} (hb : Below B w w') (h : SliceRd t w (Lt B) v l) : SliceRd t w' (Lt B) v l :=
 h.keep (Keeps.of_below hb fun _ h => h)
theorem SliceRd.lift {α : Type} {t : Ty α} {B B' : Nat} {w w' : World} {v : Value} {l : List α} (h : SliceRd t w (Lt B) v l) (hb : Below B w w') (hB : B ≤ B') : SliceRd t w' (Lt B') v l :=
 (h.below hb).more fun _ hk => Nat.lt_of_lt_of_le hk hB
theorem bcell {W w1 : World} (hb : Below W.heap.size W w1) : (∀ b o, b < W.heap.size → w1.cell? ⟨b, o, none⟩ = W.cell? ⟨b, o, none⟩) ∧ (∀ b o, b < W.heap.size → w1.frozen? ⟨b, o, none⟩ = W.frozen? ⟨b, o, none⟩) :=
 ⟨fun b o h => hb.cell (p := ⟨b, o, none⟩) h, fun b o h => hb.frozen (p := ⟨b, o, none⟩) h⟩
theorem below_drewN {B : Nat} {a w : World} (h : Below B a w) (n : Nat) : Below B a (w.drewN n) := ⟨h.os, h.tape, h.output, h.size, h.block⟩
end
section
def Src (w : World) (A : Option Addr) (m : Nat) (size : Nat) (news : List Value) : Prop :=
 news.length = m * size ∧ (0 < m → ∃ ad, A = some ad ∧ ∀ j u, news[j]? = some u → w.cell? (ad.add j) = some u)
section
variable {P : Program} (w : World)
theorem run_append_of_nil (base : Nat) (t ty e : TypeId) (i : TypeInfo) (size : Nat) (ht : P.underlying t = some (.slice e)) (hi : P.info? e = some i)
  (v : Value) (n : Nat) (xs : List Value) (hown : w.ownsRow base e size v n xs) (c : Nat) : (Builtin.append_ #[t, t] ty #[v, .slice none 0 c]).run P w = .ok v w := by
 rcases hown.2 with ⟨rfl, rfl⟩ | ⟨g, cap, cur, rfl, _, _, hnc, _⟩
 ·simp [Builtin.append_, run_underlying ht, sizeOf, typeInfo, hi, Builtin.lenOf, Builtin.firstCells]
 ·simp [Builtin.append_, run_underlying ht, sizeOf, typeInfo, hi, Builtin.lenOf, Builtin.firstCells, hnc, storeCells]
theorem run_append_src (base : Nat) (t ty e : TypeId) (i : TypeInfo) (z : Value) (size bytes : Nat) (ht : P.underlying t = some (.slice e)) (hi : P.info? e = some i) (hz : i.zero = some z)
  (hsize : i.size = size) (hby : i.bytes = bytes) (hzs : z.cells.size = size) (hsz : 0 < size)
  (v : Value) (n : Nat) (xs : List Value) (hown : w.ownsRow base e size v n xs)
  (A : Option Addr) (m c : Nat) (news : List Value) (hr : Src w A m size news) (h1 : ∀ u ∈ news, u.oneCell' = true)
  (h63 : n + m ≤ maxLen) (hbytes : (n + m) * bytes ≤ 140737488355328) (hbase : base ≤ w.heap.size) :
  ∃ v' w', (Builtin.append_ #[t, t] ty #[v, .slice A m c]).run P w = .ok v' w' ∧ w'.ownsRow base e size v' (n + m) (xs ++ news) ∧ w.grownBy w' v.ownBlock ∧
   (v'.ownBlock = v.ownBlock ∨ v'.ownBlock = some w.heap.size) := by
 rcases A with _ | ad
 ·have hm : m = 0 := by
   rcases Nat.eq_zero_or_pos m with h0 | h0
   ·exact h0
   ·obtain ⟨ad, h, _⟩ := hr.2 h0
    cases h
  subst hm
  have hn : news = [] := List.eq_nil_of_length_eq_zero (by simpa using hr.1)
  subst hn
  exact ⟨v, w, run_append_of_nil w base t ty e i size ht hi v n xs hown c, by simpa using hown, ⟨rfl, rfl, rfl, Nat.le_refl _, fun _ _ _ => rfl⟩, .inl rfl⟩
 ·have hcells : ∀ j u, news[j]? = some u → w.cell? (ad.add j) = some u := by
   intro j u hu
   rcases Nat.eq_zero_or_pos m with h0 | h0
   ·subst h0
    have hn : news = [] := List.eq_nil_of_length_eq_zero (by simpa using hr.1)
    subst hn
    simp at hu
   ·obtain ⟨ad', h, hc⟩ := hr.2 h0
    injection h with h
    subst h
    exact hc j u hu
  obtain ⟨v', w', hrun, h2, h3, _, h5⟩ := run_append_own_at (P := P) w base t ty e i z size bytes ht hi hz hsize hby hzs hsz v n xs hown ad m c news hr.1 hcells h1 h63 hbytes hbase
  exact ⟨v', w', hrun, h2, h3, h5⟩
theorem wp_append_src {o : Oper} {a : Act} {K : Act → World → Prop} {Q : Exit → Act → World → Prop} (s x : Operand) (t : TypeId)
  (ho : o.op = .call { callee := .builtin .append, args := #[s, x], argTypes := #[t, t] })
  (base : Nat) (e : TypeId) (i : TypeInfo) (z : Value) (size bytes : Nat) (ht : P.underlying t = some (.slice e)) (hi : P.info? e = some i) (hz : i.zero = some z)
  (hsize : i.size = size) (hby : i.bytes = bytes) (hzs : z.cells.size = size) (hsz : 0 < size)
  (v : Value) (n : Nat) (xs : List Value) (hs : a.eval s = v) (hown : w.ownsRow base e size v n xs)
  (A : Option Addr) (m c : Nat) (news : List Value) (hx : a.eval x = .slice A m c) (hr : Src w A m size news) (h1 : ∀ u ∈ news, u.oneCell' = true)
  (h63 : n + m ≤ maxLen) (hbytes : (n + m) * bytes ≤ 140737488355328) (hbase : base ≤ w.heap.size)
  (h : ∀ v' w', w'.ownsRow base e size v' (n + m) (xs ++ news) → w.grownBy w' v.ownBlock → (v'.ownBlock = v.ownBlock ∨ v'.ownBlock = some w.heap.size) → K (a.put o.dst v') w') : o.wp P a w K Q := by
 obtain ⟨v', w', hrun, h2, h3, h4⟩ := run_append_src (P := P) w base t o.type e i z size bytes ht hi hz hsize hby hzs hsz v n xs hown A m c news hr h1 h63 hbytes hbase
 unfold Oper.wp execOp
 simp only [ho, resolve, invoke, builtin, Sem.run_bind, Sem.run_pure, Result.andThen_ok, List.map_toArray, List.map_cons, List.map_nil, hs, hx, hrun]
 exact h v' w' h2 h3 h4
theorem wpList_append_src {ops : Array Oper} {rest : List Oper} {o : Oper} {a : Act} {Q : Exit → Act → World → Prop} (hgd : o.guard = none) (s x : Operand) (t : TypeId)
  (ho : o.op = .call { callee := .builtin .append, args := #[s, x], argTypes := #[t, t] })
  (base : Nat) (e : TypeId) (i : TypeInfo) (z : Value) (size bytes : Nat) (ht : P.underlying t = some (.slice e)) (hi : P.info? e = some i) (hz : i.zero = some z)
  (hsize : i.size = size) (hby : i.bytes = bytes) (hzs : z.cells.size = size) (hsz : 0 < size)
  (v : Value) (n : Nat) (xs : List Value) (hs : a.eval s = v) (hown : w.ownsRow base e size v n xs)
  (A : Option Addr) (m c : Nat) (news : List Value) (hx : a.eval x = .slice A m c) (hr : Src w A m size news) (h1 : ∀ u ∈ news, u.oneCell' = true)
  (h63 : n + m ≤ maxLen) (hbytes : (n + m) * bytes ≤ 140737488355328) (hbase : base ≤ w.heap.size)
  (h : ∀ v' w', w'.ownsRow base e size v' (n + m) (xs ++ news) → w.grownBy w' v.ownBlock → (v'.ownBlock = v.ownBlock ∨ v'.ownBlock = some w.heap.size) → wpList P ops Q rest (a.put o.dst v') w') : wpList P ops Q (o :: rest) a w :=
 wpList_plain hgd fun _ hK => wp_append_src w s x t ho base e i z size bytes ht hi hz hsize hby hzs hsz v n xs hs hown A m c news hx hr h1 h63 hbytes hbase fun v' w' h2 h3 h4 => hK _ _ (h v' w' h2 h3 h4)
theorem step_append_src {ops : Array Oper} {o : Oper} {a : Act} {K : Act → World → Prop} {Q : Exit → Act → World → Prop} {E : Prop} (hgd : o.guard = none) (s x : Operand) (t : TypeId)
  (ho : o.op = .call { callee := .builtin .append, args := #[s, x], argTypes := #[t, t] })
  (base : Nat) (e : TypeId) (i : TypeInfo) (z : Value) (size bytes : Nat) (ht : P.underlying t = some (.slice e)) (hi : P.info? e = some i) (hz : i.zero = some z)
  (hsize : i.size = size) (hby : i.bytes = bytes) (hzs : z.cells.size = size) (hsz : 0 < size)
  (v : Value) (n : Nat) (xs : List Value) (hs : a.eval s = v) (hown : w.ownsRow base e size v n xs)
  (A : Option Addr) (m c : Nat) (news : List Value) (hx : a.eval x = .slice A m c) (hr : Src w A m size news) (h1 : ∀ u ∈ news, u.oneCell' = true)
  (h63 : n + m ≤ maxLen) (hbytes : (n + m) * bytes ≤ 140737488355328) (hbase : base ≤ w.heap.size)
  (h : ∀ v' w', w'.ownsRow base e size v' (n + m) (xs ++ news) → w.grownBy w' v.ownBlock → (v'.ownBlock = v.ownBlock ∨ v'.ownBlock = some w.heap.size) → K (a.put o.dst v') w') :
  if Region.wanted o (yielded ops a.tmps) = true then Oper.wp P o a w K Q else E := by
 have hw : Region.wanted o (yielded ops a.tmps) = true := by simp [Region.wanted, hgd]
 rw [if_pos hw]
 exact wp_append_src w s x t ho base e i z size bytes ht hi hz hsize hby hzs hsz v n xs hs hown A m c news hx hr h1 h63 hbytes hbase h
end
def termCells : List Term → List Value
 | [] => []
 | t :: l => .int .i64 t.unit :: .int .i64 t.mask :: termCells l
theorem termCells_length (l : List Term) : (termCells l).length = l.length * 2 := by
 induction l with
 | nil => rfl
 | cons t l ih => simp [termCells, ih]; omega
theorem termCells_get {l : List Term} : ∀ {j : Nat} (h : j < l.length), (termCells l)[j * 2]? = some (.int .i64 l[j].unit) ∧ (termCells l)[j * 2 + 1]? = some (.int .i64 l[j].mask) := by
 induction l with
 | nil => intro j h; simp at h
 | cons t l ih =>
  intro j h
  cases j with
  | zero => simp [termCells]
  | succ j =>
   have := ih (j := j) (by simpa using h)
   have e : (j + 1) * 2 = j * 2 + 2 := by omega
   rw [e]
   simpa [termCells] using this
theorem SliceRd.src {w : World} {F : Nat → Prop} {A : Option Addr} {n cap : Nat} {l : List Term} (h : SliceRd tTerm w F (.slice A n cap) l) : n = l.length ∧ Src w A l.length 2 (termCells l) ∧ ∀ t ∈ l, I64 t.unit ∧ I64 t.mask := by
 obtain ⟨A', cap', hv, h1, h2, h3⟩ := h.terms
 injection hv with e1 e2 e3
 subst e1
 refine ⟨e2, ⟨termCells_length l, fun hm => ?_⟩, ?_⟩
 ·obtain ⟨g, o, hA, _⟩ := h3 0 hm
  refine ⟨⟨g, o, none⟩, hA, fun j u hu => ?_⟩
  have hj : j < l.length * 2 := by
   rw [← termCells_length]
   exact (List.getElem?_eq_some_iff.1 hu).1
  obtain ⟨g', o', hA', hF, c0, c1, _⟩ := h3 (j / 2) (by omega)
  rw [hA] at hA'
  injection hA' with hA'
  injection hA' with eg eo
  subst eg; subst eo
  rw [add_mk]
  obtain ⟨t0, t1⟩ := termCells_get (l := l) (j := j / 2) (by omega)
  rcases Nat.mod_two_eq_zero_or_one j with hp | hp
  ·have e : j = j / 2 * 2 := by omega
   rw [← e] at t0 c0
   rw [c0, ← hu, t0]
  ·have e : j = j / 2 * 2 + 1 := by omega
   rw [← e] at t1
   have c1' : w.cell? ⟨g, o + j, none⟩ = some (.int .i64 (l[j / 2]'(by omega)).mask) := by
    rw [← c1]
    congr 2
    omega
   rw [c1', ← hu, t1]
 ·intro t ht
  obtain ⟨k, hk, rfl⟩ := List.getElem_of_mem ht
  obtain ⟨_, _, _, _, _, _, i1, i2⟩ := h3 k hk
  exact ⟨i1, i2⟩
theorem own_ne {w : World} {B B' : Nat} {e e' : TypeId} {s s' n n' : Nat} {v v' : Value} {xs xs' : List Value} (h : w.ownsRow B e s v n xs) (h' : w.ownsRow B' e' s' v' n' xs') (hne : e ≠ e') :
  ∀ g, v.ownBlock = some g → v'.ownBlock ≠ some g := by
 intro g hg hg'
 rcases h.2 with ⟨rfl, _⟩ | ⟨a, cap, cur, rfl, _, hh, _⟩
 ·simp [Value.ownBlock] at hg
 ·rcases h'.2 with ⟨rfl, _⟩ | ⟨a', cap', cur', rfl, _, hh', _⟩
  ·simp [Value.ownBlock] at hg'
  ·simp only [Value.ownBlock, Option.some.injEq] at hg hg'
   subst hg; subst hg'
   rw [hh] at hh'
   injection hh' with hh'
   injection hh' with _ h2
   exact hne h2
theorem own_form {w : World} {B : Nat} {e : TypeId} {s n : Nat} {v : Value} {xs : List Value} (h : w.ownsRow B e s v n xs) : ∃ A c, v = .slice A n c := by
 rcases h.2 with ⟨rfl, rfl⟩ | ⟨a, cap, cur, rfl, _⟩
 ·exact ⟨none, 0, rfl⟩
 ·exact ⟨_, _, rfl⟩
theorem ownsRow_keep {w w' : World} {B : Nat} {e : TypeId} {s n : Nat} {v : Value} {xs : List Value} (h : w.ownsRow B e s v n xs) (hk : ∀ g, v.ownBlock = some g → w'.heap[g]? = w.heap[g]?) : w'.ownsRow B e s v n xs := by
 refine ⟨h.1, ?_⟩
 rcases h.2 with hn | ⟨g, cap, cur, rfl, hb, hg, rest⟩
 ·exact .inl hn
 ·exact .inr ⟨g, cap, cur, rfl, hb, (hk g rfl).trans hg, rest⟩
theorem ownsRow_below {w w' : World} {B M : Nat} {e : TypeId} {s n : Nat} {v : Value} {xs : List Value} (h : w.ownsRow B e s v n xs) (hb : Below M w w') (hM : ∀ g, v.ownBlock = some g → g < M) : w'.ownsRow B e s v n xs :=
 ownsRow_keep h fun g hg => hb.block g (hM g hg)
theorem rd_of_own {w : World} {B : Nat} {e : TypeId} {v : Value} {l : List Term} {F : Nat → Prop} (h : w.ownsRow B e 2 v l.length (termCells l)) (hi : ∀ t ∈ l, I64 t.unit ∧ I64 t.mask) (hF : ∀ g, v.ownBlock = some g → F g) : SliceRd tTerm w F v l := by
 rcases h.2 with ⟨rfl, hn⟩ | ⟨g, cap, cur, rfl, hb, hg, h1, h2, h3, h4⟩
 ·have : l = [] := List.eq_nil_of_length_eq_zero hn
  subst this
  exact SliceRd.nil _ _ _
 ·refine ⟨⟨some ⟨g, 0, none⟩, cap, rfl, h1, h2, fun k hk => ⟨g, 0, [.int .i64 l[k].unit, .int .i64 l[k].mask], rfl, hF g rfl, rfl, ?_, rfl, hi _ (List.getElem_mem hk)⟩⟩⟩
  intro j hj
  have hj' : j < 2 := hj
  obtain ⟨t0, t1⟩ := termCells_get hk
  rw [cell_of_row w g _ cur e (0, 0) hg]
  have hcur : ∀ i, i < l.length * 2 → cur[i]? = (termCells l)[i]? := by
   intro i hi
   rw [← h4, List.getElem?_take_of_lt hi, Array.getElem?_toList]
  show cur[0 + k * 2 + j]? = _
  rw [hcur _ (by omega)]
  match j, hj' with
  | 0, _ => rw [show 0 + k * 2 + 0 = k * 2 by omega, t0]; rfl
  | 1, _ => rw [show 0 + k * 2 + 1 = k * 2 + 1 by omega, t1]; rfl
end
section
def rowCells (r : Row) (tv : Value) : List Value := [.int .i64 r.kind, .int .i64 r.unit, .int .i64 r.a, .int .i64 r.b, tv]
def rowsCells : List Row → List Value → List Value
 | r :: l, tv :: tvs => rowCells r tv ++ rowsCells l tvs
 | _, _ => []
theorem rowsCells_snoc : ∀ (l : List Row) (tvs : List Value) (_ : tvs.length = l.length) (r : Row) (tv : Value), rowsCells (l ++ [r]) (tvs ++ [tv]) = rowsCells l tvs ++ rowCells r tv
 | [], [], _, r, tv => by simp [rowsCells]
 | x :: l, y :: tvs, h, r, tv => by
  have := rowsCells_snoc l tvs (by simpa using h) r tv
  simp [rowsCells, this]
 | [], _ :: _, h, _, _ => by simp at h
 | _ :: _, [], h, _, _ => by simp at h
theorem rowsCells_get : ∀ {l : List Row} {tvs : List Value} (_ : tvs.length = l.length) {k : Nat} (hk : k < l.length) (hk' : k < tvs.length) (j : Nat), j < 5 → (rowsCells l tvs)[k * 5 + j]? = (rowCells l[k] tvs[k])[j]?
 | r :: l, tv :: tvs, h, 0, _, _, j, hj => by
  simp only [rowsCells, Nat.zero_mul, Nat.zero_add]
  rw [List.getElem?_append_left (by simp [rowCells]; omega)]
  rfl
 | r :: l, tv :: tvs, h, k + 1, hk, hk', j, hj => by
  have := rowsCells_get (l := l) (tvs := tvs) (by simpa using h) (k := k) (by simpa using hk) (by simpa using hk') j hj
  simp only [rowsCells]
  rw [List.getElem?_append_right (by simp [rowCells]; omega)]
  have e : (k + 1) * 5 + j - (rowCells r tv).length = k * 5 + j := by simp [rowCells]; omega
  rw [e, this]
  rfl
 | [], _, _, _, hk, _, _, _ => by simp at hk
 | _ :: _, [], _, _, _, hk', _, _ => by simp at hk'
structure RowI (r : Row) : Prop where
 kind : I64 r.kind
 unit : I64 r.unit
 a : I64 r.a
 b : I64 r.b
 terms : ∀ t ∈ r.terms, I64 t.unit ∧ I64 t.mask
structure Copied (eR eT : TypeId) (w : World) (B : Nat) (v : Value) (l : List Row) (tvs : List Value) : Prop where
 ne : eR ≠ eT
 len : tvs.length = l.length
 own : w.ownsRow B eR 5 v l.length (rowsCells l tvs)
 ints : ∀ r ∈ l, RowI r
 terms : ∀ k, (h : k < l.length) → (h' : k < tvs.length) → w.ownsRow B eT 2 tvs[k] l[k].terms.length (termCells l[k].terms)
 apart : ∀ j k, (h : j < k) → (h' : k < tvs.length) → ∀ g, (tvs[j]'(by omega)).ownBlock = some g → tvs[k].ownBlock ≠ some g
theorem Copied.nil {eR eT : TypeId} (hne : eR ≠ eT) (w : World) (B : Nat) : Copied eR eT w B (.slice none 0 0) [] [] :=
 ⟨hne, rfl, ⟨rfl, .inl ⟨rfl, rfl⟩⟩, (fun r hr => by cases hr), (fun k h => by simp at h), (fun j k h h' => by simp at h')⟩
section
variable {eR eT : TypeId} {w w' : World} {B : Nat} {v : Value} {l : List Row} {tvs : List Value}
theorem Copied.keep (h : Copied eR eT w B v l tvs) (h0 : ∀ g, v.ownBlock = some g → w'.heap[g]? = w.heap[g]?) (h1 : ∀ k, (hk : k < tvs.length) → ∀ g, tvs[k].ownBlock = some g → w'.heap[g]? = w.heap[g]?) : Copied eR eT w' B v l tvs :=
 ⟨h.ne, h.len, ownsRow_keep h.own h0, h.ints, fun k hk hk' => ownsRow_keep (h.terms k hk hk') (h1 k hk'), h.apart⟩
theorem Copied.lt (h : Copied eR eT w B v l tvs) : (∀ g, v.ownBlock = some g → B ≤ g ∧ g < w.heap.size) ∧ ∀ k, (hk : k < tvs.length) → ∀ g, tvs[k].ownBlock = some g → B ≤ g ∧ g < w.heap.size :=
 ⟨fun g hg => h.own.lt g hg, fun k hk g hg => (h.terms k (by rw [← h.len]; exact hk) hk).lt g hg⟩
theorem Copied.below {M : Nat} (h : Copied eR eT w B v l tvs) (hb : Below M w w') (hM : w.heap.size ≤ M) : Copied eR eT w' B v l tvs :=
 h.keep (fun g hg => hb.block g (by have := (h.lt.1 g hg).2; omega)) (fun k hk g hg => hb.block g (by have := (h.lt.2 k hk g hg).2; omega))
theorem Copied.snoc {v' : Value} {r : Row} {tv : Value} (h : Copied eR eT w B v l tvs) (ho : w'.ownsRow B eR 5 v' (l.length + 1) (rowsCells l tvs ++ rowCells r tv)) (hg : w.grownBy w' v.ownBlock)
  (hr : RowI r) (ht : w.ownsRow B eT 2 tv r.terms.length (termCells r.terms)) (hap : ∀ k, (hk : k < tvs.length) → ∀ g, tvs[k].ownBlock = some g → tv.ownBlock ≠ some g) :
  Copied eR eT w' B v' (l ++ [r]) (tvs ++ [tv]) := by
 have hne : ∀ {n : Nat} {u : Value} {xs : List Value}, w.ownsRow B eT 2 u n xs → ∀ g, u.ownBlock = some g → w'.heap[g]? = w.heap[g]? := fun hu g hgu =>
  hg.block g (hu.lt g hgu).2 (fun e => own_ne h.own hu h.ne g e.symm hgu)
 refine ⟨h.ne, by simp [h.len], ?_, ?_, ?_, ?_⟩
 ·rw [rowsCells_snoc l tvs h.len, List.length_append]
  exact ho
 ·intro x hx
  rcases List.mem_append.1 hx with hx | hx
  ·exact h.ints x hx
  ·have : x = r := by simpa using hx
   subst this
   exact hr
 ·intro k hk hk'
  by_cases hkl : k < l.length
  ·have hkt : k < tvs.length := by rw [h.len]; exact hkl
   rw [List.getElem_append_left hkl, List.getElem_append_left hkt]
   exact ownsRow_keep (h.terms k hkl hkt) (hne (h.terms k hkl hkt))
  ·have e : k = l.length := by simp at hk; omega
   subst e
   have e2 : tvs.length = l.length := h.len
   have e3 : (l ++ [r])[l.length] = r := by simp
   have e4 : (tvs ++ [tv])[l.length]'hk' = tv := by
    rw [List.getElem_append_right (by omega)]
    simp [e2]
   rw [e3, e4]
   exact ownsRow_keep ht (hne ht)
 ·intro j k hjk hk' g hgj
  by_cases hkt : k < tvs.length
  ·rw [List.getElem_append_left hkt]
   rw [List.getElem_append_left (by omega)] at hgj
   exact h.apart j k hjk hkt g hgj
  ·have e : k = tvs.length := by simp at hk'; omega
   subst e
   rw [List.getElem_append_left hjk] at hgj
   have e4 : (tvs ++ [tv])[tvs.length]'hk' = tv := by simp
   rw [e4]
   exact hap j hjk g hgj
theorem Copied.rd (h : Copied eR eT w B v l tvs) {F : Nat → Prop} (hF : ∀ g, B ≤ g → g < w.heap.size → F g) : SliceRd tRow w F v l := by
 rcases h.own.2 with ⟨rfl, hn⟩ | ⟨g, cap, cur, rfl, hb, hg, h1, h2, h3, h4⟩
 ·have : l = [] := List.eq_nil_of_length_eq_zero hn
  subst this
  exact SliceRd.nil _ _ _
 ·have hgl := (h.lt.1 g rfl)
  refine ⟨⟨some ⟨g, 0, none⟩, cap, rfl, h1, h2, fun k hk => ?_⟩⟩
  have hkt : k < tvs.length := by rw [h.len]; exact hk
  refine ⟨g, 0, rowCells l[k] tvs[k], rfl, hF g hgl.1 hgl.2, rfl, ?_, tvs[k], rfl, ?_⟩
  ·intro j hj
   have hj' : j < 5 := hj
   rw [cell_of_row w g _ cur eR (0, 0) hg]
   have hcur : ∀ i, i < l.length * 5 → cur[i]? = (rowsCells l tvs)[i]? := by
    intro i hi
    rw [← h4, List.getElem?_take_of_lt hi, Array.getElem?_toList]
   show cur[0 + k * 5 + j]? = _
   rw [hcur _ (by omega), show 0 + k * 5 + j = k * 5 + j by omega]
   exact rowsCells_get h.len hk hkt j hj'
  ·have hi := h.ints _ (List.getElem_mem hk)
   refine ⟨hi.kind, hi.unit, hi.a, hi.b, rd_of_own (h.terms k hk hkt) hi.terms (fun g' hg' => ?_)⟩
   have := h.lt.2 k hkt g' hg'
   exact hF g' this.1 this.2
end
def Box (eR : TypeId) (w : World) (b : Nat) (r : Row) (tv : Value) : Prop := w.heap[b]? = some (.cells #[.int .i64 r.kind, .int .i64 r.unit, .int .i64 r.a, .int .i64 r.b, tv] eR (0, 0))
theorem Box.cells {eR : TypeId} {w : World} {b : Nat} {r : Row} {tv : Value} (h : Box eR w b r tv) :
  (w.cell? ⟨b, 0, none⟩ = some (.int .i64 r.kind) ∧ w.cell? ⟨b, 1, none⟩ = some (.int .i64 r.unit) ∧ w.cell? ⟨b, 2, none⟩ = some (.int .i64 r.a) ∧ w.cell? ⟨b, 3, none⟩ = some (.int .i64 r.b) ∧ w.cell? ⟨b, 4, none⟩ = some tv) ∧
  ∀ o, w.frozen? ⟨b, o, none⟩ = false := by
 unfold Box at h
 refine ⟨⟨?_, ?_, ?_, ?_, ?_⟩, fun o => frozen_of_row w b o _ eR h⟩ <;> rw [cell_of_row w b _ _ eR (0, 0) h] <;> rfl
theorem Box.lt {eR : TypeId} {w : World} {b : Nat} {r : Row} {tv : Value} (h : Box eR w b r tv) : b < w.heap.size := by
 unfold Box at h
 rcases Nat.lt_or_ge b w.heap.size with hlt | hge
 ·exact hlt
 ·rw [Array.getElem?_eq_none hge] at h; cases h
theorem Box.set {eR : TypeId} {w : World} {b : Nat} {r : Row} {tv : Value} (h : Box eR w b r tv) :
  (∀ x, Box eR (w.setCell ⟨b, 0, none⟩ (.int .i64 x)) b { r with kind := x } tv) ∧ (∀ x, Box eR (w.setCell ⟨b, 1, none⟩ (.int .i64 x)) b { r with unit := x } tv) ∧
  (∀ x, Box eR (w.setCell ⟨b, 2, none⟩ (.int .i64 x)) b { r with a := x } tv) ∧ (∀ x, Box eR (w.setCell ⟨b, 3, none⟩ (.int .i64 x)) b { r with b := x } tv) ∧
  (∀ tv' ts, Box eR (w.setCell ⟨b, 4, none⟩ tv') b { r with terms := ts } tv') := by
 unfold Box at h
 refine ⟨fun x => ?_, fun x => ?_, fun x => ?_, fun x => ?_, fun tv' ts => ?_⟩ <;> (unfold Box; rw [heap_setCell_same w b _ _ eR _ h]; rfl)
theorem Box.keep {eR : TypeId} {w w' : World} {b : Nat} {r : Row} {tv : Value} (h : Box eR w b r tv) (hk : w'.heap[b]? = w.heap[b]?) : Box eR w' b r tv := hk.trans h
theorem Box.new (eR : TypeId) (w : World) (r : Row) (tv : Value) : Box eR (w.alloc (.cells #[.int .i64 r.kind, .int .i64 r.unit, .int .i64 r.a, .int .i64 r.b, tv] eR)) w.heap.size r tv := heap_alloc_new w _
def Held (eR eT : TypeId) (B : Nat) (b n : Nat) (w : World) : Prop := ∃ (r : Row) (tv : Value), RowI r ∧ Box eR w b r tv ∧ w.ownsRow B eT 2 tv r.terms.length (termCells r.terms) ∧ r.terms.length ≤ n ∧ ∀ gg, tv.ownBlock = some gg → b < gg
theorem src_new {w : World} {n : Nat} (cs : Array Value) (e : TypeId) (hn : n = w.heap.size) (size : Nat) (news : List Value) (hs : news.length = size) (hc : cs.toList = news) : Src (w.alloc (.cells cs e)) (some ⟨n, 0, none⟩) 1 size news := by
 subst hn
 refine ⟨by omega, fun _ => ⟨_, rfl, fun j u hu => ?_⟩⟩
 rw [add_mk, Nat.zero_add, World.cell?_alloc_new, ← Array.getElem?_toList, hc]
 exact hu
end
end Go.Proofs.YthneiolcljnbeaaGreatDoor
