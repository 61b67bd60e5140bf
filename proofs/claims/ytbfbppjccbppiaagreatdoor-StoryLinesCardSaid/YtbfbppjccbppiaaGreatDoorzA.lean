import Derived.WalkKit
import Derived.WalkSpells
import Derived.WalkLawsBesides
import Derived.BigQuiet
import Derived.Deep.QuietTactic
import Derived.Handy
import Derived.Outline
import Derived.Maps.AppendAt
import Derived.Deep.AppendLies
import Derived.RegionTactic
import Derived.OwnWalk
import Derived.Deep.Quiet
import Derived.Test.YtbfbppjccbppiaaGreatDoorRows
namespace Go.Proofs.YtbfbppjccbppiaaGreatDoor
open Go Go.RowKit
section
theorem hid {p : Prop} (h : p) : Hid p := h
@[go_sem] theorem add_mk (g o n : Nat) : (⟨g, o, none⟩ : Addr).add n = ⟨g, o + n, none⟩ := by
 unfold Addr.add
 by_cases h : n = 0 <;> simp [h]
def qn2 (F : Nat → Prop) (w w' : World) : Prop := ∀ k, F k → w'.heap[k]? = w.heap[k]?
theorem qn2.of_below {B : Nat} {F : Nat → Prop} {w w' : World} (h : Below B w w') (hF : ∀ k, F k → k < B) : qn2 F w w' := fun k hk => h.block k (hF k hk)
theorem qn2.mono {F F' : Nat → Prop} {w w' : World} (h : qn2 F w w') (hF : ∀ k, F' k → F k) : qn2 F' w w' := fun k hk => h k (hF k hk)
theorem qn2.trans {F : Nat → Prop} {a b c : World} (h : qn2 F a b) (h' : qn2 F b c) : qn2 F a c := fun k hk => (h' k hk).trans (h k hk)
structure Ty (α : Type) where
 size : Nat
 rd : World → (Nat → Prop) → List Value → α → Prop
 len : ∀ {w F cs x}, rd w F cs x → cs.length = size
 keep : ∀ {w w' F cs x}, qn2 F w w' → rd w F cs x → rd w' F cs x
 more : ∀ {w} {F F' : Nat → Prop} {cs x}, (∀ k, F k → F' k) → rd w F cs x → rd w F' cs x
def I64 (n : Int) : Prop := -9223372036854775808 ≤ n ∧ n ≤ 9223372036854775807
def tInt : Ty Int where
 size := 1
 rd _ _ cs n := cs = [.int .i64 n] ∧ I64 n
 len h := by rw [h.1]; rfl
 keep _ h := h
 more _ h := h
def tBool : Ty Bool where
 size := 1
 rd _ _ cs b := cs = [.bool b]
 len h := by rw [h]; rfl
 keep _ h := h
 more _ h := h
def tStr : Ty ByteArray where
 size := 1
 rd _ _ cs s := cs = [.string s] ∧ s.size ≤ maxLen
 len h := by rw [h.1]; rfl
 keep _ h := h
 more _ h := h
structure SliceRd {α : Type} (t : Ty α) (w : World) (F : Nat → Prop) (v : Value) (l : List α) : Prop where
 shape : ∃ A cap, v = .slice A l.length cap ∧ l.length ≤ cap ∧ cap ≤ maxLen ∧
  ∀ k, (h : k < l.length) → ∃ g o cs, A = some ⟨g, o, none⟩ ∧ F g ∧ cs.length = t.size ∧ (∀ j, j < t.size → w.cell? ⟨g, o + k * t.size + j, none⟩ = cs[j]?) ∧ t.rd w F cs l[k]
theorem SliceRd.keep {α : Type} {t : Ty α} {w w' : World} {F : Nat → Prop} {v : Value} {l : List α} (hk : qn2 F w w') (h : SliceRd t w F v l) : SliceRd t w' F v l := by
 obtain ⟨A, cap, hv, h1, h2, h3⟩ := h.shape
 refine ⟨A, cap, hv, h1, h2, fun k hl => ?_⟩
 obtain ⟨g, o, cs, hA, hF, hc, hcell, hr⟩ := h3 k hl
 refine ⟨g, o, cs, hA, hF, hc, fun j hj => ?_, t.keep hk hr⟩
 rw [← hcell j hj]
 exact World.cell?_of_block (hk _ hF)
theorem SliceRd.more {α : Type} {t : Ty α} {w : World} {F F' : Nat → Prop} {v : Value} {l : List α} (hF : ∀ k, F k → F' k) (h : SliceRd t w F v l) : SliceRd t w F' v l := by
 obtain ⟨A, cap, hv, h1, h2, h3⟩ := h.shape
 refine ⟨A, cap, hv, h1, h2, fun k hl => ?_⟩
 obtain ⟨g, o, cs, hA, hFF, hc, hcell, hr⟩ := h3 k hl
 exact ⟨g, o, cs, hA, hF _ hFF, hc, hcell, t.more hF hr⟩
theorem SliceRd.nil {α : Type} (t : Ty α) (w : World) (F : Nat → Prop) : SliceRd t w F (.slice none 0 0) [] :=
 ⟨none, 0, rfl, Nat.le_refl _, by unfold maxLen; omega, fun k h => absurd h (by simp)⟩
def qk2 {α : Type} (t : Ty α) : Ty (List α) where
 size := 1
 rd w F cs l := ∃ v, cs = [v] ∧ SliceRd t w F v l
 len h := by obtain ⟨v, rfl, _⟩ := h; rfl
 keep hk h := by obtain ⟨v, rfl, h⟩ := h; exact ⟨v, rfl, h.keep hk⟩
 more hF h := by obtain ⟨v, rfl, h⟩ := h; exact ⟨v, rfl, h.more hF⟩
structure Term where
 unit : Int
 mask : Int
 deriving DecidableEq, Inhabited
structure Row where
 kind : Int
 unit : Int
 a : Int
 b : Int
 terms : List Term
 deriving DecidableEq, Inhabited
def qg1 : Ty Term where
 size := 2
 rd _ _ cs t := cs = [.int .i64 t.unit, .int .i64 t.mask] ∧ I64 t.unit ∧ I64 t.mask
 len h := by rw [h.1]; rfl
 keep _ h := h
 more _ h := h
def tRow : Ty Row where
 size := 5
 rd w F cs r := ∃ v, cs = [.int .i64 r.kind, .int .i64 r.unit, .int .i64 r.a, .int .i64 r.b, v] ∧ I64 r.kind ∧ I64 r.unit ∧ I64 r.a ∧ I64 r.b ∧ SliceRd qg1 w F v r.terms
 len h := by obtain ⟨v, rfl, _⟩ := h; rfl
 keep hk h := by obtain ⟨v, h0, h1, h2, h3, h4, h5⟩ := h; exact ⟨v, h0, h1, h2, h3, h4, h5.keep hk⟩
 more hF h := by obtain ⟨v, h0, h1, h2, h3, h4, h5⟩ := h; exact ⟨v, h0, h1, h2, h3, h4, h5.more hF⟩
theorem SliceRd.terms {w : World} {F : Nat → Prop} {v : Value} {l : List Term} (h : SliceRd qg1 w F v l) :
  ∃ A cap, v = .slice A l.length cap ∧ l.length ≤ cap ∧ cap ≤ maxLen ∧
   ∀ k, (hk : k < l.length) → ∃ g o, A = some ⟨g, o, none⟩ ∧ F g ∧ w.cell? ⟨g, o + k * 2, none⟩ = some (.int .i64 l[k].unit) ∧ w.cell? ⟨g, o + k * 2 + 1, none⟩ = some (.int .i64 l[k].mask) ∧ I64 l[k].unit ∧ I64 l[k].mask := by
 obtain ⟨A, cap, hv, h1, h2, h3⟩ := h.shape
 refine ⟨A, cap, hv, h1, h2, fun k hk => ?_⟩
 obtain ⟨g, o, cs, hA, hF, hc, hcell, rfl, hi, hj⟩ := h3 k hk
 exact ⟨g, o, hA, hF, hcell 0 (by show 0 < 2; omega), hcell 1 (by show 1 < 2; omega), hi, hj⟩
theorem SliceRd.rows {w : World} {F : Nat → Prop} {v : Value} {l : List Row} (h : SliceRd tRow w F v l) :
  ∃ A cap, v = .slice A l.length cap ∧ l.length ≤ cap ∧ cap ≤ maxLen ∧
   ∀ k, (hk : k < l.length) → ∃ g o tv, A = some ⟨g, o, none⟩ ∧ F g ∧ w.cell? ⟨g, o + k * 5, none⟩ = some (.int .i64 l[k].kind) ∧ w.cell? ⟨g, o + k * 5 + 1, none⟩ = some (.int .i64 l[k].unit) ∧
    w.cell? ⟨g, o + k * 5 + 2, none⟩ = some (.int .i64 l[k].a) ∧ w.cell? ⟨g, o + k * 5 + 3, none⟩ = some (.int .i64 l[k].b) ∧ w.cell? ⟨g, o + k * 5 + 4, none⟩ = some tv ∧
    (I64 l[k].kind ∧ I64 l[k].unit ∧ I64 l[k].a ∧ I64 l[k].b) ∧ SliceRd qg1 w F tv l[k].terms := by
 obtain ⟨A, cap, hv, h1, h2, h3⟩ := h.shape
 refine ⟨A, cap, hv, h1, h2, fun k hk => ?_⟩
 obtain ⟨g, o, cs, hA, hF, hc, hcell, tv, rfl, i0, i1, i2, i3, ht⟩ := h3 k hk
 exact ⟨g, o, tv, hA, hF, hcell 0 (by show 0 < 5; omega), hcell 1 (by show 1 < 5; omega), hcell 2 (by show 2 < 5; omega), hcell 3 (by show 3 < 5; omega), hcell 4 (by show 4 < 5; omega), ⟨i0, i1, i2, i3⟩, ht⟩
theorem cell_below {B : Nat} {w w' : World} (hb : Below B w w') {g o : Nat} {v : Value} (hg : g < B) (h : w.cell? ⟨g, o, none⟩ = some v) : w'.cell? ⟨g, o, none⟩ = some v := (hb.cell (p := ⟨g, o, none⟩) hg).trans h
theorem not_dec_t {P : Prop} [Decidable P] (h : (!decide P) = true) : ¬ P := by simpa using h
theorem not_dec_f {P : Prop} [Decidable P] (h : (!decide P) = false) : P := by simpa using h
def Lt (B : Nat) : Nat → Prop := fun k => k < B
theorem SliceRd.below {α : Type} {t : Ty α} {B : Nat} {w w' : World} {v : Value} {l : List α} (hb : Below B w w') (h : SliceRd t w (Lt B) v l) : SliceRd t w' (Lt B) v l :=
 h.keep (qn2.of_below hb fun _ h => h)
theorem SliceRd.lift {α : Type} {t : Ty α} {B B' : Nat} {w w' : World} {v : Value} {l : List α} (h : SliceRd t w (Lt B) v l) (hb : Below B w w') (hB : B ≤ B') : SliceRd t w' (Lt B') v l :=
 (h.below hb).more fun _ hk => Nat.lt_of_lt_of_le hk hB
theorem qb4 {W w1 : World} (hb : Below W.heap.size W w1) : (∀ b o, b < W.heap.size → w1.cell? ⟨b, o, none⟩ = W.cell? ⟨b, o, none⟩) ∧ (∀ b o, b < W.heap.size → w1.frozen? ⟨b, o, none⟩ = W.frozen? ⟨b, o, none⟩) :=
 ⟨fun b o h => hb.cell (p := ⟨b, o, none⟩) h, fun b o h => hb.frozen (p := ⟨b, o, none⟩) h⟩
theorem below_drewN {B : Nat} {a w : World} (h : Below B a w) (n : Nat) : Below B a (w.drewN n) := ⟨h.os, h.tape, h.output, h.size, h.block⟩
end
section
structure NsOk (ns : List Nat) : Prop where
 lo : 2 ≤ ns.length
 hi : ns.length ≤ 11
 le : ∀ k, (h : k < ns.length) → ns[k] ≤ 4
def pw (i : Nat) : Int := ((2 ^ i : Nat) : Int)
theorem pw_succ (i : Nat) : pw (i + 1) = pw i * 2 := by unfold pw; rw [Nat.pow_succ]; push_cast; rfl
theorem pw_bd {i : Nat} (h : i ≤ 17) : 1 ≤ pw i ∧ pw i ≤ 131072 := by
 unfold pw
 have h1 : 2 ^ i ≤ 2 ^ 17 := Nat.pow_le_pow_right (by decide) h
 have h2 : 0 < 2 ^ i := Nat.pow_pos (by decide)
 have h3 : 2 ^ 17 = 131072 := by decide
 omega
def qj5 (ns : List Nat) (u : Int) : Int := if u < 0 ∨ (ns.length : Int) ≤ u then 0 else pw (ns[u.toNat]?.getD 0 + 1) - 1
def qi7 (w : World) (F : Nat → Prop) (v : Value) (ns : List Nat) : Prop :=
 ∃ g cap, v = .agg #[.slice (some ⟨g, 0, none⟩) ns.length cap] ∧ F g ∧ ∀ k, (hk : k < ns.length) → ∃ A c, w.cell? ⟨g, k * 3 + 2, none⟩ = some (.slice A ns[k] c)
theorem qi7.keep {w w' : World} {F : Nat → Prop} {v : Value} {ns : List Nat} (hk : ∀ k, F k → w'.heap[k]? = w.heap[k]?) (h : qi7 w F v ns) : qi7 w' F v ns := by
 obtain ⟨g, cap, hv, hF, hc⟩ := h
 refine ⟨g, cap, hv, hF, fun k hk' => ?_⟩
 obtain ⟨A, c, h1⟩ := hc k hk'
 exact ⟨A, c, (World.cell?_of_block (hk g hF)).trans h1⟩
theorem qi7.more {w : World} {F F' : Nat → Prop} {v : Value} {ns : List Nat} (h : qi7 w F v ns) (hF : ∀ k, F k → F' k) : qi7 w F' v ns := by
 obtain ⟨g, cap, hv, hf, hc⟩ := h
 exact ⟨g, cap, hv, hF _ hf, hc⟩
theorem qi7.below {w w' : World} {B : Nat} {v : Value} {ns : List Nat} (h : qi7 w (Lt B) v ns) (hb : Below B w w') : qi7 w' (Lt B) v ns := h.keep fun k hk => hb.block k hk
end
section
def Src (w : World) (A : Option Addr) (m : Nat) (size : Nat) (news : List Value) : Prop :=
 news.length = m * size ∧ (0 < m → ∃ ad, A = some ad ∧ ∀ j u, news[j]? = some u → w.cell? (ad.add j) = some u)
section
variable {P : Program} (w : World)
theorem zd3 (base : Nat) (t ty e : TypeId) (i : TypeInfo) (size : Nat) (ht : P.underlying t = some (.slice e)) (hi : P.info? e = some i)
  (v : Value) (n : Nat) (xs : List Value) (hown : w.ownsRow base e size v n xs) (c : Nat) : (Builtin.append_ #[t, t] ty #[v, .slice none 0 c]).run P w = .ok v w := by
 rcases hown.2 with ⟨rfl, rfl⟩ | ⟨g, cap, cur, rfl, _, _, hnc, _⟩
 ·simp [Builtin.append_, run_underlying ht, sizeOf, typeInfo, hi, Builtin.lenOf, Builtin.firstCells]
 ·simp [Builtin.append_, run_underlying ht, sizeOf, typeInfo, hi, Builtin.lenOf, Builtin.firstCells, hnc, storeCells]
theorem zl9 (base : Nat) (t ty e : TypeId) (i : TypeInfo) (z : Value) (size bytes : Nat) (ht : P.underlying t = some (.slice e)) (hi : P.info? e = some i) (hz : i.zero = some z)
  (hsize : i.size = size) (hby : i.bytes = bytes) (hzs : z.cells.size = size) (hsz : 0 < size)
  (v : Value) (n : Nat) (xs : List Value) (hown : w.ownsRow base e size v n xs)
  (A : Option Addr) (m c : Nat) (news : List Value) (hr : Src w A m size news) (h1 : ∀ u ∈ news, u.oneCell' = true)
  (h63 : n + m ≤ maxLen) (hbytes : (n + m) * bytes ≤ 140737488355328) (hbase : base ≤ w.heap.size) :
  ∃ v' w', (Builtin.append_ #[t, t] ty #[v, .slice A m c]).run P w = .ok v' w' ∧ w'.ownsRow base e size v' (n + m) (xs ++ news) ∧ w.grownBy w' v.ownBlock ∧
   (v'.ownBlock = v.ownBlock ∨ v'.ownBlock = some w.heap.size) := by
 rcases A with _ | ad
 ·have hm : m = 0 := by
   rcases Nat.eq_zero_or_pos m with h0 | h0
   ·exact h0
   ·obtain ⟨ad, h, _⟩ := hr.2 h0
    cases h
  subst hm
  have hn : news = [] := List.eq_nil_of_length_eq_zero (by simpa using hr.1)
  subst hn
  exact ⟨v, w, zd3 w base t ty e i size ht hi v n xs hown c, by simpa using hown, ⟨rfl, rfl, rfl, Nat.le_refl _, fun _ _ _ => rfl⟩, .inl rfl⟩
 ·have hcells : ∀ j u, news[j]? = some u → w.cell? (ad.add j) = some u := by
   intro j u hu
   rcases Nat.eq_zero_or_pos m with h0 | h0
   ·subst h0
    have hn : news = [] := List.eq_nil_of_length_eq_zero (by simpa using hr.1)
    subst hn
    simp at hu
   ·obtain ⟨ad', h, hc⟩ := hr.2 h0
    injection h with h
    subst h
    exact hc j u hu
  obtain ⟨v', w', hrun, h2, h3, _, h5⟩ := run_append_own_at (P := P) w base t ty e i z size bytes ht hi hz hsize hby hzs hsz v n xs hown ad m c news hr.1 hcells h1 h63 hbytes hbase
  exact ⟨v', w', hrun, h2, h3, h5⟩
theorem zb3 {o : Oper} {a : Act} {K : Act → World → Prop} {Q : Exit → Act → World → Prop} (s x : Operand) (t : TypeId)
  (ho : o.op = .call { callee := .builtin .append, args := #[s, x], argTypes := #[t, t] })
  (base : Nat) (e : TypeId) (i : TypeInfo) (z : Value) (size bytes : Nat) (ht : P.underlying t = some (.slice e)) (hi : P.info? e = some i) (hz : i.zero = some z)
  (hsize : i.size = size) (hby : i.bytes = bytes) (hzs : z.cells.size = size) (hsz : 0 < size)
  (v : Value) (n : Nat) (xs : List Value) (hs : a.eval s = v) (hown : w.ownsRow base e size v n xs)
  (A : Option Addr) (m c : Nat) (news : List Value) (hx : a.eval x = .slice A m c) (hr : Src w A m size news) (h1 : ∀ u ∈ news, u.oneCell' = true)
  (h63 : n + m ≤ maxLen) (hbytes : (n + m) * bytes ≤ 140737488355328) (hbase : base ≤ w.heap.size)
  (h : ∀ v' w', w'.ownsRow base e size v' (n + m) (xs ++ news) → w.grownBy w' v.ownBlock → (v'.ownBlock = v.ownBlock ∨ v'.ownBlock = some w.heap.size) → K (a.put o.dst v') w') : o.wp P a w K Q := by
 obtain ⟨v', w', hrun, h2, h3, h4⟩ := zl9 (P := P) w base t o.type e i z size bytes ht hi hz hsize hby hzs hsz v n xs hown A m c news hr h1 h63 hbytes hbase
 unfold Oper.wp execOp
 simp only [ho, resolve, invoke, builtin, Sem.run_bind, Sem.run_pure, Result.andThen_ok, List.map_toArray, List.map_cons, List.map_nil, hs, hx, hrun]
 exact h v' w' h2 h3 h4
theorem qa5 {ops : Array Oper} {rest : List Oper} {o : Oper} {a : Act} {Q : Exit → Act → World → Prop} (hgd : o.guard = none) (s x : Operand) (t : TypeId)
  (ho : o.op = .call { callee := .builtin .append, args := #[s, x], argTypes := #[t, t] })
  (base : Nat) (e : TypeId) (i : TypeInfo) (z : Value) (size bytes : Nat) (ht : P.underlying t = some (.slice e)) (hi : P.info? e = some i) (hz : i.zero = some z)
  (hsize : i.size = size) (hby : i.bytes = bytes) (hzs : z.cells.size = size) (hsz : 0 < size)
  (v : Value) (n : Nat) (xs : List Value) (hs : a.eval s = v) (hown : w.ownsRow base e size v n xs)
  (A : Option Addr) (m c : Nat) (news : List Value) (hx : a.eval x = .slice A m c) (hr : Src w A m size news) (h1 : ∀ u ∈ news, u.oneCell' = true)
  (h63 : n + m ≤ maxLen) (hbytes : (n + m) * bytes ≤ 140737488355328) (hbase : base ≤ w.heap.size)
  (h : ∀ v' w', w'.ownsRow base e size v' (n + m) (xs ++ news) → w.grownBy w' v.ownBlock → (v'.ownBlock = v.ownBlock ∨ v'.ownBlock = some w.heap.size) → wpList P ops Q rest (a.put o.dst v') w') : wpList P ops Q (o :: rest) a w :=
 wpList_plain hgd fun _ hK => zb3 w s x t ho base e i z size bytes ht hi hz hsize hby hzs hsz v n xs hs hown A m c news hx hr h1 h63 hbytes hbase fun v' w' h2 h3 h4 => hK _ _ (h v' w' h2 h3 h4)
theorem qa9 {ops : Array Oper} {o : Oper} {a : Act} {K : Act → World → Prop} {Q : Exit → Act → World → Prop} {E : Prop} (hgd : o.guard = none) (s x : Operand) (t : TypeId)
  (ho : o.op = .call { callee := .builtin .append, args := #[s, x], argTypes := #[t, t] })
  (base : Nat) (e : TypeId) (i : TypeInfo) (z : Value) (size bytes : Nat) (ht : P.underlying t = some (.slice e)) (hi : P.info? e = some i) (hz : i.zero = some z)
  (hsize : i.size = size) (hby : i.bytes = bytes) (hzs : z.cells.size = size) (hsz : 0 < size)
  (v : Value) (n : Nat) (xs : List Value) (hs : a.eval s = v) (hown : w.ownsRow base e size v n xs)
  (A : Option Addr) (m c : Nat) (news : List Value) (hx : a.eval x = .slice A m c) (hr : Src w A m size news) (h1 : ∀ u ∈ news, u.oneCell' = true)
  (h63 : n + m ≤ maxLen) (hbytes : (n + m) * bytes ≤ 140737488355328) (hbase : base ≤ w.heap.size)
  (h : ∀ v' w', w'.ownsRow base e size v' (n + m) (xs ++ news) → w.grownBy w' v.ownBlock → (v'.ownBlock = v.ownBlock ∨ v'.ownBlock = some w.heap.size) → K (a.put o.dst v') w') :
  if Region.wanted o (yielded ops a.tmps) = true then Oper.wp P o a w K Q else E := by
 have hw : Region.wanted o (yielded ops a.tmps) = true := by simp [Region.wanted, hgd]
 rw [if_pos hw]
 exact zb3 w s x t ho base e i z size bytes ht hi hz hsize hby hzs hsz v n xs hs hown A m c news hx hr h1 h63 hbytes hbase h
end
def qb2 : List Term → List Value
 | [] => []
 | t :: l => .int .i64 t.unit :: .int .i64 t.mask :: qb2 l
theorem qs2 (l : List Term) : (qb2 l).length = l.length * 2 := by
 induction l with
 | nil => rfl
 | cons t l ih => simp [qb2, ih]; omega
theorem qs1 (l m : List Term) : qb2 (l ++ m) = qb2 l ++ qb2 m := by
 induction l with
 | nil => rfl
 | cons t l ih => simp [qb2, ih]
theorem qr7 {l : List Term} : ∀ u ∈ qb2 l, u.oneCell' = true := by
 induction l with
 | nil => intro u hu; cases hu
 | cons t l ih =>
  intro u hu
  simp only [qb2, List.mem_cons] at hu
  rcases hu with rfl | rfl | hu
  ·rfl
  ·rfl
  ·exact ih u hu
theorem qr6 {l : List Term} : ∀ {j : Nat} (h : j < l.length), (qb2 l)[j * 2]? = some (.int .i64 l[j].unit) ∧ (qb2 l)[j * 2 + 1]? = some (.int .i64 l[j].mask) := by
 induction l with
 | nil => intro j h; simp at h
 | cons t l ih =>
  intro j h
  cases j with
  | zero => simp [qb2]
  | succ j =>
   have := ih (j := j) (by simpa using h)
   have e : (j + 1) * 2 = j * 2 + 2 := by omega
   rw [e]
   simpa [qb2] using this
theorem SliceRd.src {w : World} {F : Nat → Prop} {A : Option Addr} {n cap : Nat} {l : List Term} (h : SliceRd qg1 w F (.slice A n cap) l) : n = l.length ∧ Src w A l.length 2 (qb2 l) ∧ ∀ t ∈ l, I64 t.unit ∧ I64 t.mask := by
 obtain ⟨A', cap', hv, h1, h2, h3⟩ := h.terms
 injection hv with e1 e2 e3
 subst e1
 refine ⟨e2, ⟨qs2 l, fun hm => ?_⟩, ?_⟩
 ·obtain ⟨g, o, hA, _⟩ := h3 0 hm
  refine ⟨⟨g, o, none⟩, hA, fun j u hu => ?_⟩
  have hj : j < l.length * 2 := by
   rw [← qs2]
   exact (List.getElem?_eq_some_iff.1 hu).1
  obtain ⟨g', o', hA', hF, c0, c1, _⟩ := h3 (j / 2) (by omega)
  rw [hA] at hA'
  injection hA' with hA'
  injection hA' with eg eo
  subst eg; subst eo
  rw [add_mk]
  obtain ⟨t0, t1⟩ := qr6 (l := l) (j := j / 2) (by omega)
  rcases Nat.mod_two_eq_zero_or_one j with hp | hp
  ·have e : j = j / 2 * 2 := by omega
   rw [← e] at t0 c0
   rw [c0, ← hu, t0]
  ·have e : j = j / 2 * 2 + 1 := by omega
   rw [← e] at t1
   have c1' : w.cell? ⟨g, o + j, none⟩ = some (.int .i64 (l[j / 2]'(by omega)).mask) := by
    rw [← c1]
    congr 2
    omega
   rw [c1', ← hu, t1]
 ·intro t ht
  obtain ⟨k, hk, rfl⟩ := List.getElem_of_mem ht
  obtain ⟨_, _, _, _, _, _, i1, i2⟩ := h3 k hk
  exact ⟨i1, i2⟩
theorem own_ne {w : World} {B B' : Nat} {e e' : TypeId} {s s' n n' : Nat} {v v' : Value} {xs xs' : List Value} (h : w.ownsRow B e s v n xs) (h' : w.ownsRow B' e' s' v' n' xs') (hne : e ≠ e') :
  ∀ g, v.ownBlock = some g → v'.ownBlock ≠ some g := by
 intro g hg hg'
 rcases h.2 with ⟨rfl, _⟩ | ⟨a, cap, cur, rfl, _, hh, _⟩
 ·simp [Value.ownBlock] at hg
 ·rcases h'.2 with ⟨rfl, _⟩ | ⟨a', cap', cur', rfl, _, hh', _⟩
  ·simp [Value.ownBlock] at hg'
  ·simp only [Value.ownBlock, Option.some.injEq] at hg hg'
   subst hg; subst hg'
   rw [hh] at hh'
   injection hh' with hh'
   injection hh' with _ h2
   exact hne h2
theorem qb1 {w : World} {B : Nat} {e : TypeId} {s n : Nat} {v : Value} {xs : List Value} (h : w.ownsRow B e s v n xs) : ∃ A c, v = .slice A n c := by
 rcases h.2 with ⟨rfl, rfl⟩ | ⟨a, cap, cur, rfl, _⟩
 ·exact ⟨none, 0, rfl⟩
 ·exact ⟨_, _, rfl⟩
theorem qb3 {w w' : World} {B : Nat} {e : TypeId} {s n : Nat} {v : Value} {xs : List Value} (h : w.ownsRow B e s v n xs) (hk : ∀ g, v.ownBlock = some g → w'.heap[g]? = w.heap[g]?) : w'.ownsRow B e s v n xs := by
 refine ⟨h.1, ?_⟩
 rcases h.2 with hn | ⟨g, cap, cur, rfl, hb, hg, rest⟩
 ·exact .inl hn
 ·exact .inr ⟨g, cap, cur, rfl, hb, (hk g rfl).trans hg, rest⟩
theorem ownsRow_below {w w' : World} {B M : Nat} {e : TypeId} {s n : Nat} {v : Value} {xs : List Value} (h : w.ownsRow B e s v n xs) (hb : Below M w w') (hM : ∀ g, v.ownBlock = some g → g < M) : w'.ownsRow B e s v n xs :=
 qb3 h fun g hg => hb.block g (hM g hg)
theorem rd_of_own {w : World} {B : Nat} {e : TypeId} {v : Value} {l : List Term} {F : Nat → Prop} (h : w.ownsRow B e 2 v l.length (qb2 l)) (hi : ∀ t ∈ l, I64 t.unit ∧ I64 t.mask) (hF : ∀ g, v.ownBlock = some g → F g) : SliceRd qg1 w F v l := by
 rcases h.2 with ⟨rfl, hn⟩ | ⟨g, cap, cur, rfl, hb, hg, h1, h2, h3, h4⟩
 ·have : l = [] := List.eq_nil_of_length_eq_zero hn
  subst this
  exact SliceRd.nil _ _ _
 ·refine ⟨⟨some ⟨g, 0, none⟩, cap, rfl, h1, h2, fun k hk => ⟨g, 0, [.int .i64 l[k].unit, .int .i64 l[k].mask], rfl, hF g rfl, rfl, ?_, rfl, hi _ (List.getElem_mem hk)⟩⟩⟩
  intro j hj
  have hj' : j < 2 := hj
  obtain ⟨t0, t1⟩ := qr6 hk
  rw [cell_of_row w g _ cur e (0, 0) hg]
  have hcur : ∀ i, i < l.length * 2 → cur[i]? = (qb2 l)[i]? := by
   intro i hi
   rw [← h4, List.getElem?_take_of_lt hi, Array.getElem?_toList]
  show cur[0 + k * 2 + j]? = _
  rw [hcur _ (by omega)]
  match j, hj' with
  | 0, _ => rw [show 0 + k * 2 + 0 = k * 2 by omega, t0]; rfl
  | 1, _ => rw [show 0 + k * 2 + 1 = k * 2 + 1 by omega, t1]; rfl
end
section
def qe0 (r : Row) (tv : Value) : List Value := [.int .i64 r.kind, .int .i64 r.unit, .int .i64 r.a, .int .i64 r.b, tv]
def qd2 : List Row → List Value → List Value
 | r :: l, tv :: tvs => qe0 r tv ++ qd2 l tvs
 | _, _ => []
theorem qw7 : ∀ (l : List Row) (tvs : List Value) (_ : tvs.length = l.length) (r : Row) (tv : Value), qd2 (l ++ [r]) (tvs ++ [tv]) = qd2 l tvs ++ qe0 r tv
 | [], [], _, r, tv => by simp [qd2]
 | x :: l, y :: tvs, h, r, tv => by
  have := qw7 l tvs (by simpa using h) r tv
  simp [qd2, this]
 | [], _ :: _, h, _, _ => by simp at h
 | _ :: _, [], h, _, _ => by simp at h
theorem qj0 : ∀ {l : List Row} {tvs : List Value} (_ : tvs.length = l.length) {k : Nat} (hk : k < l.length) (hk' : k < tvs.length) (j : Nat), j < 5 → (qd2 l tvs)[k * 5 + j]? = (qe0 l[k] tvs[k])[j]?
 | r :: l, tv :: tvs, h, 0, _, _, j, hj => by
  simp only [qd2, Nat.zero_mul, Nat.zero_add]
  rw [List.getElem?_append_left (by simp [qe0]; omega)]
  rfl
 | r :: l, tv :: tvs, h, k + 1, hk, hk', j, hj => by
  have := qj0 (l := l) (tvs := tvs) (by simpa using h) (k := k) (by simpa using hk) (by simpa using hk') j hj
  simp only [qd2]
  rw [List.getElem?_append_right (by simp [qe0]; omega)]
  have e : (k + 1) * 5 + j - (qe0 r tv).length = k * 5 + j := by simp [qe0]; omega
  rw [e, this]
  rfl
 | [], _, _, _, hk, _, _, _ => by simp at hk
 | _ :: _, [], _, _, _, hk', _, _ => by simp at hk'
structure RowI (r : Row) : Prop where
 kind : I64 r.kind
 unit : I64 r.unit
 a : I64 r.a
 b : I64 r.b
 terms : ∀ t ∈ r.terms, I64 t.unit ∧ I64 t.mask
structure Copied (eR eT : TypeId) (w : World) (B : Nat) (v : Value) (l : List Row) (tvs : List Value) : Prop where
 ne : eR ≠ eT
 len : tvs.length = l.length
 own : w.ownsRow B eR 5 v l.length (qd2 l tvs)
 ints : ∀ r ∈ l, RowI r
 terms : ∀ k, (h : k < l.length) → (h' : k < tvs.length) → w.ownsRow B eT 2 tvs[k] l[k].terms.length (qb2 l[k].terms)
 apart : ∀ j k, (h : j < k) → (h' : k < tvs.length) → ∀ g, (tvs[j]'(by omega)).ownBlock = some g → tvs[k].ownBlock ≠ some g
theorem Copied.nil {eR eT : TypeId} (hne : eR ≠ eT) (w : World) (B : Nat) : Copied eR eT w B (.slice none 0 0) [] [] :=
 ⟨hne, rfl, ⟨rfl, .inl ⟨rfl, rfl⟩⟩, (fun r hr => by cases hr), (fun k h => by simp at h), (fun j k h h' => by simp at h')⟩
section
variable {eR eT : TypeId} {w w' : World} {B : Nat} {v : Value} {l : List Row} {tvs : List Value}
theorem Copied.keep (h : Copied eR eT w B v l tvs) (h0 : ∀ g, v.ownBlock = some g → w'.heap[g]? = w.heap[g]?) (h1 : ∀ k, (hk : k < tvs.length) → ∀ g, tvs[k].ownBlock = some g → w'.heap[g]? = w.heap[g]?) : Copied eR eT w' B v l tvs :=
 ⟨h.ne, h.len, qb3 h.own h0, h.ints, fun k hk hk' => qb3 (h.terms k hk hk') (h1 k hk'), h.apart⟩
theorem Copied.lt (h : Copied eR eT w B v l tvs) : (∀ g, v.ownBlock = some g → B ≤ g ∧ g < w.heap.size) ∧ ∀ k, (hk : k < tvs.length) → ∀ g, tvs[k].ownBlock = some g → B ≤ g ∧ g < w.heap.size :=
 ⟨fun g hg => h.own.lt g hg, fun k hk g hg => (h.terms k (by rw [← h.len]; exact hk) hk).lt g hg⟩
theorem Copied.below {M : Nat} (h : Copied eR eT w B v l tvs) (hb : Below M w w') (hM : w.heap.size ≤ M) : Copied eR eT w' B v l tvs :=
 h.keep (fun g hg => hb.block g (by have := (h.lt.1 g hg).2; omega)) (fun k hk g hg => hb.block g (by have := (h.lt.2 k hk g hg).2; omega))
theorem Copied.snoc {v' : Value} {r : Row} {tv : Value} (h : Copied eR eT w B v l tvs) (ho : w'.ownsRow B eR 5 v' (l.length + 1) (qd2 l tvs ++ qe0 r tv)) (hg : w.grownBy w' v.ownBlock)
  (hr : RowI r) (ht : w.ownsRow B eT 2 tv r.terms.length (qb2 r.terms)) (hap : ∀ k, (hk : k < tvs.length) → ∀ g, tvs[k].ownBlock = some g → tv.ownBlock ≠ some g) :
  Copied eR eT w' B v' (l ++ [r]) (tvs ++ [tv]) := by
 have hne : ∀ {n : Nat} {u : Value} {xs : List Value}, w.ownsRow B eT 2 u n xs → ∀ g, u.ownBlock = some g → w'.heap[g]? = w.heap[g]? := fun hu g hgu =>
  hg.block g (hu.lt g hgu).2 (fun e => own_ne h.own hu h.ne g e.symm hgu)
 refine ⟨h.ne, by simp [h.len], ?_, ?_, ?_, ?_⟩
 ·rw [qw7 l tvs h.len, List.length_append]
  exact ho
 ·intro x hx
  rcases List.mem_append.1 hx with hx | hx
  ·exact h.ints x hx
  ·have : x = r := by simpa using hx
   subst this
   exact hr
 ·intro k hk hk'
  by_cases hkl : k < l.length
  ·have hkt : k < tvs.length := by rw [h.len]; exact hkl
   rw [List.getElem_append_left hkl, List.getElem_append_left hkt]
   exact qb3 (h.terms k hkl hkt) (hne (h.terms k hkl hkt))
  ·have e : k = l.length := by simp at hk; omega
   subst e
   have e2 : tvs.length = l.length := h.len
   have e3 : (l ++ [r])[l.length] = r := by simp
   have e4 : (tvs ++ [tv])[l.length]'hk' = tv := by
    rw [List.getElem_append_right (by omega)]
    simp [e2]
   rw [e3, e4]
   exact qb3 ht (hne ht)
 ·intro j k hjk hk' g hgj
  by_cases hkt : k < tvs.length
  ·rw [List.getElem_append_left hkt]
   rw [List.getElem_append_left (by omega)] at hgj
   exact h.apart j k hjk hkt g hgj
  ·have e : k = tvs.length := by simp at hk'; omega
   subst e
   rw [List.getElem_append_left hjk] at hgj
   have e4 : (tvs ++ [tv])[tvs.length]'hk' = tv := by simp
   rw [e4]
   exact hap j hjk g hgj
theorem Copied.rd (h : Copied eR eT w B v l tvs) {F : Nat → Prop} (hF : ∀ g, B ≤ g → g < w.heap.size → F g) : SliceRd tRow w F v l := by
 rcases h.own.2 with ⟨rfl, hn⟩ | ⟨g, cap, cur, rfl, hb, hg, h1, h2, h3, h4⟩
 ·have : l = [] := List.eq_nil_of_length_eq_zero hn
  subst this
  exact SliceRd.nil _ _ _
 ·have hgl := (h.lt.1 g rfl)
  refine ⟨⟨some ⟨g, 0, none⟩, cap, rfl, h1, h2, fun k hk => ?_⟩⟩
  have hkt : k < tvs.length := by rw [h.len]; exact hk
  refine ⟨g, 0, qe0 l[k] tvs[k], rfl, hF g hgl.1 hgl.2, rfl, ?_, tvs[k], rfl, ?_⟩
  ·intro j hj
   have hj' : j < 5 := hj
   rw [cell_of_row w g _ cur eR (0, 0) hg]
   have hcur : ∀ i, i < l.length * 5 → cur[i]? = (qd2 l tvs)[i]? := by
    intro i hi
    rw [← h4, List.getElem?_take_of_lt hi, Array.getElem?_toList]
   show cur[0 + k * 5 + j]? = _
   rw [hcur _ (by omega), show 0 + k * 5 + j = k * 5 + j by omega]
   exact qj0 h.len hk hkt j hj'
  ·have hi := h.ints _ (List.getElem_mem hk)
   refine ⟨hi.kind, hi.unit, hi.a, hi.b, rd_of_own (h.terms k hk hkt) hi.terms (fun g' hg' => ?_)⟩
   have := h.lt.2 k hkt g' hg'
   exact hF g' this.1 this.2
end
def Box (eR : TypeId) (w : World) (b : Nat) (r : Row) (tv : Value) : Prop := w.heap[b]? = some (.cells #[.int .i64 r.kind, .int .i64 r.unit, .int .i64 r.a, .int .i64 r.b, tv] eR (0, 0))
theorem Box.cells {eR : TypeId} {w : World} {b : Nat} {r : Row} {tv : Value} (h : Box eR w b r tv) :
  (w.cell? ⟨b, 0, none⟩ = some (.int .i64 r.kind) ∧ w.cell? ⟨b, 1, none⟩ = some (.int .i64 r.unit) ∧ w.cell? ⟨b, 2, none⟩ = some (.int .i64 r.a) ∧ w.cell? ⟨b, 3, none⟩ = some (.int .i64 r.b) ∧ w.cell? ⟨b, 4, none⟩ = some tv) ∧
  ∀ o, w.frozen? ⟨b, o, none⟩ = false := by
 unfold Box at h
 refine ⟨⟨?_, ?_, ?_, ?_, ?_⟩, fun o => frozen_of_row w b o _ eR h⟩ <;> rw [cell_of_row w b _ _ eR (0, 0) h] <;> rfl
theorem Box.lt {eR : TypeId} {w : World} {b : Nat} {r : Row} {tv : Value} (h : Box eR w b r tv) : b < w.heap.size := by
 unfold Box at h
 rcases Nat.lt_or_ge b w.heap.size with hlt | hge
 ·exact hlt
 ·rw [Array.getElem?_eq_none hge] at h; cases h
theorem Box.set {eR : TypeId} {w : World} {b : Nat} {r : Row} {tv : Value} (h : Box eR w b r tv) :
  (∀ x, Box eR (w.setCell ⟨b, 0, none⟩ (.int .i64 x)) b { r with kind := x } tv) ∧ (∀ x, Box eR (w.setCell ⟨b, 1, none⟩ (.int .i64 x)) b { r with unit := x } tv) ∧
  (∀ x, Box eR (w.setCell ⟨b, 2, none⟩ (.int .i64 x)) b { r with a := x } tv) ∧ (∀ x, Box eR (w.setCell ⟨b, 3, none⟩ (.int .i64 x)) b { r with b := x } tv) ∧
  (∀ tv' ts, Box eR (w.setCell ⟨b, 4, none⟩ tv') b { r with terms := ts } tv') := by
 unfold Box at h
 refine ⟨fun x => ?_, fun x => ?_, fun x => ?_, fun x => ?_, fun tv' ts => ?_⟩ <;> (unfold Box; rw [heap_setCell_same w b _ _ eR _ h]; rfl)
theorem Box.keep {eR : TypeId} {w w' : World} {b : Nat} {r : Row} {tv : Value} (h : Box eR w b r tv) (hk : w'.heap[b]? = w.heap[b]?) : Box eR w' b r tv := hk.trans h
theorem Box.new (eR : TypeId) (w : World) (r : Row) (tv : Value) : Box eR (w.alloc (.cells #[.int .i64 r.kind, .int .i64 r.unit, .int .i64 r.a, .int .i64 r.b, tv] eR)) w.heap.size r tv := heap_alloc_new w _
theorem Box.new' (eR : TypeId) (w : World) (k u a b : Int) (tv : Value) (ts : List Term) : Box eR (w.alloc (.cells #[.int .i64 k, .int .i64 u, .int .i64 a, .int .i64 b, tv] eR)).drew w.heap.size ⟨k, u, a, b, ts⟩ tv := heap_alloc_new w _
theorem rowI_mk {k u a b : Int} (hk : 0 ≤ k ∧ k ≤ 1000000) (hu : 0 ≤ u ∧ u ≤ 1000000) (ha : 0 ≤ a ∧ a ≤ 1000000) (hb : 0 ≤ b ∧ b ≤ 1000000) : RowI ⟨k, u, a, b, []⟩ :=
 ⟨⟨by show _ ≤ k; omega, by show k ≤ _; omega⟩, ⟨by show _ ≤ u; omega, by show u ≤ _; omega⟩, ⟨by show _ ≤ a; omega, by show a ≤ _; omega⟩, ⟨by show _ ≤ b; omega, by show b ≤ _; omega⟩, by intro t ht; cases ht⟩
theorem append_facts {wc w1 : World} {O : Obj} {b : Nat} {v : Value} (hb : b < wc.heap.size) (hv : ∀ gg, v.ownBlock = some gg → b < gg) (hg1 : ((wc.alloc O).drew).grownBy w1 v.ownBlock) :
  Below (b + 1) wc w1 ∧ wc.heap.size < w1.heap.size := by
 have h0 : Below (b + 1) wc ((wc.alloc O).drew) := ((Below.refl _ _).alloc (by omega) _).drew
 refine ⟨h0.grown hg1 (by simp; omega) (fun k hk => by have := hv k hk; omega), ?_⟩
 have := hg1.size
 simp at this
 omega
def Held (eR eT : TypeId) (B : Nat) (b n : Nat) (w : World) : Prop := ∃ (r : Row) (tv : Value), RowI r ∧ Box eR w b r tv ∧ w.ownsRow B eT 2 tv r.terms.length (qb2 r.terms) ∧ r.terms.length ≤ n ∧ ∀ gg, tv.ownBlock = some gg → b < gg
theorem inner_step {eR eT : TypeId} {wo wc w1 : World} {B u n : Nat} {r : Row} {tv v1 : Value} {t : Term} (hbu : Below wo.heap.size wo wc) (hB1 : Below (wo.heap.size + 1) wc w1)
  (hz1 : wc.heap.size < w1.heap.size) (hblt : wo.heap.size < wc.heap.size) (hbox : Box eR wc wo.heap.size r tv) (hown1 : w1.ownsRow B eT 2 v1 (r.terms.length + 1) (qb2 r.terms ++ qb2 [t]))
  (htb : ∀ gg, tv.ownBlock = some gg → wo.heap.size < gg) (hat1 : v1.ownBlock = tv.ownBlock ∨ v1.ownBlock = some n) (hn : wo.heap.size < n) (hr : RowI r) (ht : I64 t.unit ∧ I64 t.mask) (hlen : r.terms.length ≤ u) :
  Below wo.heap.size wo (w1.setCell ⟨wo.heap.size, 4, none⟩ v1) ∧ Hid (wo.heap.size < (w1.setCell ⟨wo.heap.size, 4, none⟩ v1).heap.size) ∧ Hid (Held eR eT B wo.heap.size (u + 1) (w1.setCell ⟨wo.heap.size, 4, none⟩ v1)) := by
 have hv1 : ∀ gg, v1.ownBlock = some gg → wo.heap.size < gg := by
  intro gg hg
  rcases hat1 with h | h
  ·exact htb gg (h ▸ hg)
  ·rw [h] at hg; cases hg; exact hn
 refine ⟨(hbu.trans (hB1.mono (by omega))).setCell (p := ⟨wo.heap.size, 4, none⟩) (Nat.le_refl _) _, by unfold Hid; simp; omega, ?_⟩
 refine ⟨{ r with terms := r.terms ++ [t] }, v1, ⟨hr.kind, hr.unit, hr.a, hr.b, ?_⟩, ?_, ?_, ?_, hv1⟩
 ·intro x hx
  rcases List.mem_append.1 hx with hx | hx
  ·exact hr.terms x hx
  ·have : x = t := by simpa using hx
   subst this; exact ht
 ·exact ((hbox.keep (hB1.block _ (by omega))).set).2.2.2.2 _ _
 ·show (w1.setCell ⟨wo.heap.size, 4, none⟩ v1).ownsRow B eT 2 v1 (r.terms ++ [t]).length (qb2 (r.terms ++ [t]))
  rw [qs1, List.length_append]
  refine qb3 hown1 (fun g hg => heap_setCell_other _ _ _ _ ?_)
  have := hv1 g hg
  show g ≠ wo.heap.size
  omega
 ·show (r.terms ++ [t]).length ≤ u + 1
  rw [List.length_append]
  simp
  exact hlen
theorem own_two {w : World} {B : Nat} (eT : TypeId) (t : Term) (hB : B ≤ w.heap.size) : (w.alloc (.cells #[.int .i64 t.unit, .int .i64 t.mask] eT)).ownsRow B eT 2 (.slice (some ⟨w.heap.size, 0, none⟩) 1 1) 1 (qb2 [t]) :=
 ⟨rfl, .inr ⟨w.heap.size, 1, #[.int .i64 t.unit, .int .i64 t.mask], rfl, hB, heap_alloc_new w _, Nat.le_refl _, by unfold maxLen; omega, rfl, rfl⟩⟩
theorem one_step {eR eT : TypeId} {wo wc : World} {B : Nat} {r : Row} {tv : Value} (t : Term) (hbu : Below wo.heap.size wo wc) (hblt : wo.heap.size < wc.heap.size) (hbox : Box eR wc wo.heap.size r tv) (hr : RowI r) (hB : B ≤ wo.heap.size) (ht : I64 t.unit ∧ I64 t.mask) :
  Below wo.heap.size wo ((wc.setCell ⟨wo.heap.size, 4, none⟩ (.slice (some ⟨wc.heap.size, 0, none⟩) 1 1)).alloc (.cells #[.int .i64 t.unit, .int .i64 t.mask] eT)) ∧
  Hid (wo.heap.size < ((wc.setCell ⟨wo.heap.size, 4, none⟩ (.slice (some ⟨wc.heap.size, 0, none⟩) 1 1)).alloc (.cells #[.int .i64 t.unit, .int .i64 t.mask] eT)).heap.size) ∧
  Hid (Held eR eT B wo.heap.size 7 ((wc.setCell ⟨wo.heap.size, 4, none⟩ (.slice (some ⟨wc.heap.size, 0, none⟩) 1 1)).alloc (.cells #[.int .i64 t.unit, .int .i64 t.mask] eT))) := by
 refine ⟨(hbu.setCell (p := ⟨wo.heap.size, 4, none⟩) (Nat.le_refl _) _).alloc (by simp; omega) _, by unfold Hid; simp; omega, ?_⟩
 refine ⟨{ r with terms := [t] }, _, ⟨hr.kind, hr.unit, hr.a, hr.b, ?_⟩, (hbox.set.2.2.2.2 _ [t]).keep (Below.heap_alloc _ _ _ (by simpa using hblt)), ?_, ?_, ?_⟩
 ·intro x hx
  have : x = t := by simpa using hx
  subst this; exact ht
 ·have := own_two (w := wc.setCell ⟨wo.heap.size, 4, none⟩ (.slice (some ⟨wc.heap.size, 0, none⟩) 1 1)) (B := B) eT t (by simp; omega)
  simpa using this
 ·show 1 ≤ 7
  omega
 ·intro gg hg
  simp only [Value.ownBlock, Option.some.injEq] at hg
  omega
theorem zc7 {eR eT : TypeId} {w wo wc w2 : World} {B : Nat} {v v2 : Value} {L : List Row} {tvs : List Value} {r : Row} {tv : Value} {O : Obj} (hb : Below B w wo) (hcop : Copied eR eT wo B v L tvs) (hbu : Below wo.heap.size wo wc)
  (hown : wc.ownsRow B eT 2 tv r.terms.length (qb2 r.terms)) (htb : ∀ gg, tv.ownBlock = some gg → wo.heap.size < gg) (hr : RowI r) (hB : B ≤ wo.heap.size)
  (hg2 : (wc.alloc O).grownBy w2 v.ownBlock) (hown2 : w2.ownsRow B eR 5 v2 (L.length + 1) (qd2 L tvs ++ qe0 r tv)) :
  Below B w w2 ∧ Copied eR eT w2 B v2 (L ++ [r]) (tvs ++ [tv]) := by
 have hbA : Below wo.heap.size wo (wc.alloc O) := hbu.alloc hbu.size _
 refine ⟨(hb.trans (hbA.mono hB)).grown hg2 (Nat.le_trans hB hbA.size) (fun k hk => (hcop.lt.1 k hk).1), (hcop.below hbA (Nat.le_refl _)).snoc hown2 hg2 hr (hown.alloc _) ?_⟩
 intro k hk g hg hgt
 have h1 := (hcop.lt.2 k hk g hg).2
 have h2 := htb g hgt
 omega
theorem zr1 (x : Int) : I64 (IntKind.i64.wrap x) := by
 rw [IntKind.wrap_i64]
 unfold I64
 omega
theorem pow_pos_ (u : Nat) : (1 : Int) ≤ 2 ^ u := by
 have h : 0 < 2 ^ u := Nat.pow_pos (by omega)
 have : ((2 ^ u : Nat) : Int) = (2 : Int) ^ u := by simp
 omega
theorem i64_shift {x : Int} (u : Nat) (h : I64 x) : I64 (x / 2 ^ u) := by
 obtain ⟨h1, h2⟩ := h
 have hp := pow_pos_ u
 rcases Int.le_total 0 x with h0 | h0
 ·have a := Int.ediv_le_self (2 ^ u : Int) h0
  have b := Int.ediv_nonneg (b := (2 ^ u : Int)) h0 (by omega)
  exact ⟨by omega, by omega⟩
 ·have a : x ≤ x / 2 ^ u := Int.le_ediv_of_mul_le (by omega) (by
   have := Int.mul_le_mul_of_nonpos_left (a := x) (b := (2 ^ u : Int)) (c := 1) h0 hp
   omega)
  have b : x / 2 ^ u ≤ 0 := by
   have := Int.ediv_le_ediv (c := (2 ^ u : Int)) (by omega) h0
   simpa using this
  exact ⟨by omega, by omega⟩
theorem qe1 {w : World} {n : Nat} (cs : Array Value) (e : TypeId) (hn : n = w.heap.size) (size : Nat) (news : List Value) (hs : news.length = size) (hc : cs.toList = news) : Src (w.alloc (.cells cs e)) (some ⟨n, 0, none⟩) 1 size news := by
 subst hn
 refine ⟨by omega, fun _ => ⟨_, rfl, fun j u hu => ?_⟩⟩
 rw [add_mk, Nat.zero_add, World.cell?_alloc_new, ← Array.getElem?_toList, hc]
 exact hu
theorem copied_step {eR eT : TypeId} {wr w1 : World} {B : Nat} {v : Value} {L : List Row} {tvs : List Value} {r : Row} {A1 : Option Addr} {c1 : Nat} {box : Obj}
  (hcop : Copied eR eT wr B v L tvs) (_ : B ≤ wr.heap.size) (hr : RowI r)
  (hg1 : (wr.alloc box).grownBy w1 (Value.slice none 0 0).ownBlock)
  (hown1 : w1.ownsRow B eT 2 (.slice A1 (0 + r.terms.length) c1) (0 + r.terms.length) ([] ++ qb2 r.terms))
  (hat1 : (Value.slice A1 (0 + r.terms.length) c1).ownBlock = (Value.slice none 0 0).ownBlock ∨ (Value.slice A1 (0 + r.terms.length) c1).ownBlock = some (wr.alloc box).heap.size) (off : Nat) (u : Value) (o2 : Obj) :
  Below wr.heap.size wr ((w1.setCell ⟨wr.heap.size, off, none⟩ u).alloc o2) ∧
  ∀ w2 v2, (((w1.setCell ⟨wr.heap.size, off, none⟩ u).alloc o2).grownBy w2 v.ownBlock → w2.ownsRow B eR 5 v2 (L.length + 1) (qd2 L tvs ++ qe0 r (.slice A1 r.terms.length c1)) → Copied eR eT w2 B v2 (L ++ [r]) (tvs ++ [.slice A1 r.terms.length c1])) := by
 simp only [Nat.zero_add, List.nil_append] at hown1 hat1
 have hz1 : wr.heap.size + 1 ≤ w1.heap.size := by have := hg1.size; simpa using this
 have hB1 : Below wr.heap.size wr w1 := ((Below.refl _ _).alloc (Nat.le_refl _) _).grown hg1 (by simp) (by intro k h; cases h)
 have hB2 : Below wr.heap.size wr ((w1.setCell ⟨wr.heap.size, off, none⟩ u).alloc o2) := (hB1.setCell (p := ⟨wr.heap.size, off, none⟩) (Nat.le_refl _) u).alloc (by simp; omega) _
 refine ⟨hB2, fun w2 v2 hg2 hown2 => ?_⟩
 refine (hcop.below hB2 (Nat.le_refl _)).snoc hown2 hg2 hr ?_ ?_
 ·refine qb3 hown1 (fun g hg => ?_)
  have hl := (hown1.lt g hg).2
  have hne : g ≠ wr.heap.size := by
   rcases hat1 with h | h
   ·rw [h] at hg; cases hg
   ·rw [h] at hg; simp at hg; omega
  rw [Below.heap_alloc _ _ _ (by simpa using hl)]
  exact heap_setCell_other _ _ _ _ hne
 ·intro k hk g hg hgt
  have h1 := (hcop.lt.2 k hk g hg).2
  rcases hat1 with h | h
  ·rw [h] at hgt; cases hgt
  ·rw [h] at hgt; simp at hgt; omega
end
section
structure Flat (α : Type) where
 size : Nat
 cells : α → List Value
 ok : α → Prop
 len : ∀ x, (cells x).length = size
 one : ∀ x, ∀ u ∈ cells x, u.oneCell' = true
 pos : 0 < size
section
variable {α : Type}
def Flat.ty (f : Flat α) : Ty α where
 size := f.size
 rd _ _ cs x := cs = f.cells x ∧ f.ok x
 len h := by rw [h.1, f.len]
 keep _ h := h
 more _ h := h
def Flat.all (f : Flat α) (l : List α) : List Value := l.flatMap f.cells
theorem Flat.all_nil (f : Flat α) : f.all [] = [] := rfl
theorem Flat.all_cons (f : Flat α) (x : α) (l : List α) : f.all (x :: l) = f.cells x ++ f.all l := rfl
theorem Flat.all_length (f : Flat α) (l : List α) : (f.all l).length = l.length * f.size := by
 induction l with
 | nil => simp [Flat.all]
 | cons x l ih => rw [f.all_cons, List.length_append, f.len, ih, List.length_cons, Nat.add_mul]; omega
theorem Flat.all_append (f : Flat α) (l m : List α) : f.all (l ++ m) = f.all l ++ f.all m := by simp [Flat.all]
theorem Flat.all_snoc (f : Flat α) (l : List α) (x : α) : f.all (l ++ [x]) = f.all l ++ f.cells x := by simp [Flat.all]
theorem Flat.all_one (f : Flat α) (l : List α) : ∀ u ∈ f.all l, u.oneCell' = true := by
 intro u hu
 obtain ⟨x, _, hx⟩ := List.mem_flatMap.1 hu
 exact f.one x u hx
theorem Flat.all_get (f : Flat α) {l : List α} : ∀ {k : Nat} (hk : k < l.length) {j : Nat}, j < f.size → (f.all l)[k * f.size + j]? = (f.cells l[k])[j]? := by
 induction l with
 | nil => intro k hk; simp at hk
 | cons x l ih =>
  intro k hk j hj
  cases k with
  | zero =>
   rw [f.all_cons, Nat.zero_mul, Nat.zero_add, List.getElem?_append_left (by rw [f.len]; exact hj)]
   rfl
  | succ k =>
   have := ih (k := k) (by simpa using hk) hj
   rw [f.all_cons, List.getElem?_append_right (by rw [f.len, Nat.add_mul]; omega), f.len]
   have e : (k + 1) * f.size + j - f.size = k * f.size + j := by rw [Nat.add_mul]; omega
   rw [e, this]
   rfl
theorem SliceRd.flat {f : Flat α} {w : World} {F : Nat → Prop} {v : Value} {l : List α} (h : SliceRd f.ty w F v l) :
  ∃ A cap, v = .slice A l.length cap ∧ l.length ≤ cap ∧ cap ≤ maxLen ∧
   ∀ k, (hk : k < l.length) → ∃ g o, A = some ⟨g, o, none⟩ ∧ F g ∧ f.ok l[k] ∧ ∀ j u, (f.cells l[k])[j]? = some u → w.cell? ⟨g, o + k * f.size + j, none⟩ = some u := by
 obtain ⟨A, cap, hv, h1, h2, h3⟩ := h.shape
 refine ⟨A, cap, hv, h1, h2, fun k hk => ?_⟩
 obtain ⟨g, o, cs, hA, hF, hc, hcell, rfl, hi⟩ := h3 k hk
 refine ⟨g, o, hA, hF, hi, fun j u hu => ?_⟩
 have hj : j < f.size := by
  rw [← f.len l[k]]
  exact (List.getElem?_eq_some_iff.1 hu).1
 exact (hcell j hj).trans hu
theorem SliceRd.srcF {f : Flat α} {w : World} {F : Nat → Prop} {A : Option Addr} {n cap : Nat} {l : List α} (h : SliceRd f.ty w F (.slice A n cap) l) : n = l.length ∧ Src w A l.length f.size (f.all l) ∧ ∀ x ∈ l, f.ok x := by
 obtain ⟨A', cap', hv, h1, h2, h3⟩ := h.flat
 injection hv with e1 e2 e3
 subst e1
 refine ⟨e2, ⟨f.all_length l, fun hm => ?_⟩, ?_⟩
 ·obtain ⟨g, o, hA, _⟩ := h3 0 hm
  refine ⟨⟨g, o, none⟩, hA, fun j u hu => ?_⟩
  have hj : j < l.length * f.size := by
   rw [← f.all_length]
   exact (List.getElem?_eq_some_iff.1 hu).1
  have hp := f.pos
  have hq : j / f.size < l.length := (Nat.div_lt_iff_lt_mul hp).2 hj
  obtain ⟨g', o', hA', hF, _, hc⟩ := h3 (j / f.size) hq
  rw [hA] at hA'
  injection hA' with hA'
  injection hA' with eg eo
  subst eg; subst eo
  rw [add_mk]
  have hr : j % f.size < f.size := Nat.mod_lt _ hp
  have e : j / f.size * f.size + j % f.size = j := by rw [Nat.mul_comm]; exact Nat.div_add_mod _ _
  have h4 := f.all_get hq hr
  rw [e, hu] at h4
  have h5 := hc _ _ h4.symm
  rwa [Nat.add_assoc, e] at h5
 ·intro x hx
  obtain ⟨k, hk, rfl⟩ := List.getElem_of_mem hx
  obtain ⟨_, _, _, _, hi, _⟩ := h3 k hk
  exact hi
theorem qf8 {f : Flat α} {w : World} {B : Nat} {e : TypeId} {v : Value} {l : List α} {F : Nat → Prop} (h : w.ownsRow B e f.size v l.length (f.all l)) (hi : ∀ x ∈ l, f.ok x) (hF : ∀ g, v.ownBlock = some g → F g) : SliceRd f.ty w F v l := by
 rcases h.2 with ⟨rfl, hn⟩ | ⟨g, cap, cur, rfl, hb, hg, h1, h2, h3, h4⟩
 ·have : l = [] := List.eq_nil_of_length_eq_zero hn
  subst this
  exact SliceRd.nil _ _ _
 ·refine ⟨⟨some ⟨g, 0, none⟩, cap, rfl, h1, h2, fun k hk => ⟨g, 0, f.cells l[k], rfl, hF g rfl, f.len _, ?_, rfl, hi _ (List.getElem_mem hk)⟩⟩⟩
  intro j hj
  have hj' : j < f.size := hj
  rw [cell_of_row w g _ cur e (0, 0) hg]
  have hlt : k * f.size + j < l.length * f.size := by
   have : (k + 1) * f.size ≤ l.length * f.size := Nat.mul_le_mul_right _ hk
   rw [Nat.add_mul] at this
   omega
  have hcur : cur[k * f.size + j]? = (f.all l)[k * f.size + j]? := by
   rw [← h4, List.getElem?_take_of_lt hlt, Array.getElem?_toList]
  show cur[0 + k * f.size + j]? = _
  rw [Nat.zero_add, hcur]
  exact f.all_get hk hj'
end
def fInt : Flat Int := ⟨1, fun n => [.int .i64 n], I64, fun _ => rfl, fun _ u h => by simp at h; subst h; rfl, by decide⟩
def fStr : Flat ByteArray := ⟨1, fun s => [.string s], fun s => s.size ≤ maxLen, fun _ => rfl, fun _ u h => by simp at h; subst h; rfl, by decide⟩
def qd9 : Flat Term := ⟨2, fun t => [.int .i64 t.unit, .int .i64 t.mask], fun t => I64 t.unit ∧ I64 t.mask, fun _ => rfl, fun _ u h => by simp at h; rcases h with rfl | rfl <;> rfl, by decide⟩
theorem fTerm_ty : qd9.ty = qg1 := rfl
theorem fTerm_all (l : List Term) : qd9.all l = qb2 l := by
 induction l with
 | nil => rfl
 | cons t l ih => rw [qd9.all_cons, ih]; rfl
@[go_sem] theorem yu (f : (b : Bool) → (fun _ => Option Bool) (some (Value.bool b))) (g : (x : Option Value) → (fun _ => Option Bool) x) : Go.yielded.match_1 (fun _ => Option Bool) (some undef) f g = g (some undef) := rfl
theorem qe4 {w : World} {B : Nat} {e : TypeId} {s n : Nat} {v : Value} {xs : List Value} (h : w.ownsRow B e s v n xs) (o : Obj) : ((w.alloc o).drew).ownsRow B e s v n xs := h.alloc o
theorem qh8 {w : World} {n : Nat} (cs : Array Value) (e : TypeId) (hn : n = w.heap.size) (size : Nat) (news : List Value) (hs : news.length = size) (hc : cs.toList = news) : Src ((w.alloc (.cells cs e)).drew) (some ⟨n, 0, none⟩) 1 size news := qe1 cs e hn size news hs hc
theorem qc9 {P : Program} {ops : Array Oper} {o : Oper} {a : Act} {w : World} {K : Act → World → Prop} {Q : Exit → Act → World → Prop} {E : Prop} (s x : Operand) (t : TypeId)
  (_ho : o.op = .call { callee := .builtin .append, args := #[s, x], argTypes := #[t, t] })
  (h : if Region.wanted o (yielded ops a.tmps) = true then Oper.wp P o a w K Q else E) : if Region.wanted o (yielded ops a.tmps) = true then Oper.wp P o a w K Q else E := h
section
variable {w w1 w2 : World}
theorem b0 (w : World) : Below w.heap.size w w := Below.refl _ _
theorem qa1 (h : Below w.heap.size w w1) (h2 : Below w1.heap.size w1 w2) : Below w.heap.size w w2 := h.trans (h2.mono h.size)
theorem qa0 (h : Below w.heap.size w w1) (o : Obj) : Below w.heap.size w (w1.alloc o) := h.alloc h.size o
theorem qe6 (h : Below w.heap.size w w1) : Below w.heap.size w w1.drew := h.drew
theorem bset (h : Below w.heap.size w w1) {p : Addr} (hp : w.heap.size ≤ p.block) (v : Value) : Below w.heap.size w (w1.setCell p v) := h.setCell hp v
end
end
section
def Later (w : World) : Type := { w' : World // Below w.heap.size w w' }
instance {w : World} : Nonempty (Later w) := ⟨⟨w, b0 w⟩⟩
def Later.w {w : World} (e : Later w) : World := e.1
theorem Later.below {w : World} (e : Later w) : Below w.heap.size w e.w := e.2
theorem qa3 {P : Program} {id : Nat} {Q : Exit → Act → World → Prop} {a : Act} {w : World} {l : List Oper} (hm : P.follows .mixedOrders = true) (hB : Region.lexB .any l.toArray = true)
  (h : wpQuiet P l.toArray (fun w' => ∃ e : Later w, w' = e.w) (fun a' => ∀ w', (∃ e : Later w, w' = e.w) → Q .normal a' w') l a) : (Code.region id l.toArray true).wp P Q a w :=
 wp_region_quiet (C := fun w' => ∃ e : Later w, w' = e.w) hm hB ⟨⟨_, (b0 w).drew⟩, rfl⟩ (by simpa using h)
theorem Calls.later {P : Program} {f : FuncId} {args : Array Value} {w : World} {e : Later w} {u v : Value}
  (h : Calls P f args e.w fun x w' => x = .returned u ∧ Below e.w.heap.size e.w w') (hu : u = v) : Calls P f args e.w fun x w'' => x = .returned v ∧ ∃ e2 : Later w, w'' = e2.w :=
 h.mono fun _ w' ⟨he, hb⟩ => ⟨by rw [he, hu], ⟨w', qa1 e.2 hb⟩, rfl⟩
theorem qa2 {w : World} {g o : Nat} {v : Value} (hg : g < w.heap.size) (h : w.cell? ⟨g, o, none⟩ = some v) : ∀ e : Later w, e.w.cell? ⟨g, o, none⟩ = some v := fun e => cell_below e.2 hg h
end
section
theorem qb7 {k : IntKind} {a b : Int} (h : a = b) : Ending.returned (.int k a) = .returned (.int k b) := by rw [h]
theorem qa4 {a b : Bool} (h : a = b) : Ending.returned (.bool a) = .returned (.bool b) := by rw [h]
def qd7 (v n : Int) : Int := if n < 1 then 0 else v % n
theorem qf4 (v n : Int) : 0 ≤ qd7 v n := by
 unfold qd7; split
 ·omega
 ·exact Int.emod_nonneg _ (by omega)
theorem qf3 (v n : Int) (h : 1 ≤ n) : qd7 v n < n := by
 unfold qd7; rw [if_neg (by omega)]; exact Int.emod_lt_of_pos _ (by omega)
theorem tmod_neg {v n : Int} (hn : 1 ≤ n) (h : v.tmod n < 0) : v.tmod n + n = v % n := by
 have h1 := Int.tmod_eq_emod (a := v) (b := n)
 have h2 := Int.emod_nonneg v (show n ≠ 0 by omega)
 have h3 := Int.emod_lt_of_pos v (show 0 < n by omega)
 split at h1 <;> omega
theorem tmod_nonneg {v n : Int} (hn : 1 ≤ n) (h : ¬ v.tmod n < 0) : v.tmod n = v % n := by
 have h1 := Int.tmod_eq_emod (a := v) (b := n)
 have h2 := Int.emod_nonneg v (show n ≠ 0 by omega)
 have h3 := Int.emod_lt_of_pos v (show 0 < n by omega)
 split at h1 <;> omega
set_option maxHeartbeats 400000 in
theorem qg4 (v n : Int) (w : World) (hv : I64 v) (hn : I64 n) :
  Calls Tryz.prog 19 #[.int .i64 v, .int .i64 n] w fun e w' => e = .returned (.int .i64 (qd7 v n)) ∧ w = w' := by
 obtain ⟨hv1, hv2⟩ := hv
 obtain ⟨hn1, hn2⟩ := hn
 go_enter Tryz.func19, Tryz.ntmps19
 by_cases h : n < 1
 ·go_wp2
  go_ret
  exact ⟨qb7 (by unfold qd7; rw [if_pos h]), rfl⟩
 ·have hz : (n == 0) = false := by simp; omega
  have t1 : v.tmod n < n := by
   have h1 := Int.tmod_eq_emod (a := v) (b := n)
   have h3 := Int.emod_lt_of_pos v (show 0 < n by omega)
   split at h1 <;> omega
  have t2 : -n < v.tmod n := by
   have h1 := Int.tmod_eq_emod (a := v) (b := n)
   have h2 := Int.emod_nonneg v (show n ≠ 0 by omega)
   split at h1 <;> omega
  go_wp2
  all_goals go_ret
  ·exact ⟨qb7 (by unfold qd7; rw [if_neg (by omega)]; exact tmod_neg (by omega) ‹_›), rfl⟩
  ·exact ⟨qb7 (by unfold qd7; rw [if_neg (by omega)]; exact tmod_nonneg (by omega) (by omega)), rfl⟩
def atF (l : List Int) (i : Int) : Int := if i < 0 ∨ (l.length : Int) ≤ i then i.tmod 3 else l.getD i.toNat 0
theorem atF_i64 {l : List Int} {i : Int} (hl : ∀ x ∈ l, I64 x) (hi : I64 i) : I64 (atF l i) := by
 unfold atF
 split
 ·have h1 := Int.tmod_eq_emod (a := i) (b := 3)
  obtain ⟨h2, h3⟩ := hi
  unfold I64
  split at h1 <;> omega
 ·rename_i h
  have hlt : i.toNat < l.length := by omega
  rw [List.getD_eq_getElem?_getD, List.getElem?_eq_getElem hlt]
  exact hl _ (List.getElem_mem hlt)
theorem SliceRd.ints {w : World} {F : Nat → Prop} {v : Value} {l : List Int} (h : SliceRd tInt w F v l) :
  ∃ A cap, v = .slice A l.length cap ∧ l.length ≤ cap ∧ cap ≤ maxLen ∧
   ∀ k, (hk : k < l.length) → ∃ g o, A = some ⟨g, o, none⟩ ∧ F g ∧ w.cell? ⟨g, o + k, none⟩ = some (.int .i64 l[k]) ∧ I64 l[k] := by
 obtain ⟨A, cap, hv, h1, h2, h3⟩ := h.shape
 refine ⟨A, cap, hv, h1, h2, fun k hk => ?_⟩
 obtain ⟨g, o, cs, hA, hF, hc, hcell, rfl, hi⟩ := h3 k hk
 have e0 := hcell 0 (by show 0 < 1; omega)
 simp only [tInt, Nat.mul_one, Nat.add_zero] at e0
 exact ⟨g, o, hA, hF, e0, hi⟩
set_option maxHeartbeats 400000 in
theorem at_any (v : Value) (l : List Int) (i : Int) (w : World) (F : Nat → Prop) (h : SliceRd tInt w F v l) (hi : I64 i) :
  Calls Tryz.prog 45 #[v, .int .i64 i] w fun e w' => e = .returned (.int .i64 (atF l i)) ∧ w = w' := by
 obtain ⟨A, cap, rfl, hcap, hmax, hc⟩ := h.ints
 unfold maxLen at hmax
 obtain ⟨hi1, hi2⟩ := hi
 have HC := hid hc
 clear hc h
 go_enter Tryz.func45, Tryz.ntmps45
 by_cases h1 : i < 0
 ·go_wp2
  go_ret
  exact ⟨qb7 (by unfold atF; rw [if_pos (.inl h1)]), rfl⟩
 ·by_cases h2 : (l.length : Int) ≤ i
  ·go_wp2
   go_ret
   exact ⟨qb7 (by unfold atF; rw [if_pos (.inr h2)]; first | rfl | exact (Int.tmod_eq_emod_of_nonneg (by omega)).symm | trace_state), rfl⟩
  ·obtain ⟨g, o, hA, hF, g0, hj⟩ := HC.out i.toNat (by omega)
   cases hA
   go_wp2
   go_ret
   exact ⟨qb7 (by unfold atF; rw [if_neg (by omega), List.getD_eq_getElem?_getD, List.getElem?_eq_getElem (by omega)]; rfl), rfl⟩
end
end Go.Proofs.YtbfbppjccbppiaaGreatDoor
