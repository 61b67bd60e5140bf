import Derived.Test.YtbfbppjccbppiaaGreatDoorG7
import Derived.Test.YtbfbppjccbppiaaGreatDoorzA
import Derived.Outline
import Derived.Test.YtbfbppjccbppiaaGreatDoorzN
import Derived.Shelf.Abstract
import Derived.Deep.RegionWith
namespace Go.Proofs.YtbfbppjccbppiaaGreatDoor
open Go Go.RowKit
section
structure CandW where
 v : Ver
 sh : Int
 needs : List (List WantD)
 bars : List WantD
structure UnitW where
 nm : ByteArray
 ft : ByteArray
 cands : List CandW
def tCand : Ty CandW where
 size := 8
 rd w F cs c := ∃ nv bv, cs = [.int .i64 c.v.major, .int .i64 c.v.minor, .int .i64 c.v.patch, .string c.v.pre, .string c.v.build, .int .i64 c.sh, nv, bv] ∧ c.v.B ∧ SliceRd (qk2 qh5) w F nv c.needs ∧ SliceRd qh5 w F bv c.bars
 len h := by obtain ⟨a, b, rfl, _⟩ := h; rfl
 keep hk h := by obtain ⟨a, b, h0, h1, h2, h3⟩ := h; exact ⟨a, b, h0, h1, h2.keep hk, h3.keep hk⟩
 more hF h := by obtain ⟨a, b, h0, h1, h2, h3⟩ := h; exact ⟨a, b, h0, h1, h2.more hF, h3.more hF⟩
def Seen {α : Type} (t : Ty α) (w : World) (F : Nat → Prop) (v : Value) (l : List α) : Prop :=
 ∃ A cap, v = .slice A l.length cap ∧ ∀ k, (h : k < l.length) → ∃ g o cs, A = some ⟨g, o, none⟩ ∧ F g ∧ cs.length = t.size ∧ (∀ j, j < t.size → w.cell? ⟨g, o + k * t.size + j, none⟩ = cs[j]?) ∧ t.rd w F cs l[k]
theorem Seen.keep {α : Type} {t : Ty α} {w w' : World} {F : Nat → Prop} {v : Value} {l : List α} (hk : qn2 F w w') (h : Seen t w F v l) : Seen t w' F v l := by
 obtain ⟨A, cap, hv, h3⟩ := h
 refine ⟨A, cap, hv, fun k hl => ?_⟩
 obtain ⟨g, o, cs, hA, hF, hc, hcell, hr⟩ := h3 k hl
 refine ⟨g, o, cs, hA, hF, hc, fun j hj => ?_, t.keep hk hr⟩
 rw [← hcell j hj]
 exact World.cell?_of_block (hk _ hF)
theorem Seen.more {α : Type} {t : Ty α} {w : World} {F F' : Nat → Prop} {v : Value} {l : List α} (hF : ∀ k, F k → F' k) (h : Seen t w F v l) : Seen t w F' v l := by
 obtain ⟨A, cap, hv, h3⟩ := h
 refine ⟨A, cap, hv, fun k hl => ?_⟩
 obtain ⟨g, o, cs, hA, hFF, hc, hcell, hr⟩ := h3 k hl
 exact ⟨g, o, cs, hA, hF _ hFF, hc, hcell, t.more hF hr⟩
def tUnit : Ty UnitW where
 size := 3
 rd w F cs u := ∃ cv, cs = [.string u.nm, .string u.ft, cv] ∧ Seen tCand w F cv u.cands
 len h := by obtain ⟨a, rfl, _⟩ := h; rfl
 keep hk h := by obtain ⟨a, h0, h1⟩ := h; exact ⟨a, h0, h1.keep hk⟩
 more hF h := by obtain ⟨a, h0, h1⟩ := h; exact ⟨a, h0, h1.more hF⟩
def qd0 (w : World) (F : Nat → Prop) (v : Value) (us : List UnitW) : Prop := ∃ g cap, v = .agg #[.slice (some ⟨g, 0, none⟩) us.length cap] ∧ F g ∧ SliceRd tUnit w F (.slice (some ⟨g, 0, none⟩) us.length cap) us
theorem qd0.keep {w w' : World} {F : Nat → Prop} {v : Value} {us : List UnitW} (hk : qn2 F w w') (h : qd0 w F v us) : qd0 w' F v us := by
 obtain ⟨g, c, h0, hF, h1⟩ := h
 exact ⟨g, c, h0, hF, h1.keep hk⟩
theorem qd0.more {w : World} {F F' : Nat → Prop} {v : Value} {us : List UnitW} (hF : ∀ k, F k → F' k) (h : qd0 w F v us) : qd0 w F' v us := by
 obtain ⟨g, c, h0, h1, h2⟩ := h
 exact ⟨g, c, h0, hF _ h1, h2.more hF⟩
theorem qd0.lift {w w' : World} {B B' : Nat} {v : Value} {us : List UnitW} (h : qd0 w (Lt B) v us) (hb : Below B w w') (hB : B ≤ B') : qd0 w' (Lt B') v us :=
 (h.keep (qn2.of_below hb fun _ h => h)).more fun _ hk => Nat.lt_of_lt_of_le hk hB
def CandW.ok (m : Nat) (c : CandW) : Prop := c.needs.length ≤ 8 ∧ (∀ r ∈ c.needs, zf7 m r) ∧ (c.bars.length ≤ 4 ∧ ∀ x ∈ c.bars, x.ok m)
def CandW.tight (m : Nat) (c : CandW) : Prop := c.needs.length ≤ 4 ∧ (∀ r ∈ c.needs, zf7 m r) ∧ zf7 m c.bars
theorem CandW.tight.ok {m : Nat} {c : CandW} (h : c.tight m) : c.ok m := ⟨Nat.le_trans h.1 (by decide), h.2.1, Nat.le_trans h.2.2.1 (by decide), h.2.2.2⟩
def CandW.good (c : CandW) : Prop := (∀ r ∈ c.needs, 1 ≤ r.length ∧ ∀ x ∈ r, 1 ≤ x.u) ∧ ∀ x ∈ c.bars, 1 ≤ x.u
def nsOf (us : List UnitW) : List Nat := us.map fun u => u.cands.length
structure UnitsOk (us : List UnitW) : Prop where
 ns : NsOk (nsOf us)
 cands : ∀ u ∈ us, ∀ c ∈ u.cands, c.ok us.length
structure UnitsT (us : List UnitW) : Prop where
 ns : NsOk (nsOf us)
 cands : ∀ u ∈ us, ∀ c ∈ u.cands, c.tight us.length
 vers : ∀ u ∈ us, qx2 (u.cands.map (·.v))
 good : ∀ u ∈ us, ∀ c ∈ u.cands, c.good
 names : ∃ fs : List Bool, fs.length ≤ 5 ∧ us.map (fun u => (u.nm, u.ft)) = qw5 fs
theorem UnitsT.ok {us : List UnitW} (h : UnitsT us) : UnitsOk us := ⟨h.ns, fun u hu c hc => (h.cands u hu c hc).ok⟩
theorem qx4 {α : Type} {P : Nat → α → Prop} : ∀ n : Nat, (∀ k, k < n → ∃ x, P k x) → ∃ l : List α, l.length = n ∧ ∀ k, (hk : k < l.length) → P k l[k]
 | 0, _ => ⟨[], rfl, fun k hk => absurd hk (by simp)⟩
 | n + 1, h => by
  obtain ⟨l, h1, h2⟩ := qx4 n fun k hk => h k (by omega)
  obtain ⟨x, hx⟩ := h n (by omega)
  refine ⟨l ++ [x], by simp [h1], fun k hk => ?_⟩
  by_cases hlt : k < l.length
  ·rw [List.getElem_append_left hlt]
   exact h2 k hlt
  ·have : k = n := by simp at hk; omega
   subst this
   rw [List.getElem_append_right (by omega)]
   simpa [h1] using hx
section
variable {B R : Nat} {w : World} {us : List UnitD} {nf : Nat → Nat}
theorem qd8.candAt {b n nf : Nat} (h : qd8 w b n nf) : ∃ vs : List Ver, (vs.length = n ∧ qx2 vs) ∧ ∀ k, k < n → ∃ (u : Ver) (sh : Int) (nv bv : Value), (u.B ∧ vs[k]? = some u) ∧ ∀ j, j < 8 → w.cell? ⟨b, 0 + k * 8 + j, none⟩ = [Value.int .i64 u.major, .int .i64 u.minor, .int .i64 u.patch, .string u.pre, .string u.build, .int .i64 sh, nv, bv][j]? := by
 obtain ⟨cur, h1, h2, vs, hvs, h3⟩ := h
 refine ⟨vs, hvs, fun k hk => ?_⟩
 obtain ⟨u, sh, nv, bv, g0, g1, g2, g3, g4, g5, g6, g7, g8, g9⟩ := h3 k hk
 have e : ∀ o, w.cell? ⟨b, o, none⟩ = cur[o]? := fun o => cell_of_row w b o cur _ (0, 0) h1
 refine ⟨u, sh, nv, bv, g0, fun j hj => ?_⟩
 rw [e, Nat.zero_add]
 match j, hj with
 | 0, _ => exact g1
 | 1, _ => exact g2
 | 2, _ => exact g3
 | 3, _ => exact g4
 | 4, _ => exact g5
 | 5, _ => exact g6
 | 6, _ => exact g7
 | 7, _ => exact g8
theorem Dat.cands {m : Nat} {lv : Value} (h : Dat B R m w us) (hbt : Built B w lv us nf) {k : Nat} (hk : k < us.length) :
  ∃ cs : List CandW, cs.length = us[k].n ∧ Seen tCand w (Lt w.heap.size) (.slice us[k].A us[k].n us[k].c) cs ∧ (∀ c ∈ cs, c.tight m) ∧ qx2 (cs.map (·.v)) ∧ ∀ c ∈ cs, c.good := by
 have hv : ∃ vs : List Ver, vs.length = us[k].n ∧ qx2 vs ∧ ∀ j, j < us[k].n → ∃ c : CandW, (c.tight m ∧ c.good ∧ vs[j]? = some c.v) ∧ ∃ b cl, us[k].A = some ⟨b, 0, none⟩ ∧ b < w.heap.size ∧ cl.length = 8 ∧ (∀ i, i < 8 → w.cell? ⟨b, 0 + j * 8 + i, none⟩ = cl[i]?) ∧ tCand.rd w (Lt w.heap.size) cl c := by
  by_cases hp : 0 < us[k].n
  ·obtain ⟨b, hA, hb, hblk⟩ := (hbt.cands k hk).2 hp
   obtain ⟨vs, ⟨v1, v2⟩, v3⟩ := hblk.candAt
   refine ⟨vs, v1, v2, fun j hj => ?_⟩
   obtain ⟨h1, h2, h3, h4⟩ := h.2 k hk b (by omega) hA
   obtain ⟨nv, bv, e1, e2, ⟨ns, n1, n2, n3⟩, ⟨bs, b1, b2, b3⟩⟩ := h4 j hj
   obtain ⟨u, sh, nv', bv', ⟨hu, hvu⟩, hcell⟩ := v3 j hj
   have f1 := hcell 6 (by decide)
   have f2 := hcell 7 (by decide)
   rw [Nat.zero_add, e1] at f1
   rw [Nat.zero_add, e2] at f2
   obtain rfl : nv = nv' := Option.some.inj f1
   obtain rfl : bv = bv' := Option.some.inj f2
   exact ⟨⟨u, sh, ns, bs⟩, ⟨⟨n2, fun r hr => (n3 r hr).1, b2⟩, ⟨fun r hr => (n3 r hr).2, b3⟩, hvu⟩, b, _, hA, h3, rfl, hcell, nv, bv, rfl, hu, n1.more fun g hg => hg.2, b1.more fun g hg => hg.2⟩
  ·exact ⟨[], by show 0 = us[k].n; omega, .inl (List.nil_sublist _), fun j hj => absurd hj (by omega)⟩
 obtain ⟨vs, v1, v2, hx⟩ := hv
 obtain ⟨cs, hl, hcs⟩ := qx4 _ hx
 refine ⟨cs, hl, ⟨us[k].A, us[k].c, by rw [hl], fun j hj => ?_⟩, fun c hc => ?_, ?_, fun c hc => ?_⟩
 ·obtain ⟨_, b, cl, hA, hb, h1, h2, h3⟩ := hcs j hj
  exact ⟨b, 0, cl, hA, hb, h1, h2, h3⟩
 ·obtain ⟨j, hj, rfl⟩ := List.getElem_of_mem hc
  exact (hcs j hj).1.1
 ·have e : cs.map (·.v) = vs := by
   apply List.ext_getElem
   ·rw [List.length_map, hl, v1]
   ·intro j hj1 hj2
    rw [List.length_map] at hj1
    have := (hcs j hj1).1.2.2
    rw [List.getElem?_eq_getElem hj2] at this
    rw [List.getElem_map]
    exact (Option.some.inj this).symm
  rw [e]
  exact v2
 ·obtain ⟨j, hj, rfl⟩ := List.getElem_of_mem hc
  exact (hcs j hj).1.2.1
theorem world_data {g c : Nat} (hbt : Built B w (.slice (some ⟨g, 0, none⟩) us.length c) us nf) (h : Dat B R us.length w us) (h2 : 2 ≤ us.length) (h11 : us.length ≤ 11) (hhd : Named us) :
  ∃ l : List UnitW, qd0 w (Lt w.heap.size) (.agg #[.slice (some ⟨g, 0, none⟩) us.length c]) l ∧ UnitsT l ∧ nsOf l = us.map (·.n) ∧ (nsOf l).head? = some 1 := by
 have hx : ∀ k, k < us.length → ∃ u : UnitW, (∀ d, us[k]? = some d → u.cands.length = d.n ∧ u.nm = d.nm ∧ u.ft = d.ft) ∧ ((∀ c ∈ u.cands, c.tight us.length) ∧ qx2 (u.cands.map (·.v)) ∧ ∀ c ∈ u.cands, c.good) ∧ ∃ cl, cl.length = 3 ∧ (∀ i, i < 3 → w.cell? ⟨g, 0 + k * 3 + i, none⟩ = cl[i]?) ∧ tUnit.rd w (Lt w.heap.size) cl u := by
  intro k hk
  obtain ⟨cs, hl, hs, hok⟩ := h.cands hbt hk
  obtain ⟨e0, e1, e2⟩ := hbt.unitAt hk rfl
  refine ⟨⟨us[k].nm, us[k].ft, cs⟩, fun d hd => ?_, hok, [.string us[k].nm, .string us[k].ft, .slice us[k].A us[k].n us[k].c], rfl, fun i hi => ?_, _, rfl, hs⟩
  ·rw [List.getElem?_eq_getElem hk] at hd
   cases hd
   exact ⟨hl, rfl, rfl⟩
  ·rw [Nat.zero_add]
   match i, hi with
   | 0, _ => exact e0
   | 1, _ => exact e1
   | 2, _ => exact e2
 obtain ⟨l, hl, hls⟩ := qx4 _ hx
 have hns : nsOf l = us.map (·.n) := by
  apply List.ext_getElem
  ·simp [nsOf, hl]
  ·intro k hk1 hk2
   have hk : k < l.length := by simpa [nsOf] using hk1
   have := ((hls k hk).1 us[k] (List.getElem?_eq_getElem (by omega))).1
   simpa [nsOf] using this
 rcases hbt.own.2 with ⟨hv, _⟩ | ⟨g', cap, cur, hv, hb, hg, h3, h4, h5, h6⟩
 ·cases hv
 ·injection hv with e1 e2 e3
  injection e1 with e1
  injection e1 with e1
  subst e1 e3
  refine ⟨l, ⟨g, c, by rw [hl], (Array.getElem?_eq_some_iff.1 hg).1, ⟨_, c, by rw [hl], by omega, h4, fun k hk => ?_⟩⟩, ⟨⟨?_, ?_, ?_⟩, fun u hu => ?_, fun u hu => ?_, fun u hu => ?_, ?_⟩, hns, ?_⟩
  ·obtain ⟨_, _, cl, c1, c2, c3⟩ := hls k hk
   exact ⟨g, 0, cl, rfl, (Array.getElem?_eq_some_iff.1 hg).1, c1, c2, c3⟩
  ·rw [hns]; simpa using h2
  ·rw [hns]; simpa using h11
  ·rw [hns]
   intro k hk
   have hk' : k < us.length := by simpa using hk
   have := (hbt.cands k hk').1
   simpa using this
  ·obtain ⟨k, hk, rfl⟩ := List.getElem_of_mem hu
   rw [hl]
   exact (hls k hk).2.1.1
  ·obtain ⟨k, hk, rfl⟩ := List.getElem_of_mem hu
   exact (hls k hk).2.1.2.1
  ·obtain ⟨k, hk, rfl⟩ := List.getElem_of_mem hu
   exact (hls k hk).2.1.2.2
  ·obtain ⟨fs, f1, f2⟩ := hhd.2
   refine ⟨fs, f1, f2 ▸ ?_⟩
   apply List.ext_getElem
   ·rw [List.length_map, List.length_map, hl]
   ·intro k hk1 hk2
    rw [List.length_map] at hk1 hk2
    obtain ⟨-, h2, h3⟩ := (hls k hk1).1 us[k] (List.getElem?_eq_getElem hk2)
    rw [List.getElem_map, List.getElem_map, h2, h3]
  ·rw [hns, List.head?_map]
   exact hhd.1
theorem qd0.uni {v : Value} {l : List UnitW} {F : Nat → Prop} (h : qd0 w F v l) : qi7 w F v (nsOf l) := by
 obtain ⟨g, cap, rfl, hF, hs⟩ := h
 obtain ⟨A, cap', hv, -, -, hc⟩ := hs.shape
 injection hv with e1 e2 e3
 subst e1 e3
 refine ⟨g, cap, by simp [nsOf], hF, fun k hk => ?_⟩
 have hk' : k < l.length := by simpa [nsOf] using hk
 obtain ⟨g', o, cs, hA, -, -, hcell, cv, rfl, A2, c2, rfl, -⟩ := hc k hk'
 injection hA with hA
 injection hA with e1 e2
 subst e1 e2
 have h2 := hcell 2 (by show 2 < 3; omega)
 rw [Nat.zero_add] at h2
 refine ⟨A2, c2, ?_⟩
 have e : (nsOf l)[k] = l[k].cands.length := by simp [nsOf]
 rw [e]
 exact h2
end
end
section
structure StepN where
 u : Nat
 m : Nat
 lv : Nat
 c : Int
 deriving DecidableEq, Inhabited
def qt3 (ns : List Nat) (l : List StepN) (u : Nat) : Nat := l.foldl (fun a s => if s.u = u then s.m else a) (qb8 ns u)
def zh9 (l : List StepN) : Nat := l.foldl (fun _ s => s.lv) 0
def inN (a b : Nat) : Prop := a &&& b = a
instance (a b : Nat) : Decidable (inN a b) := inferInstanceAs (Decidable (_ = _))
theorem qw4 {a b : Nat} : inN a b ↔ ∀ k, a.testBit k = true → b.testBit k = true := by
 constructor
 ·intro h k hk
  unfold inN at h
  rw [← h, Nat.testBit_and] at hk
  simp at hk
  exact hk.2
 ·intro h
  apply Nat.eq_of_testBit_eq
  intro k
  rw [Nat.testBit_and]
  have := h k
  cases h1 : a.testBit k
  ·rfl
  ·rw [this h1]; rfl
theorem in_refl (a : Nat) : inN a a := Nat.and_self a
theorem in_trans {a b c : Nat} (h : inN a b) (h' : inN b c) : inN a c := qw4.2 fun k hk => qw4.1 h' k (qw4.1 h k hk)
theorem in_and {a b c : Nat} (h : inN a b) (h' : inN a c) : inN a (b &&& c) := qw4.2 fun k hk => by
 rw [Nat.testBit_and, qw4.1 h k hk, qw4.1 h' k hk]; rfl
def lessN (a b : Nat) : Nat := a - (a &&& b)
theorem zr5 {a b : Nat} (ha : a ≤ 31) (k : Nat) : (lessN a b).testBit k = (a.testBit k && !b.testBit k) := by
 have h1 : lessN a b = a ^^^ (a &&& b) := by
  have e : a &&& b = a &&& (b % 32) := by
   apply Nat.eq_of_testBit_eq
   intro j
   rw [Nat.testBit_and, Nat.testBit_and]
   by_cases hj : j < 5
   ·rw [show (32 : Nat) = 2 ^ 5 by rfl, Nat.testBit_mod_two_pow]; simp [hj]
   ·have : a.testBit j = false := Nat.testBit_lt_two_pow (Nat.lt_of_le_of_lt ha (Nat.lt_of_lt_of_le (by decide : 31 < 2 ^ 5) (Nat.pow_le_pow_right (by decide) (by omega))))
    rw [this]; rfl
  unfold lessN
  rw [e]
  have hb : b % 32 < 32 := Nat.mod_lt _ (by decide)
  generalize b % 32 = c at hb
  have hall : ∀ x : Fin 32, ∀ y : Fin 32, x.val - (x.val &&& y.val) = x.val ^^^ (x.val &&& y.val) := by decide
  exact hall ⟨a, by omega⟩ ⟨c, hb⟩
 rw [h1, Nat.testBit_xor, Nat.testBit_and]
 cases a.testBit k <;> cases b.testBit k <;> rfl
def Sure (ns : List Nat) (l : List StepN) (M : Nat → Nat) : Prop := ∀ u, u < ns.length → inN (qt3 ns l u) (M u)
def sureB (ns : List Nat) (l : List StepN) (M : Nat → Nat) : Bool := (List.range ns.length).all fun u => decide (inN (qt3 ns l u) (M u))
section
variable {ns : List Nat} {l : List StepN} {s : StepN} {M : Nat → Nat}
theorem left_nil (u : Nat) : qt3 ns [] u = qb8 ns u := rfl
theorem zh8 (l : List StepN) (s : StepN) (u : Nat) : qt3 ns (l ++ [s]) u = if s.u = u then s.m else qt3 ns l u := by
 unfold qt3
 rw [List.foldl_append]
 rfl
theorem level_snoc (l : List StepN) (s : StepN) : zh9 (l ++ [s]) = s.lv := by
 unfold zh9
 rw [List.foldl_append]
 rfl
def OpenAt (ns : List Nat) (l : List StepN) (M : Nat → Nat) (u : Nat) : Prop :=
 u < ns.length ∧ (∀ v, v < ns.length → v ≠ u → inN (qt3 ns l v) (M v)) ∧ ¬ inN (qt3 ns l u) (M u) ∧ qt3 ns l u &&& M u ≠ 0
inductive TrOk (ns : List Nat) (db : Nat → Nat → Nat) (D : Nat) : List StepN → Prop
 | nil : TrOk ns db D []
 | derive (l : List StepN) (s : StepN) (c : Nat) (h : TrOk ns db D l) (hc : s.c = c) (hd : c < D) (ho : OpenAt ns l (db c) s.u) (hm : s.m = lessN (qt3 ns l s.u) (db c s.u)) (hl : s.lv = zh9 l) : TrOk ns db D (l ++ [s])
 | decide (l : List StepN) (s : StepN) (h : TrOk ns db D l) (hc : s.c = -1) (hu : s.u < ns.length) (hm : inN s.m (qt3 ns l s.u)) (h0 : s.m ≠ 0) (hl : s.lv = zh9 l + 1) (hno : ∀ i, i < D → ¬ Sure ns l (db i) ∧ ∀ u, ¬ OpenAt ns l (db i) u) : TrOk ns db D (l ++ [s])
end
section
variable {ns : List Nat} {db : Nat → Nat → Nat} {D : Nat} {l : List StepN} {s : StepN} {M : Nat → Nat}
theorem less_in {a b : Nat} (ha : a ≤ 31) : inN (lessN a b) a := qw4.2 fun k hk => by
 rw [zr5 ha] at hk
 simp at hk
 exact hk.1
theorem less_ne {a b : Nat} (ha : a ≤ 31) (h : ¬ inN a b) : lessN a b ≠ 0 := by
 intro h0
 apply h
 apply qw4.2
 intro k hk
 have := zr5 (b := b) ha k
 rw [h0, hk] at this
 cases hb : b.testBit k
 ·rw [hb] at this; simp at this
 ·rfl
theorem less_or {a b : Nat} (ha : a ≤ 31) {k : Nat} (h : a.testBit k = true) : (lessN a b).testBit k = true ∨ b.testBit k = true := by
 rw [zr5 ha, h]
 cases b.testBit k
 ·left; rfl
 ·right; rfl
theorem in_le {a b : Nat} (h : inN a b) : a ≤ b := by
 unfold inN at h
 rw [← h]
 exact Nat.and_le_right
theorem TrOk.left (ho : NsOk ns) (h : TrOk ns db D l) : ∀ u, u < ns.length → qt3 ns l u ≠ 0 ∧ inN (qt3 ns l u) (qb8 ns u) := by
 induction h with
 | nil => exact fun u hu => ⟨by have := qz1 hu; rw [left_nil]; omega, in_refl _⟩
 | derive l s c h hc hd hop hm hl ih =>
  intro u hu
  rw [zh8]
  by_cases e : s.u = u
  ·subst e
   rw [if_pos rfl, hm]
   obtain ⟨h1, h2⟩ := ih s.u hu
   have h31 : qt3 ns l s.u ≤ 31 := Nat.le_trans (in_le h2) (qi2 ho _)
   exact ⟨less_ne h31 hop.2.2.1, in_trans (less_in h31) h2⟩
  ·rw [if_neg e]
   exact ih u hu
 | decide l s h hc hu' hm h0 hl hno ih =>
  intro u hu
  rw [zh8]
  by_cases e : s.u = u
  ·subst e
   rw [if_pos rfl]
   exact ⟨h0, in_trans hm (ih s.u hu).2⟩
  ·rw [if_neg e]
   exact ih u hu
theorem TrOk.le31 (ho : NsOk ns) (h : TrOk ns db D l) {u : Nat} (hu : u < ns.length) : qt3 ns l u ≤ 31 := Nat.le_trans (in_le (h.left ho u hu).2) (qi2 ho _)
theorem TrOk.init (h : TrOk ns db D (l ++ [s])) : TrOk ns db D l ∧ s.u < ns.length ∧ ((∃ c : Nat, s.c = c ∧ c < D ∧ OpenAt ns l (db c) s.u ∧ s.m = lessN (qt3 ns l s.u) (db c s.u) ∧ s.lv = zh9 l) ∨ (s.c = -1 ∧ inN s.m (qt3 ns l s.u) ∧ s.m ≠ 0 ∧ s.lv = zh9 l + 1 ∧ ∀ i, i < D → ¬ Sure ns l (db i) ∧ ∀ u, ¬ OpenAt ns l (db i) u)) := by
 generalize hx : l ++ [s] = x at h
 cases h with
 | nil => simp at hx
 | derive l' s' c h hc hd hop hm hl =>
  obtain ⟨rfl, h2⟩ := List.append_inj' hx rfl
  injection h2 with h2
  subst h2
  exact ⟨h, hop.1, .inl ⟨c, hc, hd, hop, hm, hl⟩⟩
 | decide l' s' h hc hu hm h0 hl hno =>
  obtain ⟨rfl, h2⟩ := List.append_inj' hx rfl
  injection h2 with h2
  subst h2
  exact ⟨h, hu, .inr ⟨hc, hm, h0, hl, hno⟩⟩
theorem qn8 {α : Type} {l : List α} {n : Nat} (h : n < l.length) : l.take (n + 1) = l.take n ++ [l[n]] := by
 rw [List.take_add_one, List.getElem?_eq_getElem h]; rfl
theorem TrOk.take (h : TrOk ns db D l) (n : Nat) : TrOk ns db D (l.take n) := by
 by_cases hn : l.length ≤ n
 ·rw [List.take_of_length_le hn]; exact h
 ·induction hd : l.length - n generalizing n with
  | zero => omega
  | succ d ih =>
   have h1 : TrOk ns db D (l.take (n + 1)) := by
    by_cases hn1 : l.length ≤ n + 1
    ·rw [List.take_of_length_le hn1]; exact h
    ·exact ih (n + 1) hn1 (by omega)
   rw [qn8 (by omega)] at h1
   exact h1.init.1
theorem TrOk.at (h : TrOk ns db D l) {n : Nat} (hn : n < l.length) : TrOk ns db D (l.take n ++ [l[n]]) := by
 rw [← qn8 hn]; exact h.take _
theorem TrOk.lv (_h : TrOk ns db D l) {n : Nat} (hn : n < l.length) : l[n].lv = zh9 (l.take (n + 1)) := by rw [qn8 hn, level_snoc]
def First (ns : List Nat) (l : List StepN) (M : Nat → Nat) (n : Nat) : Prop := n ≤ l.length ∧ Sure ns (l.take n) M ∧ ∀ k, k < n → ¬ Sure ns (l.take k) M
theorem First.join (ho : NsOk ns) (h : TrOk ns db D l) {n c : Nat} (hf : First ns l M (n + 1)) (hn : n < l.length) (hc : l[n].c = (c : Int)) :
  c < D ∧ Sure ns (l.take n) (qo2 M (db c) l[n].u) ∧ ∀ u, u < ns.length → qo2 M (db c) l[n].u u ≠ 0 := by
 obtain ⟨hi, hu, hcase⟩ := (h.at hn).init
 rcases hcase with ⟨c', hc', hd, hop, hm, hl⟩ | ⟨hc', _⟩
 ·obtain rfl : c' = c := by omega
  have hs : Sure ns (l.take n) (qo2 M (db c') l[n].u) := by
   intro u hu'
   unfold qo2
   have h1 := hf.2.1 u hu'
   rw [qn8 hn, zh8] at h1
   by_cases e : u = l[n].u
   ·subst e
    rw [if_pos rfl] at h1 ⊢
    rw [hm] at h1
    refine qw4.2 fun k hk => ?_
    rw [Nat.testBit_or]
    rcases less_or (b := db c' l[n].u) (hi.le31 ho hu') hk with h2 | h2
    ·rw [qw4.1 h1 k h2]; rfl
    ·rw [h2]; simp
   ·rw [if_neg (fun e2 => e e2.symm)] at h1
    rw [if_neg e]
    exact in_and h1 (hop.2.1 u hu' e)
  refine ⟨hd, hs, fun u hu' h0 => ?_⟩
  have h1 := hs u hu'
  rw [h0] at h1
  exact (hi.left ho u hu').1 (by have := in_le h1; omega)
 ·omega
end
end
section
def tv (t : Term) : Value := .agg #[.int .i64 t.unit, .int .i64 t.mask]
def PredB (P : Program) (g : Nat) (lb : Array Value) (l : List Term) (p : Term → Bool) (w : World) : Prop :=
  ∀ (W : World) (t : Term), t ∈ l → Below w.heap.size w W → Calls P g (#[tv t] ++ lb) W fun e w' => e = .returned (.bool (p t)) ∧ Below w.heap.size w w'
def IdxIs (l : List Term) (p : Term → Bool) (r : Int) : Prop := (r = -1 ∧ ∀ t ∈ l, p t = false) ∨ ∃ k, ∃ h : k < l.length, r = k ∧ p l[k] = true ∧ ∀ j, (hj : j < k) → p (l[j]'(Nat.lt_trans hj h)) = false
set_option maxHeartbeats 1000000 in
theorem index_any (v : Value) (l : List Term) (p : Term → Bool) (g : Nat) (lb : Array Value) (eg : ∀ args w, (callFunc g args).run Tryz.prog w = .ok (.enter g args) w) (w : World) (h : SliceRd qg1 w (Lt w.heap.size) v l) (hp : PredB Tryz.prog g lb l p w) :
    Calls Tryz.prog 162 #[v, .func (.func g) #[] lb] w fun e w' => ∃ r : Int, e = .returned (.int .i64 r) ∧ IdxIs l p r ∧ Below w.heap.size w w' := by
  obtain ⟨A, cap, rfl, hcap, hmax, hc⟩ := h.terms
  unfold maxLen at hmax
  have HC := hid hc
  have HP := hid hp
  clear hc h hp
  go_enter Tryz.func162, Tryz.ntmps162
  go_wp2
  go_loopw [5, 8] (fun _ kv wr => ∃ k : Nat, k ≤ l.length ∧ kv = .int .i64 k ∧ Hid (Below w.heap.size w wr) ∧ Hid (∀ j, (hj : j < l.length) → j < k → p l[j] = false)) (fun _ kv _ => l.length - (intOf kv).toNat)
  case atStart => exact ⟨0, Nat.zero_le _, rfl, hid (b0 w), hid (fun j _ hj => absurd hj (by omega))⟩
  case round =>
    obtain ⟨k, hk, rfl, hb, hn⟩ := hrel
    by_cases hlt : k < l.length
    · obtain ⟨gg, o, hA, hF, g0, g1, -, -⟩ := HC.out k hlt
      subst hA
      have c0 := cell_below hb.out hF g0
      have c1 := cell_below hb.out hF g1
      have i1 : (0 : Int) ≤ ↑k := by omega
      have i2 : (↑k : Int) < ↑l.length := by omega
      have hcall := HP.out wr l[k] (List.getElem_mem hlt) hb.out
      obtain ⟨a, ha⟩ : ∃ a, l[k].unit = a := ⟨_, rfl⟩
      obtain ⟨m, hm⟩ : ∃ m, l[k].mask = m := ⟨_, rfl⟩
      unfold tv at hcall
      rw [ha, hm] at hcall
      rw [ha] at c0
      rw [hm] at c1
      clear g0 g1
      cases hq : p l[k] with
      | true =>
        have HQ := hid hq
        rw [hq] at hcall
        clear hq ha hm
        go_wp2_with (go_at_fn g; refine hcall.mono ?_; rintro e w' ⟨rfl, hb'⟩)
        go_ret
        exact ⟨_, rfl, .inr ⟨k, hlt, rfl, HQ.out, fun j hj => hn.out j _ hj⟩, hb'⟩
      | false =>
        have HQ := hid hq
        rw [hq] at hcall
        clear hq ha hm
        go_wp2_with (go_at_fn g; refine hcall.mono ?_; rintro e w' ⟨rfl, hb'⟩)
        exact ⟨⟨k + 1, by omega, by go_num, hid hb', hid (fun j hj hjk => if e : j = k then by subst e; exact HQ.out else hn.out j hj (by omega))⟩, by simp [intOf]; omega⟩
    · go_wp2
      go_ret
      exact ⟨_, rfl, .inl ⟨rfl, fun t ht => by obtain ⟨j, hj, rfl⟩ := List.getElem_of_mem ht; exact hn.out j hj (by omega)⟩, hb.out⟩
theorem mask_clos (l : List Term) (u : Int) (b : Nat) (w : World) (hb : b < w.heap.size) (hc : w.cell? ⟨b, 0, none⟩ = some (.int .i64 u)) : PredB Tryz.prog 163 #[.pointer (some ⟨b, 0, none⟩)] l (fun t => t.unit == u) w := fun W t _ hw => by
  have c0 := cell_below hw hb hc
  have hbW := Nat.lt_of_lt_of_le hb hw.size
  have hne : b ≠ W.heap.size := by omega
  show Calls Tryz.prog 163 #[.agg #[.int .i64 t.unit, .int .i64 t.mask], .pointer (some ⟨b, 0, none⟩)] W _
  go_enter Tryz.func163, Tryz.ntmps163
  go_wp2
  go_ret
  exact ⟨rfl, hw.alloc hw.size _⟩
theorem zh0 {l : List Term} {p : Term → Bool} {r : Int} (h : IdxIs l p r) : (r = -1 ∧ l.find? p = none) ∨ ∃ k, ∃ hk : k < l.length, r = k ∧ l.find? p = some l[k] := by
  rcases h with ⟨rfl, h⟩ | ⟨k, hk, rfl, hp, hn⟩
  · exact .inl ⟨rfl, List.find?_eq_none.2 fun t ht => by rw [h t ht]; decide⟩
  · refine .inr ⟨k, hk, rfl, List.find?_eq_some_iff_getElem.2 ⟨hp, k, hk, rfl, fun j hj => ?_⟩⟩
    rw [hn j hj]; rfl
set_option maxRecDepth 100000 in
set_option maxHeartbeats 1000000 in
theorem mask_any (v lv : Value) (ns : List Nat) (l : List Term) (u : Int) (w : World) (h : qi7 w (Lt w.heap.size) v ns) (ho : NsOk ns) (hl : SliceRd qg1 w (Lt w.heap.size) lv l) :
    Calls Tryz.prog 137 #[v, lv, .int .i64 u] w fun e w' => e = .returned (.int .i64 (qk3 ns l u)) ∧ Below w.heap.size w w' := by
  have HH := hid h
  have HO := hid ho
  have HL := hid hl
  obtain ⟨g, cap0, rfl, hg, -⟩ := h
  obtain ⟨A, cap, rfl, hcap, hmax, hc⟩ := hl.terms
  unfold maxLen at hmax
  have HC := hid hc
  have eg := enters_of (P := Tryz.prog) Tryz.func163 (by kernel_rfl) rfl
  obtain ⟨w0, hw0⟩ : ∃ w0 : World, w0 = (w.alloc (.cells #[.slice (some ⟨g, 0, none⟩) ns.length cap0] 26)).alloc (.cells #[.int .i64 u] 3) := ⟨_, rfl⟩
  have hb0 : Below w.heap.size w w0 := by rw [hw0]; exact qa0 (qa0 (b0 w) _) _
  have hs0 : w0.heap.size = w.heap.size + 2 := by rw [hw0]; simp
  have q0 : w0.cell? ⟨w.heap.size, 0, none⟩ = some (.slice (some ⟨g, 0, none⟩) ns.length cap0) := by
    rw [hw0]
    exact cell_below (qa0 (b0 (w.alloc _)) _) (by simp) ((qa6 w _ _ 0).trans rfl)
  have q1 : w0.cell? ⟨w.heap.size + 1, 0, none⟩ = some (.int .i64 u) := by
    rw [hw0]
    have := qa6 (w.alloc (.cells #[.slice (some ⟨g, 0, none⟩) ns.length cap0] 26)) #[.int .i64 u] 3 0
    rw [World.size_alloc] at this
    exact this
  have hcall := index_any _ l (fun t => t.unit == u) 163 #[.pointer (some ⟨w.heap.size + 1, 0, none⟩)] eg w0 (HL.out.lift hb0 hb0.size) (mask_clos l u (w.heap.size + 1) w0 (by omega) q1)
  have HB0 := hid hb0
  have HU0 := hid (qc0 HH.out hb0)
  have HCALL := hid hcall
  have HW0 := hid hw0
  have HQ := hid (And.intro q0 (And.intro q1 hs0))
  clear hc ho hl hcall hw0 q0 q1 hs0 hb0 eg
  cases hfd : l.find? (fun t => t.unit == u) with
  | none =>
    have HM : Hid (qk3 ns l u = qj5 ns u) := hid (by unfold qk3; rw [hfd])
    have HF := hid hfd
    clear hfd
    go_enter Tryz.func137, Tryz.ntmps137
    go_wp2_with (first
      | (go_at_call 162; rw [← HW0.out]; refine HCALL.out.mono ?_; rintro e w1 ⟨r, rfl, hr, hb'⟩; have HB := hid hb'
         obtain rfl : r = -1 := (by rcases zh0 hr with ⟨h, _⟩ | ⟨k, _, _, h⟩; exact h; rw [HF.out] at h; cases h)
         have q2 := cell_below hb' (by have := HQ.out.2.2; omega) HQ.out.1; have q3 := cell_below hb' (by have := HQ.out.2.2; omega) HQ.out.2.1; clear hb' hr)
      | (go_at_call 34; refine (qz2 _ ns u _ _ (qc0 HU0.out HB.out) HO.out (fun _ h => h)).mono ?_; rintro e w2 ⟨rfl, hb2⟩))
    go_ret
    exact ⟨qb7 HM.out.symm, qa1 (qa1 HB0.out HB.out) hb2⟩
  | some t =>
    have HM : Hid (qk3 ns l u = t.mask) := hid (by unfold qk3; rw [hfd])
    have HF := hid hfd
    clear hfd
    go_enter Tryz.func137, Tryz.ntmps137
    go_wp2_with (first
      | (go_at_call 162; rw [← HW0.out]; refine HCALL.out.mono ?_; rintro e w1 ⟨r, rfl, hr, hb'⟩; have HB := hid hb'
         obtain ⟨k, hk, rfl, hkt⟩ : ∃ k, ∃ hk : k < l.length, r = k ∧ l[k] = t := (by
           rcases zh0 hr with ⟨_, h⟩ | ⟨k, hk, e, h⟩
           · rw [HF.out] at h; cases h
           · rw [HF.out] at h; exact ⟨k, hk, e, (Option.some.inj h).symm⟩)
         obtain ⟨gg, o, hA, hF, g0, g1, -, -⟩ := HC.out k hk
         subst hA
         have c1 := cell_below hb' (Nat.lt_of_lt_of_le hF HB0.out.size) (cell_below HB0.out hF g1)
         obtain ⟨mm, hmm⟩ : ∃ mm, l[k].mask = mm := ⟨_, rfl⟩
         rw [hmm] at c1
         have HMM := hid (show qk3 ns l u = mm by rw [HM.out, ← hkt, hmm])
         have i1 : (0 : Int) ≤ ↑k := (by omega)
         have i2 : (↑k : Int) < ↑l.length := (by omega)
         clear g0 g1 hmm hkt hb' hr))
    go_ret
    exact ⟨qb7 HMM.out.symm, qa1 HB0.out HB.out⟩
end
section
theorem maskF_hit {ns : List Nat} {l : List Term} {u : Int} {k : Nat} (hk : k < l.length) (hu : l[k].unit = u) (hn : ∀ j, (hj : j < l.length) → j < k → l[j].unit ≠ u) : qk3 ns l u = l[k].mask := by
 have : l.find? (fun t => t.unit == u) = some l[k] := List.find?_eq_some_iff_getElem.2 ⟨by simp [hu], k, hk, rfl, fun j hj => by simp [hn j (by omega) hj]⟩
 unfold qk3; rw [this]
theorem maskF_miss {ns : List Nat} {l : List Term} {u : Int} (hn : ∀ j, (hj : j < l.length) → l[j].unit ≠ u) : qk3 ns l u = qj5 ns u := by
 have : l.find? (fun t => t.unit == u) = none := List.find?_eq_none.2 fun t ht => by
  obtain ⟨j, hj, rfl⟩ := List.getElem_of_mem ht
  simp [hn j hj]
 unfold qk3; rw [this]
set_option maxHeartbeats 1000000 in
theorem qn6 (v lv : Value) (ns : List Nat) (l : List Term) (u : Int) (w : World) (h : qi7 w (Lt w.heap.size) v ns) (ho : NsOk ns) (hl : SliceRd qg1 w (Lt w.heap.size) lv l) (hu : I64 u) :
  Calls Tryz.prog 87 #[v, lv, .int .i64 u] w fun e w' => e = .returned (.int .i64 (qk3 ns l u)) ∧ Below w.heap.size w w' := by
 have HH := hid h
 have HO := hid ho
 obtain ⟨g, cap0, rfl, hg, -⟩ := h
 obtain ⟨A, cap, rfl, hcap, hmax, hc⟩ := hl.terms
 unfold maxLen at hmax
 have HC := hid hc
 clear hc hl ho
 go_enter Tryz.func87, Tryz.ntmps87
 go_wp2_with fail
 obtain ⟨w0, hw0⟩ : ∃ w0 : World, w0 = w.alloc (.cells #[.slice (some ⟨g, 0, none⟩) ns.length cap0] 26) := ⟨_, rfl⟩
 have hb0 : Below w.heap.size w w0 := hw0 ▸ qa0 (b0 w) _
 have q0 : w0.cell? ⟨w.heap.size, 0, none⟩ = some (.slice (some ⟨g, 0, none⟩) ns.length cap0) := by rw [hw0, qa6]; rfl
 have HB0 := hid hb0
 have HU0 := hid (qc0 HH.out hb0)
 rw [← hw0]
 clear hw0 hb0
 go_loopw [7] (fun iv wr => ∃ k : Nat, k ≤ l.length ∧ iv = .int .i64 k ∧ wr = w0 ∧ Hid (∀ j, (hj : j < l.length) → j < k → l[j].unit ≠ u)) (fun iv _ => l.length - (intOf iv).toNat)
 case atStart => exact ⟨0, Nat.zero_le _, rfl, rfl, hid (fun j _ hj => absurd hj (by omega))⟩
 case round =>
  obtain ⟨k, hk, rfl, rfl, hn⟩ := hrel
  by_cases hlt : k < l.length
  ·obtain ⟨gg, o, hA, hF, g0, g1, -, -⟩ := HC.out k hlt
   subst hA
   have c0 := cell_below HB0.out hF g0
   have c1 := cell_below HB0.out hF g1
   have i1 : (0 : Int) ≤ ↑k := by omega
   have i2 : (↑k : Int) < ↑l.length := by omega
   clear g0 g1
   obtain ⟨a, ha⟩ : ∃ a, l[k].unit = a := ⟨_, rfl⟩
   rw [ha] at c0
   have HA := hid ha
   clear ha
   by_cases he : a = u
   ·subst he
    have HM := hid (maskF_hit (ns := ns) hlt HA.out hn.out)
    go_wp2
    go_ret
    exact ⟨qb7 HM.out.symm, HB0.out⟩
   ·have HE := hid he
    have hz : (a == u) = false := by simpa using he
    clear he
    go_wp2
    exact ⟨⟨k + 1, by omega, by go_num, (by first | trivial | rfl), hid (fun j hj hjk => if e : j = k then by subst e; rw [HA.out]; exact HE.out else hn.out j hj (by omega))⟩, by simp [intOf]; omega⟩
  ·have HM := hid (maskF_miss (ns := ns) (u := u) (fun j hj => hn.out j hj (by omega)))
   go_wp2_with (go_at_call 22; refine (qj8 _ ns u _ _ HU0.out HO.out hu (fun _ h => h)).mono ?_; rintro e w2 ⟨rfl, hb2⟩)
   go_ret
   exact ⟨qb7 HM.out.symm, qa1 HB0.out hb2⟩
end
section
theorem zd6 {ns : List Nat} (M : Nat → Nat) : (canon ns M).Pairwise fun a b => a.unit < b.unit := by
 unfold canon qh1
 refine List.Pairwise.filterMap (tm ns M) (fun a b hab x hx y hy => ?_) List.pairwise_lt_range
 unfold tm at hx hy
 split at hx
 ·cases hx
 ·split at hy
  ·cases hy
  ·have h1 := Option.some.inj hx
   have h2 := Option.some.inj hy
   subst h1; subst h2
   dsimp only
   omega
theorem canon_lt {ns : List Nat} (M : Nat → Nat) {k : Nat} (hk : k < (canon ns M).length) (h0 : k ≠ 0) : ((canon ns M)[k - 1]'(by omega)).unit < (canon ns M)[k].unit :=
 List.pairwise_iff_getElem.1 (zd6 M) (k - 1) k (by omega) hk (by omega)
end
section
def wiT (ns : List Nat) (Mb : Nat → Nat) (t : Term) : Bool := decide (maskN ns Mb t.unit &&& nm t.mask = maskN ns Mb t.unit)
def tellsN (h m : Nat) : Int := if h &&& m = h then 2 else if h &&& m = 0 then 0 else 1
end
end Go.Proofs.YtbfbppjccbppiaaGreatDoor
