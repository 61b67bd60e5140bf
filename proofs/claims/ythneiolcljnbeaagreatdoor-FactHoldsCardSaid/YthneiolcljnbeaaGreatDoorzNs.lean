import Derived.Test.YthneiolcljnbeaaGreatDoorzMem
import Derived.Outline
import Derived.Test.YthneiolcljnbeaaGreatDoorG7
namespace Go.Proofs.YthneiolcljnbeaaGreatDoor
open Go Go.RowKit
section
structure NsOk (ns : List Nat) : Prop where
 lo : 2 ≤ ns.length
 hi : ns.length ≤ 11
 le : ∀ k, (h : k < ns.length) → ns[k] ≤ 4
def pw (i : Nat) : Int := ((2 ^ i : Nat) : Int)
theorem pw_succ (i : Nat) : pw (i + 1) = pw i * 2 := by unfold pw; rw [Nat.pow_succ]; push_cast; rfl
theorem pw_bd {i : Nat} (h : i ≤ 17) : 1 ≤ pw i ∧ pw i ≤ 131072 := by
 unfold pw
 have h1 : 2 ^ i ≤ 2 ^ 17 := Nat.pow_le_pow_right (by decide) h
 have h2 : 0 < 2 ^ i := Nat.pow_pos (by decide)
 have h3 : 2 ^ 17 = 131072 := by decide
 omega
def fullF (ns : List Nat) (u : Int) : Int := if u < 0 ∨ (ns.length : Int) ≤ u then 0 else pw (ns[u.toNat]?.getD 0 + 1) - 1
def UniRd (w : World) (F : Nat → Prop) (v : Value) (ns : List Nat) : Prop :=
 ∃ g cap, v = .agg #[.slice (some ⟨g, 0, none⟩) ns.length cap] ∧ F g ∧ ∀ k, (hk : k < ns.length) → ∃ A c, w.cell? ⟨g, k * 3 + 2, none⟩ = some (.slice A ns[k] c)
theorem UniRd.keep {w w' : World} {F : Nat → Prop} {v : Value} {ns : List Nat} (hk : ∀ k, F k → w'.heap[k]? = w.heap[k]?) (h : UniRd w F v ns) : UniRd w' F v ns := by
 obtain ⟨g, cap, hv, hF, hc⟩ := h
 refine ⟨g, cap, hv, hF, fun k hk' => ?_⟩
 obtain ⟨A, c, h1⟩ := hc k hk'
 exact ⟨A, c, (World.cell?_of_block (hk g hF)).trans h1⟩
theorem UniRd.more {w : World} {F F' : Nat → Prop} {v : Value} {ns : List Nat} (h : UniRd w F v ns) (hF : ∀ k, F k → F' k) : UniRd w F' v ns := by
 obtain ⟨g, cap, hv, hf, hc⟩ := h
 exact ⟨g, cap, hv, hF _ hf, hc⟩
theorem UniRd.below {w w' : World} {B : Nat} {v : Value} {ns : List Nat} (h : UniRd w (Lt B) v ns) (hb : Below B w w') : UniRd w' (Lt B) v ns := h.keep fun k hk => hb.block k hk
end
section
structure CandW where
 v : Ver
 sh : Int
 needs : List (List WantD)
 bars : List WantD
structure UnitW where
 nm : ByteArray
 ft : ByteArray
 cands : List CandW
def tCand : Ty CandW where
 size := 8
 rd w F cs c := ∃ nv bv, cs = [.int .i64 c.v.major, .int .i64 c.v.minor, .int .i64 c.v.patch, .string c.v.pre, .string c.v.build, .int .i64 c.sh, nv, bv] ∧ c.v.B ∧ SliceRd (tSlice tWant) w F nv c.needs ∧ SliceRd tWant w F bv c.bars
 len h := by obtain ⟨a, b, rfl, _⟩ := h; rfl
 keep hk h := by obtain ⟨a, b, h0, h1, h2, h3⟩ := h; exact ⟨a, b, h0, h1, h2.keep hk, h3.keep hk⟩
 more hF h := by obtain ⟨a, b, h0, h1, h2, h3⟩ := h; exact ⟨a, b, h0, h1, h2.more hF, h3.more hF⟩
def Seen {α : Type} (t : Ty α) (w : World) (F : Nat → Prop) (v : Value) (l : List α) : Prop :=
 ∃ A cap, v = .slice A l.length cap ∧ ∀ k, (h : k < l.length) → ∃ g o cs, A = some ⟨g, o, none⟩ ∧ F g ∧ cs.length = t.size ∧ (∀ j, j < t.size → w.cell? ⟨g, o + k * t.size + j, none⟩ = cs[j]?) ∧ t.rd w F cs l[k]
theorem Seen.keep {α : Type} {t : Ty α} {w w' : World} {F : Nat → Prop} {v : Value} {l : List α} (hk : Keeps F w w') (h : Seen t w F v l) : Seen t w' F v l := by
 obtain ⟨A, cap, hv, h3⟩ := h
 refine ⟨A, cap, hv, fun k hl => ?_⟩
 obtain ⟨g, o, cs, hA, hF, hc, hcell, hr⟩ := h3 k hl
 refine ⟨g, o, cs, hA, hF, hc, fun j hj => ?_, t.keep hk hr⟩
 rw [← hcell j hj]
 exact World.cell?_of_block (hk _ hF)
theorem Seen.more {α : Type} {t : Ty α} {w : World} {F F' : Nat → Prop} {v : Value} {l : List α} (hF : ∀ k, F k → F' k) (h : Seen t w F v l) : Seen t w F' v l := by
 obtain ⟨A, cap, hv, h3⟩ := h
 refine ⟨A, cap, hv, fun k hl => ?_⟩
 obtain ⟨g, o, cs, hA, hFF, hc, hcell, hr⟩ := h3 k hl
 exact ⟨g, o, cs, hA, hF _ hFF, hc, hcell, t.more hF hr⟩
def tUnit : Ty UnitW where
 size := 3
 rd w F cs u := ∃ cv, cs = [.string u.nm, .string u.ft, cv] ∧ Seen tCand w F cv u.cands
 len h := by obtain ⟨a, rfl, _⟩ := h; rfl
 keep hk h := by obtain ⟨a, h0, h1⟩ := h; exact ⟨a, h0, h1.keep hk⟩
 more hF h := by obtain ⟨a, h0, h1⟩ := h; exact ⟨a, h0, h1.more hF⟩
def WorldRd (w : World) (F : Nat → Prop) (v : Value) (us : List UnitW) : Prop := ∃ g cap, v = .agg #[.slice (some ⟨g, 0, none⟩) us.length cap] ∧ F g ∧ SliceRd tUnit w F (.slice (some ⟨g, 0, none⟩) us.length cap) us
theorem WorldRd.keep {w w' : World} {F : Nat → Prop} {v : Value} {us : List UnitW} (hk : Keeps F w w') (h : WorldRd w F v us) : WorldRd w' F v us := by
 obtain ⟨g, c, h0, hF, h1⟩ := h
 exact ⟨g, c, h0, hF, h1.keep hk⟩
theorem WorldRd.more {w : World} {F F' : Nat → Prop} {v : Value} {us : List UnitW} (hF : ∀ k, F k → F' k) (h : WorldRd w F v us) : WorldRd w F' v us := by
 obtain ⟨g, c, h0, h1, h2⟩ := h
 exact ⟨g, c, h0, hF _ h1, h2.more hF⟩
theorem WorldRd.lift {w w' : World} {B B' : Nat} {v : Value} {us : List UnitW} (h : WorldRd w (Lt B) v us) (hb : Below B w w') (hB : B ≤ B') : WorldRd w' (Lt B') v us :=
 (h.keep (Keeps.of_below hb fun _ h => h)).more fun _ hk => Nat.lt_of_lt_of_le hk hB
def CandW.ok (m : Nat) (c : CandW) : Prop := c.needs.length ≤ 8 ∧ (∀ r ∈ c.needs, RowOk m r) ∧ (c.bars.length ≤ 4 ∧ ∀ x ∈ c.bars, x.ok m)
def CandW.tight (m : Nat) (c : CandW) : Prop := c.needs.length ≤ 4 ∧ (∀ r ∈ c.needs, RowOk m r) ∧ RowOk m c.bars
theorem CandW.tight.ok {m : Nat} {c : CandW} (h : c.tight m) : c.ok m := ⟨Nat.le_trans h.1 (by decide), h.2.1, Nat.le_trans h.2.2.1 (by decide), h.2.2.2⟩
def CandW.good (c : CandW) : Prop := (∀ r ∈ c.needs, 1 ≤ r.length ∧ ∀ x ∈ r, 1 ≤ x.u) ∧ ∀ x ∈ c.bars, 1 ≤ x.u
def nsOf (us : List UnitW) : List Nat := us.map fun u => u.cands.length
structure UnitsOk (us : List UnitW) : Prop where
 ns : NsOk (nsOf us)
 cands : ∀ u ∈ us, ∀ c ∈ u.cands, c.ok us.length
structure UnitsT (us : List UnitW) : Prop where
 ns : NsOk (nsOf us)
 cands : ∀ u ∈ us, ∀ c ∈ u.cands, c.tight us.length
 vers : ∀ u ∈ us, VersD (u.cands.map (·.v))
 good : ∀ u ∈ us, ∀ c ∈ u.cands, c.good
 names : ∃ fs : List Bool, fs.length ≤ 5 ∧ us.map (fun u => (u.nm, u.ft)) = namesF fs
theorem UnitsT.ok {us : List UnitW} (h : UnitsT us) : UnitsOk us := ⟨h.ns, fun u hu c hc => (h.cands u hu c hc).ok⟩
theorem exists_list {α : Type} {P : Nat → α → Prop} : ∀ n : Nat, (∀ k, k < n → ∃ x, P k x) → ∃ l : List α, l.length = n ∧ ∀ k, (hk : k < l.length) → P k l[k]
 | 0, _ => ⟨[], rfl, fun k hk => absurd hk (by simp)⟩
 | n + 1, h => by
  obtain ⟨l, h1, h2⟩ := exists_list n fun k hk => h k (by omega)
  obtain ⟨x, hx⟩ := h n (by omega)
  refine ⟨l ++ [x], by simp [h1], fun k hk => ?_⟩
  by_cases hlt : k < l.length
  ·rw [List.getElem_append_left hlt]
   exact h2 k hlt
  ·have : k = n := by simp at hk; omega
   subst this
   rw [List.getElem_append_right (by omega)]
   simpa [h1] using hx
section
variable {B R : Nat} {w : World} {us : List UnitD} {nf : Nat → Nat}
theorem CandBlk.candAt {b n nf : Nat} (h : CandBlk w b n nf) : ∃ vs : List Ver, (vs.length = n ∧ VersD vs) ∧ ∀ k, k < n → ∃ (u : Ver) (sh : Int) (nv bv : Value), (u.B ∧ vs[k]? = some u) ∧ ∀ j, j < 8 → w.cell? ⟨b, 0 + k * 8 + j, none⟩ = [Value.int .i64 u.major, .int .i64 u.minor, .int .i64 u.patch, .string u.pre, .string u.build, .int .i64 sh, nv, bv][j]? := by
 obtain ⟨cur, h1, h2, vs, hvs, h3⟩ := h
 refine ⟨vs, hvs, fun k hk => ?_⟩
 obtain ⟨u, sh, nv, bv, g0, g1, g2, g3, g4, g5, g6, g7, g8, g9⟩ := h3 k hk
 have e : ∀ o, w.cell? ⟨b, o, none⟩ = cur[o]? := fun o => cell_of_row w b o cur _ (0, 0) h1
 refine ⟨u, sh, nv, bv, g0, fun j hj => ?_⟩
 rw [e, Nat.zero_add]
 match j, hj with
 | 0, _ => exact g1
 | 1, _ => exact g2
 | 2, _ => exact g3
 | 3, _ => exact g4
 | 4, _ => exact g5
 | 5, _ => exact g6
 | 6, _ => exact g7
 | 7, _ => exact g8
theorem Dat.cands {m : Nat} {lv : Value} (h : Dat B R m w us) (hbt : Built B w lv us nf) {k : Nat} (hk : k < us.length) :
  ∃ cs : List CandW, cs.length = us[k].n ∧ Seen tCand w (Lt w.heap.size) (.slice us[k].A us[k].n us[k].c) cs ∧ (∀ c ∈ cs, c.tight m) ∧ VersD (cs.map (·.v)) ∧ ∀ c ∈ cs, c.good := by
 have hv : ∃ vs : List Ver, vs.length = us[k].n ∧ VersD vs ∧ ∀ j, j < us[k].n → ∃ c : CandW, (c.tight m ∧ c.good ∧ vs[j]? = some c.v) ∧ ∃ b cl, us[k].A = some ⟨b, 0, none⟩ ∧ b < w.heap.size ∧ cl.length = 8 ∧ (∀ i, i < 8 → w.cell? ⟨b, 0 + j * 8 + i, none⟩ = cl[i]?) ∧ tCand.rd w (Lt w.heap.size) cl c := by
  by_cases hp : 0 < us[k].n
  ·obtain ⟨b, hA, hb, hblk⟩ := (hbt.cands k hk).2 hp
   obtain ⟨vs, ⟨v1, v2⟩, v3⟩ := hblk.candAt
   refine ⟨vs, v1, v2, fun j hj => ?_⟩
   obtain ⟨h1, h2, h3, h4⟩ := h.2 k hk b (by omega) hA
   obtain ⟨nv, bv, e1, e2, ⟨ns, n1, n2, n3⟩, ⟨bs, b1, b2, b3⟩⟩ := h4 j hj
   obtain ⟨u, sh, nv', bv', ⟨hu, hvu⟩, hcell⟩ := v3 j hj
   have f1 := hcell 6 (by decide)
   have f2 := hcell 7 (by decide)
   rw [Nat.zero_add, e1] at f1
   rw [Nat.zero_add, e2] at f2
   obtain rfl : nv = nv' := Option.some.inj f1
   obtain rfl : bv = bv' := Option.some.inj f2
   exact ⟨⟨u, sh, ns, bs⟩, ⟨⟨n2, fun r hr => (n3 r hr).1, b2⟩, ⟨fun r hr => (n3 r hr).2, b3⟩, hvu⟩, b, _, hA, h3, rfl, hcell, nv, bv, rfl, hu, n1.more fun g hg => hg.2, b1.more fun g hg => hg.2⟩
  ·exact ⟨[], by show 0 = us[k].n; omega, .inl (List.nil_sublist _), fun j hj => absurd hj (by omega)⟩
 obtain ⟨vs, v1, v2, hx⟩ := hv
 obtain ⟨cs, hl, hcs⟩ := exists_list _ hx
 refine ⟨cs, hl, ⟨us[k].A, us[k].c, by rw [hl], fun j hj => ?_⟩, fun c hc => ?_, ?_, fun c hc => ?_⟩
 ·obtain ⟨_, b, cl, hA, hb, h1, h2, h3⟩ := hcs j hj
  exact ⟨b, 0, cl, hA, hb, h1, h2, h3⟩
 ·obtain ⟨j, hj, rfl⟩ := List.getElem_of_mem hc
  exact (hcs j hj).1.1
 ·have e : cs.map (·.v) = vs := by
   apply List.ext_getElem
   ·rw [List.length_map, hl, v1]
   ·intro j hj1 hj2
    rw [List.length_map] at hj1
    have := (hcs j hj1).1.2.2
    rw [List.getElem?_eq_getElem hj2] at this
    rw [List.getElem_map]
    exact (Option.some.inj this).symm
  rw [e]
  exact v2
 ·obtain ⟨j, hj, rfl⟩ := List.getElem_of_mem hc
  exact (hcs j hj).1.2.1
theorem world_data {g c : Nat} (hbt : Built B w (.slice (some ⟨g, 0, none⟩) us.length c) us nf) (h : Dat B R us.length w us) (h2 : 2 ≤ us.length) (h11 : us.length ≤ 11) (hhd : Named us) :
  ∃ l : List UnitW, WorldRd w (Lt w.heap.size) (.agg #[.slice (some ⟨g, 0, none⟩) us.length c]) l ∧ UnitsT l ∧ nsOf l = us.map (·.n) ∧ (nsOf l).head? = some 1 := by
 have hx : ∀ k, k < us.length → ∃ u : UnitW, (∀ d, us[k]? = some d → u.cands.length = d.n ∧ u.nm = d.nm ∧ u.ft = d.ft) ∧ ((∀ c ∈ u.cands, c.tight us.length) ∧ VersD (u.cands.map (·.v)) ∧ ∀ c ∈ u.cands, c.good) ∧ ∃ cl, cl.length = 3 ∧ (∀ i, i < 3 → w.cell? ⟨g, 0 + k * 3 + i, none⟩ = cl[i]?) ∧ tUnit.rd w (Lt w.heap.size) cl u := by
  intro k hk
  obtain ⟨cs, hl, hs, hok⟩ := h.cands hbt hk
  obtain ⟨e0, e1, e2⟩ := hbt.unitAt hk rfl
  refine ⟨⟨us[k].nm, us[k].ft, cs⟩, fun d hd => ?_, hok, [.string us[k].nm, .string us[k].ft, .slice us[k].A us[k].n us[k].c], rfl, fun i hi => ?_, _, rfl, hs⟩
  ·rw [List.getElem?_eq_getElem hk] at hd
   cases hd
   exact ⟨hl, rfl, rfl⟩
  ·rw [Nat.zero_add]
   match i, hi with
   | 0, _ => exact e0
   | 1, _ => exact e1
   | 2, _ => exact e2
 obtain ⟨l, hl, hls⟩ := exists_list _ hx
 have hns : nsOf l = us.map (·.n) := by
  apply List.ext_getElem
  ·simp [nsOf, hl]
  ·intro k hk1 hk2
   have hk : k < l.length := by simpa [nsOf] using hk1
   have := ((hls k hk).1 us[k] (List.getElem?_eq_getElem (by omega))).1
   simpa [nsOf] using this
 rcases hbt.own.2 with ⟨hv, _⟩ | ⟨g', cap, cur, hv, hb, hg, h3, h4, h5, h6⟩
 ·cases hv
 ·injection hv with e1 e2 e3
  injection e1 with e1
  injection e1 with e1
  subst e1 e3
  refine ⟨l, ⟨g, c, by rw [hl], (Array.getElem?_eq_some_iff.1 hg).1, ⟨_, c, by rw [hl], by omega, h4, fun k hk => ?_⟩⟩, ⟨⟨?_, ?_, ?_⟩, fun u hu => ?_, fun u hu => ?_, fun u hu => ?_, ?_⟩, hns, ?_⟩
  ·obtain ⟨_, _, cl, c1, c2, c3⟩ := hls k hk
   exact ⟨g, 0, cl, rfl, (Array.getElem?_eq_some_iff.1 hg).1, c1, c2, c3⟩
  ·rw [hns]; simpa using h2
  ·rw [hns]; simpa using h11
  ·rw [hns]
   intro k hk
   have hk' : k < us.length := by simpa using hk
   have := (hbt.cands k hk').1
   simpa using this
  ·obtain ⟨k, hk, rfl⟩ := List.getElem_of_mem hu
   rw [hl]
   exact (hls k hk).2.1.1
  ·obtain ⟨k, hk, rfl⟩ := List.getElem_of_mem hu
   exact (hls k hk).2.1.2.1
  ·obtain ⟨k, hk, rfl⟩ := List.getElem_of_mem hu
   exact (hls k hk).2.1.2.2
  ·obtain ⟨fs, f1, f2⟩ := hhd.2
   refine ⟨fs, f1, f2 ▸ ?_⟩
   apply List.ext_getElem
   ·rw [List.length_map, List.length_map, hl]
   ·intro k hk1 hk2
    rw [List.length_map] at hk1 hk2
    obtain ⟨-, h2, h3⟩ := (hls k hk1).1 us[k] (List.getElem?_eq_getElem hk2)
    rw [List.getElem_map, List.getElem_map, h2, h3]
  ·rw [hns, List.head?_map]
   exact hhd.1
theorem WorldRd.uni {v : Value} {l : List UnitW} {F : Nat → Prop} (h : WorldRd w F v l) : UniRd w F v (nsOf l) := by
 obtain ⟨g, cap, rfl, hF, hs⟩ := h
 obtain ⟨A, cap', hv, -, -, hc⟩ := hs.shape
 injection hv with e1 e2 e3
 subst e1 e3
 refine ⟨g, cap, by simp [nsOf], hF, fun k hk => ?_⟩
 have hk' : k < l.length := by simpa [nsOf] using hk
 obtain ⟨g', o, cs, hA, -, -, hcell, cv, rfl, A2, c2, rfl, -⟩ := hc k hk'
 injection hA with hA
 injection hA with e1 e2
 subst e1 e2
 have h2 := hcell 2 (by show 2 < 3; omega)
 rw [Nat.zero_add] at h2
 refine ⟨A2, c2, ?_⟩
 have e : (nsOf l)[k] = l[k].cands.length := by simp [nsOf]
 rw [e]
 exact h2
end
end
section
def nm (m : Int) : Nat := (BitVec.ofInt 64 m).toNat
theorem nm_nat {k : Nat} (h : k < 18446744073709551616) : nm (k : Int) = k := by
 unfold nm
 rw [BitVec.ofInt_natCast, BitVec.toNat_ofNat]
 exact Nat.mod_eq_of_lt (by omega)
theorem band (x y : Int) (h : nm x &&& nm y < 9223372036854775808) : bits .and .i64 x y = ((nm x &&& nm y : Nat) : Int) := by
 show IntKind.i64.wrap ((BitVec.ofInt 64 x &&& BitVec.ofInt 64 y).toNat : Int) = _
 rw [BitVec.toNat_and, IntKind.wrap_i64]
 unfold nm at *
 omega
theorem bor (x y : Int) (h : nm x ||| nm y < 9223372036854775808) : bits .or .i64 x y = ((nm x ||| nm y : Nat) : Int) := by
 show IntKind.i64.wrap ((BitVec.ofInt 64 x ||| BitVec.ofInt 64 y).toNat : Int) = _
 rw [BitVec.toNat_or, IntKind.wrap_i64]
 unfold nm at *
 omega
theorem bv_andn (a b : BitVec 64) : a &&& ~~~b = 0#64 ↔ a &&& b = a := by
 constructor
 ·intro h
  apply BitVec.eq_of_getLsbD_eq
  intro i hi
  have := congrArg (fun z => z.getLsbD i) h
  simp [hi] at this ⊢
  exact this
 ·intro h
  apply BitVec.eq_of_getLsbD_eq
  intro i hi
  have := congrArg (fun z => z.getLsbD i) h
  simp [hi] at this ⊢
  exact this
theorem bandn (x y : Int) : (bits .andNot .i64 x y == 0) = decide (nm x &&& nm y = nm x) := by
 have hb := (BitVec.ofInt 64 x &&& ~~~BitVec.ofInt 64 y).isLt
 have h1 : (bits .andNot .i64 x y == 0) = decide ((BitVec.ofInt 64 x &&& ~~~BitVec.ofInt 64 y).toNat = 0) := by
  show (IntKind.i64.wrap ((BitVec.ofInt 64 x &&& ~~~BitVec.ofInt 64 y).toNat : Int) == 0) = _
  rw [IntKind.wrap_i64]
  by_cases h0 : (BitVec.ofInt 64 x &&& ~~~BitVec.ofInt 64 y).toNat = 0
  ·simp [h0]
  ·rw [decide_eq_false h0]
   simp only [beq_eq_false_iff_ne, ne_eq]
   omega
 rw [h1]
 apply decide_eq_decide.2
 rw [show (0 : Nat) = (0#64).toNat from rfl, BitVec.toNat_inj, bv_andn, ← BitVec.toNat_inj, BitVec.toNat_and]
 rfl
theorem pow_and (k m : Nat) : 2 ^ k &&& m ≠ 0 ↔ m.testBit k = true := by
 constructor
 ·intro h
  cases hb : m.testBit k with
  | true => rfl
  | false =>
   exfalso
   apply h
   apply Nat.eq_of_testBit_eq
   intro i
   rw [Nat.testBit_and, Nat.testBit_two_pow, Nat.zero_testBit]
   by_cases e : k = i
   ·subst e; simp [hb]
   ·simp [e]
 ·intro h h0
  have : (2 ^ k &&& m).testBit k = true := by rw [Nat.testBit_and, Nat.testBit_two_pow]; simp [h]
  rw [h0, Nat.zero_testBit] at this
  cases this
theorem and_le31 {a b : Nat} (h : b ≤ 31) : a &&& b ≤ 31 := Nat.le_trans Nat.and_le_right h
theorem or_le31 {a b : Nat} (h : a ≤ 31) (h' : b ≤ 31) : a ||| b ≤ 31 := by
 have : a ||| b < 2 ^ 5 := Nat.or_lt_two_pow (by omega) (by omega)
 omega
def fullN (ns : List Nat) (u : Nat) : Nat := match ns[u]? with
 | some n => 2 ^ (n + 1) - 1
 | none => 0
section
variable {ns : List Nat}
theorem fullN_of {u : Nat} (h : u < ns.length) : fullN ns u = 2 ^ (ns[u] + 1) - 1 := by unfold fullN; rw [List.getElem?_eq_getElem h]
theorem fullN_out {u : Nat} (h : ¬ u < ns.length) : fullN ns u = 0 := by unfold fullN; rw [List.getElem?_eq_none (by omega)]
theorem fullN_le (ho : NsOk ns) (u : Nat) : fullN ns u ≤ 31 := by
 by_cases h : u < ns.length
 ·rw [fullN_of h]
  have h1 := ho.le u h
  have : 2 ^ (ns[u] + 1) ≤ 2 ^ 5 := Nat.pow_le_pow_right (by decide) (by omega)
  omega
 ·rw [fullN_out h]; omega
theorem fullN_pos {u : Nat} (h : u < ns.length) : 1 ≤ fullN ns u := by
 rw [fullN_of h]
 have : 2 ^ 1 ≤ 2 ^ (ns[u] + 1) := Nat.pow_le_pow_right (by decide) (by omega)
 omega
theorem fullF_eq (u : Int) (h : 0 ≤ u) : fullF ns u = (fullN ns u.toNat : Int) := by
 unfold fullF
 by_cases hu : u.toNat < ns.length
 ·rw [if_neg (by omega), fullN_of hu, List.getElem?_eq_getElem hu]
  unfold pw
  have : 0 < 2 ^ (ns[u.toNat] + 1) := Nat.pow_pos (by decide)
  simp only [Option.getD_some]
  omega
 ·rw [if_pos (by omega), fullN_out hu]; rfl
theorem fullF_neg (u : Int) (h : u < 0) : fullF ns u = 0 := by unfold fullF; rw [if_pos (.inl h)]
theorem fullF_nat (u : Nat) : fullF ns (u : Int) = (fullN ns u : Int) := by rw [fullF_eq _ (by omega)]; simp
theorem full_bit {u : Nat} (h : u < ns.length) (k : Nat) : (fullN ns u).testBit k = decide (k ≤ ns[u]) := by
 rw [fullN_of h, Nat.testBit_two_pow_sub_one]
 apply decide_eq_decide.2
 omega
structure IncOk (ns : List Nat) (M : Nat → Nat) : Prop where
 pos : ∀ u, u < ns.length → M u ≠ 0
 sub : ∀ u, u < ns.length → M u &&& fullN ns u = M u
def tm (ns : List Nat) (M : Nat → Nat) (u : Nat) : Option Term := if M u = fullN ns u then none else some ⟨(u : Int), (M u : Int)⟩
def canonTo (ns : List Nat) (M : Nat → Nat) (n : Nat) : List Term := (List.range n).filterMap (tm ns M)
def canon (ns : List Nat) (M : Nat → Nat) : List Term := canonTo ns M ns.length
theorem canonTo_succ (M : Nat → Nat) (n : Nat) : canonTo ns M (n + 1) = canonTo ns M n ++ (tm ns M n).toList := by
 unfold canonTo
 rw [List.range_succ, List.filterMap_append]
 cases h : tm ns M n <;> simp [h]
theorem canonTo_len (M : Nat → Nat) (n : Nat) : (canonTo ns M n).length ≤ n := by
 have := List.length_filterMap_le (tm ns M) (List.range n)
 rwa [List.length_range] at this
theorem canon_mem {M : Nat → Nat} {t : Term} : t ∈ canon ns M ↔ ∃ u, u < ns.length ∧ M u ≠ fullN ns u ∧ t = ⟨(u : Int), (M u : Int)⟩ := by
 unfold canon canonTo
 simp only [List.mem_filterMap, List.mem_range]
 constructor
 ·rintro ⟨u, hu, h⟩
  unfold tm at h
  split at h
  ·cases h
  ·rename_i h1
   exact ⟨u, hu, h1, (Option.some.inj h).symm⟩
 ·rintro ⟨u, hu, h1, rfl⟩
  exact ⟨u, hu, by unfold tm; rw [if_neg h1]⟩
theorem filterMap_same {α β : Type} {f g : α → Option β} : ∀ {l : List α}, (∀ x ∈ l, f x = g x) → l.filterMap f = l.filterMap g
 | [], _ => rfl
 | x :: l, h => by
  rw [List.filterMap_cons, List.filterMap_cons, h x (by simp), filterMap_same fun y hy => h y (by simp [hy])]
theorem canon_inj {M M' : Nat → Nat} (h : canon ns M = canon ns M') : ∀ u, u < ns.length → M u = M' u := by
 intro u hu
 have key : ∀ A B : Nat → Nat, canon ns A = canon ns B → A u ≠ fullN ns u → A u = B u := by
  intro A B he hne
  have hm : (⟨(u : Int), (A u : Int)⟩ : Term) ∈ canon ns B := he ▸ canon_mem.2 ⟨u, hu, hne, rfl⟩
  obtain ⟨v, _, _, e⟩ := canon_mem.1 hm
  injection e with e1 e2
  have : u = v := by omega
  subst this
  omega
 by_cases h1 : M u = fullN ns u
 ·by_cases h2 : M' u = fullN ns u
  ·rw [h1, h2]
  ·exact (key M' M h.symm h2).symm
 ·exact key M M' h h1
theorem IncOk.le {M : Nat → Nat} (ho : NsOk ns) (h : IncOk ns M) : ∀ u, u < ns.length → M u ≤ 31 := fun u hu => by
 rw [← h.sub u hu]
 exact and_le31 (fullN_le ho u)
def okN (ns : List Nat) (M : Nat → Nat) : Bool := (List.range ns.length).all fun u => M u != 0
def madeN (ns : List Nat) (M : Nat → Nat) : Option (List Term) := if okN ns M then some (canon ns M) else none
theorem okN_iff {M : Nat → Nat} : okN ns M = true ↔ ∀ u, u < ns.length → M u ≠ 0 := by
 unfold okN
 simp [List.all_eq_true]
def meetN (ns : List Nat) (l : List Term) (u : Nat) : Nat := l.foldl (fun a t => if t.unit = (u : Int) then a &&& nm t.mask else a) (fullN ns u)
def inR (ns : List Nat) (l : List Term) : Bool := l.all fun t => decide (0 ≤ t.unit) && decide (t.unit < ns.length)
def makeN (ns : List Nat) (l : List Term) : Option (List Term) := if inR ns l then madeN ns (meetN ns l) else none
theorem meetN_snoc (l : List Term) (t : Term) (u : Nat) : meetN ns (l ++ [t]) u = if t.unit = (u : Int) then meetN ns l u &&& nm t.mask else meetN ns l u := by
 unfold meetN
 rw [List.foldl_append]
 rfl
theorem fold_le (l : List Term) (u : Nat) : ∀ a : Nat, l.foldl (fun a t => if t.unit = (u : Int) then a &&& nm t.mask else a) a ≤ a := by
 induction l with
 | nil => intro a; exact Nat.le_refl _
 | cons t l ih =>
  intro a
  rw [List.foldl_cons]
  refine Nat.le_trans (ih _) ?_
  split
  ·exact Nat.and_le_left
  ·exact Nat.le_refl _
theorem meetN_le (l : List Term) (u : Nat) : meetN ns l u ≤ fullN ns u := fold_le l u _
theorem fold_bit (l : List Term) (u k : Nat) : ∀ a : Nat, (l.foldl (fun a t => if t.unit = (u : Int) then a &&& nm t.mask else a) a).testBit k = (a.testBit k && l.all fun t => decide (t.unit ≠ (u : Int)) || (nm t.mask).testBit k) := by
 induction l with
 | nil => intro a; simp
 | cons t l ih =>
  intro a
  rw [List.foldl_cons, ih, List.all_cons]
  by_cases h : t.unit = (u : Int)
  ·rw [if_pos h, Nat.testBit_and]
   simp [h, Bool.and_assoc]
  ·rw [if_neg h]
   simp [h]
theorem meet_bit (l : List Term) (u k : Nat) : (meetN ns l u).testBit k = ((fullN ns u).testBit k && l.all fun t => decide (t.unit ≠ (u : Int)) || (nm t.mask).testBit k) := fold_bit l u k _
theorem sub_full {a : Nat} {u : Nat} (h : ∀ k, a.testBit k = true → (fullN ns u).testBit k = true) : a &&& fullN ns u = a := by
 apply Nat.eq_of_testBit_eq
 intro k
 rw [Nat.testBit_and]
 cases hb : a.testBit k with
 | false => rfl
 | true => rw [h k hb]; rfl
theorem IncOk.bit {M : Nat → Nat} (h : IncOk ns M) {u : Nat} (hu : u < ns.length) {k : Nat} (hb : (M u).testBit k = true) : (fullN ns u).testBit k = true := by
 rw [← h.sub u hu, Nat.testBit_and] at hb
 simp at hb
 exact hb.2
theorem meet_ok {l : List Term} (h : okN ns (meetN ns l) = true) : IncOk ns (meetN ns l) :=
 ⟨okN_iff.1 h, fun u _ => sub_full fun k hk => by rw [meet_bit] at hk; simp at hk; exact hk.1⟩
theorem make_some {l r : List Term} (h : makeN ns l = some r) : IncOk ns (meetN ns l) ∧ r = canon ns (meetN ns l) := by
 unfold makeN at h
 split at h
 ·unfold madeN at h
  split at h
  ·rename_i h1
   exact ⟨meet_ok h1, (Option.some.inj h).symm⟩
  ·cases h
 ·cases h
theorem canon_all (ho : NsOk ns) {M : Nat → Nat} (h : IncOk ns M) {u : Nat} (hu : u < ns.length) (k : Nat) : ((fullN ns u).testBit k && (canon ns M).all fun t => decide (t.unit ≠ (u : Int)) || (nm t.mask).testBit k) = (M u).testBit k := by
 have hle := h.le ho
 by_cases hf : M u = fullN ns u
 ·have : ((canon ns M).all fun t => decide (t.unit ≠ (u : Int)) || (nm t.mask).testBit k) = true := by
   rw [List.all_eq_true]
   intro t ht
   obtain ⟨v, hv, hne, rfl⟩ := canon_mem.1 ht
   have : (v : Int) ≠ u := by
    intro e
    have : v = u := by omega
    subst this
    exact hne hf
   simp [this]
  rw [this, hf, Bool.and_true]
 ·have hmem : (⟨(u : Int), (M u : Int)⟩ : Term) ∈ canon ns M := canon_mem.2 ⟨u, hu, hf, rfl⟩
  have hn : nm ((M u : Nat) : Int) = M u := nm_nat (by have := hle u hu; omega)
  cases hb : (M u).testBit k with
  | true =>
   rw [h.bit hu hb, Bool.true_and, List.all_eq_true]
   intro t ht
   obtain ⟨v, hv, hne, rfl⟩ := canon_mem.1 ht
   by_cases e : v = u
   ·subst e; simp [hn, hb]
   ·have : (v : Int) ≠ u := by omega
    simp [this]
  | false =>
   have : ((canon ns M).all fun t => decide (t.unit ≠ (u : Int)) || (nm t.mask).testBit k) = false := by
    rw [List.all_eq_false]
    exact ⟨_, hmem, by simp [hn, hb]⟩
   rw [this, Bool.and_false]
theorem meet_canon (ho : NsOk ns) {M : Nat → Nat} (h : IncOk ns M) {u : Nat} (hu : u < ns.length) : meetN ns (canon ns M) u = M u := by
 apply Nat.eq_of_testBit_eq
 intro k
 rw [meet_bit, canon_all ho h hu]
theorem inR_canon (M : Nat → Nat) : inR ns (canon ns M) = true := by
 unfold inR
 rw [List.all_eq_true]
 intro t ht
 obtain ⟨u, hu, _, rfl⟩ := canon_mem.1 ht
 simp [hu]
def maskF (ns : List Nat) (l : List Term) (u : Int) : Int := match l.find? fun t => t.unit == u with
 | some t => t.mask
 | none => fullF ns u
def maskN (ns : List Nat) (M : Nat → Nat) (u : Int) : Nat := if u < 0 ∨ (ns.length : Int) ≤ u then 0 else M u.toNat
theorem maskN_nat (M : Nat → Nat) {u : Nat} (h : u < ns.length) : maskN ns M (u : Int) = M u := by unfold maskN; rw [if_neg (by omega)]; simp
theorem mask_canon (M : Nat → Nat) (u : Int) : maskF ns (canon ns M) u = (maskN ns M u : Int) := by
 unfold maskF
 split
 ·rename_i t h
  have h1 := List.find?_some h
  obtain ⟨v, hv, _, rfl⟩ := canon_mem.1 (List.mem_of_find?_eq_some h)
  simp at h1
  subst h1
  rw [maskN_nat M hv]
 ·rename_i h
  rw [List.find?_eq_none] at h
  unfold maskN
  split
  ·rename_i h1
   unfold fullF
   rw [if_pos h1]; rfl
  ·rename_i h1
   have hu : u.toNat < ns.length := by omega
   rw [fullF_eq u (by omega)]
   by_cases hf : M u.toNat = fullN ns u.toNat
   ·rw [hf]
   ·have := h _ (canon_mem.2 ⟨_, hu, hf, rfl⟩)
    simp at this
    omega
end
end
end Go.Proofs.YthneiolcljnbeaaGreatDoor
