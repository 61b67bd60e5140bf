import Derived.Test.YtmbjeppnamhgiaaGreatG7
import Derived.Test.YtmbjeppnamhgiaaGreatzBase
import Derived.Outline
import Derived.Test.YtmbjeppnamhgiaaGreatzV15
import Derived.Test.YtmbjeppnamhgiaaGreatzK
import Derived.Test.YtmbjeppnamhgiaaGreatzT7
import Derived.Test.YtmbjeppnamhgiaaGreatT12
section
/- A made world as data: units, candidates, needs, bars. -/
namespace Go.Proofs.YtmbjeppnamhgiaaGreat
open Go Go.RowKit

structure CandW where
  v : Ver
  sh : Int
  needs : List (List WantD)
  bars : List WantD
structure UnitW where
  nm : ByteArray
  ft : ByteArray
  cands : List CandW
def tCand : Ty CandW where
  size := 8
  rd w F cs c := ∃ nv bv, cs = [.int .i64 c.v.major, .int .i64 c.v.minor, .int .i64 c.v.patch, .string c.v.pre, .string c.v.build, .int .i64 c.sh, nv, bv] ∧ c.v.B ∧ SliceRd (tSlice tWant) w F nv c.needs ∧ SliceRd tWant w F bv c.bars
  len h := by obtain ⟨a, b, rfl, _⟩ := h; rfl
  keep hk h := by obtain ⟨a, b, h0, h1, h2, h3⟩ := h; exact ⟨a, b, h0, h1, h2.keep hk, h3.keep hk⟩
  more hF h := by obtain ⟨a, b, h0, h1, h2, h3⟩ := h; exact ⟨a, b, h0, h1, h2.more hF, h3.more hF⟩
/-- A slice that is looked at only: nothing of its capacity. -/
def Seen {α : Type} (t : Ty α) (w : World) (F : Nat → Prop) (v : Value) (l : List α) : Prop :=
  ∃ A cap, v = .slice A l.length cap ∧ ∀ k, (h : k < l.length) → ∃ g o cs, A = some ⟨g, o, none⟩ ∧ F g ∧ cs.length = t.size ∧ (∀ j, j < t.size → w.cell? ⟨g, o + k * t.size + j, none⟩ = cs[j]?) ∧ t.rd w F cs l[k]
theorem Seen.keep {α : Type} {t : Ty α} {w w' : World} {F : Nat → Prop} {v : Value} {l : List α} (hk : Keeps F w w') (h : Seen t w F v l) : Seen t w' F v l := by
  obtain ⟨A, cap, hv, h3⟩ := h
  refine ⟨A, cap, hv, fun k hl => ?_⟩
  obtain ⟨g, o, cs, hA, hF, hc, hcell, hr⟩ := h3 k hl
  refine ⟨g, o, cs, hA, hF, hc, fun j hj => ?_, t.keep hk hr⟩
  rw [← hcell j hj]
  exact World.cell?_of_block (hk _ hF)
theorem Seen.more {α : Type} {t : Ty α} {w : World} {F F' : Nat → Prop} {v : Value} {l : List α} (hF : ∀ k, F k → F' k) (h : Seen t w F v l) : Seen t w F' v l := by
  obtain ⟨A, cap, hv, h3⟩ := h
  refine ⟨A, cap, hv, fun k hl => ?_⟩
  obtain ⟨g, o, cs, hA, hFF, hc, hcell, hr⟩ := h3 k hl
  exact ⟨g, o, cs, hA, hF _ hFF, hc, hcell, t.more hF hr⟩
def tUnit : Ty UnitW where
  size := 3
  rd w F cs u := ∃ cv, cs = [.string u.nm, .string u.ft, cv] ∧ Seen tCand w F cv u.cands
  len h := by obtain ⟨a, rfl, _⟩ := h; rfl
  keep hk h := by obtain ⟨a, h0, h1⟩ := h; exact ⟨a, h0, h1.keep hk⟩
  more hF h := by obtain ⟨a, h0, h1⟩ := h; exact ⟨a, h0, h1.more hF⟩
/-- A world, read. -/
def WorldRd (w : World) (F : Nat → Prop) (v : Value) (us : List UnitW) : Prop := ∃ g cap, v = .agg #[.slice (some ⟨g, 0, none⟩) us.length cap] ∧ F g ∧ SliceRd tUnit w F (.slice (some ⟨g, 0, none⟩) us.length cap) us
theorem WorldRd.keep {w w' : World} {F : Nat → Prop} {v : Value} {us : List UnitW} (hk : Keeps F w w') (h : WorldRd w F v us) : WorldRd w' F v us := by
  obtain ⟨g, c, h0, hF, h1⟩ := h
  exact ⟨g, c, h0, hF, h1.keep hk⟩
theorem WorldRd.more {w : World} {F F' : Nat → Prop} {v : Value} {us : List UnitW} (hF : ∀ k, F k → F' k) (h : WorldRd w F v us) : WorldRd w F' v us := by
  obtain ⟨g, c, h0, h1, h2⟩ := h
  exact ⟨g, c, h0, hF _ h1, h2.more hF⟩
theorem WorldRd.lift {w w' : World} {B B' : Nat} {v : Value} {us : List UnitW} (h : WorldRd w (Lt B) v us) (hb : Below B w w') (hB : B ≤ B') : WorldRd w' (Lt B') v us :=
  (h.keep (Keeps.of_below hb fun _ h => h)).more fun _ hk => Nat.lt_of_lt_of_le hk hB
def CandW.ok (m : Nat) (c : CandW) : Prop := c.needs.length ≤ 4 ∧ (∀ r ∈ c.needs, RowOk m r) ∧ RowOk m c.bars
/-- How many candidates each unit has. -/
def nsOf (us : List UnitW) : List Nat := us.map fun u => u.cands.length
structure UnitsOk (us : List UnitW) : Prop where
  ns : NsOk (nsOf us)
  cands : ∀ u ∈ us, ∀ c ∈ u.cands, c.ok us.length
theorem exists_list {α : Type} {P : Nat → α → Prop} : ∀ n : Nat, (∀ k, k < n → ∃ x, P k x) → ∃ l : List α, l.length = n ∧ ∀ k, (hk : k < l.length) → P k l[k]
  | 0, _ => ⟨[], rfl, fun k hk => absurd hk (by simp)⟩
  | n + 1, h => by
    obtain ⟨l, h1, h2⟩ := exists_list n fun k hk => h k (by omega)
    obtain ⟨x, hx⟩ := h n (by omega)
    refine ⟨l ++ [x], by simp [h1], fun k hk => ?_⟩
    by_cases hlt : k < l.length
    · rw [List.getElem_append_left hlt]
      exact h2 k hlt
    · have : k = n := by simp at hk; omega
      subst this
      rw [List.getElem_append_right (by omega)]
      simpa [h1] using hx
section
variable {B R : Nat} {w : World} {us : List UnitD} {nf : Nat → Nat}
theorem CandBlk.candAt {b n nf k : Nat} (h : CandBlk w b n nf) (hk : k < n) : ∃ (u : Ver) (sh : Int) (nv bv : Value), u.B ∧ ∀ j, j < 8 → w.cell? ⟨b, 0 + k * 8 + j, none⟩ = [Value.int .i64 u.major, .int .i64 u.minor, .int .i64 u.patch, .string u.pre, .string u.build, .int .i64 sh, nv, bv][j]? := by
  obtain ⟨cur, h1, h2, h3⟩ := h
  obtain ⟨u, sh, nv, bv, g0, g1, g2, g3, g4, g5, g6, g7, g8, g9⟩ := h3 k hk
  have e : ∀ o, w.cell? ⟨b, o, none⟩ = cur[o]? := fun o => cell_of_row w b o cur _ (0, 0) h1
  refine ⟨u, sh, nv, bv, g0, fun j hj => ?_⟩
  rw [e, Nat.zero_add]
  match j, hj with
  | 0, _ => exact g1
  | 1, _ => exact g2
  | 2, _ => exact g3
  | 3, _ => exact g4
  | 4, _ => exact g5
  | 5, _ => exact g6
  | 6, _ => exact g7
  | 7, _ => exact g8
/-- A unit's candidates, read. -/
theorem Dat.cands {m : Nat} {lv : Value} (h : Dat B R m w us) (hbt : Built B w lv us nf) {k : Nat} (hk : k < us.length) :
    ∃ cs : List CandW, cs.length = us[k].n ∧ Seen tCand w (Lt w.heap.size) (.slice us[k].A us[k].n us[k].c) cs ∧ ∀ c ∈ cs, c.ok m := by
  have hx : ∀ j, j < us[k].n → ∃ c : CandW, c.ok m ∧ ∃ b cl, us[k].A = some ⟨b, 0, none⟩ ∧ b < w.heap.size ∧ cl.length = 8 ∧ (∀ i, i < 8 → w.cell? ⟨b, 0 + j * 8 + i, none⟩ = cl[i]?) ∧ tCand.rd w (Lt w.heap.size) cl c := by
    intro j hj
    obtain ⟨b, hA, hb, hblk⟩ := (hbt.cands k hk).2 (by omega)
    obtain ⟨h1, h2, h3, h4⟩ := h.2 k hk b (by omega) hA
    obtain ⟨nv, bv, e1, e2, ⟨ns, n1, n2, n3⟩, ⟨bs, b1, b2⟩⟩ := h4 j hj
    obtain ⟨u, sh, nv', bv', hu, hcell⟩ := hblk.candAt hj
    have f1 := hcell 6 (by decide)
    have f2 := hcell 7 (by decide)
    rw [Nat.zero_add, e1] at f1
    rw [Nat.zero_add, e2] at f2
    obtain rfl : nv = nv' := Option.some.inj f1
    obtain rfl : bv = bv' := Option.some.inj f2
    exact ⟨⟨u, sh, ns, bs⟩, ⟨n2, n3, b2⟩, b, _, hA, h3, rfl, hcell, nv, bv, rfl, hu, n1.more fun g hg => hg.2, b1.more fun g hg => hg.2⟩
  obtain ⟨cs, hl, hcs⟩ := exists_list _ hx
  refine ⟨cs, hl, ⟨us[k].A, us[k].c, by rw [hl], fun j hj => ?_⟩, fun c hc => ?_⟩
  · obtain ⟨_, b, cl, hA, hb, h1, h2, h3⟩ := hcs j hj
    exact ⟨b, 0, cl, hA, hb, h1, h2, h3⟩
  · obtain ⟨j, hj, rfl⟩ := List.getElem_of_mem hc
    exact (hcs j hj).1
/-- A world just made, as data. -/
theorem world_data {g c : Nat} (hbt : Built B w (.slice (some ⟨g, 0, none⟩) us.length c) us nf) (h : Dat B R us.length w us) (h2 : 2 ≤ us.length) (h11 : us.length ≤ 11) (hhd : us.head?.map (·.n) = some 1) :
    ∃ l : List UnitW, WorldRd w (Lt w.heap.size) (.agg #[.slice (some ⟨g, 0, none⟩) us.length c]) l ∧ UnitsOk l ∧ nsOf l = us.map (·.n) ∧ (nsOf l).head? = some 1 := by
  have hx : ∀ k, k < us.length → ∃ u : UnitW, (∀ d, us[k]? = some d → u.cands.length = d.n) ∧ (∀ c ∈ u.cands, c.ok us.length) ∧ ∃ cl, cl.length = 3 ∧ (∀ i, i < 3 → w.cell? ⟨g, 0 + k * 3 + i, none⟩ = cl[i]?) ∧ tUnit.rd w (Lt w.heap.size) cl u := by
    intro k hk
    obtain ⟨cs, hl, hs, hok⟩ := h.cands hbt hk
    obtain ⟨e0, e1, e2⟩ := hbt.unitAt hk rfl
    refine ⟨⟨us[k].nm, us[k].ft, cs⟩, fun d hd => ?_, hok, [.string us[k].nm, .string us[k].ft, .slice us[k].A us[k].n us[k].c], rfl, fun i hi => ?_, _, rfl, hs⟩
    · rw [List.getElem?_eq_getElem hk] at hd
      cases hd
      exact hl
    · rw [Nat.zero_add]
      match i, hi with
      | 0, _ => exact e0
      | 1, _ => exact e1
      | 2, _ => exact e2
  obtain ⟨l, hl, hls⟩ := exists_list _ hx
  have hns : nsOf l = us.map (·.n) := by
    apply List.ext_getElem
    · simp [nsOf, hl]
    · intro k hk1 hk2
      have hk : k < l.length := by simpa [nsOf] using hk1
      have := (hls k hk).1 us[k] (List.getElem?_eq_getElem (by omega))
      simpa [nsOf] using this
  rcases hbt.own.2 with ⟨hv, _⟩ | ⟨g', cap, cur, hv, hb, hg, h3, h4, h5, h6⟩
  · cases hv
  · injection hv with e1 e2 e3
    injection e1 with e1
    injection e1 with e1
    subst e1 e3
    refine ⟨l, ⟨g, c, by rw [hl], (Array.getElem?_eq_some_iff.1 hg).1, ⟨_, c, by rw [hl], by omega, h4, fun k hk => ?_⟩⟩, ⟨⟨?_, ?_, ?_⟩, fun u hu => ?_⟩, hns, ?_⟩
    · obtain ⟨_, _, cl, c1, c2, c3⟩ := hls k hk
      exact ⟨g, 0, cl, rfl, (Array.getElem?_eq_some_iff.1 hg).1, c1, c2, c3⟩
    · rw [hns]; simpa using h2
    · rw [hns]; simpa using h11
    · rw [hns]
      intro k hk
      have hk' : k < us.length := by simpa using hk
      have := (hbt.cands k hk').1
      simpa using this
    · obtain ⟨k, hk, rfl⟩ := List.getElem_of_mem hu
      rw [hl]
      exact (hls k hk).2.1
    · rw [hns, List.head?_map]
      exact hhd
/-- The counts alone. -/
theorem WorldRd.uni {v : Value} {l : List UnitW} {F : Nat → Prop} (h : WorldRd w F v l) : UniRd w F v (nsOf l) := by
  obtain ⟨g, cap, rfl, hF, hs⟩ := h
  obtain ⟨A, cap', hv, -, -, hc⟩ := hs.shape
  injection hv with e1 e2 e3
  subst e1 e3
  refine ⟨g, cap, by simp [nsOf], hF, fun k hk => ?_⟩
  have hk' : k < l.length := by simpa [nsOf] using hk
  obtain ⟨g', o, cs, hA, -, -, hcell, cv, rfl, A2, c2, rfl, -⟩ := hc k hk'
  injection hA with hA
  injection hA with e1 e2
  subst e1 e2
  have h2 := hcell 2 (by show 2 < 3; omega)
  rw [Nat.zero_add] at h2
  refine ⟨A2, c2, ?_⟩
  have e : (nsOf l)[k] = l[k].cands.length := by simp [nsOf]
  rw [e]
  exact h2
end
end Go.Proofs.YtmbjeppnamhgiaaGreat
end
section
/- A world's facts as data: which versions a set has, clauses, rows, what is not allowed. No program stands here. -/
namespace Go.Proofs.YtmbjeppnamhgiaaGreat
open Go Go.RowKit

/-- Does a cut lie ahead of a version? -/
def aheadB (c : Cut) (v : Ver) : Bool := cutMay c && (mayV v && if c.en = 0 then decide (cmpV c.v v < 0) || (decide (cmpV c.v v = 0) && !c.after) else decide (c.en < 0))
def holdsB (s : Span) (v : Ver) : Bool := spanMay s && (mayV v && (aheadB s.lo v && !aheadB s.hi v))
def has4B (l : List Span) (v : Ver) : Bool := rowMayB l && l.any fun s => holdsB s v
def hasB (s : SetD) (v : Ver) : Bool := setMayB s.rel s.pre && (mayV v && if v.pre.size = 0 then has4B s.rel v else has4B s.pre v)
/-- Of the first candidates those that a set has, as a mask. -/
def metTo (cs : List CandW) (s : SetD) : Nat → Nat
  | 0 => 0
  | k + 1 => metTo cs s k + if (cs[k]?.map fun c => hasB s c.v).getD false = true then 2 ^ (k + 1) else 0
theorem metTo_succ {cs : List CandW} {s : SetD} {k : Nat} (hk : k < cs.length) : metTo cs s (k + 1) = metTo cs s k + if hasB s cs[k].v = true then 2 ^ (k + 1) else 0 := by
  show metTo cs s k + _ = _
  rw [List.getElem?_eq_getElem hk]
  rfl
theorem metTo_lt (cs : List CandW) (s : SetD) (k : Nat) : metTo cs s k < 2 ^ (k + 1) := by
  induction k with
  | zero => show 0 < 2 ^ (0 + 1); decide
  | succ k ih =>
    have : 2 ^ (k + 2) = 2 ^ (k + 1) + 2 ^ (k + 1) := by rw [Nat.pow_succ]; omega
    show metTo cs s k + _ < 2 ^ (k + 2)
    split <;> omega
theorem add_pow_bit {a n : Nat} (h : a < 2 ^ n) (j : Nat) : (a + 2 ^ n).testBit j = (a.testBit j || decide (j = n)) := by
  have h1 := Nat.two_pow_add_eq_or_of_lt h 1
  rw [Nat.mul_one] at h1
  rw [Nat.add_comm, h1, Nat.testBit_or, Nat.testBit_two_pow]
  rw [show decide (n = j) = decide (j = n) from decide_eq_decide.2 eq_comm]
  exact Bool.or_comm _ _
theorem metTo_bit (cs : List CandW) (s : SetD) (k j : Nat) : (metTo cs s k).testBit j = true ↔ 1 ≤ j ∧ j ≤ k ∧ (cs[j - 1]?.map fun c => hasB s c.v).getD false = true := by
  induction k with
  | zero =>
    show (0 : Nat).testBit j = true ↔ _
    rw [Nat.zero_testBit]
    constructor
    · intro h; cases h
    · rintro ⟨h1, h2, _⟩; omega
  | succ k ih =>
    show (metTo cs s k + _).testBit j = true ↔ _
    split
    · rename_i hh
      rw [add_pow_bit (metTo_lt cs s k), Bool.or_eq_true, ih, decide_eq_true_eq]
      constructor
      · rintro (⟨h1, h2, h3⟩ | rfl)
        · exact ⟨h1, by omega, h3⟩
        · exact ⟨by omega, by omega, hh⟩
      · rintro ⟨h1, h2, h3⟩
        by_cases e : j = k + 1
        · exact .inr e
        · exact .inl ⟨h1, by omega, h3⟩
    · rename_i hh
      rw [Nat.add_zero, ih]
      constructor
      · rintro ⟨h1, h2, h3⟩; exact ⟨h1, by omega, h3⟩
      · rintro ⟨h1, h2, h3⟩
        by_cases e : j = k + 1
        · subst e; exact absurd h3 hh
        · exact ⟨h1, by omega, h3⟩
/-- The values that meet a want. -/
def metN (us : List UnitW) (x : WantD) : Nat := match us[x.u.toNat]? with
  | some u => metTo u.cands x.s u.cands.length
  | none => 0
theorem metN_le (us : List UnitW) (x : WantD) : metN us x ≤ fullN (nsOf us) x.u.toNat := by
  unfold metN fullN nsOf
  rw [List.getElem?_map]
  cases us[x.u.toNat]? with
  | none => exact Nat.le_refl _
  | some u =>
    have := metTo_lt u.cands x.s u.cands.length
    show metTo u.cands x.s u.cands.length ≤ 2 ^ (u.cands.length + 1) - 1
    omega
/-- The terms of a clause, as they are laid. -/
def clauseT (us : List UnitW) (bar : Bool) (x : WantD) : Term := ⟨x.u, ((if bar then metN us x else fullN (nsOf us) x.u.toNat - metN us x : Nat) : Int)⟩
def clauseL (us : List UnitW) (u p : Nat) (l : List WantD) (bar : Bool) : List Term := ⟨(u : Int), ((2 ^ (p + 1) : Nat) : Int)⟩ :: l.map (clauseT us bar)
/-- A row: a mask of each unit. -/
structure RowN where
  kind : Int
  u : Nat
  M : Nat → Nat
def likeN (ns : List Nat) (x r : RowN) : Bool := decide (x.kind = r.kind) && (decide (x.u = r.u) && decide (butL (canon ns x.M) r.u = butL (canon ns r.M) r.u))
def bothN (x r : RowN) : RowN := ⟨x.kind, x.u, fun v => if v = r.u then x.M v ||| r.M v else x.M v⟩
def putN (ns : List Nat) : List RowN → RowN → List RowN
  | [], r => [r]
  | x :: l, r => if likeN ns x r then bothN x r :: l else x :: putN ns l r
def addN (us : List UnitW) (u p : Nat) (kind : Int) (bar : Bool) (rows : List RowN) (l : List WantD) : List RowN :=
  if (makeN (nsOf us) (clauseL us u p l bar)).isSome then putN (nsOf us) rows ⟨kind, u, meetN (nsOf us) (clauseL us u p l bar)⟩ else rows
def needsN (us : List UnitW) (u p : Nat) (rows : List RowN) (l : List (List WantD)) : List RowN := l.foldl (fun rows r => addN us u p 2 false rows r) rows
def barsN (us : List UnitW) (u p : Nat) (rows : List RowN) (l : List WantD) : List RowN := l.foldl (fun rows x => addN us u p 3 true rows [x]) rows
def candN (us : List UnitW) (u p : Nat) (rows : List RowN) (c : CandW) : List RowN := barsN us u p (needsN us u p rows c.needs) c.bars
def candsN (us : List UnitW) (u : Nat) (rows : List RowN) (cs : List CandW) : Nat → List RowN
  | 0 => rows
  | k + 1 => match cs[k]? with
    | some c => candN us u k (candsN us u rows cs k) c
    | none => candsN us u rows cs k
def rootN (ns : List Nat) : RowN := ⟨1, 0, fun v => if v = 0 then 1 else fullN ns v⟩
def unitsN (us : List UnitW) : Nat → List RowN
  | 0 => [rootN (nsOf us)]
  | k + 1 => match us[k]? with
    | some u => candsN us k (unitsN us k) u.cands u.cands.length
    | none => unitsN us k
/-- All rows of a world. -/
def allN (us : List UnitW) : List RowN := unitsN us us.length
/-- What is not allowed. -/
def banL (ns : List Nat) (u : Nat) (a : Nat) : List Term := [⟨(u : Int), ((fullN ns u - (fullN ns u &&& a) : Nat) : Int)⟩]
def banTo (ns : List Nat) (al : List Nat) : Nat → List (Nat → Nat)
  | 0 => []
  | k + 1 => match al[k]? with
    | some a => banTo ns al k ++ (if (makeN ns (banL ns k a)).isSome then [meetN ns (banL ns k a)] else [])
    | none => banTo ns al k
/-- All incompatibilities. -/
def dbM (us : List UnitW) (al : List Nat) : List (Nat → Nat) := (allN us).map (·.M) ++ banTo (nsOf us) al (min al.length us.length)

section
variable {ns : List Nat}
theorem unitL_append (l m : List Term) (u : Nat) : unitL (l ++ m) u = unitL l u ++ unitL m u := by unfold unitL; rw [List.filter_append]
theorem unitL_to (M : Nat → Nat) (v n : Nat) : unitL (canonTo ns M n) v = if v < n then (tm ns M v).toList else [] := by
  induction n with
  | zero => simp [canonTo, unitL]
  | succ n ih =>
    rw [canonTo_succ, unitL_append, ih]
    have ht : unitL (tm ns M n).toList v = if v = n then (tm ns M v).toList else [] := by
      unfold tm
      by_cases h : M n = fullN ns n
      · rw [if_pos h]
        by_cases e : v = n
        · subst e; rw [if_pos h, if_pos rfl]; rfl
        · rw [if_neg e]; rfl
      · rw [if_neg h]
        by_cases e : v = n
        · subst e; rw [if_neg h, if_pos rfl]; simp [unitL]
        · have e2 : ¬ (n : Int) = (v : Int) := by omega
          rw [if_neg e]; simp [unitL, e2]
    rw [ht]
    by_cases h1 : v < n
    · rw [if_pos h1, if_neg (by omega), if_pos (by omega)]; simp
    · by_cases h2 : v = n
      · subst h2
        rw [if_neg h1, if_pos rfl, if_pos (by omega)]; rfl
      · rw [if_neg h1, if_neg h2, if_neg (by omega)]; rfl
theorem sortL_congr {l m : List Term} {n : Nat} (h : ∀ u, u < n → unitL l u = unitL m u) : sortL l n = sortL m n := by
  induction n with
  | zero => rfl
  | succ n ih => rw [sortL_succ, sortL_succ, ih fun u hu => h u (by omega), h n (by omega)]
theorem sort_canon (M : Nat → Nat) {n : Nat} (hn : ns.length ≤ n) : sortL (canon ns M) n = canon ns M := by
  have h1 : ∀ k, sortL (canon ns M) k = canonTo ns M (min k ns.length) := by
    intro k
    induction k with
    | zero => simp [sortL, canonTo]
    | succ k ih =>
      rw [sortL_succ, ih]
      have := unitL_to (ns := ns) M k ns.length
      unfold canon
      rw [this]
      by_cases h : k < ns.length
      · rw [if_pos h, Nat.min_eq_left (Nat.le_of_lt h), Nat.min_eq_left (by omega : k + 1 ≤ ns.length), canonTo_succ]
      · rw [if_neg h, Nat.min_eq_right (by omega), Nat.min_eq_right (by omega), List.append_nil]
  rw [h1, Nat.min_eq_right hn]
  rfl
theorem unitL_but (l : List Term) (u v : Nat) : unitL (butL l (u : Int)) v = if v = u then [] else unitL l v := by
  unfold unitL butL
  rw [List.filter_filter]
  by_cases e : v = u
  · subst e
    rw [if_pos rfl]
    apply List.filter_eq_nil_iff.2
    intro t _
    by_cases h : t.unit = (v : Int) <;> simp [h]
  · rw [if_neg e]
    apply List.filter_congr
    intro t _
    by_cases h : t.unit = (v : Int)
    · have : ¬ t.unit = (u : Int) := by omega
      simp [h]
      omega
    · simp [h]
/-- The terms of a joined row, sorted. -/
theorem sort_both (M : Nat → Nat) {u m n : Nat} (hn : ns.length ≤ n) (hu : u < ns.length) (hm : m ≠ fullN ns u) : sortL (⟨(u : Int), (m : Int)⟩ :: butL (canon ns M) (u : Int)) n = canon ns (fun v => if v = u then m else M v) := by
  rw [← sort_canon (fun v => if v = u then m else M v) hn]
  apply sortL_congr
  intro v hv
  have e1 : unitL (⟨(u : Int), (m : Int)⟩ :: butL (canon ns M) (u : Int)) v = unitL [⟨(u : Int), (m : Int)⟩] v ++ unitL (butL (canon ns M) (u : Int)) v := unitL_append [_] _ v
  have e2 := unitL_to (ns := ns) (fun v => if v = u then m else M v) v ns.length
  have e3 := unitL_to (ns := ns) M v ns.length
  rw [e1, unitL_but]
  unfold canon
  rw [e2, e3]
  by_cases e : v = u
  · subst e
    rw [if_pos rfl, if_pos hu]
    unfold tm
    simp [unitL, hm]
  · have e4 : ¬ (u : Int) = (v : Int) := by omega
    rw [if_neg e]
    have e5 : unitL [⟨(u : Int), (m : Int)⟩] v = [] := by simp [unitL, e4]
    rw [e5, List.nil_append]
    by_cases hv2 : v < ns.length
    · rw [if_pos hv2, if_pos hv2]
      unfold tm
      simp [e]
    · rw [if_neg hv2, if_neg hv2]
/-- A row that may be. -/
structure RowN.Ok (ns : List Nat) (r : RowN) : Prop where
  inc : IncOk ns r.M
  u : r.u < ns.length
  bit : r.kind ≠ 1 → (r.M r.u).testBit 0 = false
  kind : 1 ≤ r.kind ∧ r.kind ≤ 3
theorem full_bit0 {u : Nat} (hu : u < ns.length) : (fullN ns u).testBit 0 = true := by rw [full_bit hu]; simp
theorem both_inc {x r : RowN} (hx : x.Ok ns) (hr : r.Ok ns) : IncOk ns (bothN x r).M := by
  refine ⟨fun v hv => ?_, fun v hv => ?_⟩
  · show (if v = r.u then x.M v ||| r.M v else x.M v) ≠ 0
    split
    · intro h0
      have := (Nat.left_le_or : x.M v ≤ x.M v ||| r.M v)
      rw [h0] at this
      have := hx.inc.pos v hv
      omega
    · exact hx.inc.pos v hv
  · show (if v = r.u then x.M v ||| r.M v else x.M v) &&& _ = (if v = r.u then x.M v ||| r.M v else x.M v)
    split
    · rw [Nat.and_or_distrib_right, hx.inc.sub v hv, hr.inc.sub v hv]
    · exact hx.inc.sub v hv
theorem both_ok {x r : RowN} (hx : x.Ok ns) (hr : r.Ok ns) (hl : likeN ns x r = true) (hk : r.kind ≠ 1) : (bothN x r).Ok ns := by
  unfold likeN at hl
  simp only [Bool.and_eq_true, decide_eq_true_eq] at hl
  obtain ⟨h1, h2, _⟩ := hl
  refine ⟨both_inc hx hr, hx.u, fun _ => ?_, hx.kind⟩
  show (if x.u = r.u then x.M x.u ||| r.M x.u else x.M x.u).testBit 0 = false
  rw [if_pos h2, Nat.testBit_or, hx.bit (by rw [h1]; exact hk)]
  rw [h2, hr.bit hk]
  rfl
theorem put_ok {rows : List RowN} {r : RowN} (h : ∀ x ∈ rows, x.Ok ns) (hr : r.Ok ns) (hk : r.kind ≠ 1) : ∀ x ∈ putN ns rows r, x.Ok ns := by
  induction rows with
  | nil => intro x hx; rcases List.mem_singleton.1 hx with rfl; exact hr
  | cons y l ih =>
    intro x hx
    unfold putN at hx
    split at hx
    · rename_i hl
      rcases List.mem_cons.1 hx with rfl | hx
      · exact both_ok (h y List.mem_cons_self) hr hl hk
      · exact h x (List.mem_cons_of_mem _ hx)
    · rcases List.mem_cons.1 hx with rfl | hx
      · exact h _ List.mem_cons_self
      · exact ih (fun x hx => h x (List.mem_cons_of_mem _ hx)) x hx
theorem put_len (rows : List RowN) (r : RowN) : (putN ns rows r).length ≤ rows.length + 1 := by
  induction rows with
  | nil => simp [putN]
  | cons y l ih =>
    unfold putN
    split
    · simp
    · simp; exact ih
theorem put_pre {rows : List RowN} {r : RowN} {k : Nat} (hk : ∀ i, (h : i < rows.length) → i < k → likeN ns rows[i] r = false) (hle : k ≤ rows.length) : putN ns rows r = rows.take k ++ putN ns (rows.drop k) r := by
  induction rows generalizing k with
  | nil => simp
  | cons y l ih =>
    cases k with
    | zero => rfl
    | succ k =>
      have h0 := hk 0 (by simp) (by omega)
      have e : putN ns (y :: l) r = y :: putN ns l r := by
        show (if likeN ns y r then _ else _) = _
        rw [show likeN ns y r = false from h0]; rfl
      rw [e, ih (k := k) (fun i hi hik => hk (i + 1) (by simpa using hi) (by omega)) (by simpa using hle)]
      rfl
theorem put_hit {rows : List RowN} {r : RowN} {k : Nat} (hlt : k < rows.length) (hk : ∀ i, (h : i < rows.length) → i < k → likeN ns rows[i] r = false) (hl : likeN ns rows[k] r = true) : putN ns rows r = rows.set k (bothN rows[k] r) := by
  rw [put_pre hk (Nat.le_of_lt hlt), List.drop_eq_getElem_cons hlt]
  show _ ++ (if likeN ns rows[k] r then _ else _) = _
  rw [hl, if_pos rfl, List.set_eq_take_append_cons_drop, if_pos hlt]
theorem put_miss {rows : List RowN} {r : RowN} (hk : ∀ i, (h : i < rows.length) → likeN ns rows[i] r = false) : putN ns rows r = rows ++ [r] := by
  rw [put_pre (k := rows.length) (fun i h _ => hk i h) (Nat.le_refl _), List.take_of_length_le (Nat.le_refl _), List.drop_of_length_le (Nat.le_refl _)]
  rfl
/-- What a term leaves of a unit's values. -/
theorem meet_head (t : Term) (l : List Term) (u : Nat) (ht : t.unit = (u : Int)) (k : Nat) (h : (meetN ns (t :: l) u).testBit k = true) : (nm t.mask).testBit k = true := by
  rw [meet_bit] at h
  simp only [List.all_cons, Bool.and_eq_true, Bool.or_eq_true, decide_eq_true_eq] at h
  rcases h.2.1 with h1 | h1
  · exact absurd ht h1
  · exact h1
end
section
variable {us : List UnitW} {u p : Nat} {l : List WantD} {bar : Bool} {kind : Int} {rows : List RowN}
theorem clause_ok (hu : u < us.length) (hk : kind = 2 ∨ kind = 3) (hp : p < 60) (hs : (makeN (nsOf us) (clauseL us u p l bar)).isSome) : RowN.Ok (nsOf us) ⟨kind, u, meetN (nsOf us) (clauseL us u p l bar)⟩ := by
  obtain ⟨r, hr⟩ := Option.isSome_iff_exists.1 hs
  refine ⟨(make_some hr).1, by simpa [nsOf] using hu, fun _ => ?_, ⟨by show 1 ≤ kind; omega, by show kind ≤ 3; omega⟩⟩
  cases hb : (meetN (nsOf us) (clauseL us u p l bar) u).testBit 0 with
  | false => rfl
  | true =>
    have h1 := meet_head _ _ u rfl 0 hb
    have h2 : 2 ^ (p + 1) < 18446744073709551616 := by
      have : 2 ^ (p + 1) < 2 ^ 64 := Nat.pow_lt_pow_right (by decide) (by omega)
      exact this
    rw [nm_nat h2, Nat.testBit_two_pow] at h1
    simp at h1
theorem add_ok (hu : u < us.length) (hk : kind = 2 ∨ kind = 3) (hp : p < 60) (h : ∀ x ∈ rows, x.Ok (nsOf us)) : ∀ x ∈ addN us u p kind bar rows l, x.Ok (nsOf us) := by
  unfold addN
  split
  · rename_i hs
    exact put_ok h (clause_ok hu hk hp hs) (by show kind ≠ 1; omega)
  · exact h
theorem add_len : (addN us u p kind bar rows l).length ≤ rows.length + 1 := by
  unfold addN
  split
  · exact put_len _ _
  · omega
end
section
variable {us : List UnitW} {u p : Nat} {rows : List RowN}
theorem needs_snoc (l : List (List WantD)) {k : Nat} (hk : k < l.length) : needsN us u p rows (l.take (k + 1)) = addN us u p 2 false (needsN us u p rows (l.take k)) l[k] := by
  unfold needsN
  rw [take_snoc hk, List.foldl_append]
  rfl
theorem bars_snoc (l : List WantD) {k : Nat} (hk : k < l.length) : barsN us u p rows (l.take (k + 1)) = addN us u p 3 true (barsN us u p rows (l.take k)) [l[k]] := by
  unfold barsN
  rw [take_snoc hk, List.foldl_append]
  rfl
theorem needs_ok (hu : u < us.length) (hp : p < 60) (l : List (List WantD)) : ∀ {rows : List RowN}, (∀ x ∈ rows, x.Ok (nsOf us)) → (∀ x ∈ needsN us u p rows l, x.Ok (nsOf us)) ∧ (needsN us u p rows l).length ≤ rows.length + l.length := by
  induction l with
  | nil => intro rows h; exact ⟨h, by simp [needsN]⟩
  | cons y l ih =>
    intro rows h
    obtain ⟨h1, h2⟩ := ih (add_ok (l := y) (bar := false) hu (.inl rfl) hp h)
    refine ⟨h1, ?_⟩
    have := add_len (us := us) (u := u) (p := p) (kind := 2) (bar := false) (rows := rows) (l := y)
    show (needsN us u p (addN us u p 2 false rows y) l).length ≤ _
    simp only [List.length_cons]
    omega
theorem bars_ok (hu : u < us.length) (hp : p < 60) (l : List WantD) : ∀ {rows : List RowN}, (∀ x ∈ rows, x.Ok (nsOf us)) → (∀ x ∈ barsN us u p rows l, x.Ok (nsOf us)) ∧ (barsN us u p rows l).length ≤ rows.length + l.length := by
  induction l with
  | nil => intro rows h; exact ⟨h, by simp [barsN]⟩
  | cons y l ih =>
    intro rows h
    obtain ⟨h1, h2⟩ := ih (add_ok (l := [y]) (bar := true) hu (.inr rfl) hp h)
    refine ⟨h1, ?_⟩
    have := add_len (us := us) (u := u) (p := p) (kind := 3) (bar := true) (rows := rows) (l := [y])
    show (barsN us u p (addN us u p 3 true rows [y]) l).length ≤ _
    simp only [List.length_cons]
    omega
theorem cand_ok (hu : u < us.length) (hp : p < 60) {c : CandW} {m : Nat} (hc : c.ok m) (h : ∀ x ∈ rows, x.Ok (nsOf us)) : (∀ x ∈ candN us u p rows c, x.Ok (nsOf us)) ∧ (candN us u p rows c).length ≤ rows.length + 6 := by
  obtain ⟨h1, h2⟩ := needs_ok hu hp c.needs h
  obtain ⟨h3, h4⟩ := bars_ok hu hp c.bars h1
  refine ⟨h3, ?_⟩
  have := hc.1
  have := hc.2.2.1
  show (barsN us u p (needsN us u p rows c.needs) c.bars).length ≤ _
  omega
theorem cands_succ {cs : List CandW} {k : Nat} (hk : k < cs.length) : candsN us u rows cs (k + 1) = candN us u k (candsN us u rows cs k) cs[k] := by
  show (match cs[k]? with | some c => _ | none => _) = _
  rw [List.getElem?_eq_getElem hk]
theorem cands_ok (hu : u < us.length) {cs : List CandW} {m : Nat} (hc : ∀ c ∈ cs, c.ok m) (h : ∀ x ∈ rows, x.Ok (nsOf us)) (k : Nat) (hk : k ≤ cs.length) (h4 : cs.length ≤ 4) : (∀ x ∈ candsN us u rows cs k, x.Ok (nsOf us)) ∧ (candsN us u rows cs k).length ≤ rows.length + 6 * k := by
  induction k with
  | zero => exact ⟨h, by show rows.length ≤ _; omega⟩
  | succ k ih =>
    obtain ⟨h1, h2⟩ := ih (by omega)
    have hlt : k < cs.length := by omega
    rw [cands_succ hlt]
    obtain ⟨h3, h5⟩ := cand_ok hu (p := k) (by omega) (hc cs[k] (List.getElem_mem hlt)) h1
    exact ⟨h3, by omega⟩
theorem units_succ {k : Nat} (hk : k < us.length) : unitsN us (k + 1) = candsN us k (unitsN us k) us[k].cands us[k].cands.length := by
  show (match us[k]? with | some u => _ | none => _) = _
  rw [List.getElem?_eq_getElem hk]
theorem root_ok {ns : List Nat} (ho : NsOk ns) (h0 : ns.head? = some 1) : (rootN ns).Ok ns ∧ canon ns (rootN ns).M = [⟨0, 1⟩] := by
  obtain ⟨r, rfl⟩ : ∃ r, ns = 1 :: r := by
    cases ns with
    | nil => cases h0
    | cons x r => exact ⟨r, by rw [Option.some.inj h0]⟩
  refine ⟨⟨⟨fun v hv => ?_, fun v hv => ?_⟩, by simp [rootN], fun h => absurd rfl h, ⟨by show (1 : Int) ≤ 1; omega, by show (1 : Int) ≤ 3; omega⟩⟩, ?_⟩
  · show (if v = 0 then 1 else fullN _ v) ≠ 0
    split
    · omega
    · have := fullN_pos hv; omega
  · show (if v = 0 then 1 else fullN _ v) &&& _ = (if v = 0 then 1 else fullN _ v)
    split
    · rename_i e; subst e; rw [show fullN (1 :: r) 0 = 3 from rfl]; decide
    · exact Nat.and_self _
  · have e : canon (1 :: r) (rootN (1 :: r)).M = canonTo (1 :: r) (rootN (1 :: r)).M (r.length + 1) := rfl
    rw [e]
    have : ∀ n, canonTo (1 :: r) (rootN (1 :: r)).M (n + 1) = [⟨0, 1⟩] := by
      intro n
      induction n with
      | zero => rfl
      | succ n ih =>
        rw [canonTo_succ, ih]
        have : tm (1 :: r) (rootN (1 :: r)).M (n + 1) = none := by
          unfold tm rootN
          rw [if_pos (if_neg (by omega))]
        rw [this]
        rfl
    exact this _
theorem units_ok (ho : UnitsOk us) (h0 : (nsOf us).head? = some 1) (k : Nat) (hk : k ≤ us.length) : (∀ x ∈ unitsN us k, x.Ok (nsOf us)) ∧ (unitsN us k).length ≤ 1 + 24 * k := by
  induction k with
  | zero => exact ⟨fun x hx => by rcases List.mem_singleton.1 hx with rfl; exact (root_ok ho.ns h0).1, by show 1 ≤ _; omega⟩
  | succ k ih =>
    obtain ⟨h1, h2⟩ := ih (by omega)
    have hlt : k < us.length := by omega
    rw [units_succ hlt]
    have h4 : us[k].cands.length ≤ 4 := by
      have := ho.ns.le k (by simpa [nsOf] using hlt)
      simpa [nsOf] using this
    obtain ⟨h3, h5⟩ := cands_ok hlt (ho.cands _ (List.getElem_mem hlt)) h1 us[k].cands.length (Nat.le_refl _) h4
    exact ⟨h3, by omega⟩
theorem ban_ok {ns : List Nat} (al : List Nat) (k : Nat) : (∀ M ∈ banTo ns al k, IncOk ns M) ∧ (banTo ns al k).length ≤ k := by
  induction k with
  | zero => exact ⟨fun M hM => (by cases hM), Nat.le_refl _⟩
  | succ k ih =>
    unfold banTo
    cases al[k]? with
    | none => exact ⟨ih.1, by have := ih.2; show (banTo ns al k).length ≤ _; omega⟩
    | some a =>
      dsimp only
      split
      · rename_i hs
        obtain ⟨r, hr⟩ := Option.isSome_iff_exists.1 hs
        refine ⟨fun M hM => ?_, by have := ih.2; simp; omega⟩
        rcases List.mem_append.1 hM with h | h
        · exact ih.1 M h
        · rcases List.mem_singleton.1 h with rfl
          exact (make_some hr).1
      · rw [List.append_nil]
        exact ⟨ih.1, by have := ih.2; omega⟩
theorem db_ok (ho : UnitsOk us) (h0 : (nsOf us).head? = some 1) (al : List Nat) : (∀ M ∈ dbM us al, IncOk (nsOf us) M) ∧ (dbM us al).length ≤ 400 := by
  obtain ⟨h1, h2⟩ := units_ok ho h0 us.length (Nat.le_refl _)
  obtain ⟨h3, h4⟩ := ban_ok (ns := nsOf us) al (min al.length us.length)
  have h11 : us.length ≤ 11 := by have := ho.ns.hi; simpa [nsOf] using this
  refine ⟨fun M hM => ?_, ?_⟩
  · rcases List.mem_append.1 hM with h | h
    · obtain ⟨x, hx, rfl⟩ := List.mem_map.1 h
      exact (h1 x hx).inc
    · exact h3 M h
  · unfold dbM allN
    rw [List.length_append, List.length_map]
    have : min al.length us.length ≤ us.length := Nat.min_le_right _ _
    omega
end
end Go.Proofs.YtmbjeppnamhgiaaGreat
end
section
/- Contracts: ref3.Ahead. -/
namespace Go.Proofs.YtmbjeppnamhgiaaGreat
open Go Go.RowKit

set_option maxRecDepth 100000 in
set_option maxHeartbeats 4000000 in
theorem ahead3_any (n a b c : Int) (p q : ByteArray) (f : Bool) (a' b' c' : Int) (p' q' : ByteArray) (w : World) (_hn : I64 n) (h : VB a b c p q) (h' : VB a' b' c' p' q') :
    Calls Tryz.prog 142 #[.agg #[.int .i64 n, .int .i64 a, .int .i64 b, .int .i64 c, .string p, .string q, .bool f], .agg #[.int .i64 a', .int .i64 b', .int .i64 c', .string p', .string q']] w fun e w' => e = .returned (.bool (aheadB ⟨n, ⟨a, b, c, p, q⟩, f⟩ ⟨a', b', c', p', q'⟩)) ∧ Below w.heap.size w w' := by
  have HV := hid h
  have HV' := hid h'
  clear h h'
  cases h1 : cutMay ⟨n, ⟨a, b, c, p, q⟩, f⟩ with
  | false =>
    have H1 := hid h1
    have H : Hid (aheadB ⟨n, ⟨a, b, c, p, q⟩, f⟩ ⟨a', b', c', p', q'⟩ = false) := hid (by unfold aheadB; rw [h1]; rfl)
    clear h1
    go_enter Tryz.func142, Tryz.ntmps142
    go_wp2_with (first
      | (go_at_call 139; (with_reducible refine (cmay_any n a b c p q f _ HV.out).mono ?_); rintro e w1 ⟨rfl, hb1⟩; rw [H1.out]; obtain ⟨hbc, hbf⟩ := bcell hb1; have hz1 : w.heap.size < w1.heap.size := Nat.lt_of_lt_of_le (by simp; omega) hb1.size; have hy1 : w.heap.size + 1 < w1.heap.size := Nat.lt_of_lt_of_le (by simp) hb1.size; have HW1 := hid (bstep (balloc (balloc (b0 w) _) _) hb1))
      | (go_at_call 59; (with_reducible refine (vmay_any a' b' c' p' q' _ HV'.out).mono ?_); rintro e w2 ⟨rfl, hb2⟩; obtain ⟨hbc2, hbf2⟩ := bcell hb2; have hz2 : w.heap.size < w2.heap.size := Nat.lt_of_lt_of_le hz1 hb2.size; have hy2 : w.heap.size + 1 < w2.heap.size := Nat.lt_of_lt_of_le hy1 hb2.size; have HW2 := hid (bstep HW1.out hb2))
      | (go_at_call 141; (with_reducible refine (vcmp_any a b c p q a' b' c' p' q' _ HV.out HV'.out).mono ?_); rintro e w3 ⟨rfl, hb3⟩; obtain ⟨hbc3, hbf3⟩ := bcell hb3; have hz3 : w.heap.size < w3.heap.size := Nat.lt_of_lt_of_le hz2 hb3.size; have HW3 := hid (bstep HW2.out hb3)))
    all_goals go_ret
    all_goals exact ⟨ret_bool H.out.symm, HW1.out⟩
  | true =>
    have H1 := hid h1
    cases h2 : mayV ⟨a', b', c', p', q'⟩ with
    | false =>
      have H2 := hid h2
      have H : Hid (aheadB ⟨n, ⟨a, b, c, p, q⟩, f⟩ ⟨a', b', c', p', q'⟩ = false) := hid (by unfold aheadB; rw [h1, h2]; rfl)
      clear h1 h2
      go_enter Tryz.func142, Tryz.ntmps142
      go_wp2_with (first
        | (go_at_call 139; (with_reducible refine (cmay_any n a b c p q f _ HV.out).mono ?_); rintro e w1 ⟨rfl, hb1⟩; rw [H1.out]; obtain ⟨hbc, hbf⟩ := bcell hb1; have hz1 : w.heap.size < w1.heap.size := Nat.lt_of_lt_of_le (by simp; omega) hb1.size; have hy1 : w.heap.size + 1 < w1.heap.size := Nat.lt_of_lt_of_le (by simp) hb1.size; have HW1 := hid (bstep (balloc (balloc (b0 w) _) _) hb1))
        | (go_at_call 59; (with_reducible refine (vmay_any a' b' c' p' q' _ HV'.out).mono ?_); rintro e w2 ⟨rfl, hb2⟩; rw [H2.out]; obtain ⟨hbc2, hbf2⟩ := bcell hb2; have hz2 : w.heap.size < w2.heap.size := Nat.lt_of_lt_of_le hz1 hb2.size; have hy2 : w.heap.size + 1 < w2.heap.size := Nat.lt_of_lt_of_le hy1 hb2.size; have HW2 := hid (bstep HW1.out hb2))
        | (go_at_call 141; (with_reducible refine (vcmp_any a b c p q a' b' c' p' q' _ HV.out HV'.out).mono ?_); rintro e w3 ⟨rfl, hb3⟩; obtain ⟨hbc3, hbf3⟩ := bcell hb3; have hz3 : w.heap.size < w3.heap.size := Nat.lt_of_lt_of_le hz2 hb3.size; have HW3 := hid (bstep HW2.out hb3)))
      all_goals go_ret
      all_goals exact ⟨ret_bool H.out.symm, HW2.out⟩
    | true =>
      have H2 := hid h2
      have HA : aheadB ⟨n, ⟨a, b, c, p, q⟩, f⟩ ⟨a', b', c', p', q'⟩ = (if n = 0 then decide (cmpV ⟨a, b, c, p, q⟩ ⟨a', b', c', p', q'⟩ < 0) || (decide (cmpV ⟨a, b, c, p, q⟩ ⟨a', b', c', p', q'⟩ = 0) && !f) else decide (n < 0)) := by unfold aheadB; rw [h1, h2]; rfl
      clear h1 h2
      by_cases hn0 : n = 0
      · obtain ⟨k, hk⟩ : ∃ k, cmpV ⟨a, b, c, p, q⟩ ⟨a', b', c', p', q'⟩ = k := ⟨_, rfl⟩
        have HK := hid hk
        rw [if_pos hn0, hk] at HA
        have z0 : (n != 0) = false := by simp [hn0]
        have hcase : k < 0 ∨ k = 0 ∨ 0 < k := by omega
        clear hk hn0
        rcases hcase with hk | hk | hk
        · have z1 : decide (k < 0) = true := decide_eq_true hk
          have H : Hid (aheadB ⟨n, ⟨a, b, c, p, q⟩, f⟩ ⟨a', b', c', p', q'⟩ = true) := hid (by rw [HA, z1]; rfl)
          clear HA
          go_enter Tryz.func142, Tryz.ntmps142
          go_wp2_with (first
            | (go_at_call 139; (with_reducible refine (cmay_any n a b c p q f _ HV.out).mono ?_); rintro e w1 ⟨rfl, hb1⟩; rw [H1.out]; obtain ⟨hbc, hbf⟩ := bcell hb1; have hz1 : w.heap.size < w1.heap.size := Nat.lt_of_lt_of_le (by simp; omega) hb1.size; have hy1 : w.heap.size + 1 < w1.heap.size := Nat.lt_of_lt_of_le (by simp) hb1.size; have HW1 := hid (bstep (balloc (balloc (b0 w) _) _) hb1))
            | (go_at_call 59; (with_reducible refine (vmay_any a' b' c' p' q' _ HV'.out).mono ?_); rintro e w2 ⟨rfl, hb2⟩; rw [H2.out]; obtain ⟨hbc2, hbf2⟩ := bcell hb2; have hz2 : w.heap.size < w2.heap.size := Nat.lt_of_lt_of_le hz1 hb2.size; have hy2 : w.heap.size + 1 < w2.heap.size := Nat.lt_of_lt_of_le hy1 hb2.size; have HW2 := hid (bstep HW1.out hb2))
            | (go_at_call 141; (with_reducible refine (vcmp_any a b c p q a' b' c' p' q' _ HV.out HV'.out).mono ?_); rintro e w3 ⟨rfl, hb3⟩; rw [HK.out]; obtain ⟨hbc3, hbf3⟩ := bcell hb3; have hz3 : w.heap.size < w3.heap.size := Nat.lt_of_lt_of_le hz2 hb3.size; have HW3 := hid (bstep HW2.out hb3)))
          all_goals go_ret
          all_goals exact ⟨ret_bool H.out.symm, HW3.out⟩
        · have z1 : decide (k < 0) = false := decide_eq_false (by omega)
          have z2 : (k == 0) = true := by rw [beq_iff_eq]; exact hk
          have H : Hid (aheadB ⟨n, ⟨a, b, c, p, q⟩, f⟩ ⟨a', b', c', p', q'⟩ = !f) := hid (by rw [HA, z1, decide_eq_true hk]; simp)
          clear HA hk
          go_enter Tryz.func142, Tryz.ntmps142
          go_wp2_with (first
            | (go_at_call 139; (with_reducible refine (cmay_any n a b c p q f _ HV.out).mono ?_); rintro e w1 ⟨rfl, hb1⟩; rw [H1.out]; obtain ⟨hbc, hbf⟩ := bcell hb1; have hz1 : w.heap.size < w1.heap.size := Nat.lt_of_lt_of_le (by simp; omega) hb1.size; have hy1 : w.heap.size + 1 < w1.heap.size := Nat.lt_of_lt_of_le (by simp) hb1.size; have HW1 := hid (bstep (balloc (balloc (b0 w) _) _) hb1))
            | (go_at_call 59; (with_reducible refine (vmay_any a' b' c' p' q' _ HV'.out).mono ?_); rintro e w2 ⟨rfl, hb2⟩; rw [H2.out]; obtain ⟨hbc2, hbf2⟩ := bcell hb2; have hz2 : w.heap.size < w2.heap.size := Nat.lt_of_lt_of_le hz1 hb2.size; have hy2 : w.heap.size + 1 < w2.heap.size := Nat.lt_of_lt_of_le hy1 hb2.size; have HW2 := hid (bstep HW1.out hb2))
            | (go_at_call 141; (with_reducible refine (vcmp_any a b c p q a' b' c' p' q' _ HV.out HV'.out).mono ?_); rintro e w3 ⟨rfl, hb3⟩; rw [HK.out]; obtain ⟨hbc3, hbf3⟩ := bcell hb3; have hz3 : w.heap.size < w3.heap.size := Nat.lt_of_lt_of_le hz2 hb3.size; have HW3 := hid (bstep HW2.out hb3)))
          all_goals go_ret
          all_goals exact ⟨ret_bool H.out.symm, HW3.out⟩
        · have z1 : decide (k < 0) = false := decide_eq_false (by omega)
          have z2 : (k == 0) = false := by rw [beq_eq_false_iff_ne]; omega
          have H : Hid (aheadB ⟨n, ⟨a, b, c, p, q⟩, f⟩ ⟨a', b', c', p', q'⟩ = false) := hid (by rw [HA, z1, decide_eq_false (by omega)]; rfl)
          clear HA hk
          go_enter Tryz.func142, Tryz.ntmps142
          go_wp2_with (first
            | (go_at_call 139; (with_reducible refine (cmay_any n a b c p q f _ HV.out).mono ?_); rintro e w1 ⟨rfl, hb1⟩; rw [H1.out]; obtain ⟨hbc, hbf⟩ := bcell hb1; have hz1 : w.heap.size < w1.heap.size := Nat.lt_of_lt_of_le (by simp; omega) hb1.size; have hy1 : w.heap.size + 1 < w1.heap.size := Nat.lt_of_lt_of_le (by simp) hb1.size; have HW1 := hid (bstep (balloc (balloc (b0 w) _) _) hb1))
            | (go_at_call 59; (with_reducible refine (vmay_any a' b' c' p' q' _ HV'.out).mono ?_); rintro e w2 ⟨rfl, hb2⟩; rw [H2.out]; obtain ⟨hbc2, hbf2⟩ := bcell hb2; have hz2 : w.heap.size < w2.heap.size := Nat.lt_of_lt_of_le hz1 hb2.size; have hy2 : w.heap.size + 1 < w2.heap.size := Nat.lt_of_lt_of_le hy1 hb2.size; have HW2 := hid (bstep HW1.out hb2))
            | (go_at_call 141; (with_reducible refine (vcmp_any a b c p q a' b' c' p' q' _ HV.out HV'.out).mono ?_); rintro e w3 ⟨rfl, hb3⟩; rw [HK.out]; obtain ⟨hbc3, hbf3⟩ := bcell hb3; have hz3 : w.heap.size < w3.heap.size := Nat.lt_of_lt_of_le hz2 hb3.size; have HW3 := hid (bstep HW2.out hb3)))
          all_goals go_ret
          all_goals exact ⟨ret_bool H.out.symm, HW3.out⟩
      · have z0 : (n != 0) = true := by simp [hn0]
        rw [if_neg hn0] at HA
        have H := hid HA
        clear HA hn0
        go_enter Tryz.func142, Tryz.ntmps142
        go_wp2_with (first
          | (go_at_call 139; (with_reducible refine (cmay_any n a b c p q f _ HV.out).mono ?_); rintro e w1 ⟨rfl, hb1⟩; rw [H1.out]; obtain ⟨hbc, hbf⟩ := bcell hb1; have hz1 : w.heap.size < w1.heap.size := Nat.lt_of_lt_of_le (by simp; omega) hb1.size; have hy1 : w.heap.size + 1 < w1.heap.size := Nat.lt_of_lt_of_le (by simp) hb1.size; have HW1 := hid (bstep (balloc (balloc (b0 w) _) _) hb1))
          | (go_at_call 59; (with_reducible refine (vmay_any a' b' c' p' q' _ HV'.out).mono ?_); rintro e w2 ⟨rfl, hb2⟩; rw [H2.out]; obtain ⟨hbc2, hbf2⟩ := bcell hb2; have hz2 : w.heap.size < w2.heap.size := Nat.lt_of_lt_of_le hz1 hb2.size; have hy2 : w.heap.size + 1 < w2.heap.size := Nat.lt_of_lt_of_le hy1 hb2.size; have HW2 := hid (bstep HW1.out hb2))
          | (go_at_call 141; (with_reducible refine (vcmp_any a b c p q a' b' c' p' q' _ HV.out HV'.out).mono ?_); rintro e w3 ⟨rfl, hb3⟩; rw [HK.out]; obtain ⟨hbc3, hbf3⟩ := bcell hb3; have hz3 : w.heap.size < w3.heap.size := Nat.lt_of_lt_of_le hz2 hb3.size; have HW3 := hid (bstep HW2.out hb3)))
        all_goals go_ret
        all_goals exact ⟨ret_bool H.out.symm, HW2.out⟩
end Go.Proofs.YtmbjeppnamhgiaaGreat
end
section
/- Contracts: ref3.Holds. -/
namespace Go.Proofs.YtmbjeppnamhgiaaGreat
open Go Go.RowKit

set_option maxRecDepth 100000 in
set_option maxHeartbeats 4000000 in
theorem holds3_any (n a b c : Int) (p q : ByteArray) (f : Bool) (n' a' b' c' : Int) (p' q' : ByteArray) (f' : Bool) (x y z : Int) (r s : ByteArray) (w : World) (hn : I64 n) (hn' : I64 n') (h : VB a b c p q) (h' : VB a' b' c' p' q') (hx : VB x y z r s) :
    Calls Tryz.prog 127 #[.agg #[.int .i64 n, .int .i64 a, .int .i64 b, .int .i64 c, .string p, .string q, .bool f, .int .i64 n', .int .i64 a', .int .i64 b', .int .i64 c', .string p', .string q', .bool f'], .agg #[.int .i64 x, .int .i64 y, .int .i64 z, .string r, .string s]] w fun e w' => e = .returned (.bool (holdsB ⟨⟨n, ⟨a, b, c, p, q⟩, f⟩, ⟨n', ⟨a', b', c', p', q'⟩, f'⟩⟩ ⟨x, y, z, r, s⟩)) ∧ Below w.heap.size w w' := by
  have HV := hid h
  have HV' := hid h'
  have HX := hid hx
  have HN := hid hn
  have HN' := hid hn'
  clear h h' hx hn hn'
  cases h1 : spanMay ⟨⟨n, ⟨a, b, c, p, q⟩, f⟩, ⟨n', ⟨a', b', c', p', q'⟩, f'⟩⟩ with
  | false =>
    have H1 := hid h1
    have H : Hid (holdsB ⟨⟨n, ⟨a, b, c, p, q⟩, f⟩, ⟨n', ⟨a', b', c', p', q'⟩, f'⟩⟩ ⟨x, y, z, r, s⟩ = false) := hid (by unfold holdsB; rw [h1]; rfl)
    clear h1
    go_enter Tryz.func127, Tryz.ntmps127
    have t1 := hid True.intro
    go_wp2_with (first
      | (go_at_call 124; (with_reducible refine (smay_any n a b c p q f n' a' b' c' p' q' f' _ HV.out HV'.out).mono ?_); rintro e w1 ⟨rfl, hb1⟩; rw [H1.out]; obtain ⟨hbc, hbf⟩ := bcell hb1; have hz1 : w.heap.size < w1.heap.size := Nat.lt_of_lt_of_le (by simp; omega) hb1.size; have hy1 : w.heap.size + 1 < w1.heap.size := Nat.lt_of_lt_of_le (by simp) hb1.size; have HW1 := hid (bstep (balloc (balloc (b0 w) _) _) hb1))
      | (go_at_call 59; (with_reducible refine (vmay_any x y z r s _ HX.out).mono ?_); rintro e w2 ⟨rfl, hb2⟩; obtain ⟨hbc2, hbf2⟩ := bcell hb2; have hz2 : w.heap.size < w2.heap.size := Nat.lt_of_lt_of_le hz1 hb2.size; have hy2 : w.heap.size + 1 < w2.heap.size := Nat.lt_of_lt_of_le hy1 hb2.size; have HW2 := hid (bstep HW1.out hb2))
      | (clear t1; go_at_call 142; (with_reducible refine (ahead3_any n a b c p q f x y z r s _ HN.out HV.out HX.out).mono ?_); rintro e w3 ⟨rfl, hb3⟩; obtain ⟨hbc3, hbf3⟩ := bcell hb3; have hz3 : w.heap.size < w3.heap.size := Nat.lt_of_lt_of_le hz2 hb3.size; have hy3 : w.heap.size + 1 < w3.heap.size := Nat.lt_of_lt_of_le hy2 hb3.size; have HW3 := hid (bstep HW2.out hb3))
      | (go_at_call 142; (with_reducible refine (ahead3_any n' a' b' c' p' q' f' x y z r s _ HN'.out HV'.out HX.out).mono ?_); rintro e w4 ⟨rfl, hb4⟩; have HW4 := hid (bstep HW3.out hb4)))
    all_goals go_ret
    all_goals exact ⟨ret_bool H.out.symm, HW1.out⟩
  | true =>
    have H1 := hid h1
    cases h2 : mayV ⟨x, y, z, r, s⟩ with
    | false =>
      have H2 := hid h2
      have H : Hid (holdsB ⟨⟨n, ⟨a, b, c, p, q⟩, f⟩, ⟨n', ⟨a', b', c', p', q'⟩, f'⟩⟩ ⟨x, y, z, r, s⟩ = false) := hid (by unfold holdsB; rw [h1, h2]; rfl)
      clear h1 h2
      go_enter Tryz.func127, Tryz.ntmps127
      have t1 := hid True.intro
      go_wp2_with (first
        | (go_at_call 124; (with_reducible refine (smay_any n a b c p q f n' a' b' c' p' q' f' _ HV.out HV'.out).mono ?_); rintro e w1 ⟨rfl, hb1⟩; rw [H1.out]; obtain ⟨hbc, hbf⟩ := bcell hb1; have hz1 : w.heap.size < w1.heap.size := Nat.lt_of_lt_of_le (by simp; omega) hb1.size; have hy1 : w.heap.size + 1 < w1.heap.size := Nat.lt_of_lt_of_le (by simp) hb1.size; have HW1 := hid (bstep (balloc (balloc (b0 w) _) _) hb1))
        | (go_at_call 59; (with_reducible refine (vmay_any x y z r s _ HX.out).mono ?_); rintro e w2 ⟨rfl, hb2⟩; rw [H2.out]; obtain ⟨hbc2, hbf2⟩ := bcell hb2; have hz2 : w.heap.size < w2.heap.size := Nat.lt_of_lt_of_le hz1 hb2.size; have hy2 : w.heap.size + 1 < w2.heap.size := Nat.lt_of_lt_of_le hy1 hb2.size; have HW2 := hid (bstep HW1.out hb2))
        | (clear t1; go_at_call 142; (with_reducible refine (ahead3_any n a b c p q f x y z r s _ HN.out HV.out HX.out).mono ?_); rintro e w3 ⟨rfl, hb3⟩; obtain ⟨hbc3, hbf3⟩ := bcell hb3; have hz3 : w.heap.size < w3.heap.size := Nat.lt_of_lt_of_le hz2 hb3.size; have hy3 : w.heap.size + 1 < w3.heap.size := Nat.lt_of_lt_of_le hy2 hb3.size; have HW3 := hid (bstep HW2.out hb3))
        | (go_at_call 142; (with_reducible refine (ahead3_any n' a' b' c' p' q' f' x y z r s _ HN'.out HV'.out HX.out).mono ?_); rintro e w4 ⟨rfl, hb4⟩; have HW4 := hid (bstep HW3.out hb4)))
      all_goals go_ret
      all_goals exact ⟨ret_bool H.out.symm, HW2.out⟩
    | true =>
      have H2 := hid h2
      cases h3 : aheadB ⟨n, ⟨a, b, c, p, q⟩, f⟩ ⟨x, y, z, r, s⟩ with
      | false =>
        have H3 := hid h3
        have H : Hid (holdsB ⟨⟨n, ⟨a, b, c, p, q⟩, f⟩, ⟨n', ⟨a', b', c', p', q'⟩, f'⟩⟩ ⟨x, y, z, r, s⟩ = false) := hid (by unfold holdsB; rw [h1, h2, h3]; rfl)
        clear h1 h2 h3
        go_enter Tryz.func127, Tryz.ntmps127
        have t1 := hid True.intro
        go_wp2_with (first
          | (go_at_call 124; (with_reducible refine (smay_any n a b c p q f n' a' b' c' p' q' f' _ HV.out HV'.out).mono ?_); rintro e w1 ⟨rfl, hb1⟩; rw [H1.out]; obtain ⟨hbc, hbf⟩ := bcell hb1; have hz1 : w.heap.size < w1.heap.size := Nat.lt_of_lt_of_le (by simp; omega) hb1.size; have hy1 : w.heap.size + 1 < w1.heap.size := Nat.lt_of_lt_of_le (by simp) hb1.size; have HW1 := hid (bstep (balloc (balloc (b0 w) _) _) hb1))
          | (go_at_call 59; (with_reducible refine (vmay_any x y z r s _ HX.out).mono ?_); rintro e w2 ⟨rfl, hb2⟩; rw [H2.out]; obtain ⟨hbc2, hbf2⟩ := bcell hb2; have hz2 : w.heap.size < w2.heap.size := Nat.lt_of_lt_of_le hz1 hb2.size; have hy2 : w.heap.size + 1 < w2.heap.size := Nat.lt_of_lt_of_le hy1 hb2.size; have HW2 := hid (bstep HW1.out hb2))
          | (clear t1; go_at_call 142; (with_reducible refine (ahead3_any n a b c p q f x y z r s _ HN.out HV.out HX.out).mono ?_); rintro e w3 ⟨rfl, hb3⟩; rw [H3.out]; obtain ⟨hbc3, hbf3⟩ := bcell hb3; have hz3 : w.heap.size < w3.heap.size := Nat.lt_of_lt_of_le hz2 hb3.size; have hy3 : w.heap.size + 1 < w3.heap.size := Nat.lt_of_lt_of_le hy2 hb3.size; have HW3 := hid (bstep HW2.out hb3))
          | (go_at_call 142; (with_reducible refine (ahead3_any n' a' b' c' p' q' f' x y z r s _ HN'.out HV'.out HX.out).mono ?_); rintro e w4 ⟨rfl, hb4⟩; have HW4 := hid (bstep HW3.out hb4)))
        all_goals go_ret
        all_goals exact ⟨ret_bool H.out.symm, HW3.out⟩
      | true =>
        have H3 := hid h3
        cases h4 : aheadB ⟨n', ⟨a', b', c', p', q'⟩, f'⟩ ⟨x, y, z, r, s⟩ with
        | false =>
          have H4 := hid h4
          have H : Hid (holdsB ⟨⟨n, ⟨a, b, c, p, q⟩, f⟩, ⟨n', ⟨a', b', c', p', q'⟩, f'⟩⟩ ⟨x, y, z, r, s⟩ = true) := hid (by unfold holdsB; rw [h1, h2, h3, h4]; rfl)
          clear h1 h2 h3 h4
          go_enter Tryz.func127, Tryz.ntmps127
          have t1 := hid True.intro
          go_wp2_with (first
            | (go_at_call 124; (with_reducible refine (smay_any n a b c p q f n' a' b' c' p' q' f' _ HV.out HV'.out).mono ?_); rintro e w1 ⟨rfl, hb1⟩; rw [H1.out]; obtain ⟨hbc, hbf⟩ := bcell hb1; have hz1 : w.heap.size < w1.heap.size := Nat.lt_of_lt_of_le (by simp; omega) hb1.size; have hy1 : w.heap.size + 1 < w1.heap.size := Nat.lt_of_lt_of_le (by simp) hb1.size; have HW1 := hid (bstep (balloc (balloc (b0 w) _) _) hb1))
            | (go_at_call 59; (with_reducible refine (vmay_any x y z r s _ HX.out).mono ?_); rintro e w2 ⟨rfl, hb2⟩; rw [H2.out]; obtain ⟨hbc2, hbf2⟩ := bcell hb2; have hz2 : w.heap.size < w2.heap.size := Nat.lt_of_lt_of_le hz1 hb2.size; have hy2 : w.heap.size + 1 < w2.heap.size := Nat.lt_of_lt_of_le hy1 hb2.size; have HW2 := hid (bstep HW1.out hb2))
            | (clear t1; go_at_call 142; (with_reducible refine (ahead3_any n a b c p q f x y z r s _ HN.out HV.out HX.out).mono ?_); rintro e w3 ⟨rfl, hb3⟩; rw [H3.out]; obtain ⟨hbc3, hbf3⟩ := bcell hb3; have hz3 : w.heap.size < w3.heap.size := Nat.lt_of_lt_of_le hz2 hb3.size; have hy3 : w.heap.size + 1 < w3.heap.size := Nat.lt_of_lt_of_le hy2 hb3.size; have HW3 := hid (bstep HW2.out hb3))
            | (go_at_call 142; (with_reducible refine (ahead3_any n' a' b' c' p' q' f' x y z r s _ HN'.out HV'.out HX.out).mono ?_); rintro e w4 ⟨rfl, hb4⟩; rw [H4.out]; have HW4 := hid (bstep HW3.out hb4)))
          all_goals go_ret
          all_goals exact ⟨ret_bool H.out.symm, HW4.out⟩
        | true =>
          have H4 := hid h4
          have H : Hid (holdsB ⟨⟨n, ⟨a, b, c, p, q⟩, f⟩, ⟨n', ⟨a', b', c', p', q'⟩, f'⟩⟩ ⟨x, y, z, r, s⟩ = false) := hid (by unfold holdsB; rw [h1, h2, h3, h4]; rfl)
          clear h1 h2 h3 h4
          go_enter Tryz.func127, Tryz.ntmps127
          have t1 := hid True.intro
          go_wp2_with (first
            | (go_at_call 124; (with_reducible refine (smay_any n a b c p q f n' a' b' c' p' q' f' _ HV.out HV'.out).mono ?_); rintro e w1 ⟨rfl, hb1⟩; rw [H1.out]; obtain ⟨hbc, hbf⟩ := bcell hb1; have hz1 : w.heap.size < w1.heap.size := Nat.lt_of_lt_of_le (by simp; omega) hb1.size; have hy1 : w.heap.size + 1 < w1.heap.size := Nat.lt_of_lt_of_le (by simp) hb1.size; have HW1 := hid (bstep (balloc (balloc (b0 w) _) _) hb1))
            | (go_at_call 59; (with_reducible refine (vmay_any x y z r s _ HX.out).mono ?_); rintro e w2 ⟨rfl, hb2⟩; rw [H2.out]; obtain ⟨hbc2, hbf2⟩ := bcell hb2; have hz2 : w.heap.size < w2.heap.size := Nat.lt_of_lt_of_le hz1 hb2.size; have hy2 : w.heap.size + 1 < w2.heap.size := Nat.lt_of_lt_of_le hy1 hb2.size; have HW2 := hid (bstep HW1.out hb2))
            | (clear t1; go_at_call 142; (with_reducible refine (ahead3_any n a b c p q f x y z r s _ HN.out HV.out HX.out).mono ?_); rintro e w3 ⟨rfl, hb3⟩; rw [H3.out]; obtain ⟨hbc3, hbf3⟩ := bcell hb3; have hz3 : w.heap.size < w3.heap.size := Nat.lt_of_lt_of_le hz2 hb3.size; have hy3 : w.heap.size + 1 < w3.heap.size := Nat.lt_of_lt_of_le hy2 hb3.size; have HW3 := hid (bstep HW2.out hb3))
            | (go_at_call 142; (with_reducible refine (ahead3_any n' a' b' c' p' q' f' x y z r s _ HN'.out HV'.out HX.out).mono ?_); rintro e w4 ⟨rfl, hb4⟩; rw [H4.out]; have HW4 := hid (bstep HW3.out hb4)))
          all_goals go_ret
          all_goals exact ⟨ret_bool H.out.symm, HW4.out⟩
end Go.Proofs.YtmbjeppnamhgiaaGreat
end
section
/- Contracts: ref4.Has. -/
namespace Go.Proofs.YtmbjeppnamhgiaaGreat
open Go Go.RowKit

theorem holds_s (t : Span) (v : Ver) (w : World) (h : t.B) (hv : v.B) :
    Calls Tryz.prog 127 #[.agg #[.int .i64 t.lo.en, .int .i64 t.lo.v.major, .int .i64 t.lo.v.minor, .int .i64 t.lo.v.patch, .string t.lo.v.pre, .string t.lo.v.build, .bool t.lo.after, .int .i64 t.hi.en, .int .i64 t.hi.v.major, .int .i64 t.hi.v.minor, .int .i64 t.hi.v.patch, .string t.hi.v.pre, .string t.hi.v.build, .bool t.hi.after], .agg #[.int .i64 v.major, .int .i64 v.minor, .int .i64 v.patch, .string v.pre, .string v.build]] w fun e w' => e = .returned (.bool (holdsB t v)) ∧ Below w.heap.size w w' :=
  holds3_any _ _ _ _ _ _ _ _ _ _ _ _ _ _ _ _ _ _ _ w (by have := h.1.1; exact ⟨by omega, by omega⟩) (by have := h.2.1; exact ⟨by omega, by omega⟩) h.1.2 h.2.2 hv
theorem has4_hit {l : List Span} {v : Ver} {k : Nat} (hm : rowMayB l = true) (hk : k < l.length) (h : holdsB l[k] v = true) : has4B l v = true := by
  unfold has4B
  rw [hm, Bool.true_and, List.any_eq_true]
  exact ⟨_, List.getElem_mem hk, h⟩
theorem has4_miss {l : List Span} {v : Ver} (h : ∀ k, (hk : k < l.length) → holdsB l[k] v = false) : has4B l v = false := by
  unfold has4B
  have : (l.any fun s => holdsB s v) = false := List.any_eq_false.2 fun s hs => by
    obtain ⟨k, hk, rfl⟩ := List.getElem_of_mem hs
    rw [h k hk]; decide
  rw [this, Bool.and_false]
set_option maxRecDepth 100000 in
set_option maxHeartbeats 2000000 in
theorem has4_any (lv : Value) (l : List Span) (v : Ver) (w : World) (h : SliceRd fSpan.ty w (Lt w.heap.size) lv l) (hv : v.B) :
    Calls Tryz.prog 120 #[lv, .agg #[.int .i64 v.major, .int .i64 v.minor, .int .i64 v.patch, .string v.pre, .string v.build]] w fun e w' => e = .returned (.bool (has4B l v)) ∧ Below w.heap.size w w' := by
  have HL := hid h
  have HV := hid hv
  obtain ⟨A, cap, rfl, hcap, hmax, hc⟩ := h.spans
  have HC := hid hc
  unfold maxLen at hmax
  obtain ⟨va, vb, vc, vp, vq⟩ := v
  clear h hc hv
  go_enter Tryz.func120, Tryz.ntmps120
  go_wp2_with fail
  obtain ⟨w0, hw0⟩ : ∃ w0 : World, w0 = w.alloc (.cells #[.int .i64 va, .int .i64 vb, .int .i64 vc, .string vp, .string vq] 72) := ⟨_, rfl⟩
  have hb0 : Below w.heap.size w w0 := hw0 ▸ balloc (b0 w) _
  have hz0 : w.heap.size < w0.heap.size := by rw [hw0]; simp
  have v0 : w0.cell? ⟨w.heap.size, 0, none⟩ = some (.int .i64 va) := by rw [hw0, alloc_cell]; rfl
  have v1 : w0.cell? ⟨w.heap.size, 1, none⟩ = some (.int .i64 vb) := by rw [hw0, alloc_cell]; rfl
  have v2 : w0.cell? ⟨w.heap.size, 2, none⟩ = some (.int .i64 vc) := by rw [hw0, alloc_cell]; rfl
  have v3 : w0.cell? ⟨w.heap.size, 3, none⟩ = some (.string vp) := by rw [hw0, alloc_cell]; rfl
  have v4 : w0.cell? ⟨w.heap.size, 4, none⟩ = some (.string vq) := by rw [hw0, alloc_cell]; rfl
  have HB0 := hid hb0
  rw [← hw0]
  clear hw0 hb0
  go_loopw [5] (fun iv wr => ∃ k : Nat, k ≤ l.length ∧ iv = .int .i64 k ∧ Hid (Below w0.heap.size w0 wr) ∧ Hid (∀ j, (hj : j < l.length) → j < k → holdsB l[j] ⟨va, vb, vc, vp, vq⟩ = false)) (fun iv _ => l.length - (intOf iv).toNat)
  case atStart => exact ⟨0, Nat.zero_le _, rfl, hid (b0 w0), hid (fun j _ hj => absurd hj (by omega))⟩
  case round =>
    obtain ⟨k, hk, rfl, hb, hn⟩ := hrel
    have hbw := HB0.out.trans (hb.out.mono HB0.out.size)
    have HBW := hid hbw
    have hzr := Nat.lt_of_lt_of_le hz0 hb.out.size
    by_cases hlt : k < l.length
    · have z0 : (↑k : Int) < ↑l.length := by omega
      have j0 : (0 : Int) ≤ ↑k := by omega
      have HMY := hid (rmay4_any (.slice A l.length cap) l wr (HL.out.lift hbw hbw.size))
      obtain ⟨g, o, hA, hF, hB, hat⟩ := HC.out k hlt
      subst hA
      have HBB := hid hB
      have HAT := hid (fun (W : World) (hb : Below w.heap.size w W) => hat.below hb hF)
      obtain ⟨b, hbb⟩ : ∃ b, rowMayB l = b := ⟨_, rfl⟩
      rw [hbb] at HMY
      clear hbw hat hB
      cases b with
      | false =>
        have H : Hid (has4B l ⟨va, vb, vc, vp, vq⟩ = false) := hid (by unfold has4B; rw [hbb]; rfl)
        clear hbb
        go_wp2_with (go_at_call 114; refine HMY.out.mono ?_; rintro e w1 ⟨rfl, hb1⟩)
        go_ret
        exact ⟨ret_bool H.out.symm, bstep HBW.out hb1⟩
      | true =>
        have HM := hid hbb
        clear hbb
        go_wp2_with fail
        refine HMY.out.mono ?_
        rintro e w1 ⟨rfl, hb1⟩
        have hbw1 := bstep HBW.out hb1
        have HBW1 := hid hbw1
        have HB1 := hid (hb.out.trans (hb1.mono hb.out.size))
        have hz1 := Nat.lt_of_lt_of_le hzr hb1.size
        have hgz := Nat.lt_of_lt_of_le hF hbw1.size
        obtain ⟨s0, s1, s2, s3, s4, s5, s6, s7, s8, s9, s10, s11, s12, s13⟩ := (HAT.out w1 hbw1).later hgz
        have u0 := later_cell hz1 (cell_below HB1.out hz0 v0)
        have u1 := later_cell hz1 (cell_below HB1.out hz0 v1)
        have u2 := later_cell hz1 (cell_below HB1.out hz0 v2)
        have u3 := later_cell hz1 (cell_below HB1.out hz0 v3)
        have u4 := later_cell hz1 (cell_below HB1.out hz0 v4)
        have HHS := hid (fun W => holds_s l[k] ⟨va, vb, vc, vp, vq⟩ W HBB.out HV.out)
        obtain ⟨t, ht⟩ : ∃ t, l[k] = t := ⟨_, rfl⟩
        rw [ht] at HHS s0 s1 s2 s3 s4 s5 s6 s7 s8 s9 s10 s11 s12 s13
        have HT := hid ht
        obtain ⟨⟨en, ⟨a, b, c, p, q⟩, f⟩, ⟨en', ⟨a', b', c', p', q'⟩, f'⟩⟩ := t
        dsimp only at HHS s0 s1 s2 s3 s4 s5 s6 s7 s8 s9 s10 s11 s12 s13
        obtain ⟨hB, hhB⟩ : ∃ hB, holdsB ⟨⟨en, ⟨a, b, c, p, q⟩, f⟩, ⟨en', ⟨a', b', c', p', q'⟩, f'⟩⟩ ⟨va, vb, vc, vp, vq⟩ = hB := ⟨_, rfl⟩
        rw [hhB] at HHS
        have HHB := hid (show holdsB l[k] ⟨va, vb, vc, vp, vq⟩ = hB by rw [HT.out, hhB])
        have HHL := hid (fun e : Later w1 => HHS.out e.w)
        clear ht hhB hb1 hbw1
        cases hB with
        | true =>
          have H := hid (has4_hit HM.out hlt HHB.out)
          go_wp2_with fail
          (refine wp_region_later (by kernel_rfl) (by kernel_rfl) ?_; (repeat (go_big_quiet_step ((first | (go_at_call 127; exact Calls.later (HHL.out _) rfl))))); refine wpQuiet_nil ?_; rintro _ ⟨⟨w2, hb2⟩, rfl⟩)
          go_wp2
          go_ret
          exact ⟨ret_bool H.out.symm, bstep HBW1.out hb2⟩
        | false =>
          go_wp2_with fail
          (refine wp_region_later (by kernel_rfl) (by kernel_rfl) ?_; (repeat (go_big_quiet_step ((first | (go_at_call 127; exact Calls.later (HHL.out _) rfl))))); refine wpQuiet_nil ?_; rintro _ ⟨⟨w2, hb2⟩, rfl⟩)
          go_wp2
          exact ⟨⟨k + 1, by omega, by go_num, hid (HB1.out.trans (hb2.mono HB1.out.size)), hid (fun j hj hjk => if e : j = k then by subst e; exact HHB.out else hn.out j hj (by omega))⟩, by simp [intOf]; omega⟩
    · have z0 : ¬ ((↑k : Int) < ↑l.length) := by omega
      have z1 : decide ((↑k : Int) < ↑l.length) = false := decide_eq_false z0
      have H := hid (has4_miss (l := l) (v := ⟨va, vb, vc, vp, vq⟩) (fun j hj => hn.out j hj (by omega)))
      go_wp2
      go_ret
      exact ⟨ret_bool H.out.symm, HBW.out⟩
end Go.Proofs.YtmbjeppnamhgiaaGreat
end
section
/- Contracts: ref5.Has. -/
namespace Go.Proofs.YtmbjeppnamhgiaaGreat
open Go Go.RowKit

theorem size_zero_list {p : ByteArray} (h : p.size = 0) : p.toList = [] := by
  rw [ByteArray.toList_eq]
  exact List.eq_nil_of_length_eq_zero (by simpa using h)
theorem size_pos_list {p : ByteArray} (h : p.size ≠ 0) : (p.toList == []) = false := by rw [toList_size]; exact decide_eq_false h
set_option maxRecDepth 100000 in
set_option maxHeartbeats 2000000 in
theorem has5_any (av bv : Value) (s : SetD) (v : Ver) (w : World) (h1 : SliceRd fSpan.ty w (Lt w.heap.size) av s.rel) (h2 : SliceRd fSpan.ty w (Lt w.heap.size) bv s.pre) (hv : v.B) :
    Calls Tryz.prog 107 #[.agg #[av, bv], .agg #[.int .i64 v.major, .int .i64 v.minor, .int .i64 v.patch, .string v.pre, .string v.build]] w fun e w' => e = .returned (.bool (hasB s v)) ∧ Below w.heap.size w w' := by
  have HV := hid hv
  have HS := hid (fun (W : World) (hb : Below w.heap.size w W) => setMay_any av bv s.rel s.pre W (h1.lift hb hb.size) (h2.lift hb hb.size))
  have HA := hid (fun (W : World) (hb : Below w.heap.size w W) => has4_any av s.rel v W (h1.lift hb hb.size) hv)
  have HB := hid (fun (W : World) (hb : Below w.heap.size w W) => has4_any bv s.pre v W (h2.lift hb hb.size) hv)
  obtain ⟨A, c, hav, -⟩ := h1.shape
  obtain ⟨A', c', hbv, -⟩ := h2.shape
  have HM := hid (fun W => vmay_any v.major v.minor v.patch v.pre v.build W HV.out)
  have hH : hasB s v = (setMayB s.rel s.pre && (mayV v && if v.pre.size = 0 then has4B s.rel v else has4B s.pre v)) := rfl
  obtain ⟨b1, hb1⟩ : ∃ b, setMayB s.rel s.pre = b := ⟨_, rfl⟩
  obtain ⟨b2, hb2⟩ : ∃ b, mayV v = b := ⟨_, rfl⟩
  have hm2 : mayV ⟨v.major, v.minor, v.patch, v.pre, v.build⟩ = b2 := hb2
  rw [hb1] at HS hH
  rw [hb2] at hH
  rw [hm2] at HM
  generalize s.rel.length = n1 at hav
  generalize s.pre.length = n2 at hbv
  subst hav hbv
  obtain ⟨va, vb, vc, vp, vq⟩ := v
  dsimp only at HM HA HB hH
  clear h1 h2 hv hb1 hb2 hm2
  obtain ⟨w0, hw0⟩ : ∃ w0 : World, w0 = (w.alloc (.cells #[.slice A n1 c, .slice A' n2 c'] 82)).alloc (.cells #[.int .i64 va, .int .i64 vb, .int .i64 vc, .string vp, .string vq] 72) := ⟨_, rfl⟩
  have hb0 : Below w.heap.size w w0 := hw0 ▸ balloc (balloc (b0 w) _) _
  have hz0 : w.heap.size + 1 < w0.heap.size := by rw [hw0]; simp
  have s0 : w0.cell? ⟨w.heap.size, 0, none⟩ = some (.slice A n1 c) := by rw [hw0]; exact alloc2_old rfl
  have s1 : w0.cell? ⟨w.heap.size, 1, none⟩ = some (.slice A' n2 c') := by rw [hw0]; exact alloc2_old rfl
  have v0 : w0.cell? ⟨w.heap.size + 1, 0, none⟩ = some (.int .i64 va) := by rw [hw0]; exact alloc2_new rfl
  have v1 : w0.cell? ⟨w.heap.size + 1, 1, none⟩ = some (.int .i64 vb) := by rw [hw0]; exact alloc2_new rfl
  have v2 : w0.cell? ⟨w.heap.size + 1, 2, none⟩ = some (.int .i64 vc) := by rw [hw0]; exact alloc2_new rfl
  have v3 : w0.cell? ⟨w.heap.size + 1, 3, none⟩ = some (.string vp) := by rw [hw0]; exact alloc2_new rfl
  have v4 : w0.cell? ⟨w.heap.size + 1, 4, none⟩ = some (.string vq) := by rw [hw0]; exact alloc2_new rfl
  have HW0 := hid hw0
  have HB0 := hid hb0
  clear hw0 hb0
  go_enter Tryz.func107, Tryz.ntmps107
  go_wp2_with fail
  rw [← HW0.out]
  refine (HS.out w0 HB0.out).mono ?_
  rintro e w1 ⟨rfl, hb1⟩
  have HB1 := hid (bstep HB0.out hb1)
  have u0 := cell_below hb1 hz0 v0
  have u1 := cell_below hb1 hz0 v1
  have u2 := cell_below hb1 hz0 v2
  have u3 := cell_below hb1 hz0 v3
  have u4 := cell_below hb1 hz0 v4
  have r0 := cell_below hb1 (by omega) s0
  have r1 := cell_below hb1 (by omega) s1
  have hz1 := Nat.lt_of_lt_of_le hz0 hb1.size
  clear hb1 s0 s1 v0 v1 v2 v3 v4
  cases b1 with
  | false =>
    have H := hid (show hasB s ⟨va, vb, vc, vp, vq⟩ = false by rw [hH]; rfl)
    clear hH
    go_wp2
    go_ret
    exact ⟨ret_bool H.out.symm, HB1.out⟩
  | true =>
    go_wp2_with fail
    refine (HM.out w1).mono ?_
    rintro e w2 ⟨rfl, hb2⟩
    have HB2 := hid (bstep HB1.out hb2)
    have x0 := cell_below hb2 hz1 u0
    have x1 := cell_below hb2 hz1 u1
    have x2 := cell_below hb2 hz1 u2
    have x3 := cell_below hb2 hz1 u3
    have x4 := cell_below hb2 hz1 u4
    have y0 := cell_below hb2 (by omega) r0
    have y1 := cell_below hb2 (by omega) r1
    clear hb2 u0 u1 u2 u3 u4 r0 r1
    cases b2 with
    | false =>
      have H := hid (show hasB s ⟨va, vb, vc, vp, vq⟩ = false by rw [hH]; rfl)
      clear hH
      go_wp2
      go_ret
      exact ⟨ret_bool H.out.symm, HB2.out⟩
    | true =>
      by_cases hp : vp.size = 0
      · have H := hid (show hasB s ⟨va, vb, vc, vp, vq⟩ = has4B s.rel ⟨va, vb, vc, vp, vq⟩ by rw [hH, if_pos hp]; rfl)
        have hl := size_zero_list hp
        clear hH hp
        go_wp2_with (go_at_call 120; refine (HA.out w2 HB2.out).mono ?_; rintro e w3 ⟨rfl, hb3⟩)
        go_ret
        exact ⟨ret_bool H.out.symm, bstep HB2.out hb3⟩
      · have H := hid (show hasB s ⟨va, vb, vc, vp, vq⟩ = has4B s.pre ⟨va, vb, vc, vp, vq⟩ by rw [hH, if_neg hp]; rfl)
        have hl := size_pos_list hp
        have hl2 := nonempty_toList (s := vp) (by omega)
        clear hH hp
        go_wp2_with (go_at_call 120; refine (HB.out w2 HB2.out).mono ?_; rintro e w3 ⟨rfl, hb3⟩)
        go_ret
        exact ⟨ret_bool H.out.symm, bstep HB2.out hb3⟩
end Go.Proofs.YtmbjeppnamhgiaaGreat
end
section
/- Contracts: ref21.Met. -/
namespace Go.Proofs.YtmbjeppnamhgiaaGreat
open Go Go.RowKit

/-- The cells of a candidate. -/
def CandAt (w : World) (g o : Nat) (c : CandW) (nv bv : Value) : Prop := w.cell? ⟨g, o, none⟩ = some (.int .i64 c.v.major) ∧ w.cell? ⟨g, o + 1, none⟩ = some (.int .i64 c.v.minor) ∧ w.cell? ⟨g, o + 2, none⟩ = some (.int .i64 c.v.patch) ∧ w.cell? ⟨g, o + 3, none⟩ = some (.string c.v.pre) ∧ w.cell? ⟨g, o + 4, none⟩ = some (.string c.v.build) ∧ w.cell? ⟨g, o + 5, none⟩ = some (.int .i64 c.sh) ∧ w.cell? ⟨g, o + 6, none⟩ = some nv ∧ w.cell? ⟨g, o + 7, none⟩ = some bv
theorem CandAt.below {B : Nat} {w w' : World} (hb : Below B w w') {g o : Nat} (hg : g < B) {c : CandW} {nv bv : Value} (h : CandAt w g o c nv bv) : CandAt w' g o c nv bv := by
  obtain ⟨h0, h1, h2, h3, h4, h5, h6, h7⟩ := h
  exact ⟨cell_below hb hg h0, cell_below hb hg h1, cell_below hb hg h2, cell_below hb hg h3, cell_below hb hg h4, cell_below hb hg h5, cell_below hb hg h6, cell_below hb hg h7⟩
/-- A world, opened. -/
theorem WorldRd.opened {w : World} {F : Nat → Prop} {v : Value} {us : List UnitW} (h : WorldRd w F v us) :
    ∃ g cap, v = .agg #[.slice (some ⟨g, 0, none⟩) us.length cap] ∧ F g ∧ ∀ u, (hu : u < us.length) → ∃ A c, w.cell? ⟨g, u * 3 + 2, none⟩ = some (.slice A us[u].cands.length c) ∧
      ∀ k, (hk : k < us[u].cands.length) → ∃ gc o nv bv, A = some ⟨gc, o, none⟩ ∧ F gc ∧ CandAt w gc (o + k * 8) us[u].cands[k] nv bv ∧ us[u].cands[k].v.B ∧ SliceRd (tSlice tWant) w F nv us[u].cands[k].needs ∧ SliceRd tWant w F bv us[u].cands[k].bars := by
  obtain ⟨g, cap, rfl, hF, hs⟩ := h
  refine ⟨g, cap, rfl, hF, fun u hu => ?_⟩
  obtain ⟨A, cap', hv, -, -, hc⟩ := hs.shape
  injection hv with e1 e2 e3
  subst e1 e3
  obtain ⟨g', o, cs, hA, -, -, hcell, cv, rfl, A2, c2, rfl, hcd⟩ := hc u hu
  injection hA with hA
  injection hA with e1 e2
  subst e1 e2
  have h2 := hcell 2 (by show 2 < 3; omega)
  rw [Nat.zero_add] at h2
  refine ⟨A2, c2, h2, fun k hk => ?_⟩
  obtain ⟨gc, oc, cl, hA2, hFc, -, hcl, nv, bv, rfl, hB, hn, hbr⟩ := hcd k hk
  exact ⟨gc, oc, nv, bv, hA2, hFc, ⟨hcl 0 (by show 0 < 8; omega), hcl 1 (by show 1 < 8; omega), hcl 2 (by show 2 < 8; omega), hcl 3 (by show 3 < 8; omega), hcl 4 (by show 4 < 8; omega), hcl 5 (by show 5 < 8; omega), hcl 6 (by show 6 < 8; omega), hcl 7 (by show 7 < 8; omega)⟩, hB, hn, hbr⟩
set_option maxRecDepth 100000 in
set_option maxHeartbeats 4000000 in
theorem met_any (v av bv : Value) (us : List UnitW) (x : WantD) (w : World) (h : WorldRd w (Lt w.heap.size) v us) (ho : UnitsOk us) (h1 : SliceRd fSpan.ty w (Lt w.heap.size) av x.s.rel) (h2 : SliceRd fSpan.ty w (Lt w.heap.size) bv x.s.pre) (hx0 : 0 ≤ x.u) (hx1 : x.u < us.length) :
    Calls Tryz.prog 88 #[v, .agg #[.int .i64 x.u, av, bv]] w fun e w' => e = .returned (.int .i64 (metN us x)) ∧ Below w.heap.size w w' := by
  obtain ⟨g, cap0, rfl, hg, hun⟩ := h.opened
  obtain ⟨u, hu⟩ : ∃ u : Nat, x.u = (u : Int) := ⟨x.u.toNat, by omega⟩
  have hul : u < us.length := by omega
  obtain ⟨Ac, cc, hcu, hcd⟩ := hun u hul
  have HCD := hid hcd
  have h4 : us[u].cands.length ≤ 4 := by
    have := ho.ns.le u (by simpa [nsOf] using hul)
    simpa [nsOf] using this
  have h11 : us.length ≤ 11 := by have := ho.ns.hi; simpa [nsOf] using this
  have HME : Hid (metN us x = metTo us[u].cands x.s us[u].cands.length) := hid (by
    unfold metN
    rw [hu, Int.toNat_natCast, List.getElem?_eq_getElem hul])
  have HHS := hid (fun (vr : Ver) (hvr : vr.B) (W : World) (hb : Below w.heap.size w W) => has5_any av bv x.s vr W (h1.lift hb hb.size) (h2.lift hb hb.size) hvr)
  obtain ⟨Aa, ca, hav, -⟩ := h1.shape
  obtain ⟨Ab, cb, hbv, -⟩ := h2.shape
  generalize x.s.rel.length = n1 at hav
  generalize x.s.pre.length = n2 at hbv
  subst hav hbv
  have HMT := hid (metTo_lt us[u].cands x.s)
  have HMS := hid (fun k (hk : k < us[u].cands.length) => metTo_succ (s := x.s) hk)
  rw [hu] at ⊢
  generalize us[u].cands = cs at *
  have u1 : (0 : Int) ≤ ↑u := by omega
  have u2 : (↑u : Int) < ↑us.length := by omega
  have u3 : decide (us.length ≤ u) = false := decide_eq_false (by omega)
  clear h h1 h2 hun hx0 hx1 hu hcd ho
  obtain ⟨n, hn⟩ : ∃ n, cs.length = n := ⟨_, rfl⟩
  have HN := hid hn
  rw [hn] at hcu h4 HME
  clear hn
  obtain ⟨w0, hw0⟩ : ∃ w0 : World, w0 = (w.alloc (.cells #[.slice (some ⟨g, 0, none⟩) us.length cap0] 26)).alloc (.cells #[.int .i64 u, .slice Aa n1 ca, .slice Ab n2 cb] 85) := ⟨_, rfl⟩
  have hb0 : Below w.heap.size w w0 := hw0 ▸ balloc (balloc (b0 w) _) _
  have hz0 : w.heap.size + 1 < w0.heap.size := by rw [hw0]; simp
  have s0 : w0.cell? ⟨w.heap.size + 1, 1, none⟩ = some (.slice Aa n1 ca) := by rw [hw0]; exact alloc2_new rfl
  have s1 : w0.cell? ⟨w.heap.size + 1, 2, none⟩ = some (.slice Ab n2 cb) := by rw [hw0]; exact alloc2_new rfl
  have hcr := cell_below hb0 hg hcu
  rw [hw0] at hcr
  have HB0 := hid hb0
  have HW0 := hid hw0
  clear hb0 hw0 hcu
  go_enter Tryz.func88, Tryz.ntmps88
  go_wp2_with fail
  rw [← HW0.out]
  clear hcr
  go_loopw [5, 7] (fun mv iv wr => ∃ k : Nat, k ≤ n ∧ iv = .int .i64 k ∧ mv = .int .i64 (metTo cs x.s k) ∧ Hid (Below w0.heap.size w0 wr)) (fun _ iv _ => n - (intOf iv).toNat)
  case atStart => exact ⟨0, Nat.zero_le _, rfl, rfl, hid (b0 w0)⟩
  case round =>
    obtain ⟨k, hk, rfl, rfl, hb⟩ := hrel
    have hbw := HB0.out.trans (hb.out.mono HB0.out.size)
    have HBW := hid hbw
    by_cases hlt : k < n
    · obtain ⟨gc, o, nv, bv, hA, hF, hat, hB, -, -⟩ := HCD.out k (by rw [HN.out]; exact hlt)
      subst hA
      have hzr := Nat.lt_of_lt_of_le hz0 hb.out.size
      have hgr : gc < wr.heap.size := Nat.lt_of_lt_of_le hF hbw.size
      obtain ⟨c0, c1, c2, c3, c4, -, -, -⟩ := hat.below hbw hF
      have HMSK := hid (HMS.out k (by rw [HN.out]; exact hlt))
      have hlt2 := HMT.out k
      have hpw : 2 ^ (k + 1) ≤ 2 ^ 4 := Nat.pow_le_pow_right (by decide) (by omega)
      have HSK := hid (fun e : Later wr => HHS.out _ hB e.w (bstep HBW.out e.below))
      generalize cs[k]'(by rw [HN.out]; exact hlt) = cd at *
      obtain ⟨⟨va, vb, vc, vp, vq⟩, sh, nd, br⟩ := cd
      dsimp only at c0 c1 c2 c3 c4 HSK HMSK
      obtain ⟨b, hbb⟩ : ∃ b, hasB x.s ⟨va, vb, vc, vp, vq⟩ = b := ⟨_, rfl⟩
      rw [hbb] at HSK HMSK
      have l0 := later_cell hgr c0
      have l1 := later_cell hgr c1
      have l2 := later_cell hgr c2
      have l3 := later_cell hgr c3
      have l4 := later_cell hgr c4
      have m0 := later_cell hzr (cell_below hb.out hz0 s0)
      have m1 := later_cell hzr (cell_below hb.out hz0 s1)
      have i0 : (0 : Int) ≤ ↑k := by omega
      have i1 : (↑k : Int) < ↑n := by omega
      have i2 : (↑k : Int) < 16 := by omega
      generalize metTo cs x.s k = mk at *
      clear hat hB hbb c0 c1 c2 c3 c4
      cases b with
      | false =>
        have HE := hid (show metTo cs x.s (k + 1) = mk by rw [HMSK.out]; rfl)
        go_wp2_with fail
        (refine wp_region_later (by kernel_rfl) (by kernel_rfl) ?_; (repeat (go_big_quiet_step ((first | (go_at_call 107; exact Calls.later (HSK.out _) rfl))))); refine wpQuiet_nil ?_; rintro _ ⟨⟨w2, hb2⟩, rfl⟩)
        go_wp2
        exact ⟨⟨k + 1, by omega, by go_num, by rw [HE.out], hid (bstep hb.out hb2)⟩, by simp [intOf]; omega⟩
      | true =>
        obtain ⟨pk, hpk⟩ : ∃ pk, 2 ^ (k + 1) = pk := ⟨_, rfl⟩
        rw [hpk] at hlt2 hpw HMSK
        have HE := hid (show metTo cs x.s (k + 1) = mk + pk by rw [HMSK.out]; rfl)
        have HBT := hid (fun W => rbit_any (k + 1) W (by omega))
        have hpwe : pw (k + 1) = (pk : Int) := by unfold pw; rw [hpk]
        rw [hpwe, show ((k + 1 : Nat) : Int) = (k : Int) + 1 by omega] at HBT
        go_wp2_with fail
        (refine wp_region_later (by kernel_rfl) (by kernel_rfl) ?_; (repeat (go_big_quiet_step ((first | (go_at_call 107; exact Calls.later (HSK.out _) rfl))))); refine wpQuiet_nil ?_; rintro _ ⟨⟨w2, hb2⟩, rfl⟩)
        go_wp2_with fail
        refine (HBT.out _).mono ?_
        rintro e w3 ⟨rfl, hw3⟩
        rw [hw3]
        clear hw3
        go_wp2
        exact ⟨⟨k + 1, by omega, by go_num, by rw [HE.out]; push_cast; rfl, hid (bstep hb.out hb2)⟩, by simp [intOf]; omega⟩
    · have hkn : k = n := by omega
      subst hkn
      clear hlt
      go_wp2
      go_ret
      exact ⟨ret_int (by rw [HME.out]), HBW.out⟩
end Go.Proofs.YtmbjeppnamhgiaaGreat
end
