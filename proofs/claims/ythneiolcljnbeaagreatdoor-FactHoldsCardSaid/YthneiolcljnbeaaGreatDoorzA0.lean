import Derived.Test.YthneiolcljnbeaaGreatDoorzNs
import Derived.Test.YthneiolcljnbeaaGreatDoorzV16
import Derived.Test.YthneiolcljnbeaaGreatDoorzP2
import Derived.Test.YthneiolcljnbeaaGreatDoorzN9
import Derived.Outline
import Derived.Test.YthneiolcljnbeaaGreatDoorzN4
namespace Go.Proofs.YthneiolcljnbeaaGreatDoor
open Go Go.RowKit
section
def aheadB (c : Cut) (v : Ver) : Bool := cutMay c && (mayV v && if c.en = 0 then decide (cmpV c.v v < 0) || (decide (cmpV c.v v = 0) && !c.after) else decide (c.en < 0))
def holdsB (s : Span) (v : Ver) : Bool := spanMay s && (mayV v && (aheadB s.lo v && !aheadB s.hi v))
def has4B (l : List Span) (v : Ver) : Bool := rowMayB l && l.any fun s => holdsB s v
def hasB (s : SetD) (v : Ver) : Bool := setMayB s.rel s.pre && (mayV v && if v.pre.size = 0 then has4B s.rel v else has4B s.pre v)
def metTo (cs : List CandW) (s : SetD) : Nat → Nat
 | 0 => 0
 | k + 1 => metTo cs s k + if (cs[k]?.map fun c => hasB s c.v).getD false = true then 2 ^ (k + 1) else 0
theorem metTo_succ {cs : List CandW} {s : SetD} {k : Nat} (hk : k < cs.length) : metTo cs s (k + 1) = metTo cs s k + if hasB s cs[k].v = true then 2 ^ (k + 1) else 0 := by
 show metTo cs s k + _ = _
 rw [List.getElem?_eq_getElem hk]
 rfl
theorem metTo_lt (cs : List CandW) (s : SetD) (k : Nat) : metTo cs s k < 2 ^ (k + 1) := by
 induction k with
 | zero => show 0 < 2 ^ (0 + 1); decide
 | succ k ih =>
  have : 2 ^ (k + 2) = 2 ^ (k + 1) + 2 ^ (k + 1) := by rw [Nat.pow_succ]; omega
  show metTo cs s k + _ < 2 ^ (k + 2)
  split <;> omega
theorem add_pow_bit {a n : Nat} (h : a < 2 ^ n) (j : Nat) : (a + 2 ^ n).testBit j = (a.testBit j || decide (j = n)) := by
 have h1 := Nat.two_pow_add_eq_or_of_lt h 1
 rw [Nat.mul_one] at h1
 rw [Nat.add_comm, h1, Nat.testBit_or, Nat.testBit_two_pow]
 rw [show decide (n = j) = decide (j = n) from decide_eq_decide.2 eq_comm]
 exact Bool.or_comm _ _
theorem metTo_bit (cs : List CandW) (s : SetD) (k j : Nat) : (metTo cs s k).testBit j = true ↔ 1 ≤ j ∧ j ≤ k ∧ (cs[j - 1]?.map fun c => hasB s c.v).getD false = true := by
 induction k with
 | zero =>
  show (0 : Nat).testBit j = true ↔ _
  rw [Nat.zero_testBit]
  constructor
  ·intro h; cases h
  ·rintro ⟨h1, h2, _⟩; omega
 | succ k ih =>
  show (metTo cs s k + _).testBit j = true ↔ _
  split
  ·rename_i hh
   rw [add_pow_bit (metTo_lt cs s k), Bool.or_eq_true, ih, decide_eq_true_eq]
   constructor
   ·rintro (⟨h1, h2, h3⟩ | rfl)
    ·exact ⟨h1, by omega, h3⟩
    ·exact ⟨by omega, by omega, hh⟩
   ·rintro ⟨h1, h2, h3⟩
    by_cases e : j = k + 1
    ·exact .inr e
    ·exact .inl ⟨h1, by omega, h3⟩
  ·rename_i hh
   rw [Nat.add_zero, ih]
   constructor
   ·rintro ⟨h1, h2, h3⟩; exact ⟨h1, by omega, h3⟩
   ·rintro ⟨h1, h2, h3⟩
    by_cases e : j = k + 1
    ·subst e; exact absurd h3 hh
    ·exact ⟨h1, by omega, h3⟩
def metN (us : List UnitW) (x : WantD) : Nat := match us[x.u.toNat]? with
 | some u => metTo u.cands x.s u.cands.length
 | none => 0
theorem metN_le (us : List UnitW) (x : WantD) : metN us x ≤ fullN (nsOf us) x.u.toNat := by
 unfold metN fullN nsOf
 rw [List.getElem?_map]
 cases us[x.u.toNat]? with
 | none => exact Nat.le_refl _
 | some u =>
  have := metTo_lt u.cands x.s u.cands.length
  show metTo u.cands x.s u.cands.length ≤ 2 ^ (u.cands.length + 1) - 1
  omega
def clauseT (us : List UnitW) (bar : Bool) (x : WantD) : Term := ⟨x.u, ((if bar then metN us x else fullN (nsOf us) x.u.toNat - metN us x : Nat) : Int)⟩
def clauseL (us : List UnitW) (u p : Nat) (l : List WantD) (bar : Bool) : List Term := ⟨(u : Int), ((2 ^ (p + 1) : Nat) : Int)⟩ :: l.map (clauseT us bar)
structure RowN where
 kind : Int
 u : Nat
 M : Nat → Nat
def likeN (ns : List Nat) (x r : RowN) : Bool := decide (x.kind = r.kind) && (decide (x.u = r.u) && decide (butL (canon ns x.M) r.u = butL (canon ns r.M) r.u))
def bothN (x r : RowN) : RowN := ⟨x.kind, x.u, fun v => if v = r.u then x.M v ||| r.M v else x.M v⟩
def putN (ns : List Nat) : List RowN → RowN → List RowN
 | [], r => [r]
 | x :: l, r => if likeN ns x r then bothN x r :: l else x :: putN ns l r
def addN (us : List UnitW) (u p : Nat) (kind : Int) (bar : Bool) (rows : List RowN) (l : List WantD) : List RowN :=
 if (makeN (nsOf us) (clauseL us u p l bar)).isSome then putN (nsOf us) rows ⟨kind, u, meetN (nsOf us) (clauseL us u p l bar)⟩ else rows
def needsN (us : List UnitW) (u p : Nat) (rows : List RowN) (l : List (List WantD)) : List RowN := l.foldl (fun rows r => addN us u p 2 false rows r) rows
def barsN (us : List UnitW) (u p : Nat) (rows : List RowN) (l : List WantD) : List RowN := l.foldl (fun rows x => addN us u p 3 true rows [x]) rows
def candN (us : List UnitW) (u p : Nat) (rows : List RowN) (c : CandW) : List RowN := barsN us u p (needsN us u p rows c.needs) c.bars
def candsN (us : List UnitW) (u : Nat) (rows : List RowN) (cs : List CandW) : Nat → List RowN
 | 0 => rows
 | k + 1 => match cs[k]? with
  | some c => candN us u k (candsN us u rows cs k) c
  | none => candsN us u rows cs k
def rootN (ns : List Nat) : RowN := ⟨1, 0, fun v => if v = 0 then 1 else fullN ns v⟩
def unitsN (us : List UnitW) : Nat → List RowN
 | 0 => [rootN (nsOf us)]
 | k + 1 => match us[k]? with
  | some u => candsN us k (unitsN us k) u.cands u.cands.length
  | none => unitsN us k
def allN (us : List UnitW) : List RowN := unitsN us us.length
def banL (ns : List Nat) (u : Nat) (a : Nat) : List Term := [⟨(u : Int), ((fullN ns u - (fullN ns u &&& a) : Nat) : Int)⟩]
def banTo (ns : List Nat) (al : List Nat) : Nat → List (Nat → Nat)
 | 0 => []
 | k + 1 => match al[k]? with
  | some a => banTo ns al k ++ (if (makeN ns (banL ns k a)).isSome then [meetN ns (banL ns k a)] else [])
  | none => banTo ns al k
def dbM (us : List UnitW) (al : List Nat) : List (Nat → Nat) := (allN us).map (·.M) ++ banTo (nsOf us) al (min al.length us.length)
section
variable {ns : List Nat}
structure RowN.Ok (ns : List Nat) (r : RowN) : Prop where
 inc : IncOk ns r.M
 u : r.u < ns.length
 bit : r.kind ≠ 1 → (r.M r.u).testBit 0 = false
 kind : 1 ≤ r.kind ∧ r.kind ≤ 3
theorem full_bit0 {u : Nat} (hu : u < ns.length) : (fullN ns u).testBit 0 = true := by rw [full_bit hu]; simp
theorem both_inc {x r : RowN} (hx : x.Ok ns) (hr : r.Ok ns) : IncOk ns (bothN x r).M := by
 refine ⟨fun v hv => ?_, fun v hv => ?_⟩
 ·show (if v = r.u then x.M v ||| r.M v else x.M v) ≠ 0
  split
  ·intro h0
   have := (Nat.left_le_or : x.M v ≤ x.M v ||| r.M v)
   rw [h0] at this
   have := hx.inc.pos v hv
   omega
  ·exact hx.inc.pos v hv
 ·show (if v = r.u then x.M v ||| r.M v else x.M v) &&& _ = (if v = r.u then x.M v ||| r.M v else x.M v)
  split
  ·rw [Nat.and_or_distrib_right, hx.inc.sub v hv, hr.inc.sub v hv]
  ·exact hx.inc.sub v hv
theorem both_ok {x r : RowN} (hx : x.Ok ns) (hr : r.Ok ns) (hl : likeN ns x r = true) (hk : r.kind ≠ 1) : (bothN x r).Ok ns := by
 unfold likeN at hl
 simp only [Bool.and_eq_true, decide_eq_true_eq] at hl
 obtain ⟨h1, h2, _⟩ := hl
 refine ⟨both_inc hx hr, hx.u, fun _ => ?_, hx.kind⟩
 show (if x.u = r.u then x.M x.u ||| r.M x.u else x.M x.u).testBit 0 = false
 rw [if_pos h2, Nat.testBit_or, hx.bit (by rw [h1]; exact hk)]
 rw [h2, hr.bit hk]
 rfl
theorem put_ok {rows : List RowN} {r : RowN} (h : ∀ x ∈ rows, x.Ok ns) (hr : r.Ok ns) (hk : r.kind ≠ 1) : ∀ x ∈ putN ns rows r, x.Ok ns := by
 induction rows with
 | nil => intro x hx; rcases List.mem_singleton.1 hx with rfl; exact hr
 | cons y l ih =>
  intro x hx
  unfold putN at hx
  split at hx
  ·rename_i hl
   rcases List.mem_cons.1 hx with rfl | hx
   ·exact both_ok (h y List.mem_cons_self) hr hl hk
   ·exact h x (List.mem_cons_of_mem _ hx)
  ·rcases List.mem_cons.1 hx with rfl | hx
   ·exact h _ List.mem_cons_self
   ·exact ih (fun x hx => h x (List.mem_cons_of_mem _ hx)) x hx
theorem put_len (rows : List RowN) (r : RowN) : (putN ns rows r).length ≤ rows.length + 1 := by
 induction rows with
 | nil => simp [putN]
 | cons y l ih =>
  unfold putN
  split
  ·simp
  ·simp; exact ih
theorem put_pre {rows : List RowN} {r : RowN} {k : Nat} (hk : ∀ i, (h : i < rows.length) → i < k → likeN ns rows[i] r = false) (hle : k ≤ rows.length) : putN ns rows r = rows.take k ++ putN ns (rows.drop k) r := by
 induction rows generalizing k with
 | nil => simp
 | cons y l ih =>
  cases k with
  | zero => rfl
  | succ k =>
   have h0 := hk 0 (by simp) (by omega)
   have e : putN ns (y :: l) r = y :: putN ns l r := by
    show (if likeN ns y r then _ else _) = _
    rw [show likeN ns y r = false from h0]; rfl
   rw [e, ih (k := k) (fun i hi hik => hk (i + 1) (by simpa using hi) (by omega)) (by simpa using hle)]
   rfl
theorem put_hit {rows : List RowN} {r : RowN} {k : Nat} (hlt : k < rows.length) (hk : ∀ i, (h : i < rows.length) → i < k → likeN ns rows[i] r = false) (hl : likeN ns rows[k] r = true) : putN ns rows r = rows.set k (bothN rows[k] r) := by
 rw [put_pre hk (Nat.le_of_lt hlt), List.drop_eq_getElem_cons hlt]
 show _ ++ (if likeN ns rows[k] r then _ else _) = _
 rw [hl, if_pos rfl, List.set_eq_take_append_cons_drop, if_pos hlt]
theorem put_miss {rows : List RowN} {r : RowN} (hk : ∀ i, (h : i < rows.length) → likeN ns rows[i] r = false) : putN ns rows r = rows ++ [r] := by
 rw [put_pre (k := rows.length) (fun i h _ => hk i h) (Nat.le_refl _), List.take_of_length_le (Nat.le_refl _), List.drop_of_length_le (Nat.le_refl _)]
 rfl
theorem meet_head (t : Term) (l : List Term) (u : Nat) (ht : t.unit = (u : Int)) (k : Nat) (h : (meetN ns (t :: l) u).testBit k = true) : (nm t.mask).testBit k = true := by
 rw [meet_bit] at h
 simp only [List.all_cons, Bool.and_eq_true, Bool.or_eq_true, decide_eq_true_eq] at h
 rcases h.2.1 with h1 | h1
 ·exact absurd ht h1
 ·exact h1
end
section
variable {us : List UnitW} {u p : Nat} {l : List WantD} {bar : Bool} {kind : Int} {rows : List RowN}
theorem clause_ok (hu : u < us.length) (hk : kind = 2 ∨ kind = 3) (hp : p < 60) (hs : (makeN (nsOf us) (clauseL us u p l bar)).isSome) : RowN.Ok (nsOf us) ⟨kind, u, meetN (nsOf us) (clauseL us u p l bar)⟩ := by
 obtain ⟨r, hr⟩ := Option.isSome_iff_exists.1 hs
 refine ⟨(make_some hr).1, by simpa [nsOf] using hu, fun _ => ?_, ⟨by show 1 ≤ kind; omega, by show kind ≤ 3; omega⟩⟩
 cases hb : (meetN (nsOf us) (clauseL us u p l bar) u).testBit 0 with
 | false => rfl
 | true =>
  have h1 := meet_head _ _ u rfl 0 hb
  have h2 : 2 ^ (p + 1) < 18446744073709551616 := by
   have : 2 ^ (p + 1) < 2 ^ 64 := Nat.pow_lt_pow_right (by decide) (by omega)
   exact this
  rw [nm_nat h2, Nat.testBit_two_pow] at h1
  simp at h1
theorem add_ok (hu : u < us.length) (hk : kind = 2 ∨ kind = 3) (hp : p < 60) (h : ∀ x ∈ rows, x.Ok (nsOf us)) : ∀ x ∈ addN us u p kind bar rows l, x.Ok (nsOf us) := by
 unfold addN
 split
 ·rename_i hs
  exact put_ok h (clause_ok hu hk hp hs) (by show kind ≠ 1; omega)
 ·exact h
theorem add_len : (addN us u p kind bar rows l).length ≤ rows.length + 1 := by
 unfold addN
 split
 ·exact put_len _ _
 ·omega
end
section
variable {us : List UnitW} {u p : Nat} {rows : List RowN}
theorem needs_ok (hu : u < us.length) (hp : p < 60) (l : List (List WantD)) : ∀ {rows : List RowN}, (∀ x ∈ rows, x.Ok (nsOf us)) → (∀ x ∈ needsN us u p rows l, x.Ok (nsOf us)) ∧ (needsN us u p rows l).length ≤ rows.length + l.length := by
 induction l with
 | nil => intro rows h; exact ⟨h, by simp [needsN]⟩
 | cons y l ih =>
  intro rows h
  obtain ⟨h1, h2⟩ := ih (add_ok (l := y) (bar := false) hu (.inl rfl) hp h)
  refine ⟨h1, ?_⟩
  have := add_len (us := us) (u := u) (p := p) (kind := 2) (bar := false) (rows := rows) (l := y)
  show (needsN us u p (addN us u p 2 false rows y) l).length ≤ _
  simp only [List.length_cons]
  omega
theorem bars_ok (hu : u < us.length) (hp : p < 60) (l : List WantD) : ∀ {rows : List RowN}, (∀ x ∈ rows, x.Ok (nsOf us)) → (∀ x ∈ barsN us u p rows l, x.Ok (nsOf us)) ∧ (barsN us u p rows l).length ≤ rows.length + l.length := by
 induction l with
 | nil => intro rows h; exact ⟨h, by simp [barsN]⟩
 | cons y l ih =>
  intro rows h
  obtain ⟨h1, h2⟩ := ih (add_ok (l := [y]) (bar := true) hu (.inr rfl) hp h)
  refine ⟨h1, ?_⟩
  have := add_len (us := us) (u := u) (p := p) (kind := 3) (bar := true) (rows := rows) (l := [y])
  show (barsN us u p (addN us u p 3 true rows [y]) l).length ≤ _
  simp only [List.length_cons]
  omega
theorem cand_ok (hu : u < us.length) (hp : p < 60) {c : CandW} {m : Nat} (hc : c.ok m) (h : ∀ x ∈ rows, x.Ok (nsOf us)) : (∀ x ∈ candN us u p rows c, x.Ok (nsOf us)) ∧ (candN us u p rows c).length ≤ rows.length + 12 := by
 obtain ⟨h1, h2⟩ := needs_ok hu hp c.needs h
 obtain ⟨h3, h4⟩ := bars_ok hu hp c.bars h1
 refine ⟨h3, ?_⟩
 have := hc.1
 have := hc.2.2.1
 show (barsN us u p (needsN us u p rows c.needs) c.bars).length ≤ _
 omega
theorem cands_succ {cs : List CandW} {k : Nat} (hk : k < cs.length) : candsN us u rows cs (k + 1) = candN us u k (candsN us u rows cs k) cs[k] := by
 show (match cs[k]? with | some c => _ | none => _) = _
 rw [List.getElem?_eq_getElem hk]
theorem cands_ok (hu : u < us.length) {cs : List CandW} {m : Nat} (hc : ∀ c ∈ cs, c.ok m) (h : ∀ x ∈ rows, x.Ok (nsOf us)) (k : Nat) (hk : k ≤ cs.length) (h4 : cs.length ≤ 4) : (∀ x ∈ candsN us u rows cs k, x.Ok (nsOf us)) ∧ (candsN us u rows cs k).length ≤ rows.length + 12 * k := by
 induction k with
 | zero => exact ⟨h, by show rows.length ≤ _; omega⟩
 | succ k ih =>
  obtain ⟨h1, h2⟩ := ih (by omega)
  have hlt : k < cs.length := by omega
  rw [cands_succ hlt]
  obtain ⟨h3, h5⟩ := cand_ok hu (p := k) (by omega) (hc cs[k] (List.getElem_mem hlt)) h1
  exact ⟨h3, by omega⟩
theorem units_succ {k : Nat} (hk : k < us.length) : unitsN us (k + 1) = candsN us k (unitsN us k) us[k].cands us[k].cands.length := by
 show (match us[k]? with | some u => _ | none => _) = _
 rw [List.getElem?_eq_getElem hk]
theorem root_ok {ns : List Nat} (ho : NsOk ns) (h0 : ns.head? = some 1) : (rootN ns).Ok ns ∧ canon ns (rootN ns).M = [⟨0, 1⟩] := by
 obtain ⟨r, rfl⟩ : ∃ r, ns = 1 :: r := by
  cases ns with
  | nil => cases h0
  | cons x r => exact ⟨r, by rw [Option.some.inj h0]⟩
 refine ⟨⟨⟨fun v hv => ?_, fun v hv => ?_⟩, by simp [rootN], fun h => absurd rfl h, ⟨by show (1 : Int) ≤ 1; omega, by show (1 : Int) ≤ 3; omega⟩⟩, ?_⟩
 ·show (if v = 0 then 1 else fullN _ v) ≠ 0
  split
  ·omega
  ·have := fullN_pos hv; omega
 ·show (if v = 0 then 1 else fullN _ v) &&& _ = (if v = 0 then 1 else fullN _ v)
  split
  ·rename_i e; subst e; rw [show fullN (1 :: r) 0 = 3 from rfl]; decide
  ·exact Nat.and_self _
 ·have e : canon (1 :: r) (rootN (1 :: r)).M = canonTo (1 :: r) (rootN (1 :: r)).M (r.length + 1) := rfl
  rw [e]
  have : ∀ n, canonTo (1 :: r) (rootN (1 :: r)).M (n + 1) = [⟨0, 1⟩] := by
   intro n
   induction n with
   | zero => rfl
   | succ n ih =>
    rw [canonTo_succ, ih]
    have : tm (1 :: r) (rootN (1 :: r)).M (n + 1) = none := by
     unfold tm rootN
     rw [if_pos (if_neg (by omega))]
    rw [this]
    rfl
  exact this _
theorem units_ok (ho : UnitsOk us) (h0 : (nsOf us).head? = some 1) (k : Nat) (hk : k ≤ us.length) : (∀ x ∈ unitsN us k, x.Ok (nsOf us)) ∧ (unitsN us k).length ≤ 1 + 48 * k := by
 induction k with
 | zero => exact ⟨fun x hx => by rcases List.mem_singleton.1 hx with rfl; exact (root_ok ho.ns h0).1, by show 1 ≤ _; omega⟩
 | succ k ih =>
  obtain ⟨h1, h2⟩ := ih (by omega)
  have hlt : k < us.length := by omega
  rw [units_succ hlt]
  have h4 : us[k].cands.length ≤ 4 := by
   have := ho.ns.le k (by simpa [nsOf] using hlt)
   simpa [nsOf] using this
  obtain ⟨h3, h5⟩ := cands_ok hlt (ho.cands _ (List.getElem_mem hlt)) h1 us[k].cands.length (Nat.le_refl _) h4
  exact ⟨h3, by omega⟩
end
end
section
def mayT (ns : List Nat) (t : Term) : Bool := decide (0 < t.mask ∧ t.mask < fullF ns t.unit)
def okAt (ns : List Nat) (l : List Term) (k : Nat) : Bool := match l[k]? with
 | some t => mayT ns t && (decide (k = 0) || decide (((l[k - 1]?).getD ⟨0, 0⟩).unit < t.unit))
 | none => true
def mayL (ns : List Nat) (l : List Term) : Bool := (List.range l.length).all (okAt ns l)
def masksF (ns : List Nat) (l : List Term) (v : Nat) : Nat := (maskF ns l (v : Int)).toNat
section
variable {ns : List Nat} {l m : List Term} {t : Term}
theorem okAt_lt {k : Nat} (hk : k < l.length) : okAt ns l k = (mayT ns l[k] && (decide (k = 0) || decide ((l[k - 1]'(Nat.lt_of_le_of_lt (Nat.sub_le _ _) hk)).unit < l[k].unit))) := by
 unfold okAt
 rw [List.getElem?_eq_getElem hk, List.getElem?_eq_getElem (Nat.lt_of_le_of_lt (Nat.sub_le _ _) hk)]
 rfl
theorem mayL_iff : mayL ns l = true ↔ ∀ k, k < l.length → okAt ns l k = true := by
 unfold mayL
 rw [List.all_eq_true]
 exact ⟨fun h k hk => h k (List.mem_range.2 hk), fun h k hk => h k (List.mem_range.1 hk)⟩
theorem mayL_bad {k : Nat} (hk : k < l.length) (h : okAt ns l k = false) : mayL ns l = false := by
 cases e : mayL ns l with
 | false => rfl
 | true => rw [mayL_iff.1 e k hk] at h; cases h
theorem sorted_ext : ∀ {l m : List Term}, l.Pairwise (fun a b => a.unit < b.unit) → m.Pairwise (fun a b => a.unit < b.unit) → (∀ t, t ∈ l ↔ t ∈ m) → l = m
 | [], [], _, _, _ => rfl
 | [], b :: m, _, _, h => absurd ((h b).2 (List.mem_cons_self ..)) (by simp)
 | a :: l, [], _, _, h => absurd ((h a).1 (List.mem_cons_self ..)) (by simp)
 | a :: l, b :: m, h1, h2, h => by
  rw [List.pairwise_cons] at h1 h2
  have hab : a = b := by
   rcases List.mem_cons.1 ((h a).1 (List.mem_cons_self ..)) with e | h3
   ·exact e
   ·rcases List.mem_cons.1 ((h b).2 (List.mem_cons_self ..)) with e | h4
    ·exact e.symm
    ·have := h2.1 a h3
     have := h1.1 b h4
     omega
  subst hab
  refine congrArg (a :: ·) (sorted_ext h1.2 h2.2 fun t => ⟨fun ht => ?_, fun ht => ?_⟩)
  ·rcases List.mem_cons.1 ((h t).1 (List.mem_cons_of_mem _ ht)) with e | h3
   ·subst e; have := h1.1 t ht; omega
   ·exact h3
  ·rcases List.mem_cons.1 ((h t).2 (List.mem_cons_of_mem _ ht)) with e | h3
   ·subst e; have := h2.1 t ht; omega
   ·exact h3
theorem asc_pairs (h : ∀ k, (hk : k < l.length) → k ≠ 0 → (l[k - 1]'(Nat.lt_of_le_of_lt (Nat.sub_le _ _) hk)).unit < l[k].unit) : l.Pairwise (fun a b => a.unit < b.unit) := by
 rw [List.pairwise_iff_getElem]
 intro i j hi hj hij
 obtain ⟨d, rfl⟩ : ∃ d, j = i + 1 + d := ⟨j - i - 1, by omega⟩
 clear hij
 induction d with
 | zero => exact h (i + 1) hj (by omega)
 | succ d ih =>
  have h1 := ih (by omega)
  have h2 := h (i + 1 + (d + 1)) hj (by omega)
  have e : (l[i + 1 + (d + 1) - 1]'(Nat.lt_of_le_of_lt (Nat.sub_le _ _) hj)) = l[i + 1 + d]'(by omega) := by congr 1
  rw [e] at h2
  omega
theorem mayT_unit (h : mayT ns t = true) : 0 ≤ t.unit ∧ t.unit < ns.length := by
 unfold mayT at h
 have h1 := (of_decide_eq_true h)
 unfold fullF at h1
 split at h1
 ·omega
 ·omega
theorem mayT_mask (h : mayT ns t = true) : ∃ u m : Nat, u < ns.length ∧ t = ⟨(u : Int), (m : Int)⟩ ∧ 0 < m ∧ m < fullN ns u := by
 have hu := mayT_unit h
 have h1 := of_decide_eq_true h
 refine ⟨t.unit.toNat, t.mask.toNat, by omega, ?_, by omega, ?_⟩
 ·obtain ⟨a, b⟩ := t
  dsimp only at *
  rw [Int.toNat_of_nonneg hu.1, Int.toNat_of_nonneg (by omega)]
 ·rw [fullF_eq _ hu.1] at h1
  omega
theorem pow_sub_and {m k : Nat} (h : m < 2 ^ k) : m &&& (2 ^ k - 1) = m := by
 rw [Nat.and_two_pow_sub_one_eq_mod, Nat.mod_eq_of_lt h]
theorem full_and {m u : Nat} (hu : u < ns.length) (h : m ≤ fullN ns u) : m &&& fullN ns u = m := by
 rw [fullN_of hu] at h ⊢
 have := Nat.two_pow_pos (ns[u] + 1)
 exact pow_sub_and (by omega)
theorem may_masks (h : mayL ns l = true) : IncOk ns (masksF ns l) ∧ l = canon ns (masksF ns l) := by
 rw [mayL_iff] at h
 have hT : ∀ t ∈ l, mayT ns t = true := fun t ht => by
  obtain ⟨k, hk, rfl⟩ := List.getElem_of_mem ht
  have h1 := h k hk
  rw [okAt_lt hk, Bool.and_eq_true] at h1
  exact h1.1
 have hP : l.Pairwise (fun a b => a.unit < b.unit) := asc_pairs fun k hk h0 => by
  have h1 := h k hk
  rw [okAt_lt hk, Bool.and_eq_true, Bool.or_eq_true, decide_eq_true_eq, decide_eq_true_eq] at h1
  exact h1.2.resolve_left h0
 have hF : ∀ t ∈ l, l.find? (fun x => x.unit == t.unit) = some t := fun t ht => by
  cases e : l.find? (fun x => x.unit == t.unit) with
  | none => have := List.find?_eq_none.1 e t ht; simp at this
  | some y =>
   have h1 := List.mem_of_find?_eq_some e
   have h2 := List.find?_some e
   have h3 : y.unit = t.unit := by simpa using h2
   obtain ⟨i, hi, rfl⟩ := List.getElem_of_mem h1
   obtain ⟨j, hj, rfl⟩ := List.getElem_of_mem ht
   rw [List.pairwise_iff_getElem] at hP
   rcases Nat.lt_trichotomy i j with hij | rfl | hij
   ·have := hP i j hi hj hij; omega
   ·rfl
   ·have := hP j i hj hi hij; omega
 have hm : ∀ v : Nat, v < ns.length → ((∃ m : Nat, (⟨(v : Int), (m : Int)⟩ : Term) ∈ l ∧ (maskF ns l v).toNat = m ∧ 0 < m ∧ m < fullN ns v) ∨ ((∀ t ∈ l, t.unit ≠ (v : Int)) ∧ (maskF ns l v).toNat = fullN ns v)) := fun v hv => by
  by_cases hx : ∃ t ∈ l, t.unit = (v : Int)
  ·obtain ⟨t, ht, hu⟩ := hx
   obtain ⟨u, m, h1, rfl, h2, h3⟩ := mayT_mask (hT t ht)
   have : u = v := by dsimp only at hu; omega
   subst this
   refine .inl ⟨m, ht, ?_, h2, h3⟩
   have := hF _ ht
   unfold maskF
   dsimp only at this
   rw [this]
   show ((m : Nat) : Int).toNat = m
   omega
  ·refine .inr ⟨fun t ht e => hx ⟨t, ht, e⟩, ?_⟩
   have : l.find? (fun x => x.unit == (v : Int)) = none := List.find?_eq_none.2 fun t ht e => hx ⟨t, ht, by simpa using e⟩
   unfold maskF
   rw [this]
   show (fullF ns (v : Int)).toNat = _
   rw [fullF_nat]
   omega
 have hM : IncOk ns (masksF ns l) := ⟨fun v hv => by
  rcases hm v hv with ⟨m, _, e, h1, _⟩ | ⟨_, e⟩
  ·show (maskF ns l v).toNat ≠ 0; omega
  ·show (maskF ns l v).toNat ≠ 0; have := fullN_pos hv; omega, fun v hv => by
  show (maskF ns l v).toNat &&& fullN ns v = (maskF ns l v).toNat
  rcases hm v hv with ⟨m, _, e, _, h1⟩ | ⟨_, e⟩
  ·rw [e]; exact full_and hv (Nat.le_of_lt h1)
  ·rw [e]; exact Nat.and_self _⟩
 refine ⟨hM, sorted_ext hP (canon_sorted _) fun t => ?_⟩
 rw [canon_mem]
 constructor
 ·intro ht
  obtain ⟨u, m, h1, rfl, h2, h3⟩ := mayT_mask (hT t ht)
  refine ⟨u, h1, ?_, ?_⟩
  ·rcases hm u h1 with ⟨m', _, e, _, h4⟩ | ⟨h4, _⟩
   ·show (maskF ns l u).toNat ≠ _; omega
   ·exact absurd rfl (h4 _ ht)
  ·rcases hm u h1 with ⟨m', h5, e, _, h4⟩ | ⟨h4, _⟩
   ·have e1 := hF _ ht
    have e2 := hF _ h5
    dsimp only at e1 e2
    rw [e1] at e2
    rw [Option.some.inj e2]
    show (⟨(u : Int), (m' : Int)⟩ : Term) = ⟨(u : Int), (((maskF ns l u).toNat : Nat) : Int)⟩
    rw [e]
   ·exact absurd rfl (h4 _ ht)
 ·rintro ⟨u, h1, h2, rfl⟩
  rcases hm u h1 with ⟨m', h5, e, _, h4⟩ | ⟨h4, e⟩
  ·have e2 : (masksF ns l u : Int) = (m' : Int) := by unfold masksF; omega
   rw [e2]
   exact h5
  ·exact absurd e h2
theorem masks_canon {M : Nat → Nat} {v : Nat} (hv : v < ns.length) : masksF ns (canon ns M) v = M v := by
 unfold masksF
 rw [mask_canon, maskN_nat M hv]
 rfl
theorem canon_may {M : Nat → Nat} (h : IncOk ns M) : mayL ns (canon ns M) = true := by
 rw [mayL_iff]
 intro k hk
 rw [okAt_lt hk, Bool.and_eq_true]
 obtain ⟨u, hu, hne, e⟩ := canon_mem.1 (List.getElem_mem hk)
 refine ⟨?_, ?_⟩
 ·rw [e]
  unfold mayT
  rw [decide_eq_true_eq]
  dsimp only
  rw [fullF_nat]
  have h1 := h.pos u hu
  have h2 : M u ≤ fullN ns u := by
   have h3 := h.sub u hu
   rw [← h3]
   exact Nat.and_le_right
  omega
 ·rw [Bool.or_eq_true, decide_eq_true_eq, decide_eq_true_eq]
  by_cases h0 : k = 0
  ·exact .inl h0
  ·exact .inr (canon_lt M hk h0)
end
def lostN (us : List UnitW) (M : Nat → Nat) (u p : Nat) (x : WantD) : Bool := metN us x &&& (if x.u = (u : Int) then 2 ^ (p + 1) else M x.u.toNat) == 0
def sureN (us : List UnitW) (M : Nat → Nat) (u p : Nat) (x : WantD) : Bool := if x.u = (u : Int) then metN us x &&& 2 ^ (p + 1) != 0 else M x.u.toNat &&& metN us x == M x.u.toNat
def brokenN (us : List UnitW) (bar : Bool) (M : Nat → Nat) (u p : Nat) (c : CandW) : Bool := if bar then c.bars.any (sureN us M u p) else c.needs.any fun r => r.all (lostN us M u p)
def brokenAt (us : List UnitW) (bar : Bool) (M : Nat → Nat) (u p : Nat) : Bool := match us[u]? with
 | some x => (match x.cands[p]? with | some c => brokenN us bar M u p c | none => true)
 | none => true
def saysN (us : List UnitW) (bar : Bool) (M : Nat → Nat) (u : Nat) : Bool := !(M u).testBit 0 && (List.range 16).all fun p => !(M u).testBit (p + 1) || brokenAt us bar M u p
def rightR (us : List UnitW) (r : Row) : Bool :=
 decide (r.a = 0) && (decide (r.b = 0) && (mayL (nsOf us) r.terms &&
  if r.kind = 1 then decide (r.unit = 0) && decide (r.terms = [⟨0, 1⟩])
  else decide (r.kind = 2 ∨ r.kind = 3) && (decide (0 ≤ r.unit ∧ r.unit < (us.length : Int)) && saysN us (decide (r.kind = 3)) (masksF (nsOf us) r.terms) r.unit.toNat)))
section
variable {us : List UnitW} {r : Row}
theorem right_a (h : r.a ≠ 0) : rightR us r = false := by unfold rightR; rw [decide_eq_false h]; rfl
theorem right_b (h : r.b ≠ 0) : rightR us r = false := by unfold rightR; rw [decide_eq_false h, Bool.false_and, Bool.and_false]
theorem right_may (h : mayL (nsOf us) r.terms = false) : rightR us r = false := by unfold rightR; rw [h, Bool.false_and, Bool.and_false, Bool.and_false]
theorem right_root (ha : r.a = 0) (hb : r.b = 0) (hm : mayL (nsOf us) r.terms = true) (hk : r.kind = 1) : rightR us r = (decide (r.unit = 0) && decide (r.terms = [⟨0, 1⟩])) := by
 unfold rightR
 rw [decide_eq_true ha, decide_eq_true hb, hm, if_pos hk]
 rfl
theorem right_says (ha : r.a = 0) (hb : r.b = 0) (hm : mayL (nsOf us) r.terms = true) (hk : r.kind ≠ 1) : rightR us r = (decide (r.kind = 2 ∨ r.kind = 3) && (decide (0 ≤ r.unit ∧ r.unit < (us.length : Int)) && saysN us (decide (r.kind = 3)) (masksF (nsOf us) r.terms) r.unit.toNat)) := by
 unfold rightR
 rw [decide_eq_true ha, decide_eq_true hb, hm, if_neg hk]
 rfl
theorem right_none (hk : r.kind ≠ 1) (h : ∀ t ∈ r.terms, t.unit ≠ r.unit) : rightR us r = false := by
 unfold rightR
 rw [if_neg hk]
 have : (decide (0 ≤ r.unit ∧ r.unit < (us.length : Int)) && saysN us (decide (r.kind = 3)) (masksF (nsOf us) r.terms) r.unit.toNat) = false := by
  by_cases hu : 0 ≤ r.unit ∧ r.unit < (us.length : Int)
  ·have hl : r.unit.toNat < (nsOf us).length := by simp [nsOf]; omega
   have hm : masksF (nsOf us) r.terms r.unit.toNat = fullN (nsOf us) r.unit.toNat := by
    unfold masksF maskF
    rw [show ((r.unit.toNat : Nat) : Int) = r.unit by omega]
    rw [List.find?_eq_none.2 (fun t ht e => h t ht (by simpa using e))]
    show (fullF (nsOf us) r.unit).toNat = _
    rw [fullF_eq _ hu.1]
    omega
   unfold saysN
   rw [hm, full_bit0 hl]
   simp
  ·rw [decide_eq_false hu, Bool.false_and]
 rw [this, Bool.and_false, Bool.and_false, Bool.and_false, Bool.and_false]
theorem right_at {t : Term} (hm : mayL (nsOf us) r.terms = true) (ht : t ∈ r.terms) (hu : t.unit = r.unit) : r.unit.toNat < us.length ∧ 0 ≤ r.unit ∧ t.mask = (masksF (nsOf us) r.terms r.unit.toNat : Int) := by
 obtain ⟨h1, h2⟩ := may_masks hm
 rw [h2] at ht
 obtain ⟨u, hul, hne, rfl⟩ := canon_mem.1 ht
 dsimp only at hu ⊢
 have hl : (nsOf us).length = us.length := by simp [nsOf]
 rw [← hu]
 exact ⟨by rw [Int.toNat_natCast]; omega, by omega, by rw [Int.toNat_natCast]⟩
theorem says_bit0 {bar : Bool} {M : Nat → Nat} {u : Nat} (h : (M u).testBit 0 = true) : saysN us bar M u = false := by unfold saysN; rw [h]; rfl
theorem says_true {bar : Bool} {M : Nat → Nat} {u : Nat} (h0 : (M u).testBit 0 = false) (h : ∀ p, p < 16 → (M u).testBit (p + 1) = true → brokenAt us bar M u p = true) : saysN us bar M u = true := by
 unfold saysN
 rw [h0, Bool.not_false, Bool.true_and, List.all_eq_true]
 intro p hp
 cases hb : (M u).testBit (p + 1) with
 | false => rfl
 | true => rw [h p (List.mem_range.1 hp) hb]; rfl
theorem says_false {bar : Bool} {M : Nat → Nat} {u p : Nat} (hp : p < 16) (hb : (M u).testBit (p + 1) = true) (h : brokenAt us bar M u p = false) : saysN us bar M u = false := by
 unfold saysN
 rw [Bool.and_eq_false_iff]
 right
 rw [List.all_eq_false]
 exact ⟨p, List.mem_range.2 hp, by rw [hb, h]; decide⟩
theorem says_all {bar : Bool} {M : Nat → Nat} {u : Nat} (h : saysN us bar M u = true) : (M u).testBit 0 = false ∧ ∀ p, p < 16 → (M u).testBit (p + 1) = true → brokenAt us bar M u p = true := by
 unfold saysN at h
 rw [Bool.and_eq_true, List.all_eq_true] at h
 refine ⟨by simpa using h.1, fun p hp hb => ?_⟩
 have := h.2 p (List.mem_range.2 hp)
 rw [hb] at this
 simpa using this
theorem broken_at {bar : Bool} {M : Nat → Nat} {u p : Nat} (hu : u < us.length) (hp : p < us[u].cands.length) : brokenAt us bar M u p = brokenN us bar M u p us[u].cands[p] := by
 unfold brokenAt
 rw [List.getElem?_eq_getElem hu]
 dsimp only
 rw [List.getElem?_eq_getElem hp]
end
end
end Go.Proofs.YthneiolcljnbeaaGreatDoor
