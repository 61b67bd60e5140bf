import Derived.Test.YtbfbppjccbppiaaGreatDoorzN9
import Derived.Test.YtbfbppjccbppiaaGreatDoorzGW
import Derived.Outline
import Derived.Deep.RegionWith
namespace Go.Proofs.YtbfbppjccbppiaaGreatDoor
open Go Go.RowKit
section
def mayT (ns : List Nat) (t : Term) : Bool := decide (0 < t.mask ∧ t.mask < qj5 ns t.unit)
def okAt (ns : List Nat) (l : List Term) (k : Nat) : Bool := match l[k]? with
 | some t => mayT ns t && (decide (k = 0) || decide (((l[k - 1]?).getD ⟨0, 0⟩).unit < t.unit))
 | none => true
def mayL (ns : List Nat) (l : List Term) : Bool := (List.range l.length).all (okAt ns l)
def qg3 (ns : List Nat) (l : List Term) (v : Nat) : Nat := (qk3 ns l (v : Int)).toNat
section
variable {ns : List Nat} {l m : List Term} {t : Term}
theorem qx8 {k : Nat} (hk : k < l.length) : okAt ns l k = (mayT ns l[k] && (decide (k = 0) || decide ((l[k - 1]'(Nat.lt_of_le_of_lt (Nat.sub_le _ _) hk)).unit < l[k].unit))) := by
 unfold okAt
 rw [List.getElem?_eq_getElem hk, List.getElem?_eq_getElem (Nat.lt_of_le_of_lt (Nat.sub_le _ _) hk)]
 rfl
theorem qr3 : mayL ns l = true ↔ ∀ k, k < l.length → okAt ns l k = true := by
 unfold mayL
 rw [List.all_eq_true]
 exact ⟨fun h k hk => h k (List.mem_range.2 hk), fun h k hk => h k (List.mem_range.1 hk)⟩
theorem mayL_bad {k : Nat} (hk : k < l.length) (h : okAt ns l k = false) : mayL ns l = false := by
 cases e : mayL ns l with
 | false => rfl
 | true => rw [qr3.1 e k hk] at h; cases h
theorem zp0 : ∀ {l m : List Term}, l.Pairwise (fun a b => a.unit < b.unit) → m.Pairwise (fun a b => a.unit < b.unit) → (∀ t, t ∈ l ↔ t ∈ m) → l = m
 | [], [], _, _, _ => rfl
 | [], b :: m, _, _, h => absurd ((h b).2 (List.mem_cons_self ..)) (by simp)
 | a :: l, [], _, _, h => absurd ((h a).1 (List.mem_cons_self ..)) (by simp)
 | a :: l, b :: m, h1, h2, h => by
  rw [List.pairwise_cons] at h1 h2
  have hab : a = b := by
   rcases List.mem_cons.1 ((h a).1 (List.mem_cons_self ..)) with e | h3
   ·exact e
   ·rcases List.mem_cons.1 ((h b).2 (List.mem_cons_self ..)) with e | h4
    ·exact e.symm
    ·have := h2.1 a h3
     have := h1.1 b h4
     omega
  subst hab
  refine congrArg (a :: ·) (zp0 h1.2 h2.2 fun t => ⟨fun ht => ?_, fun ht => ?_⟩)
  ·rcases List.mem_cons.1 ((h t).1 (List.mem_cons_of_mem _ ht)) with e | h3
   ·subst e; have := h1.1 t ht; omega
   ·exact h3
  ·rcases List.mem_cons.1 ((h t).2 (List.mem_cons_of_mem _ ht)) with e | h3
   ·subst e; have := h2.1 t ht; omega
   ·exact h3
theorem asc_pairs (h : ∀ k, (hk : k < l.length) → k ≠ 0 → (l[k - 1]'(Nat.lt_of_le_of_lt (Nat.sub_le _ _) hk)).unit < l[k].unit) : l.Pairwise (fun a b => a.unit < b.unit) := by
 rw [List.pairwise_iff_getElem]
 intro i j hi hj hij
 obtain ⟨d, rfl⟩ : ∃ d, j = i + 1 + d := ⟨j - i - 1, by omega⟩
 clear hij
 induction d with
 | zero => exact h (i + 1) hj (by omega)
 | succ d ih =>
  have h1 := ih (by omega)
  have h2 := h (i + 1 + (d + 1)) hj (by omega)
  have e : (l[i + 1 + (d + 1) - 1]'(Nat.lt_of_le_of_lt (Nat.sub_le _ _) hj)) = l[i + 1 + d]'(by omega) := by congr 1
  rw [e] at h2
  omega
theorem mayT_unit (h : mayT ns t = true) : 0 ≤ t.unit ∧ t.unit < ns.length := by
 unfold mayT at h
 have h1 := (of_decide_eq_true h)
 unfold qj5 at h1
 split at h1
 ·omega
 ·omega
theorem qz6 (h : mayT ns t = true) : ∃ u m : Nat, u < ns.length ∧ t = ⟨(u : Int), (m : Int)⟩ ∧ 0 < m ∧ m < qb8 ns u := by
 have hu := mayT_unit h
 have h1 := of_decide_eq_true h
 refine ⟨t.unit.toNat, t.mask.toNat, by omega, ?_, by omega, ?_⟩
 ·obtain ⟨a, b⟩ := t
  dsimp only at *
  rw [Int.toNat_of_nonneg hu.1, Int.toNat_of_nonneg (by omega)]
 ·rw [ze8 _ hu.1] at h1
  omega
theorem pow_sub_and {m k : Nat} (h : m < 2 ^ k) : m &&& (2 ^ k - 1) = m := by
 rw [Nat.and_two_pow_sub_one_eq_mod, Nat.mod_eq_of_lt h]
theorem full_and {m u : Nat} (hu : u < ns.length) (h : m ≤ qb8 ns u) : m &&& qb8 ns u = m := by
 rw [qr1 hu] at h ⊢
 have := Nat.two_pow_pos (ns[u] + 1)
 exact pow_sub_and (by omega)
theorem may_masks (h : mayL ns l = true) : IncOk ns (qg3 ns l) ∧ l = canon ns (qg3 ns l) := by
 rw [qr3] at h
 have hT : ∀ t ∈ l, mayT ns t = true := fun t ht => by
  obtain ⟨k, hk, rfl⟩ := List.getElem_of_mem ht
  have h1 := h k hk
  rw [qx8 hk, Bool.and_eq_true] at h1
  exact h1.1
 have hP : l.Pairwise (fun a b => a.unit < b.unit) := asc_pairs fun k hk h0 => by
  have h1 := h k hk
  rw [qx8 hk, Bool.and_eq_true, Bool.or_eq_true, decide_eq_true_eq, decide_eq_true_eq] at h1
  exact h1.2.resolve_left h0
 have hF : ∀ t ∈ l, l.find? (fun x => x.unit == t.unit) = some t := fun t ht => by
  cases e : l.find? (fun x => x.unit == t.unit) with
  | none => have := List.find?_eq_none.1 e t ht; simp at this
  | some y =>
   have h1 := List.mem_of_find?_eq_some e
   have h2 := List.find?_some e
   have h3 : y.unit = t.unit := by simpa using h2
   obtain ⟨i, hi, rfl⟩ := List.getElem_of_mem h1
   obtain ⟨j, hj, rfl⟩ := List.getElem_of_mem ht
   rw [List.pairwise_iff_getElem] at hP
   rcases Nat.lt_trichotomy i j with hij | rfl | hij
   ·have := hP i j hi hj hij; omega
   ·rfl
   ·have := hP j i hj hi hij; omega
 have hm : ∀ v : Nat, v < ns.length → ((∃ m : Nat, (⟨(v : Int), (m : Int)⟩ : Term) ∈ l ∧ (qk3 ns l v).toNat = m ∧ 0 < m ∧ m < qb8 ns v) ∨ ((∀ t ∈ l, t.unit ≠ (v : Int)) ∧ (qk3 ns l v).toNat = qb8 ns v)) := fun v hv => by
  by_cases hx : ∃ t ∈ l, t.unit = (v : Int)
  ·obtain ⟨t, ht, hu⟩ := hx
   obtain ⟨u, m, h1, rfl, h2, h3⟩ := qz6 (hT t ht)
   have : u = v := by dsimp only at hu; omega
   subst this
   refine .inl ⟨m, ht, ?_, h2, h3⟩
   have := hF _ ht
   unfold qk3
   dsimp only at this
   rw [this]
   show ((m : Nat) : Int).toNat = m
   omega
  ·refine .inr ⟨fun t ht e => hx ⟨t, ht, e⟩, ?_⟩
   have : l.find? (fun x => x.unit == (v : Int)) = none := List.find?_eq_none.2 fun t ht e => hx ⟨t, ht, by simpa using e⟩
   unfold qk3
   rw [this]
   show (qj5 ns (v : Int)).toNat = _
   rw [qj6]
   omega
 have hM : IncOk ns (qg3 ns l) := ⟨fun v hv => by
  rcases hm v hv with ⟨m, _, e, h1, _⟩ | ⟨_, e⟩
  ·show (qk3 ns l v).toNat ≠ 0; omega
  ·show (qk3 ns l v).toNat ≠ 0; have := qz1 hv; omega, fun v hv => by
  show (qk3 ns l v).toNat &&& qb8 ns v = (qk3 ns l v).toNat
  rcases hm v hv with ⟨m, _, e, _, h1⟩ | ⟨_, e⟩
  ·rw [e]; exact full_and hv (Nat.le_of_lt h1)
  ·rw [e]; exact Nat.and_self _⟩
 refine ⟨hM, zp0 hP (zd6 _) fun t => ?_⟩
 rw [qp7]
 constructor
 ·intro ht
  obtain ⟨u, m, h1, rfl, h2, h3⟩ := qz6 (hT t ht)
  refine ⟨u, h1, ?_, ?_⟩
  ·rcases hm u h1 with ⟨m', _, e, _, h4⟩ | ⟨h4, _⟩
   ·show (qk3 ns l u).toNat ≠ _; omega
   ·exact absurd rfl (h4 _ ht)
  ·rcases hm u h1 with ⟨m', h5, e, _, h4⟩ | ⟨h4, _⟩
   ·have e1 := hF _ ht
    have e2 := hF _ h5
    dsimp only at e1 e2
    rw [e1] at e2
    rw [Option.some.inj e2]
    show (⟨(u : Int), (m' : Int)⟩ : Term) = ⟨(u : Int), (((qk3 ns l u).toNat : Nat) : Int)⟩
    rw [e]
   ·exact absurd rfl (h4 _ ht)
 ·rintro ⟨u, h1, h2, rfl⟩
  rcases hm u h1 with ⟨m', h5, e, _, h4⟩ | ⟨h4, e⟩
  ·have e2 : (qg3 ns l u : Int) = (m' : Int) := by unfold qg3; omega
   rw [e2]
   exact h5
  ·exact absurd e h2
theorem qt7 (h : mayL ns l = true) : ∃ M, IncOk ns M ∧ l = canon ns M := ⟨_, may_masks h⟩
theorem zi3 {M : Nat → Nat} {v : Nat} (hv : v < ns.length) : qg3 ns (canon ns M) v = M v := by
 unfold qg3
 rw [qq0, qp9 M hv]
 rfl
theorem canon_may {M : Nat → Nat} (h : IncOk ns M) : mayL ns (canon ns M) = true := by
 rw [qr3]
 intro k hk
 rw [qx8 hk, Bool.and_eq_true]
 obtain ⟨u, hu, hne, e⟩ := qp7.1 (List.getElem_mem hk)
 refine ⟨?_, ?_⟩
 ·rw [e]
  unfold mayT
  rw [decide_eq_true_eq]
  dsimp only
  rw [qj6]
  have h1 := h.pos u hu
  have h2 : M u ≤ qb8 ns u := by
   have h3 := h.sub u hu
   rw [← h3]
   exact Nat.and_le_right
  omega
 ·rw [Bool.or_eq_true, decide_eq_true_eq, decide_eq_true_eq]
  by_cases h0 : k = 0
  ·exact .inl h0
  ·exact .inr (canon_lt M hk h0)
end
def lostN (us : List UnitW) (M : Nat → Nat) (u p : Nat) (x : WantD) : Bool := metN us x &&& (if x.u = (u : Int) then 2 ^ (p + 1) else M x.u.toNat) == 0
def sureN (us : List UnitW) (M : Nat → Nat) (u p : Nat) (x : WantD) : Bool := if x.u = (u : Int) then metN us x &&& 2 ^ (p + 1) != 0 else M x.u.toNat &&& metN us x == M x.u.toNat
def brokenN (us : List UnitW) (bar : Bool) (M : Nat → Nat) (u p : Nat) (c : CandW) : Bool := if bar then c.bars.any (sureN us M u p) else c.needs.any fun r => r.all (lostN us M u p)
def brokenAt (us : List UnitW) (bar : Bool) (M : Nat → Nat) (u p : Nat) : Bool := match us[u]? with
 | some x => (match x.cands[p]? with | some c => brokenN us bar M u p c | none => true)
 | none => true
def saysN (us : List UnitW) (bar : Bool) (M : Nat → Nat) (u : Nat) : Bool := !(M u).testBit 0 && (List.range 16).all fun p => !(M u).testBit (p + 1) || brokenAt us bar M u p
def rightR (us : List UnitW) (r : Row) : Bool :=
 decide (r.a = 0) && (decide (r.b = 0) && (mayL (nsOf us) r.terms &&
  if r.kind = 1 then decide (r.unit = 0) && decide (r.terms = [⟨0, 1⟩])
  else decide (r.kind = 2 ∨ r.kind = 3) && (decide (0 ≤ r.unit ∧ r.unit < (us.length : Int)) && saysN us (decide (r.kind = 3)) (qg3 (nsOf us) r.terms) r.unit.toNat)))
section
variable {us : List UnitW} {r : Row}
end
end
section
theorem full_form {ns : List Nat} (ho : NsOk ns) (u : Int) : ∃ f : Nat, qj5 ns u = (f : Int) ∧ f ≤ 31 ∧ ∀ m, m ≤ f → m &&& f = m := by
 by_cases h : 0 ≤ u
 ·refine ⟨qb8 ns u.toNat, ze8 _ h, qi2 ho _, fun m hm => ?_⟩
  by_cases h2 : u.toNat < ns.length
  ·exact full_and h2 hm
  ·rw [zh2 h2] at hm ⊢
   have : m = 0 := by omega
   subst this; rfl
 ·refine ⟨0, fullF_neg u (by omega), by omega, fun m hm => ?_⟩
  have : m = 0 := by omega
  subst this; rfl
theorem nm_int (m : Int) (h : I64 m) : (0 ≤ m ∧ (nm m : Int) = m) ∨ (m < 0 ∧ 9223372036854775808 ≤ nm m) := by
 unfold nm
 rw [BitVec.toNat_ofInt]
 obtain ⟨h1, h2⟩ := h
 by_cases h0 : 0 ≤ m
 ·exact .inl ⟨h0, by omega⟩
 ·exact .inr ⟨by omega, by omega⟩
theorem andnot_may {m : Int} {f : Nat} (hm : I64 m) (hf : f ≤ 31) (hs : ∀ m, m ≤ f → m &&& f = m) : (bits .andNot .i64 m (f : Int) == 0) = decide (0 ≤ m ∧ m ≤ f) := by
 rw [bandn, ql1 (by omega)]
 apply decide_eq_decide.2
 have h1 : nm m &&& f ≤ f := Nat.and_le_right
 constructor
 ·intro h
  rw [h] at h1
  rcases nm_int m hm with ⟨h2, h3⟩ | ⟨h2, h3⟩
  ·omega
  ·omega
 ·rintro ⟨h2, h3⟩
  rcases nm_int m hm with ⟨h4, h5⟩ | ⟨h4, h5⟩
  ·exact hs _ (by omega)
  ·omega
theorem and_may {m : Int} {f : Nat} (hm : I64 m) (hf : f ≤ 31) (hs : ∀ m, m ≤ f → m &&& f = m) : (bits .and .i64 m (f : Int) == m) = decide (0 ≤ m ∧ m ≤ f) := by
 have h1 : nm m &&& f ≤ f := Nat.and_le_right
 rw [band _ _ (by rw [ql1 (k := f) (by omega)]; omega), ql1 (k := f) (by omega)]
 by_cases h : 0 ≤ m ∧ m ≤ f
 ·rw [decide_eq_true h]
  rcases nm_int m hm with ⟨h4, h5⟩ | ⟨h4, h5⟩
  ·rw [hs _ (by omega)]
   exact beq_iff_eq.2 h5
  ·omega
 ·rw [decide_eq_false h]
  apply beq_false_of_ne
  intro e
  exact h (by omega)
theorem zn6 {ns : List Nat} {u m : Int} {f : Nat} (hf : qj5 ns u = (f : Int)) : mayT ns ⟨u, m⟩ = (decide (m ≠ 0) && (decide (0 ≤ m ∧ m ≤ f) && decide (m ≠ f))) := by
 unfold mayT
 dsimp only
 rw [hf, Bool.eq_iff_iff]
 simp only [Bool.and_eq_true, decide_eq_true_eq]
 omega
set_option maxHeartbeats 2000000 in
theorem tmayB_any (v : Value) (ns : List Nat) (t : Term) (w : World) (h : qi7 w (Lt w.heap.size) v ns) (ho : NsOk ns) (hi : I64 t.mask) :
  Calls Tryz.prog 65 #[v, .agg #[.int .i64 t.unit, .int .i64 t.mask]] w fun e w' => e = .returned (.bool (mayT ns t)) ∧ Below w.heap.size w w' := by
 obtain ⟨u, m⟩ := t
 dsimp only at hi ⊢
 obtain ⟨f, hf, hf31, hfs⟩ := full_form ho u
 have HR := hid (zn6 (m := m) hf)
 have hz := andnot_may hi hf31 hfs
 have HH := hid h
 obtain ⟨g, cap0, rfl, hg, -⟩ := h
 obtain ⟨w0, hw0⟩ : ∃ w0 : World, w0 = (w.alloc (.cells #[.slice (some ⟨g, 0, none⟩) ns.length cap0] 26)).alloc (.cells #[.int .i64 u, .int .i64 m] 66) := ⟨_, rfl⟩
 obtain ⟨hb0, hs0, q0, q1, q2⟩ := zl1 hw0
 have HCALL := hid (qz2 _ ns u w0 _ (qc0 HH.out hb0) ho (fun _ h => h))
 have HQ1 := hid q1
 have HQ2 := hid q2
 have HS0 := hid hs0
 have HB0 := hid hb0
 have HW0 := hid hw0
 rw [hf] at HCALL
 clear hw0 hb0 q0 q1 q2 hs0 ho hf hf31 hfs
 go_enter Tryz.func65, Tryz.ntmps65
 by_cases c1 : m = 0
 ·subst c1
  rw [decide_eq_false (fun h => h rfl), Bool.false_and] at HR
  go_wp2_with (go_at_call 34; rw [← HW0.out]; refine HCALL.out.mono ?_; rintro e w1 ⟨rfl, hb1⟩; have c1 := cell_below hb1 (by have := HS0.out; omega) HQ1.out; have c2 := cell_below hb1 (by have := HS0.out; omega) HQ2.out; have HB1 := hid hb1; clear hb1)
  go_ret
  exact ⟨qa4 HR.out.symm, qa1 HB0.out HB1.out⟩
 ·have n1 : (m == 0) = false := beq_false_of_ne c1
  have n3 : (m != 0) = true := bne_iff_ne.2 c1
  rw [decide_eq_true c1, Bool.true_and] at HR
  cases hq : decide (0 ≤ m ∧ m ≤ f) with
  | false =>
   rw [hq] at hz HR
   rw [Bool.false_and] at HR
   clear hq
   go_wp2_with (go_at_call 34; rw [← HW0.out]; refine HCALL.out.mono ?_; rintro e w1 ⟨rfl, hb1⟩; have c1 := cell_below hb1 (by have := HS0.out; omega) HQ1.out; have c2 := cell_below hb1 (by have := HS0.out; omega) HQ2.out; have HB1 := hid hb1; clear hb1)
   go_ret
   exact ⟨qa4 HR.out.symm, qa1 HB0.out HB1.out⟩
  | true =>
   rw [hq] at hz HR
   rw [Bool.true_and] at HR
   clear hq
   obtain ⟨b, hb⟩ : ∃ b, decide (m ≠ (f : Int)) = b := ⟨_, rfl⟩
   have n5 : (m != (f : Int)) = b := by rw [← hb, bne, Bool.eq_iff_iff]; simp
   rw [hb] at HR
   clear hb
   go_wp2_with (go_at_call 34; rw [← HW0.out]; refine HCALL.out.mono ?_; rintro e w1 ⟨rfl, hb1⟩; have c1 := cell_below hb1 (by have := HS0.out; omega) HQ1.out; have c2 := cell_below hb1 (by have := HS0.out; omega) HQ2.out; have HB1 := hid hb1; clear hb1)
   go_ret
   exact ⟨qa4 HR.out.symm, qa1 HB0.out HB1.out⟩
set_option maxRecDepth 100000 in
set_option maxHeartbeats 2000000 in
theorem zh4 (v lv : Value) (ns : List Nat) (l : List Term) (w : World) (h : qi7 w (Lt w.heap.size) v ns) (ho : NsOk ns) (hl : SliceRd qg1 w (Lt w.heap.size) lv l) :
  Calls Tryz.prog 33 #[v, lv] w fun e w' => e = .returned (.bool (mayL ns l)) ∧ Below w.heap.size w w' := by
 have HH := hid h
 have HO := hid ho
 obtain ⟨g, cap0, rfl, hg, -⟩ := h
 obtain ⟨A, cap, rfl, hcap, hmax, hcc⟩ := hl.terms
 unfold maxLen at hmax
 have HC := hid hcc
 clear hcc hl ho
 go_enter Tryz.func33, Tryz.ntmps33
 go_wp2_with fail
 obtain ⟨w0, hw0⟩ : ∃ w0 : World, w0 = w.alloc (.cells #[.slice (some ⟨g, 0, none⟩) ns.length cap0] 26) := ⟨_, rfl⟩
 have hb0 : Below w.heap.size w w0 := hw0 ▸ qa0 (b0 w) _
 have hl0 : w.heap.size < w0.heap.size := by rw [hw0]; simp
 have q0 : w0.cell? ⟨w.heap.size, 0, none⟩ = some (.slice (some ⟨g, 0, none⟩) ns.length cap0) := by rw [hw0, qa6]; rfl
 have HB0 := hid hb0
 have HQ := hid q0
 have HU0 := hid (qc0 HH.out hb0)
 rw [← hw0]
 clear hw0 hb0 q0
 go_loopw [5, 6, 9] (fun _ _ iv wr => ∃ k : Nat, k ≤ l.length ∧ iv = .int .i64 k ∧ Hid (Below w0.heap.size w0 wr) ∧ Hid (∀ j, j < k → okAt ns l j = true)) (fun _ _ iv _ => l.length - (intOf iv).toNat)
 case atStart => exact ⟨0, Nat.zero_le _, rfl, hid (b0 w0), hid (fun j hj => absurd hj (by omega))⟩
 case round =>
  obtain ⟨k, hk, rfl, hb, hall⟩ := hrel
  by_cases hlt : k < l.length
  ·obtain ⟨gg, o, hA, hF, g0, g1, hi0, hi1⟩ := HC.out k hlt
   subst hA
   have HKA := hid (qx8 (ns := ns) hlt)
   have HBAD := hid (fun (e : okAt ns l k = false) => mayL_bad hlt e)
   have HGO := hid (fun (e : okAt ns l k = true) j (hj : j < k + 1) => if e2 : j = k then e2 ▸ e else hall.out j (by omega))
   obtain ⟨t, ht⟩ : ∃ t, l[k] = t := ⟨_, rfl⟩
   rw [ht] at g0 g1 hi1 HKA
   obtain ⟨u, m⟩ := t
   dsimp only at g0 g1 hi1
   have c0 := cell_below hb.out (Nat.lt_of_lt_of_le hF HB0.out.size) (cell_below HB0.out hF g0)
   have c1 := cell_below hb.out (Nat.lt_of_lt_of_le hF HB0.out.size) (cell_below HB0.out hF g1)
   have i1 : (0 : Int) ≤ ↑k := by omega
   have i2 : (↑k : Int) < ↑l.length := by omega
   clear g0 g1 ht
   go_wp2_with fail
   obtain ⟨wb, hwb⟩ : ∃ wb : World, wb = wr.alloc (.cells #[.int .i64 u, .int .i64 m] 66) := ⟨_, rfl⟩
   have hbb : Below wr.heap.size wr wb := hwb ▸ qa0 (b0 wr) _
   have hlb : wr.heap.size < wb.heap.size := by rw [hwb]; simp
   have y0 : wb.cell? ⟨wr.heap.size, 0, none⟩ = some (.int .i64 u) := by rw [hwb, qa6]; rfl
   have y1 : wb.cell? ⟨wr.heap.size, 1, none⟩ = some (.int .i64 m) := by rw [hwb, qa6]; rfl
   have hb2 := qa1 hb.out hbb
   have HB2 := hid hb2
   have hFb : gg < wb.heap.size := Nat.lt_of_lt_of_le hF (Nat.le_trans HB0.out.size hb2.size)
   have l0 := qa2 (Nat.lt_of_lt_of_le hl0 hb2.size) (cell_below hb2 hl0 HQ.out)
   have l1 := qa2 hlb y0
   have l2 := qa2 hlb y1
   have HUB := hid (qc0 HU0.out hb2)
   have HTM := hid (fun e : Later wb => tmayB_any _ ns ⟨u, m⟩ e.w (qn9 HUB.out e) HO.out hi1)
   rw [← hwb]
   clear hwb hbb y0 y1 hb2 c0 c1
   cases hmt : mayT ns ⟨u, m⟩ with
   | false =>
    rw [hmt] at HKA HTM
    have HR := hid (HBAD.out (by rw [HKA.out]; rfl))
    clear hmt
    by_cases h0 : k = 0
    ·have z1 : decide (0 < k) = false := decide_eq_false (by omega)
     have z2 : decide ((0 : Int) < ↑k) = false := decide_eq_false (by omega)
     clear h0
     (refine qa3 (by kernel_rfl) (by kernel_rfl) ?_; (repeat (go_big_quiet_step ((go_at_call 65; exact Calls.later (HTM.out _) rfl)))); refine wpQuiet_nil ?_; rintro _ ⟨⟨w1, hb1⟩, rfl⟩)
     go_wp2
     go_ret
     exact ⟨qa4 HR.out.symm, qa1 HB0.out (qa1 HB2.out hb1)⟩
    ·obtain ⟨gg2, o2, hA2, hF2, e0, -, -, -⟩ := HC.out (k - 1) (by omega)
     cases hA2
     obtain ⟨a, ha⟩ : ∃ a, (l[k-1]'(by omega)).unit = a := ⟨_, rfl⟩
     rw [ha] at e0
     have l3 := qa2 hFb (cell_below HB2.out (Nat.lt_of_lt_of_le hF2 HB0.out.size) (cell_below HB0.out hF2 e0))
     have i3 : (0 : Int) ≤ ↑k - 1 := by omega
     have i4 : (↑k : Int) - 1 < ↑l.length := by omega
     have i5 : ((↑k : Int) - 1).toNat = k - 1 := by omega
     have i6 : IntKind.i64.wrap (↑k - 1) = (↑k : Int) - 1 := IntWalk.i64_in _ (by omega)
     have z1 : decide (0 < k) = true := decide_eq_true (by omega)
     clear h0 ha e0
     (refine qa3 (by kernel_rfl) (by kernel_rfl) ?_; (repeat (go_big_quiet_step ((go_at_call 65; exact Calls.later (HTM.out _) rfl)))); refine wpQuiet_nil ?_; rintro _ ⟨⟨w1, hb1⟩, rfl⟩)
     go_wp2
     go_ret
     exact ⟨qa4 HR.out.symm, qa1 HB0.out (qa1 HB2.out hb1)⟩
   | true =>
    rw [hmt, Bool.true_and] at HKA
    rw [hmt] at HTM
    clear hmt
    by_cases h0 : k = 0
    ·have z1 : decide (0 < k) = false := decide_eq_false (by omega)
     have z2 : decide ((0 : Int) < ↑k) = false := decide_eq_false (by omega)
     have HG := hid (HGO.out (by rw [HKA.out, decide_eq_true h0]; rfl))
     clear h0
     (refine qa3 (by kernel_rfl) (by kernel_rfl) ?_; (repeat (go_big_quiet_step ((go_at_call 65; exact Calls.later (HTM.out _) rfl)))); refine wpQuiet_nil ?_; rintro _ ⟨⟨w1, hb1⟩, rfl⟩)
     go_wp2
     exact ⟨⟨k + 1, by omega, by go_num, hid (qa1 HB2.out hb1), HG⟩, by simp [intOf]; omega⟩
    ·obtain ⟨gg2, o2, hA2, hF2, e0, -, -, -⟩ := HC.out (k - 1) (by omega)
     cases hA2
     obtain ⟨a, ha⟩ : ∃ a, (l[k-1]'(by omega)).unit = a := ⟨_, rfl⟩
     rw [ha] at e0
     rw [decide_eq_false h0, Bool.false_or, ha] at HKA
     have l3 := qa2 hFb (cell_below HB2.out (Nat.lt_of_lt_of_le hF2 HB0.out.size) (cell_below HB0.out hF2 e0))
     have i3 : (0 : Int) ≤ ↑k - 1 := by omega
     have i4 : (↑k : Int) - 1 < ↑l.length := by omega
     have i5 : ((↑k : Int) - 1).toNat = k - 1 := by omega
     have i6 : IntKind.i64.wrap (↑k - 1) = (↑k : Int) - 1 := IntWalk.i64_in _ (by omega)
     have z1 : decide (0 < k) = true := decide_eq_true (by omega)
     clear h0 ha e0
     by_cases hau : a < u
     ·have z2 : decide (u ≤ a) = false := decide_eq_false (by omega)
      have HG := hid (HGO.out (by rw [HKA.out]; exact decide_eq_true hau))
      clear hau
      (refine qa3 (by kernel_rfl) (by kernel_rfl) ?_; (repeat (go_big_quiet_step ((go_at_call 65; exact Calls.later (HTM.out _) rfl)))); refine wpQuiet_nil ?_; rintro _ ⟨⟨w1, hb1⟩, rfl⟩)
      go_wp2
      exact ⟨⟨k + 1, by omega, by go_num, hid (qa1 HB2.out hb1), HG⟩, by simp [intOf]; omega⟩
     ·have z2 : decide (u ≤ a) = true := decide_eq_true (by omega)
      have HR := hid (HBAD.out (by rw [HKA.out]; exact decide_eq_false hau))
      clear hau
      (refine qa3 (by kernel_rfl) (by kernel_rfl) ?_; (repeat (go_big_quiet_step ((go_at_call 65; exact Calls.later (HTM.out _) rfl)))); refine wpQuiet_nil ?_; rintro _ ⟨⟨w1, hb1⟩, rfl⟩)
      go_wp2
      go_ret
      exact ⟨qa4 HR.out.symm, qa1 HB0.out (qa1 HB2.out hb1)⟩
  ·have HR := hid (show mayL ns l = true from qr3.2 fun j hj => hall.out j (by omega))
   go_wp2
   go_ret
   exact ⟨qa4 HR.out.symm, qa1 HB0.out hb.out⟩
end
section
set_option maxHeartbeats 2000000 in
theorem rtmayB_any (v : Value) (ns : List Nat) (t : Term) (w : World) (h : qi7 w (Lt w.heap.size) v ns) (ho : NsOk ns) (hi : I64 t.mask) (hu : I64 t.unit) :
  Calls Tryz.prog 75 #[v, .agg #[.int .i64 t.unit, .int .i64 t.mask]] w fun e w' => e = .returned (.bool (mayT ns t)) ∧ Below w.heap.size w w' := by
 obtain ⟨u, m⟩ := t
 dsimp only at hi hu ⊢
 obtain ⟨f, hf, hf31, hfs⟩ := full_form ho u
 have HR := hid (zn6 (m := m) hf)
 have hz := and_may hi hf31 hfs
 have HH := hid h
 obtain ⟨g, cap0, rfl, hg, -⟩ := h
 obtain ⟨w0, hw0⟩ : ∃ w0 : World, w0 = (w.alloc (.cells #[.slice (some ⟨g, 0, none⟩) ns.length cap0] 26)).alloc (.cells #[.int .i64 u, .int .i64 m] 66) := ⟨_, rfl⟩
 obtain ⟨hb0, hs0, q0, q1, q2⟩ := zl1 hw0
 have HCALL := hid (qj8 _ ns u w0 _ (qc0 HH.out hb0) ho hu (fun _ h => h))
 have HQ1 := hid q1
 have HQ2 := hid q2
 have HS0 := hid hs0
 have HB0 := hid hb0
 have HW0 := hid hw0
 rw [hf] at HCALL
 clear hw0 hb0 q0 q1 q2 hs0 ho hf hf31 hfs
 go_enter Tryz.func75, Tryz.ntmps75
 by_cases c1 : m = 0
 ·subst c1
  rw [decide_eq_false (fun h => h rfl), Bool.false_and] at HR
  go_wp2_with (go_at_call 22; rw [← HW0.out]; refine HCALL.out.mono ?_; rintro e w1 ⟨rfl, hb1⟩; have c1 := cell_below hb1 (by have := HS0.out; omega) HQ1.out; have c2 := cell_below hb1 (by have := HS0.out; omega) HQ2.out; have HB1 := hid hb1; clear hb1)
  go_ret
  exact ⟨qa4 HR.out.symm, qa1 HB0.out HB1.out⟩
 ·have n1 : (m == 0) = false := beq_false_of_ne c1
  have n3 : (m != 0) = true := bne_iff_ne.2 c1
  rw [decide_eq_true c1, Bool.true_and] at HR
  cases hq : decide (0 ≤ m ∧ m ≤ f) with
  | false =>
   rw [hq] at hz HR
   rw [Bool.false_and] at HR
   clear hq
   go_wp2_with (go_at_call 22; rw [← HW0.out]; refine HCALL.out.mono ?_; rintro e w1 ⟨rfl, hb1⟩; have c1 := cell_below hb1 (by have := HS0.out; omega) HQ1.out; have c2 := cell_below hb1 (by have := HS0.out; omega) HQ2.out; have HB1 := hid hb1; clear hb1)
   go_ret
   exact ⟨qa4 HR.out.symm, qa1 HB0.out HB1.out⟩
  | true =>
   rw [hq] at hz HR
   rw [Bool.true_and] at HR
   clear hq
   obtain ⟨b, hb⟩ : ∃ b, decide (m ≠ (f : Int)) = b := ⟨_, rfl⟩
   have n5 : (m != (f : Int)) = b := by rw [← hb, bne, Bool.eq_iff_iff]; simp
   rw [hb] at HR
   clear hb
   go_wp2_with (go_at_call 22; rw [← HW0.out]; refine HCALL.out.mono ?_; rintro e w1 ⟨rfl, hb1⟩; have c1 := cell_below hb1 (by have := HS0.out; omega) HQ1.out; have c2 := cell_below hb1 (by have := HS0.out; omega) HQ2.out; have HB1 := hid hb1; clear hb1)
   go_ret
   exact ⟨qa4 HR.out.symm, qa1 HB0.out HB1.out⟩
set_option maxRecDepth 100000 in
set_option maxHeartbeats 2000000 in
theorem rallB_any (v lv : Value) (ns : List Nat) (l : List Term) (w : World) (h : qi7 w (Lt w.heap.size) v ns) (ho : NsOk ns) (hl : SliceRd qg1 w (Lt w.heap.size) lv l) :
  Calls Tryz.prog 37 #[v, lv] w fun e w' => e = .returned (.bool (mayL ns l)) ∧ Below w.heap.size w w' := by
 have HH := hid h
 have HO := hid ho
 obtain ⟨g, cap0, rfl, hg, -⟩ := h
 obtain ⟨A, cap, rfl, hcap, hmax, hcc⟩ := hl.terms
 unfold maxLen at hmax
 have HC := hid hcc
 clear hcc hl ho
 go_enter Tryz.func37, Tryz.ntmps37
 go_wp2_with fail
 obtain ⟨w0, hw0⟩ : ∃ w0 : World, w0 = w.alloc (.cells #[.slice (some ⟨g, 0, none⟩) ns.length cap0] 26) := ⟨_, rfl⟩
 have hb0 : Below w.heap.size w w0 := hw0 ▸ qa0 (b0 w) _
 have hl0 : w.heap.size < w0.heap.size := by rw [hw0]; simp
 have q0 : w0.cell? ⟨w.heap.size, 0, none⟩ = some (.slice (some ⟨g, 0, none⟩) ns.length cap0) := by rw [hw0, qa6]; rfl
 have HB0 := hid hb0
 have HQ := hid q0
 have HU0 := hid (qc0 HH.out hb0)
 rw [← hw0]
 clear hw0 hb0 q0
 go_loopw [5] (fun iv wr => ∃ k : Nat, k ≤ l.length ∧ iv = .int .i64 k ∧ Hid (Below w0.heap.size w0 wr) ∧ Hid (∀ j, j < k → okAt ns l j = true)) (fun iv _ => l.length - (intOf iv).toNat)
 case atStart => exact ⟨0, Nat.zero_le _, rfl, hid (b0 w0), hid (fun j hj => absurd hj (by omega))⟩
 case round =>
  obtain ⟨k, hk, rfl, hb, hall⟩ := hrel
  by_cases hlt : k < l.length
  ·obtain ⟨gg, o, hA, hF, g0, g1, hi0, hi1⟩ := HC.out k hlt
   subst hA
   have HKA := hid (qx8 (ns := ns) hlt)
   have HBAD := hid (fun (e : okAt ns l k = false) => mayL_bad hlt e)
   have HGO := hid (fun (e : okAt ns l k = true) j (hj : j < k + 1) => if e2 : j = k then e2 ▸ e else hall.out j (by omega))
   obtain ⟨t, ht⟩ : ∃ t, l[k] = t := ⟨_, rfl⟩
   rw [ht] at g0 g1 hi0 hi1 HKA
   obtain ⟨u, m⟩ := t
   dsimp only at g0 g1 hi0 hi1
   have c0 := cell_below hb.out (Nat.lt_of_lt_of_le hF HB0.out.size) (cell_below HB0.out hF g0)
   have c1 := cell_below hb.out (Nat.lt_of_lt_of_le hF HB0.out.size) (cell_below HB0.out hF g1)
   have i1 : (0 : Int) ≤ ↑k := by omega
   have i2 : (↑k : Int) < ↑l.length := by omega
   clear g0 g1 ht
   have hFr : gg < wr.heap.size := Nat.lt_of_lt_of_le hF (Nat.le_trans HB0.out.size hb.out.size)
   have l0 := qa2 (Nat.lt_of_lt_of_le hl0 hb.out.size) (cell_below hb.out hl0 HQ.out)
   have l1 := qa2 hFr c0
   have l2 := qa2 hFr c1
   have HUR := hid (qc0 HU0.out hb.out)
   have HTM := hid (fun e : Later wr => rtmayB_any _ ns ⟨u, m⟩ e.w (qn9 HUR.out e) HO.out hi1 hi0)
   cases hmt : mayT ns ⟨u, m⟩ with
   | false =>
    rw [hmt] at HKA HTM
    have HR := hid (HBAD.out (by rw [HKA.out]; rfl))
    clear hmt
    by_cases h0 : k = 0
    ·have z1 : decide (0 < k) = false := decide_eq_false (by omega)
     have z2 : decide ((0 : Int) < ↑k) = false := decide_eq_false (by omega)
     clear h0
     go_wp2_with fail
     (refine qa3 (by kernel_rfl) (by kernel_rfl) ?_; (repeat (go_big_quiet_step ((go_at_call 75; exact Calls.later (HTM.out _) rfl)))); refine wpQuiet_nil ?_; rintro _ ⟨⟨w1, hb1⟩, rfl⟩)
     go_wp2
     go_ret
     exact ⟨qa4 HR.out.symm, qa1 HB0.out (qa1 hb.out hb1)⟩
    ·obtain ⟨gg2, o2, hA2, hF2, e0, -, -, -⟩ := HC.out (k - 1) (by omega)
     cases hA2
     obtain ⟨a, ha⟩ : ∃ a, (l[k-1]'(by omega)).unit = a := ⟨_, rfl⟩
     rw [ha] at e0
     have l3 := qa2 hFr (cell_below hb.out (Nat.lt_of_lt_of_le hF2 HB0.out.size) (cell_below HB0.out hF2 e0))
     have i3 : (0 : Int) ≤ ↑k - 1 := by omega
     have i4 : (↑k : Int) - 1 < ↑l.length := by omega
     have i5 : ((↑k : Int) - 1).toNat = k - 1 := by omega
     have i6 : IntKind.i64.wrap (↑k - 1) = (↑k : Int) - 1 := IntWalk.i64_in _ (by omega)
     have z1 : decide (0 < k) = true := decide_eq_true (by omega)
     clear h0 ha e0
     go_wp2_with fail
     (refine qa3 (by kernel_rfl) (by kernel_rfl) ?_; (repeat (go_big_quiet_step ((go_at_call 75; exact Calls.later (HTM.out _) rfl)))); refine wpQuiet_nil ?_; rintro _ ⟨⟨w1, hb1⟩, rfl⟩)
     go_wp2
     go_ret
     exact ⟨qa4 HR.out.symm, qa1 HB0.out (qa1 hb.out hb1)⟩
   | true =>
    rw [hmt, Bool.true_and] at HKA
    rw [hmt] at HTM
    clear hmt
    by_cases h0 : k = 0
    ·have z1 : decide (0 < k) = false := decide_eq_false (by omega)
     have z2 : decide ((0 : Int) < ↑k) = false := decide_eq_false (by omega)
     have HG := hid (HGO.out (by rw [HKA.out, decide_eq_true h0]; rfl))
     clear h0
     go_wp2_with fail
     (refine qa3 (by kernel_rfl) (by kernel_rfl) ?_; (repeat (go_big_quiet_step ((go_at_call 75; exact Calls.later (HTM.out _) rfl)))); refine wpQuiet_nil ?_; rintro _ ⟨⟨w1, hb1⟩, rfl⟩)
     go_wp2
     exact ⟨⟨k + 1, by omega, by go_num, hid (qa1 hb.out hb1), HG⟩, by simp [intOf]; omega⟩
    ·obtain ⟨gg2, o2, hA2, hF2, e0, -, -, -⟩ := HC.out (k - 1) (by omega)
     cases hA2
     obtain ⟨a, ha⟩ : ∃ a, (l[k-1]'(by omega)).unit = a := ⟨_, rfl⟩
     rw [ha] at e0
     rw [decide_eq_false h0, Bool.false_or, ha] at HKA
     have l3 := qa2 hFr (cell_below hb.out (Nat.lt_of_lt_of_le hF2 HB0.out.size) (cell_below HB0.out hF2 e0))
     have i3 : (0 : Int) ≤ ↑k - 1 := by omega
     have i4 : (↑k : Int) - 1 < ↑l.length := by omega
     have i5 : ((↑k : Int) - 1).toNat = k - 1 := by omega
     have i6 : IntKind.i64.wrap (↑k - 1) = (↑k : Int) - 1 := IntWalk.i64_in _ (by omega)
     have z1 : decide (0 < k) = true := decide_eq_true (by omega)
     clear h0 ha e0
     by_cases hau : a < u
     ·have z2 : decide (u ≤ a) = false := decide_eq_false (by omega)
      have HG := hid (HGO.out (by rw [HKA.out]; exact decide_eq_true hau))
      clear hau
      go_wp2_with fail
      (refine qa3 (by kernel_rfl) (by kernel_rfl) ?_; (repeat (go_big_quiet_step ((go_at_call 75; exact Calls.later (HTM.out _) rfl)))); refine wpQuiet_nil ?_; rintro _ ⟨⟨w1, hb1⟩, rfl⟩)
      go_wp2
      exact ⟨⟨k + 1, by omega, by go_num, hid (qa1 hb.out hb1), HG⟩, by simp [intOf]; omega⟩
     ·have z2 : decide (u ≤ a) = true := decide_eq_true (by omega)
      have HR := hid (HBAD.out (by rw [HKA.out]; exact decide_eq_false hau))
      clear hau
      go_wp2_with fail
      (refine qa3 (by kernel_rfl) (by kernel_rfl) ?_; (repeat (go_big_quiet_step ((go_at_call 75; exact Calls.later (HTM.out _) rfl)))); refine wpQuiet_nil ?_; rintro _ ⟨⟨w1, hb1⟩, rfl⟩)
      go_wp2
      go_ret
      exact ⟨qa4 HR.out.symm, qa1 HB0.out (qa1 hb.out hb1)⟩
  ·have HR := hid (show mayL ns l = true from qr3.2 fun j hj => hall.out j (by omega))
   go_wp2
   go_ret
   exact ⟨qa4 HR.out.symm, qa1 HB0.out hb.out⟩
end
end Go.Proofs.YtbfbppjccbppiaaGreatDoor
