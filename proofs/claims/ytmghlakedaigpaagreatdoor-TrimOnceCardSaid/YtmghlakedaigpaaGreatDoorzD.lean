import Derived.Test.YtmghlakedaigpaaGreatDoorzT
import Derived.Test.YtmghlakedaigpaaGreatDoorzPC
import Derived.StillTailTactics
import Derived.Test.YtmghlakedaigpaaGreatDoorzA
import Derived.MapKept
import Derived.Maps.OwnOps
import Derived.Maps.OwnSet
section
/- Contract: trim.Deep. -/
namespace Go.Proofs.YtmghlakedaigpaaGreatDoor
open Go Go.RowKit
attribute [local go_sem ↓] Go.wp_at_zero Go.wp_at_succ

def natCells (xs : List Nat) : List Value := xs.map fun (d : Nat) => Value.int .i64 (d : Int)
/-- The depths up to k, zeros behind. -/
def deepRow (l : List Row) (k : Nat) : List Value := natCells (deeps (l.take k)) ++ List.replicate (l.length - k) (.int .i64 0)
theorem deepRow_length {l : List Row} {k : Nat} (hk : k ≤ l.length) : (deepRow l k).length = l.length := by
  simp [deepRow, natCells, deeps_length]; omega
theorem deepRow_get {l : List Row} {k i : Nat} (hi : i < k) (hk : k ≤ l.length) : (deepRow l k)[i]? = some (.int .i64 ((deeps l).getD i 0 : Nat)) := by
  have hlen : i < (deeps (l.take k)).length := by rw [deeps_length]; simp; omega
  rw [deepRow, List.getElem?_append_left (by simp [natCells]; exact hlen), deeps_get hi hk]
  simp [natCells, List.getD_eq_getElem?_getD, List.getElem?_eq_getElem hlen]
theorem deepRow_set {l : List Row} {k : Nat} (hk : k < l.length) : ((deepRow l k).set k (.int .i64 1)).set k (.int .i64 (deepOf (deeps (l.take k)) l[k] : Nat)) = deepRow l (k + 1) ∧ (deepOf (deeps (l.take k)) l[k] = 1 → (deepRow l k).set k (.int .i64 1) = deepRow l (k + 1)) := by
  have e1 : (natCells (deeps (l.take k))).length = k := by simp [natCells, deeps_length]; omega
  have e2 : List.replicate (l.length - k) (Value.int .i64 0) = .int .i64 0 :: List.replicate (l.length - (k + 1)) (.int .i64 0) := by
    rw [show l.length - k = (l.length - (k + 1)) + 1 by omega, List.replicate_succ]
  have hs : ∀ x : Value, (deepRow l k).set k x = natCells (deeps (l.take k)) ++ x :: List.replicate (l.length - (k + 1)) (.int .i64 0) := by
    intro x
    rw [deepRow, e2, List.set_append_right _ _ (by omega), e1]
    simp
  have hn : deepRow l (k + 1) = natCells (deeps (l.take k)) ++ .int .i64 (deepOf (deeps (l.take k)) l[k] : Nat) :: List.replicate (l.length - (k + 1)) (.int .i64 0) := by
    rw [deepRow, deeps_take hk]
    simp [natCells]
  refine ⟨?_, fun h => ?_⟩
  · rw [List.set_set, hs, hn]
  · rw [hs, hn, h]; rfl
theorem drew_cell (w : World) (p : Addr) : w.drew.cell? p = w.cell? p := rfl
theorem int_infoD : (Tryz.prog.info? 3).map (fun i => (i.zero, i.size, i.bytes)) = some (some (.int .i64 0), 1, 8) := by kernel_rfl

set_option maxRecDepth 100000 in
set_option maxHeartbeats 1000000 in
theorem deep_any (v : Value) (l : List Row) (w : World) (h : SliceRd tRow w (Lt w.heap.size) v l) (hm : MayP l) :
    Calls Tryz.prog 10 #[v] w fun e w' => e = .returned (.int .i64 ((deeps l).getD (l.length - 1) 0 : Nat)) ∧ Below w.heap.size w w' := by
  have HH := hid h
  have HM := hid hm
  obtain ⟨A, cap, rfl, hcap, hmax, hc⟩ := h.rows
  have HC := hid hc
  have hl : l.length ≤ 20000 := hm.2.1
  have hl1 : 1 ≤ l.length := hm.1
  unfold maxLen at hmax
  clear h hc hm
  obtain ⟨ii, hii⟩ := info_parts int_infoD
  have hmk := run_make_arr (P := Tryz.prog) Tryz.underlying22 hii.1 hii.2.1 hii.2.2.1 hii.2.2.2 rfl l.length (by omega) (by omega)
  clear hii
  go_enter Tryz.func10, Tryz.ntmps10
  go_wp2_with fail
  refine (may_any _ l _ HH.out).mono ?_
  rintro e w1 ⟨rfl, hb1⟩
  rw [decide_eq_true HM.out]
  go_wp2_with fail
  clear hmk
  have ha0 := hid ((Arr.zeros 3 w1 l.length (.int .i64 0)).congr (show _ = deepRow l 0 by simp [deepRow, natCells, deeps]))
  have hbm : Below w.heap.size w (w1.alloc (.cells (zeros l.length (.int .i64 0)) 3)) := hb1.alloc hb1.size _
  have hge : w.heap.size ≤ w1.heap.size := hb1.size
  generalize w1.heap.size = b at ha0 hge ⊢
  generalize w1.alloc (.cells (zeros l.length (.int .i64 0)) 3) = wm at ha0 hbm ⊢
  clear hb1
  go_loopw [14] (fun iv wr => ∃ k : Nat, k ≤ l.length ∧ iv = .int .i64 k ∧ Hid (Arr 3 wr b (deepRow l k)) ∧ Hid (Below w.heap.size w wr)) (fun iv _ => l.length - (intOf iv).toNat)
  case atStart => exact ⟨0, Nat.zero_le _, rfl, ha0, hid hbm⟩
  case round =>
    obtain ⟨k, hk, rfl, har, hb⟩ := hrel
    by_cases hlt : k < l.length
    · obtain ⟨g, o, tv, hA, hF, g0, g1, g2, g3, g4, -, gt⟩ := HC.out k hlt
      cases hA
      obtain ⟨TA, tcap, rfl, -, -, -⟩ := gt.terms
      clear gt
      obtain ⟨c0, c1, c2, c3, c4⟩ := cells5 hb.out hF ⟨g0, g1, g2, g3, g4⟩
      clear g0 g1 g2 g3 g4
      have hbl := har.out.lt
      have hfr := har.out.free
      have hck := har.out.cell (i := k) (by rw [deepRow_length hk]; exact hlt)
      have hne : b ≠ wr.heap.size := by omega
      have i1 : (0 : Int) ≤ ↑k := by omega
      have i2 : (↑k : Int) < ↑l.length := by omega
      go_upto_if 24 with (fail)
      obtain ⟨wt, hwt⟩ : ∃ wt : World, wt = (wr.setCell ⟨b, k, none⟩ (.int .i64 1)).alloc (.cells #[.int .i64 l[k].kind, .int .i64 l[k].unit, .int .i64 l[k].a, .int .i64 l[k].b, .slice TA l[k].terms.length tcap] 38) := ⟨_, rfl⟩
      have hart : Arr 3 wt b ((deepRow l k).set k (.int .i64 1)) := by rw [hwt]; exact (har.out.set k _).alloc _
      have hbox : Box 38 wt wr.heap.size l[k] (.slice TA l[k].terms.length tcap) := by
        have := Box.new 38 (wr.setCell ⟨b, k, none⟩ (.int .i64 1)) l[k] (.slice TA l[k].terms.length tcap)
        rw [hwt]
        simpa using this
      have hbt : Below w.heap.size w wt := by rw [hwt]; exact (hb.out.setCell (p := ⟨b, k, none⟩) hge _).alloc (by simpa using hb.out.size) _
      rw [← hwt]
      clear hwt hck hfr c0 c1 c2 c3 c4
      have hart' := hid hart
      have hbt' := hid hbt
      obtain ⟨⟨b0, b1, b2, b3, b4⟩, bf⟩ := hbox.cells
      have hfr := hart.free
      have hbl2 := hart.lt
      have hset := hid (deepRow_set hlt)
      by_cases h5 : l[k].kind = 5
      · have k5 : (l[k].kind == 5) = true := by simpa using h5
        obtain ⟨⟨_, _, _, _, _, h6, _⟩, _⟩ := HM.out.2.2 k hlt
        obtain ⟨a0, a1, a2, a3⟩ := h6 h5
        have xa : (↑l[k].a.toNat : Int) = l[k].a := by omega
        have xb : (↑l[k].b.toNat : Int) = l[k].b := by omega
        have gla : l[k].a < ↑l.length := by omega
        have glb : l[k].b < ↑l.length := by omega
        have da := deepRow_get (l := l) (i := l[k].a.toNat) (k := k) (by omega) hk
        have db := deepRow_get (l := l) (i := l[k].b.toNat) (k := k) (by omega) hk
        have la := deeps_le l l[k].a.toNat
        have lb := deeps_le l l[k].b.toNat
        have hdo := hid (show deepOf (deeps (l.take k)) l[k] = 1 + max ((deeps l).getD l[k].a.toNat 0) ((deeps l).getD l[k].b.toNat 0) by
          rw [deepOf, if_pos h5, ← deeps_get (by omega) hk, ← deeps_get (by omega) hk])
        generalize (deeps l).getD l[k].a.toNat 0 = na at da la hdo
        generalize (deeps l).getD l[k].b.toNat 0 = nb at db lb hdo
        have ca : wt.cell? ⟨b, l[k].a.toNat, none⟩ = some (.int .i64 na) := by
          rw [hart.cell (by rw [List.length_set, deepRow_length hk]; omega), ← List.getElem?_eq_getElem, List.getElem?_set_ne (by omega), da]
        have cb : wt.cell? ⟨b, l[k].b.toNat, none⟩ = some (.int .i64 nb) := by
          rw [hart.cell (by rw [List.length_set, deepRow_length hk]; omega), ← List.getElem?_eq_getElem, List.getElem?_set_ne (by omega), db]
        have hsa : ∀ x, (wt.setCell ⟨b, k, none⟩ x).cell? ⟨b, l[k].a.toNat, none⟩ = some (.int .i64 na) := fun x => by
          rw [(hart.set k x).cell (by rw [List.length_set, List.length_set, deepRow_length hk]; omega), ← List.getElem?_eq_getElem, List.getElem?_set_ne (by omega), List.getElem?_set_ne (by omega), da]
        have hsb : ∀ x, (wt.setCell ⟨b, k, none⟩ x).cell? ⟨b, l[k].b.toNat, none⟩ = some (.int .i64 nb) := fun x => by
          rw [(hart.set k x).cell (by rw [List.length_set, List.length_set, deepRow_length hk]; omega), ← List.getElem?_eq_getElem, List.getElem?_set_ne (by omega), List.getElem?_set_ne (by omega), db]
        have ck : ∃ u, wt.cell? ⟨b, k, none⟩ = some u := ⟨_, hart.cell (by rw [List.length_set, deepRow_length hk]; omega)⟩
        obtain ⟨u, ck⟩ := ck
        have HSA := hid hsa
        have HSB := hid hsb
        clear da db h6 xa xb hart hbt hset h5 hbox hsa hsb
        go_wp2_with fail
        go_region_held3 (fun w' => w'.cell? ⟨wr.heap.size, 2, none⟩ = some (.int .i64 l[k].a) ∧ w'.cell? ⟨wr.heap.size, 3, none⟩ = some (.int .i64 l[k].b) ∧ w'.cell? ⟨b, l[k].a.toNat, none⟩ = some (.int .i64 na) ∧ w'.cell? ⟨b, l[k].b.toNat, none⟩ = some (.int .i64 nb)) (first | (go_keep; done) | (refine ⟨?_, ?_, (drew_cell _ _).trans (HSA.out _), (drew_cell _ _).trans (HSB.out _)⟩ <;> go_keep)) (fail)
        all_goals (go_wp2_with fail)
        all_goals
          refine ⟨⟨k + 1, by omega, by go_num, hid ?_, hid ((hbt'.out.setCell (p := ⟨b, k, none⟩) hge _).drew)⟩, by simp [intOf]; omega⟩
          refine ((hart'.out.set k _).congr ?_)
          rw [← (deepRow_set hlt).1, hdo.out]
          congr 2
          split
          · omega
          · omega
      · have k5 : (l[k].kind == 5) = false := by simpa using h5
        have hdo := hid (show deepOf (deeps (l.take k)) l[k] = 1 by rw [deepOf, if_neg h5])
        clear hart hbt h5 hbox
        go_wp2
        exact ⟨⟨k + 1, by omega, by go_num, hid (hart'.out.congr (hset.out.2 hdo.out)), hbt'⟩, by simp [intOf]; omega⟩
    · have hk' : k = l.length := by omega
      subst hk'
      have hcl := har.out.cell (i := l.length - 1) (by rw [deepRow_length hk]; omega)
      have hd : (deepRow l l.length)[l.length - 1]'(by rw [deepRow_length hk]; omega) = .int .i64 ((deeps l).getD (l.length - 1) 0 : Nat) := by
        have := deepRow_get (l := l) (i := l.length - 1) (k := l.length) (by omega) hk
        rw [List.getElem?_eq_getElem (by rw [deepRow_length hk]; omega)] at this
        exact Option.some.inj this
      rw [hd] at hcl
      clear hd
      have i3 : (0 : Int) ≤ ↑l.length - 1 := by omega
      have i4 : (1 : Int) ≤ ↑l.length := by omega
      have i5 : ((↑l.length : Int) - 1).toNat = l.length - 1 := by omega
      have hbl := har.out.lt
      go_wp2
      go_ret
      exact ⟨rfl, hb.out⟩

theorem deep_bad (v : Value) (l : List Row) (w : World) (h : SliceRd tRow w (Lt w.heap.size) v l) (hm : ¬ MayP l) :
    Calls Tryz.prog 10 #[v] w fun e w' => e = .returned (.int .i64 0) ∧ Below w.heap.size w w' := by
  have HH := hid h
  have HM := hid hm
  obtain ⟨A, cap, rfl, hcap, hmax, hc⟩ := h.rows
  clear h hc hm
  go_enter Tryz.func10, Tryz.ntmps10
  go_wp2_with fail
  refine (may_any _ l _ HH.out).mono ?_
  rintro e w1 ⟨rfl, hb1⟩
  rw [decide_eq_false HM.out]
  go_wp2_with fail
  go_ret
  exact ⟨rfl, hb1⟩
end Go.Proofs.YtmghlakedaigpaaGreatDoor
end
section
/- Maps that the call makes, as functions of their keys: look-up, store, delete, length. No program stands here. -/
namespace Go.Proofs.YtmghlakedaigpaaGreatDoor
open Go Go.RowKit

/-- A kind of keys. -/
structure KeyEnc (κ : Type) where
  d : TypeDesc
  enc : κ → Value
  isKey : ∀ k, Go.MapKept.IsKey d (enc k)
  inj : ∀ {k j}, enc k = enc j → k = j
def kInt : KeyEnc Int := ⟨.int .i64, fun k => .int .i64 k, fun _ => rfl, fun h => by injection h⟩
def kStr : KeyEnc ByteArray := ⟨.string, fun k => .string k, fun _ => trivial, fun h => by injection h⟩

/-- Block b holds a map of n entries: 'f' of its keys. -/
structure MapF {κ : Type} (K : KeyEnc κ) (w : World) (b : Nat) (n : Nat) (f : κ → Option Value) : Prop where
  holds : ∃ es clock, w.heap[b]? = some (.map es clock) ∧ es.size = n ∧ (∀ x ∈ es.toList, ∃ k, x.key = K.enc k) ∧ (es.toList.map (·.key)).Nodup ∧ ∀ k v, f k = some v ↔ ∃ e ∈ es.toList, e.key = K.enc k ∧ e.val = v

section
variable {κ : Type} {K : KeyEnc κ} {P : Program} {w w' : World} {b n : Nat} {f : κ → Option Value} {T kt et : TypeId}
theorem MapF.lt (h : MapF K w b n f) : b < w.heap.size := by
  obtain ⟨es, clock, h1, _⟩ := h.holds
  exact (Array.getElem?_eq_some_iff.1 h1).1
theorem MapF.keep (h : MapF K w b n f) (hk : w'.heap[b]? = w.heap[b]?) : MapF K w' b n f := by
  obtain ⟨es, clock, h1, h2⟩ := h.holds
  exact ⟨es, clock, hk.trans h1, h2⟩
theorem MapF.below {B : Nat} (h : MapF K w b n f) (hb : Below B w w') (hB : b < B) : MapF K w' b n f := h.keep (hb.block b hB)
theorem MapF.congr {f' : κ → Option Value} (h : MapF K w b n f) (he : ∀ k, f k = f' k) : MapF K w b n f' := by
  have : f = f' := funext he
  rw [← this]; exact h
theorem MapF.made (K : KeyEnc κ) (w : World) : MapF K (w.alloc (.map #[] 0)) w.heap.size 0 (fun _ => none) :=
  ⟨#[], 0, heap_alloc_new w _, rfl, by simp, by simp, by simp⟩
theorem MapF.zero (h : MapF K w b n f) : n = 0 ↔ ∀ k, f k = none := by
  obtain ⟨es, clock, h1, h2, h3, h4, h5⟩ := h.holds
  constructor
  · intro h0 k
    cases hf : f k with
    | none => rfl
    | some v =>
      obtain ⟨e, he, _⟩ := (h5 k v).1 hf
      have : es.toList = [] := List.eq_nil_of_length_eq_zero (by rw [Array.length_toList, h2, h0])
      rw [this] at he; cases he
  · intro hf
    rcases Nat.eq_zero_or_pos n with h0 | h0
    · exact h0
    · have hlt : 0 < es.toList.length := by simp; omega
      obtain ⟨k, hk⟩ := h3 _ (List.getElem_mem hlt)
      have := (h5 k _).2 ⟨_, List.getElem_mem hlt, hk, rfl⟩
      rw [hf k] at this; cases this
theorem MapF.find (h : MapF K w b n f) (k : κ) : ∃ es clock, w.heap[b]? = some (.map es clock) ∧ es.size = n ∧
    ((Instr.findNow K.d (K.enc k) es.toList 0 = some none ∧ f k = none) ∨ ∃ i e, Instr.findNow K.d (K.enc k) es.toList 0 = some (some (i, e.val)) ∧ es[i]? = some e ∧ e.key = K.enc k ∧ f k = some e.val) := by
  obtain ⟨es, clock, h1, h2, h3, h4, h5⟩ := h.holds
  refine ⟨es, clock, h1, h2, ?_⟩
  rcases Go.MapKept.findNow_spec (K.isKey k) es.toList 0 (fun x hx => by obtain ⟨j, hj⟩ := h3 x hx; rw [hj]; exact K.isKey j) with ⟨e1, e2⟩ | ⟨j, e, e1, e2, e3⟩
  · refine .inl ⟨e1, ?_⟩
    cases hf : f k with
    | none => rfl
    | some v =>
      obtain ⟨e, he, hk, _⟩ := (h5 k v).1 hf
      exact absurd hk (e2 e he)
  · refine .inr ⟨j, e, by simpa using e1, by simpa using e2, e3, ?_⟩
    exact (h5 k _).2 ⟨e, List.mem_of_getElem? e2, e3, rfl⟩

theorem MapF.run_lookup (h : MapF K w b n f) (hT : P.underlying T = some (.map kt et)) (hk : P.underlying kt = some K.d) {z : Value} (hz : (zeroValue et).run P w = .ok z w) (k : κ) :
    (Instr.lookup T (.map (some b)) (K.enc k) false).run P w = .ok ((f k).getD z) w ∧ (Instr.lookup T (.map (some b)) (K.enc k) true).run P w = .ok (.tuple #[(f k).getD z, .bool (f k).isSome]) w := by
  obtain ⟨es, clock, hb, _, hor⟩ := h.find k
  unfold Instr.lookup
  simp only [Sem.run_bind, run_underlying hT, Result.andThen_ok, Go.MapKept.run_getObj_map hb, Sem.run_pure, Go.MapKept.run_checkKey hk (K.isKey k) _ 9999]
  rcases hor with ⟨e1, e2⟩ | ⟨i, e, e1, _, _, e2⟩
  · simp only [Go.MapKept.run_findKey hk e1, Result.andThen_ok, Sem.run_bind, hz, Sem.run_pure, e2]
    exact ⟨rfl, rfl⟩
  · simp only [Go.MapKept.run_findKey hk e1, Result.andThen_ok, Sem.run_bind, Sem.run_pure, e2]
    exact ⟨rfl, rfl⟩

theorem grown_set {w : World} {b : Nat} {o o' : Obj} (hb : w.heap[b]? = some o) : w.grownBy { w with heap := w.heap.setIfInBounds b o' } (some b) :=
  ⟨rfl, rfl, rfl, by simp, fun k _ hne => (Go.MapKept.heap_set hb).2 k (fun e => hne (by rw [e]))⟩

theorem MapF.run_update (h : MapF K w b n f) (hT : P.underlying T = some (.map kt et)) (hk : P.underlying kt = some K.d) [DecidableEq κ] (k : κ) (v : Value) :
    ∃ w' n', (Instr.mapUpdate T (.map (some b)) (K.enc k) v).run P w = .ok () w' ∧ MapF K w' b n' (fun j => if j = k then some v else f j) ∧ n ≤ n' ∧ n' ≤ n + 1 ∧ w.grownBy w' (some b) ∧ w'.heap.size = w.heap.size := by
  obtain ⟨es, clock, hb, h2, h3, h4, h5⟩ := h.holds
  rcases Go.MapKept.findNow_spec (K.isKey k) es.toList 0 (fun x hx => by obtain ⟨j, hj⟩ := h3 x hx; rw [hj]; exact K.isKey j) with ⟨e1, e2⟩ | ⟨i, e, e1, e2, e3⟩
  · refine ⟨_, n + 1, by simp [Instr.mapUpdate, run_underlying hT, Go.MapKept.run_getObj_map hb, Go.MapKept.run_checkKey hk (K.isKey k), Go.MapKept.run_findKey hk e1, Go.MapKept.run_setObj_map _ hb, Result.andThen]; rfl, ?_, by omega, by omega, grown_set hb, by simp⟩
    refine ⟨es.push { key := K.enc k, val := v, born := clock }, clock + 1, (Go.MapKept.heap_set hb).1, by simp [h2], ?_, ?_, ?_⟩
    · intro x hx
      simp only [Array.toList_push, List.mem_append, List.mem_singleton] at hx
      rcases hx with hx | rfl
      · exact h3 x hx
      · exact ⟨k, rfl⟩
    · simp only [Array.toList_push, List.map_append, List.map_cons, List.map_nil]
      refine List.nodup_append.2 ⟨h4, by simp, ?_⟩
      intro a ha c hc
      simp only [List.mem_singleton] at hc
      subst hc
      obtain ⟨x, hx, rfl⟩ := List.mem_map.1 ha
      exact e2 x hx
    · intro j u
      simp only [Array.toList_push, List.mem_append, List.mem_singleton]
      by_cases hjk : j = k
      · subst hjk
        simp only [if_true]
        constructor
        · intro hu; cases hu; exact ⟨_, .inr rfl, rfl, rfl⟩
        · rintro ⟨x, hx | rfl, hx1, hx2⟩
          · exact absurd hx1 (e2 x hx)
          · exact congrArg some hx2
      · simp only [if_neg hjk]
        rw [h5]
        constructor
        · rintro ⟨x, hx, hx1⟩; exact ⟨x, .inl hx, hx1⟩
        · rintro ⟨x, hx | rfl, hx1, hx2⟩
          · exact ⟨x, hx, hx1, hx2⟩
          · exact absurd (K.inj hx1).symm hjk
  · simp only [Nat.zero_add] at e1
    have hj : es[i]? = some e := by simpa using e2
    have hilt : i < es.size := (Array.getElem?_eq_some_iff.1 hj).1
    refine ⟨_, n, by simp [Instr.mapUpdate, run_underlying hT, Go.MapKept.run_getObj_map hb, Go.MapKept.run_checkKey hk (K.isKey k), Go.MapKept.run_findKey hk e1, hj, e3, Go.MapKept.run_keyThatStays (K.isKey k), Go.MapKept.run_setObj_map _ hb, Result.andThen]; rfl, ?_, by omega, by omega, grown_set hb, by simp⟩
    have hmem : ∀ x, x ∈ (es.modify i fun e => { e with key := K.enc k, val := v }).toList ↔ (x = { e with key := K.enc k, val := v } ∨ ∃ m, m ≠ i ∧ es[m]? = some x) := by
      intro x
      rw [List.mem_iff_getElem?]
      constructor
      · rintro ⟨m, hm⟩
        rw [Array.getElem?_toList, Array.getElem?_modify] at hm
        by_cases hmi : i = m
        · subst hmi; simp [hj] at hm; exact .inl hm.symm
        · simp [hmi] at hm; exact .inr ⟨m, fun q => hmi q.symm, hm⟩
      · rintro (rfl | ⟨m, hm, hx⟩)
        · exact ⟨i, by rw [Array.getElem?_toList, Array.getElem?_modify]; simp [hj]⟩
        · exact ⟨m, by rw [Array.getElem?_toList, Array.getElem?_modify]; simp [Ne.symm hm, hx]⟩
    refine ⟨es.modify i fun e => { e with key := K.enc k, val := v }, clock, (Go.MapKept.heap_set hb).1, by simp [h2], ?_, ?_, ?_⟩
    · intro x hx
      rcases (hmem x).1 hx with rfl | ⟨m, _, hx⟩
      · exact ⟨k, rfl⟩
      · exact h3 x (Array.mem_toList_iff.2 (Array.mem_of_getElem? hx))
    · rw [Go.MapKept.modify_keys i _ (fun e' he' => by rw [hj] at he'; cases he'; exact e3.symm)]
      exact h4
    · intro j u
      by_cases hjk : j = k
      · subst hjk
        simp only [if_true]
        constructor
        · intro hu; cases hu; exact ⟨_, (hmem _).2 (.inl rfl), rfl, rfl⟩
        · rintro ⟨x, hx, hx1, hx2⟩
          rcases (hmem x).1 hx with rfl | ⟨m, hm, hx⟩
          · exact congrArg some hx2
          · exfalso
            have hml : m < es.size := (Array.getElem?_eq_some_iff.1 hx).1
            have q := (List.getElem_inj (i := m) (j := i) (h₀ := by simpa using hml) (h₁ := by simpa using hilt) h4).1 (by
              simp only [List.getElem_map, Array.getElem_toList]
              rw [(Array.getElem?_eq_some_iff.1 hx).2, (Array.getElem?_eq_some_iff.1 hj).2, hx1, e3])
            exact hm q
      · simp only [if_neg hjk]
        rw [h5]
        constructor
        · rintro ⟨x, hx, hx1, hx2⟩
          obtain ⟨m, hm⟩ := List.mem_iff_getElem?.1 hx
          rw [Array.getElem?_toList] at hm
          refine ⟨x, (hmem x).2 (.inr ⟨m, ?_, hm⟩), hx1, hx2⟩
          rintro rfl
          rw [hj] at hm
          cases hm
          exact hjk (K.inj (hx1.symm.trans e3))
        · rintro ⟨x, hx, hx1, hx2⟩
          rcases (hmem x).1 hx with rfl | ⟨m, hm, hx⟩
          · exact absurd (K.inj hx1).symm hjk
          · exact ⟨x, Array.mem_toList_iff.2 (Array.mem_of_getElem? hx), hx1, hx2⟩

theorem MapF.run_delete (h : MapF K w b n f) (hT : P.underlying T = some (.map kt et)) (hk : P.underlying kt = some K.d) [DecidableEq κ] (k : κ) (ty kt' : TypeId) :
    ∃ w' n', (Builtin.delete_ #[T, kt'] ty #[.map (some b), K.enc k]).run P w = .ok (.tuple #[]) w' ∧ MapF K w' b n' (fun j => if j = k then none else f j) ∧ n' ≤ n ∧ w.grownBy w' (some b) ∧ w'.heap.size = w.heap.size := by
  obtain ⟨es, clock, hb, h2, h3, h4, h5⟩ := h.holds
  rcases Go.MapKept.findNow_spec (K.isKey k) es.toList 0 (fun x hx => by obtain ⟨j, hj⟩ := h3 x hx; rw [hj]; exact K.isKey j) with ⟨e1, e2⟩ | ⟨i, e, e1, e2, e3⟩
  · refine ⟨_, n, by simp [Builtin.delete_, run_underlying hT, Go.MapKept.run_getObj_map hb, Go.MapKept.run_checkKey hk (K.isKey k), Go.MapKept.run_findKey hk e1, Go.MapKept.run_setObj_map _ hb, Result.andThen]; rfl, ?_, by omega, grown_set hb, by simp⟩
    refine ⟨es, clock, (Go.MapKept.heap_set hb).1, h2, h3, h4, ?_⟩
    intro j u
    by_cases hjk : j = k
    · subst hjk
      simp only [if_true]
      constructor
      · intro hu; cases hu
      · rintro ⟨x, hx, hx1, _⟩; exact absurd hx1 (e2 x hx)
    · simp only [if_neg hjk]; exact h5 j u
  · simp only [Nat.zero_add] at e1
    have hj : es[i]? = some e := by simpa using e2
    have hilt : i < es.size := (Array.getElem?_eq_some_iff.1 hj).1
    refine ⟨_, n - 1, by simp [Builtin.delete_, run_underlying hT, Go.MapKept.run_getObj_map hb, Go.MapKept.run_checkKey hk (K.isKey k), Go.MapKept.run_findKey hk e1, Go.MapKept.run_setObj_map _ hb, Result.andThen]; rfl, ?_, by omega, grown_set hb, by simp⟩
    have hl : (es.eraseIdxIfInBounds i).toList = es.toList.eraseIdx i := by
      unfold Array.eraseIdxIfInBounds
      rw [dif_pos hilt, Array.toList_eraseIdx]
    have hmem : ∀ x, x ∈ (es.eraseIdxIfInBounds i).toList ↔ ∃ m, m ≠ i ∧ es[m]? = some x := by
      intro x
      rw [hl, List.mem_eraseIdx_iff_getElem?]
      simp only [Array.getElem?_toList]
    have hsub : (es.eraseIdxIfInBounds i).toList.Sublist es.toList := by rw [hl]; exact List.eraseIdx_sublist _ _
    refine ⟨es.eraseIdxIfInBounds i, clock, (Go.MapKept.heap_set hb).1, ?_, fun x hx => h3 x (hsub.subset hx), (hsub.map _).nodup h4, ?_⟩
    · rw [← Array.length_toList, hl, List.length_eraseIdx]
      simp [h2]
      omega
    · intro j u
      by_cases hjk : j = k
      · subst hjk
        simp only [if_true]
        constructor
        · intro hu; cases hu
        · rintro ⟨x, hx, hx1, _⟩
          obtain ⟨m, hm, hx⟩ := (hmem x).1 hx
          exfalso
          have hml : m < es.size := (Array.getElem?_eq_some_iff.1 hx).1
          have q := (List.getElem_inj (i := m) (j := i) (h₀ := by simpa using hml) (h₁ := by simpa using hilt) h4).1 (by
            simp only [List.getElem_map, Array.getElem_toList]
            rw [(Array.getElem?_eq_some_iff.1 hx).2, (Array.getElem?_eq_some_iff.1 hj).2, hx1, e3])
          exact hm q
      · simp only [if_neg hjk]
        rw [h5]
        constructor
        · rintro ⟨x, hx, hx1, hx2⟩
          obtain ⟨m, hm⟩ := List.mem_iff_getElem?.1 hx
          rw [Array.getElem?_toList] at hm
          refine ⟨x, (hmem x).2 ⟨m, ?_, hm⟩, hx1, hx2⟩
          rintro rfl
          rw [hj] at hm
          cases hm
          exact hjk (K.inj (hx1.symm.trans e3))
        · rintro ⟨x, hx, hx1, hx2⟩
          obtain ⟨m, _, hx⟩ := (hmem x).1 hx
          exact ⟨x, Array.mem_toList_iff.2 (Array.mem_of_getElem? hx), hx1, hx2⟩

/- At the operation. -/
theorem wpList_lookup_m {ops : Array Oper} {rest : List Oper} {o : Oper} {a : Act} {Q : Exit → Act → World → Prop} (hg : o.guard = none) (m x : Operand) (hop : o.op = Op.lookup T m x false)
    (K : KeyEnc κ) (hT : P.underlying T = some (.map kt et)) (hk : P.underlying kt = some K.d) (z : Value) (hz : (zeroValue et).run P w = .ok z w) (b n : Nat) (f : κ → Option Value) (hm : a.eval m = .map (some b)) (h : MapF K w b n f) (k : κ) (hx : a.eval x = K.enc k)
    (hK : wpList P ops Q rest (a.put o.dst ((f k).getD z)) w) : wpList P ops Q (o :: rest) a w := by
  refine wpList_plain hg fun K' hK' => ?_
  unfold Oper.wp
  simp only [execOp, hop, hm, hx, (h.run_lookup hT hk hz k).1, Sem.run_bind, Result.andThen_ok, Sem.run_pure]
  exact hK' _ _ hK
theorem wpList_lookup2_m {ops : Array Oper} {rest : List Oper} {o : Oper} {a : Act} {Q : Exit → Act → World → Prop} (hg : o.guard = none) (m x : Operand) (hop : o.op = Op.lookup T m x true)
    (K : KeyEnc κ) (hT : P.underlying T = some (.map kt et)) (hk : P.underlying kt = some K.d) (z : Value) (hz : (zeroValue et).run P w = .ok z w) (b n : Nat) (f : κ → Option Value) (hm : a.eval m = .map (some b)) (h : MapF K w b n f) (k : κ) (hx : a.eval x = K.enc k)
    (hK : wpList P ops Q rest (a.put o.dst (.tuple #[(f k).getD z, .bool (f k).isSome])) w) : wpList P ops Q (o :: rest) a w := by
  refine wpList_plain hg fun K' hK' => ?_
  unfold Oper.wp
  simp only [execOp, hop, hm, hx, (h.run_lookup hT hk hz k).2, Sem.run_bind, Result.andThen_ok, Sem.run_pure]
  exact hK' _ _ hK
theorem wpList_update_m [DecidableEq κ] {ops : Array Oper} {rest : List Oper} {o : Oper} {a : Act} {Q : Exit → Act → World → Prop} (hg : o.guard = none) (m x v : Operand) (hop : o.op = Op.mapUpdate T m x v)
    (K : KeyEnc κ) (hT : P.underlying T = some (.map kt et)) (hk : P.underlying kt = some K.d) (b n : Nat) (f : κ → Option Value) (hm : a.eval m = .map (some b)) (h : MapF K w b n f) (k : κ) (val : Value) (hx : a.eval x = K.enc k) (hv : a.eval v = val)
    (hK : ∀ w' n', MapF K w' b n' (fun j => if j = k then some val else f j) → n ≤ n' → n' ≤ n + 1 → w.grownBy w' (some b) → w'.heap.size = w.heap.size → wpList P ops Q rest (a.put o.dst undef) w') : wpList P ops Q (o :: rest) a w := by
  refine wpList_plain hg fun K' hK' => ?_
  obtain ⟨w', n', hrun, r1, r2, r3, r4, r5⟩ := h.run_update hT hk k val
  unfold Oper.wp
  simp only [execOp, hop, hm, hx, hv, hrun, Sem.run_bind, Result.andThen_ok, Sem.run_pure]
  exact hK' _ _ (hK w' n' r1 r2 r3 r4 r5)
theorem wpList_delete_m [DecidableEq κ] {ops : Array Oper} {rest : List Oper} {o : Oper} {a : Act} {Q : Exit → Act → World → Prop} (hg : o.guard = none) (m x : Operand) (kt' : TypeId) (hop : o.op = .call { callee := .builtin .delete, args := #[m, x], argTypes := #[T, kt'] })
    (K : KeyEnc κ) (hT : P.underlying T = some (.map kt et)) (hk : P.underlying kt = some K.d) (b n : Nat) (f : κ → Option Value) (hm : a.eval m = .map (some b)) (h : MapF K w b n f) (k : κ) (hx : a.eval x = K.enc k)
    (hK : ∀ w' n', MapF K w' b n' (fun j => if j = k then none else f j) → n' ≤ n → w.grownBy w' (some b) → w'.heap.size = w.heap.size → wpList P ops Q rest (a.put o.dst (.tuple #[])) w') : wpList P ops Q (o :: rest) a w := by
  refine wpList_plain hg fun K' hK' => ?_
  obtain ⟨w', n', hrun, r1, r2, r3, r4⟩ := h.run_delete hT hk k o.type kt'
  unfold Oper.wp execOp
  simp only [hop, resolve, invoke, builtin, Sem.run_bind, Sem.run_pure, Result.andThen_ok, List.map_toArray, List.map_cons, List.map_nil, hm, hx, hrun]
  exact hK' _ _ (hK w' n' r1 r2 r3 r4)
theorem run_len_m (h : MapF K w b n f) (hT : P.underlying T = some (.map kt et)) (ty : TypeId) : (Builtin.len_ #[T] ty #[.map (some b)]).run P w = .ok (.int .i64 n) w := by
  obtain ⟨es, clock, hb, h2, _⟩ := h.holds
  simp [Builtin.len_, run_underlying hT, Go.MapKept.run_getObj_map hb, h2, Result.andThen]
  rfl
theorem wpList_len_m {ops : Array Oper} {rest : List Oper} {o : Oper} {a : Act} {Q : Exit → Act → World → Prop} (hg : o.guard = none) (m : Operand) (hop : o.op = .call { callee := .builtin .len, args := #[m], argTypes := #[T] })
    (K : KeyEnc κ) (hT : P.underlying T = some (.map kt et)) (b n : Nat) (f : κ → Option Value) (hm : a.eval m = .map (some b)) (h : MapF K w b n f)
    (hK : wpList P ops Q rest (a.put o.dst (.int .i64 n)) w) : wpList P ops Q (o :: rest) a w := by
  refine wpList_plain hg fun K' hK' => ?_
  have hrun := run_len_m h hT o.type
  unfold Oper.wp execOp
  simp only [hop, resolve, invoke, builtin, Sem.run_bind, Sem.run_pure, Result.andThen_ok, List.map_toArray, List.map_cons, List.map_nil, hm, hrun]
  exact hK' _ _ hK
theorem MapF.drew (h : MapF K w b n f) : MapF K w.drew b n f := h.keep rfl
theorem MapF.alloc (h : MapF K w b n f) (o : Obj) : MapF K (w.alloc o) b n f := h.keep (Below.heap_alloc w o b h.lt)
theorem MapF.other (h : MapF K w b n f) {p : Addr} (hp : b ≠ p.block) (x : Value) : MapF K (w.setCell p x) b n f := h.keep (heap_setCell_other _ _ _ _ hp)
theorem MapF.one [DecidableEq κ] (K : KeyEnc κ) (w : World) (k : κ) (v : Value) : MapF K (w.alloc (.map #[⟨K.enc k, v, 0⟩] 1)) w.heap.size 1 (fun j => if j = k then some v else none) := by
  refine ⟨#[⟨K.enc k, v, 0⟩], 1, heap_alloc_new w _, rfl, by simp; exact ⟨k, rfl⟩, by simp, fun j u => ?_⟩
  by_cases h : j = k
  · subst h; simp
  · simp only [if_neg h]
    constructor
    · intro h; cases h
    · rintro ⟨e, he, h1, _⟩
      have : e = ⟨K.enc k, v, 0⟩ := by simpa using he
      subst this
      exact absurd (K.inj h1).symm h
theorem below_map {B : Nat} {w0 w w' : World} {b : Nat} (h : Below B w0 w) (hg : w.grownBy w' (some b)) (hb : B ≤ b) (hs : B ≤ w.heap.size) : Below B w0 w' :=
  h.grown hg hs (fun k hk => by cases hk; exact hb)
theorem grown_other {w w' : World} {b k : Nat} (hg : w.grownBy w' (some b)) (hk : k < w.heap.size) (hne : k ≠ b) : w'.heap[k]? = w.heap[k]? :=
  hg.block k hk (fun e => hne (Option.some.inj e))
end
end Go.Proofs.YtmghlakedaigpaaGreatDoor
end
