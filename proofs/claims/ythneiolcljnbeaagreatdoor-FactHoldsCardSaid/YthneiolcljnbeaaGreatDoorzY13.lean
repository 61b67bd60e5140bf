import Derived.Test.YthneiolcljnbeaaGreatDoorzY12
import Derived.Test.YthneiolcljnbeaaGreatDoorShela
import Derived.Test.YthneiolcljnbeaaGreatDoorY5
import Derived.Deep.RegionHeld3
import Derived.Deep.DeepCutAuto
import Derived.Deep.RegionLaw
import Derived.Outline
import Derived.Test.YthneiolcljnbeaaGreatDoorzMem
import Derived.MapKept
import Derived.Maps.OwnOps
import Derived.Maps.OwnSet
import Derived.Maps.Keyed
import Derived.DeepKeys4
import Derived.Test.YthneiolcljnbeaaGreatDoorzM1
import Derived.Test.YthneiolcljnbeaaGreatDoorzZ7
import Derived.Test.YthneiolcljnbeaaGreatDoorzA1
import Derived.Test.YthneiolcljnbeaaGreatDoorzA0
import Derived.Test.YthneiolcljnbeaaGreatDoorzV16
namespace Go.Proofs.YthneiolcljnbeaaGreatDoor
open Go Go.RowKit
section
theorem byte_info : (Tryz.prog.info? 5).map (fun i => (i.zero, i.size, i.bytes)) = some (some (.int .u8 0), 1, 1) := by kernel_rfl
def restL (u : Int) (l : List Term) : List Term := l.filter fun t => decide (t.unit ≠ u)
theorem rest_take {u : Int} {l : List Term} {k : Nat} (hk : k < l.length) : (restL u (l.take (k + 1))).flatMap termF = (restL u (l.take k)).flatMap termF ++ if l[k].unit = u then [] else termF l[k] := by
  unfold restL
  rw [List.take_succ_eq_append_getElem hk, List.filter_append, List.flatMap_append]
  congr 1
  by_cases e : l[k].unit = u
  · rw [if_pos e, List.filter_cons, if_neg (by simp [e])]; rfl
  · rw [if_neg e, List.filter_cons, if_pos (by simp [e])]; simp
set_option maxRecDepth 100000 in
set_option maxHeartbeats 1000000 in
theorem rest_any (r : Row) (tv : Value) (w : World) (ht : SliceRd tTerm w (Lt w.heap.size) tv r.terms) (hr : RowI r) (hl : r.terms.length ≤ 1000)
    (htab : Lib.TabBelow Tryz.prog w.heap.size w "internal/strconv.uint64pow10" .u64 Lib.pow10Tab) :
    Calls Tryz.prog 21 #[.agg #[.int .i64 r.kind, .int .i64 r.unit, .int .i64 r.a, .int .i64 r.b, tv]] w fun e w' => e = .returned (.string ⟨((restL r.unit r.terms).flatMap termF).toArray⟩) ∧ Below w.heap.size w w' := by
  obtain ⟨TA, tcap, rfl, htcap, htmax, htc⟩ := ht.terms
  unfold maxLen at htmax
  have HC := hid htc
  have HR := hid hr
  have HTAB := hid htab
  clear ht htc htab
  obtain ⟨ib, hib⟩ := info_parts byte_info
  have HIB := hid hib
  clear hib
  have hru := hr.unit
  clear hr
  go_enter Tryz.func21, Tryz.ntmps21
  go_wp2_with fail
  obtain ⟨w0, hw0⟩ : ∃ w0 : World, w0 = w.alloc (.cells #[.int .i64 r.kind, .int .i64 r.unit, .int .i64 r.a, .int .i64 r.b, .slice TA r.terms.length tcap] 32) := ⟨_, rfl⟩
  have HBX0 : Hid (Box 32 w0 w.heap.size r (.slice TA r.terms.length tcap)) := hid (by rw [hw0]; exact Box.new _ w r _)
  have HB0 : Hid (Below w.heap.size w w0) := hid (by rw [hw0]; exact (Below.refl _ _).alloc (Nat.le_refl _) _)
  rw [← hw0]
  clear hw0
  go_loopw [3, 9] (fun bv iv wx => ∃ j : Nat, j ≤ r.terms.length ∧ iv = .int .i64 j ∧ Hid (Grew 5 w.heap.size w0 [] ((restL r.unit (r.terms.take j)).flatMap termF) (44 * j) bv wx)) (fun _ iv _ => r.terms.length - (intOf iv).toNat)
  case atStart => exact ⟨0, by omega, rfl, hid ⟨[], none, 0, rfl, rfl, by simp, Wr.start HB0.out.size⟩⟩
  case round =>
    obtain ⟨j, hj, rfl, hgr⟩ := hrel
    obtain ⟨S6, A6, c6, rfl, hS6, hs6, hw6⟩ := hgr.out
    have HS6 := hid hS6
    have HW6 := hid hw6
    simp only [List.length_nil, Nat.zero_add] at hs6
    clear hS6 hw6 hgr
    by_cases hjt : j < r.terms.length
    · obtain ⟨tg, tof, hTA, htF, t0, t1, u1, u2⟩ := HC.out j hjt
      subst hTA
      have hbt : Below w.heap.size w wr := HB0.out.trans HW6.out.below
      have hbx : Box 32 wr w.heap.size r (.slice (some ⟨tg, tof, none⟩) r.terms.length tcap) := HW6.out.obj HBX0.out (by intro c fz h; cases h)
      obtain ⟨⟨f0, f1, f2, f3, f4⟩, ff⟩ := hbx.cells
      have hblt := hbx.lt
      have s0 := cell_below hbt htF t0
      have s1 := cell_below hbt htF t1
      have htg : tg < wr.heap.size := Nat.lt_of_lt_of_le htF hbt.size
      have hiu := Lib.itoa_length_le r.terms[j].unit u1.1 u1.2
      have him := Lib.itoa_length_le r.terms[j].mask u2.1 u2.2
      have HTK := hid (rest_take (u := r.unit) hjt)
      clear t0 t1 hbx
      have q1 : (0 : Int) ≤ ↑j := by omega
      have q2 : (↑j : Int) < ↑r.terms.length := by omega
      by_cases heq : r.terms[j].unit = r.unit
      · have HTK2 : Hid ((restL r.unit (r.terms.take (j + 1))).flatMap termF = (restL r.unit (r.terms.take j)).flatMap termF) := hid (by rw [HTK.out, if_pos heq, List.append_nil])
        have hd : decide (r.terms[j].unit = r.unit) = true := decide_eq_true heq
        go_wp2
        exact ⟨⟨j + 1, by omega, by go_num, hid ⟨S6, _, _, rfl, by rw [HTK2.out]; exact HS6.out, by simp; omega, HW6.out.alloc _⟩⟩, by simp [intOf]; omega⟩
      · have HTK2 : Hid ((restL r.unit (r.terms.take (j + 1))).flatMap termF = (restL r.unit (r.terms.take j)).flatMap termF ++ termF r.terms[j]) := hid (by rw [HTK.out, if_neg heq])
        go_upto_region 6 with (fail)
        obtain ⟨wt, hwt⟩ : ∃ wt : World, wt = wr.alloc (.cells #[.int .i64 r.terms[j].unit, .int .i64 r.terms[j].mask] 69) := ⟨_, rfl⟩
        have HWT := hid hwt
        have HT0 : Hid (wt.heap[wr.heap.size]? = some (.cells #[.int .i64 r.terms[j].unit, .int .i64 r.terms[j].mask] 69 (0, 0))) := hid (by rw [hwt]; exact heap_alloc_new wr _)
        have HBT : Hid (Below w.heap.size w wt) := hid (by rw [hwt]; exact hbt.alloc hbt.size _)
        have HWW : Hid (Wr 5 w.heap.size wt wt (.slice A6 S6.length c6) S6) := hid ⟨Below.refl _ _, Lib.OthersKept.refl _ _ _, by rw [hwt]; exact HW6.out.own.alloc _, HBT.out.size⟩
        rw [← hwt]
        have hzt : wr.heap.size < wt.heap.size := (Array.getElem?_eq_some_iff.1 HT0.out).1
        obtain ⟨p0, p1, pf⟩ := two_cells HT0.out
        clear hwt
        go_cut [3] (fun s5 wx => Grew 5 w.heap.size wt S6 (32 :: Lib.itoa r.terms[j].unit) 22 s5 wx)
        case first =>
          go_region_law ((first
            | (refine step_guard (.tmp 18) (.tmp 19) _ rfl ?_
               refine step_append_src _ rfl (.tmp 18) (.tmp 19) _ rfl w.heap.size 5 ib _ 1 1 Tryz.underlying115 HIB.out.1 HIB.out.2.1 HIB.out.2.2.1 HIB.out.2.2.2 rfl (by omega) (.slice A6 S6.length c6) S6.length (Lib.byteCells S6) rfl (by exact (HWW.out.drew.alloc _).own) _ 1 1 (Lib.byteCells [32]) rfl (by exact own_lit 32 rfl) (byteCells_one _) (by unfold maxLen; omega) (by omega) (by exact (HWW.out.drew.alloc _).size.2) ?_
               intro v7 w7 hown7 hg7 _
               obtain ⟨S7, A7, c7, rfl, hS7, hs7, hw7⟩ := ((HWW.out.drew.alloc _).grown (t := [32]) hg7 hown7).next
               simp only [List.length_cons, List.length_nil] at hs7
               obtain ⟨x0, x1, xf⟩ := two_cells (hw7.out.obj HT0.out (by intro c fz h; cases h))
               clear hown7 hg7)
            | (go_simp
               go_at_call 50
               refine (Tryz.strconv_AppendInt_10 w.heap.size S7.length r.terms[j].unit u1.1 u1.2 _ (Lib.byteCells S7) _ (by exact hw7.out.own) (by exact hw7.out.size.2) (by omega) (by exact fun w' h' => HTAB.out w' ((HBT.out.trans hw7.out.below).trans h'))).mono ?_
               rintro e8 w8 ⟨v8, rfl, hown8, hb8, hk8⟩
               obtain ⟨S8, A8, c8, rfl, hS8, hs8, hw8⟩ := (hw7.out.call (t := Lib.itoa r.terms[j].unit) hb8 hk8 hown8).next)))
          all_goals (go_wp2_with fail)
          all_goals (go_meet; exact ⟨S8, _, _, rfl, by rw [hS8.out, hS7.out]; simp, by omega, hw8.out⟩)
        case rest =>
          obtain ⟨S7, A7, c7, rfl, hS7, hs7, hw7⟩ := hcut
          have HW7 := hid hw7
          have HS7 := hid hS7
          obtain ⟨r0, r1, rf⟩ := two_cells (hw7.obj HT0.out (by intro c fz h; cases h))
          have hz7 : wr.heap.size < wc.heap.size := Nat.lt_of_lt_of_le hzt hw7.size.1
          clear hw7 hS7
          go_wp2_with fail
          go_region_law ((first
            | (refine step_guard (.tmp 24) (.tmp 25) _ rfl ?_
               refine step_append_src _ rfl (.tmp 24) (.tmp 25) _ rfl w.heap.size 5 ib _ 1 1 Tryz.underlying115 HIB.out.1 HIB.out.2.1 HIB.out.2.2.1 HIB.out.2.2.2 rfl (by omega) (.slice A7 S7.length c7) S7.length (Lib.byteCells S7) rfl (by exact (HW7.out.drew.alloc _).own) _ 1 1 (Lib.byteCells [58]) rfl (by exact own_lit 58 rfl) (byteCells_one _) (by unfold maxLen; omega) (by omega) (by exact (HW7.out.drew.alloc _).size.2) ?_
               intro v8 w8 hown8 hg8 _
               obtain ⟨S8, A8, c8, rfl, hS8, hs8, hw8⟩ := ((HW7.out.drew.alloc _).grown (t := [58]) hg8 hown8).next
               simp only [List.length_cons, List.length_nil] at hs8
               obtain ⟨x0, x1, xf⟩ := two_cells (hw8.out.obj HT0.out (by intro c fz h; cases h))
               clear hown8 hg8)
            | (go_simp
               go_at_call 50
               refine (Tryz.strconv_AppendInt_10 w.heap.size S8.length r.terms[j].mask u2.1 u2.2 _ (Lib.byteCells S8) _ (by exact hw8.out.own) (by exact hw8.out.size.2) (by omega) (by exact fun w' h' => HTAB.out w' ((HBT.out.trans hw8.out.below).trans h'))).mono ?_
               rintro e9 w9 ⟨v9, rfl, hown9, hb9, hk9⟩
               obtain ⟨S9, A9, c9, rfl, hS9, hs9, hw9⟩ := (hw8.out.call (t := Lib.itoa r.terms[j].mask) hb9 hk9 hown9).next)))
          all_goals (go_wp2_with fail)
          all_goals exact ⟨⟨j + 1, by omega, by go_num, hid ⟨S9, _, _, rfl, by rw [HTK2.out, hS9.out, hS8.out, HS7.out, HS6.out]; simp [termF], by simp only [List.length_nil]; omega, HW6.out.comp hw9.out HWT.out⟩⟩, by simp [intOf]; omega⟩
    · have hj' : j = r.terms.length := by omega
      have HE : Hid (S6 = (restL r.unit r.terms).flatMap termF) := hid (by rw [HS6.out, hj', List.take_length]; rfl)
      have hcv := conv_own (P := Tryz.prog) (src := 115) (dst := 9) Tryz.underlying115 Tryz.underlying5 Tryz.underlying9 HW6.out.own
      clear hj'
      go_wp2_with fail
      go_ret
      exact ⟨by rw [HE.out]; rfl, HB0.out.trans HW6.out.below⟩
end
section
structure KeyG (P : Program) (kt : TypeId) (κ : Type) where
 keyed : Go.Maps.Keyed P kt
 enc : κ → Value
 isKey : ∀ k, ∃ l, keyOf P kt (enc k) = some l
 inj : ∀ {k j}, enc k = enc j → k = j
structure MapG {P : Program} {kt : TypeId} {κ : Type} (K : KeyG P kt κ) (w : World) (b : Nat) (n : Nat) (f : κ → Option Value) : Prop where
 holds : ∃ es clock, w.heap[b]? = some (.map es clock) ∧ es.size = n ∧ (∀ x ∈ es.toList, ∃ k, x.key = K.enc k) ∧ (es.toList.map (·.key)).Nodup ∧ ∀ k v, f k = some v ↔ ∃ e ∈ es.toList, e.key = K.enc k ∧ e.val = v
section
variable {P : Program} {kt : TypeId} {κ : Type} {K : KeyG P kt κ} {w w' : World} {b n : Nat} {f : κ → Option Value} {T et : TypeId}
theorem MapG.lt (h : MapG K w b n f) : b < w.heap.size := by
 obtain ⟨es, clock, h1, _⟩ := h.holds
 exact (Array.getElem?_eq_some_iff.1 h1).1
theorem MapG.keep (h : MapG K w b n f) (hk : w'.heap[b]? = w.heap[b]?) : MapG K w' b n f := by
 obtain ⟨es, clock, h1, h2⟩ := h.holds
 exact ⟨es, clock, hk.trans h1, h2⟩
theorem MapG.below {B : Nat} (h : MapG K w b n f) (hb : Below B w w') (hB : b < B) : MapG K w' b n f := h.keep (hb.block b hB)
theorem MapG.congr {f' : κ → Option Value} (h : MapG K w b n f) (he : ∀ k, f k = f' k) : MapG K w b n f' := by
 have : f = f' := funext he
 rw [← this]; exact h
theorem MapG.made (K : KeyG P kt κ) (w : World) : MapG K (w.alloc (.map #[] 0)) w.heap.size 0 (fun _ => none) :=
 ⟨#[], 0, heap_alloc_new w _, rfl, by simp, by simp, by simp⟩
theorem MapG.zero (h : MapG K w b n f) : n = 0 ↔ ∀ k, f k = none := by
 obtain ⟨es, clock, h1, h2, h3, h4, h5⟩ := h.holds
 constructor
 ·intro h0 k
  cases hf : f k with
  | none => rfl
  | some v =>
   obtain ⟨e, he, _⟩ := (h5 k v).1 hf
   have : es.toList = [] := List.eq_nil_of_length_eq_zero (by rw [Array.length_toList, h2, h0])
   rw [this] at he; cases he
 ·intro hf
  rcases Nat.eq_zero_or_pos n with h0 | h0
  ·exact h0
  ·have hlt : 0 < es.toList.length := by simp; omega
   obtain ⟨k, hk⟩ := h3 _ (List.getElem_mem hlt)
   have := (h5 k _).2 ⟨_, List.getElem_mem hlt, hk, rfl⟩
   rw [hf k] at this; cases this
theorem MapG.find (h : MapG K w b n f) (k : κ) : ∃ es clock, w.heap[b]? = some (.map es clock) ∧ es.size = n ∧
  (((Instr.findKey kt (K.enc k) es.toList).run P w = .ok none w ∧ f k = none) ∨ ∃ i e, (Instr.findKey kt (K.enc k) es.toList).run P w = .ok (some (i, e.val)) w ∧ es[i]? = some e ∧ e.key = K.enc k ∧ f k = some e.val) := by
 obtain ⟨es, clock, h1, h2, h3, h4, h5⟩ := h.holds
 refine ⟨es, clock, h1, h2, ?_⟩
 obtain ⟨lk, hlk⟩ := K.isKey k
 rcases K.keyed.find w hlk es.toList (fun x hx => by obtain ⟨j, hj⟩ := h3 x hx; rw [hj]; exact K.isKey j) with ⟨e1, e2⟩ | ⟨j, e, e1, e2, e3⟩
 ·refine .inl ⟨e1, ?_⟩
  cases hf : f k with
  | none => rfl
  | some v =>
   obtain ⟨e, he, hk, _⟩ := (h5 k v).1 hf
   exact absurd hk (e2 e he)
 ·refine .inr ⟨j, e, e1, by simpa using e2, e3, ?_⟩
  exact (h5 k _).2 ⟨e, List.mem_of_getElem? e2, e3, rfl⟩
theorem MapG.run_lookup (h : MapG K w b n f) (hT : P.underlying T = some (.map kt et)) {z : Value} (hz : (zeroValue et).run P w = .ok z w) (k : κ) :
  (Instr.lookup T (.map (some b)) (K.enc k) false).run P w = .ok ((f k).getD z) w ∧ (Instr.lookup T (.map (some b)) (K.enc k) true).run P w = .ok (.tuple #[(f k).getD z, .bool (f k).isSome]) w := by
 obtain ⟨es, clock, hb, _, hor⟩ := h.find k
 obtain ⟨lk, hlk⟩ := K.isKey k
 unfold Instr.lookup
 simp only [Sem.run_bind, run_underlying hT, Result.andThen_ok, Go.MapKept.run_getObj_map hb, Sem.run_pure, K.keyed.check w _ hlk]
 rcases hor with ⟨e1, e2⟩ | ⟨i, e, e1, _, _, e2⟩
 ·simp only [e1, Result.andThen_ok, Sem.run_bind, hz, Sem.run_pure, e2]
  exact ⟨rfl, rfl⟩
 ·simp only [e1, Result.andThen_ok, Sem.run_bind, Sem.run_pure, e2]
  exact ⟨rfl, rfl⟩
theorem grown_setG {w : World} {b : Nat} {o o' : Obj} (hb : w.heap[b]? = some o) : w.grownBy { w with heap := w.heap.setIfInBounds b o' } (some b) :=
 ⟨rfl, rfl, rfl, by simp, fun k _ hne => (Go.MapKept.heap_set hb).2 k (fun e => hne (by rw [e]))⟩
theorem MapG.run_update (h : MapG K w b n f) (hT : P.underlying T = some (.map kt et)) [DecidableEq κ] (k : κ) (v : Value) :
  ∃ w' n', (Instr.mapUpdate T (.map (some b)) (K.enc k) v).run P w = .ok () w' ∧ MapG K w' b n' (fun j => if j = k then some v else f j) ∧ n ≤ n' ∧ n' ≤ n + 1 ∧ w.grownBy w' (some b) ∧ w'.heap.size = w.heap.size := by
 obtain ⟨es, clock, hb, h2, h3, h4, h5⟩ := h.holds
 obtain ⟨lk, hlk⟩ := K.isKey k
 rcases K.keyed.find w hlk es.toList (fun x hx => by obtain ⟨j, hj⟩ := h3 x hx; rw [hj]; exact K.isKey j) with ⟨e1, e2⟩ | ⟨i, e, e1, e2, e3⟩
 ·refine ⟨_, n + 1, by simp [Instr.mapUpdate, run_underlying hT, Go.MapKept.run_getObj_map hb, K.keyed.check w _ hlk, e1, Go.MapKept.run_setObj_map _ hb, Result.andThen]; rfl, ?_, by omega, by omega, grown_setG hb, by simp⟩
  refine ⟨es.push { key := K.enc k, val := v, born := clock }, clock + 1, (Go.MapKept.heap_set hb).1, by simp [h2], ?_, ?_, ?_⟩
  ·intro x hx
   simp only [Array.toList_push, List.mem_append, List.mem_singleton] at hx
   rcases hx with hx | rfl
   ·exact h3 x hx
   ·exact ⟨k, rfl⟩
  ·simp only [Array.toList_push, List.map_append, List.map_cons, List.map_nil]
   refine List.nodup_append.2 ⟨h4, by simp, ?_⟩
   intro a ha c hc
   simp only [List.mem_singleton] at hc
   subst hc
   obtain ⟨x, hx, rfl⟩ := List.mem_map.1 ha
   exact e2 x hx
  ·intro j u
   simp only [Array.toList_push, List.mem_append, List.mem_singleton]
   by_cases hjk : j = k
   ·subst hjk
    simp only [if_true]
    constructor
    ·intro hu; cases hu; exact ⟨_, .inr rfl, rfl, rfl⟩
    ·rintro ⟨x, hx | rfl, hx1, hx2⟩
     ·exact absurd hx1 (e2 x hx)
     ·exact congrArg some hx2
   ·simp only [if_neg hjk]
    rw [h5]
    constructor
    ·rintro ⟨x, hx, hx1⟩; exact ⟨x, .inl hx, hx1⟩
    ·rintro ⟨x, hx | rfl, hx1, hx2⟩
     ·exact ⟨x, hx, hx1, hx2⟩
     ·exact absurd (K.inj hx1).symm hjk
 ·have hj : es[i]? = some e := by simpa using e2
  have hilt : i < es.size := (Array.getElem?_eq_some_iff.1 hj).1
  refine ⟨_, n, by simp [Instr.mapUpdate, run_underlying hT, Go.MapKept.run_getObj_map hb, K.keyed.check w _ hlk, e1, hj, e3, K.keyed.stays w hlk, Go.MapKept.run_setObj_map _ hb, Result.andThen]; rfl, ?_, by omega, by omega, grown_setG hb, by simp⟩
  have hmem : ∀ x, x ∈ (es.modify i fun e => { e with key := K.enc k, val := v }).toList ↔ (x = { e with key := K.enc k, val := v } ∨ ∃ m, m ≠ i ∧ es[m]? = some x) := by
   intro x
   rw [List.mem_iff_getElem?]
   constructor
   ·rintro ⟨m, hm⟩
    rw [Array.getElem?_toList, Array.getElem?_modify] at hm
    by_cases hmi : i = m
    ·subst hmi; simp [hj] at hm; exact .inl hm.symm
    ·simp [hmi] at hm; exact .inr ⟨m, fun q => hmi q.symm, hm⟩
   ·rintro (rfl | ⟨m, hm, hx⟩)
    ·exact ⟨i, by rw [Array.getElem?_toList, Array.getElem?_modify]; simp [hj]⟩
    ·exact ⟨m, by rw [Array.getElem?_toList, Array.getElem?_modify]; simp [Ne.symm hm, hx]⟩
  refine ⟨es.modify i fun e => { e with key := K.enc k, val := v }, clock, (Go.MapKept.heap_set hb).1, by simp [h2], ?_, ?_, ?_⟩
  ·intro x hx
   rcases (hmem x).1 hx with rfl | ⟨m, _, hx⟩
   ·exact ⟨k, rfl⟩
   ·exact h3 x (Array.mem_toList_iff.2 (Array.mem_of_getElem? hx))
  ·rw [Go.MapKept.modify_keys i _ (fun e' he' => by rw [hj] at he'; cases he'; exact e3.symm)]
   exact h4
  ·intro j u
   by_cases hjk : j = k
   ·subst hjk
    simp only [if_true]
    constructor
    ·intro hu; cases hu; exact ⟨_, (hmem _).2 (.inl rfl), rfl, rfl⟩
    ·rintro ⟨x, hx, hx1, hx2⟩
     rcases (hmem x).1 hx with rfl | ⟨m, hm, hx⟩
     ·exact congrArg some hx2
     ·exfalso
      have hml : m < es.size := (Array.getElem?_eq_some_iff.1 hx).1
      have q := (List.getElem_inj (i := m) (j := i) (h₀ := by simpa using hml) (h₁ := by simpa using hilt) h4).1 (by
       simp only [List.getElem_map, Array.getElem_toList]
       rw [(Array.getElem?_eq_some_iff.1 hx).2, (Array.getElem?_eq_some_iff.1 hj).2, hx1, e3])
      exact hm q
   ·simp only [if_neg hjk]
    rw [h5]
    constructor
    ·rintro ⟨x, hx, hx1, hx2⟩
     obtain ⟨m, hm⟩ := List.mem_iff_getElem?.1 hx
     rw [Array.getElem?_toList] at hm
     refine ⟨x, (hmem x).2 (.inr ⟨m, ?_, hm⟩), hx1, hx2⟩
     rintro rfl
     rw [hj] at hm
     cases hm
     exact hjk (K.inj (hx1.symm.trans e3))
    ·rintro ⟨x, hx, hx1, hx2⟩
     rcases (hmem x).1 hx with rfl | ⟨m, hm, hx⟩
     ·exact absurd (K.inj hx1).symm hjk
     ·exact ⟨x, Array.mem_toList_iff.2 (Array.mem_of_getElem? hx), hx1, hx2⟩
theorem wpList_lookup2_g {ops : Array Oper} {rest : List Oper} {o : Oper} {a : Act} {Q : Exit → Act → World → Prop} (hg : o.guard = none) (m x : Operand) (hop : o.op = Op.lookup T m x true)
  (K : KeyG P kt κ) (hT : P.underlying T = some (.map kt et)) (z : Value) (hz : (zeroValue et).run P w = .ok z w) (b n : Nat) (f : κ → Option Value) (hm : a.eval m = .map (some b)) (h : MapG K w b n f) (k : κ) (hx : a.eval x = K.enc k)
  (hK : wpList P ops Q rest (a.put o.dst (.tuple #[(f k).getD z, .bool (f k).isSome])) w) : wpList P ops Q (o :: rest) a w := by
 refine wpList_plain hg fun K' hK' => ?_
 unfold Oper.wp
 simp only [execOp, hop, hm, hx, (h.run_lookup hT hz k).2, Sem.run_bind, Result.andThen_ok, Sem.run_pure]
 exact hK' _ _ hK
theorem wpList_update_g [DecidableEq κ] {ops : Array Oper} {rest : List Oper} {o : Oper} {a : Act} {Q : Exit → Act → World → Prop} (hg : o.guard = none) (m x v : Operand) (hop : o.op = Op.mapUpdate T m x v)
  (K : KeyG P kt κ) (hT : P.underlying T = some (.map kt et)) (b n : Nat) (f : κ → Option Value) (hm : a.eval m = .map (some b)) (h : MapG K w b n f) (k : κ) (val : Value) (hx : a.eval x = K.enc k) (hv : a.eval v = val)
  (hK : ∀ w' n', MapG K w' b n' (fun j => if j = k then some val else f j) → n ≤ n' → n' ≤ n + 1 → w.grownBy w' (some b) → w'.heap.size = w.heap.size → wpList P ops Q rest (a.put o.dst undef) w') : wpList P ops Q (o :: rest) a w := by
 refine wpList_plain hg fun K' hK' => ?_
 obtain ⟨w', n', hrun, r1, r2, r3, r4, r5⟩ := h.run_update hT k val
 unfold Oper.wp
 simp only [execOp, hop, hm, hx, hv, hrun, Sem.run_bind, Result.andThen_ok, Sem.run_pure]
 exact hK' _ _ (hK w' n' r1 r2 r3 r4 r5)
end
end
section
abbrev AlikeK := { k : Int × Int × ByteArray // I64 k.1 ∧ I64 k.2.1 ∧ k.2.2.size ≤ maxLen }
instance : DecidableEq AlikeK := fun a b => decidable_of_iff (a.1 = b.1) Subtype.ext_iff.symm
def alikeV (k : AlikeK) : Value := .agg #[.int .i64 k.1.1, .int .i64 k.1.2.1, .string k.1.2.2]
theorem alike_kt : Tryz.prog.keyTypeAt 3 76 = true := by kernel_rfl
theorem alike_tiled : Tryz.prog.tiled 3 76 = true := by kernel_rfl
theorem alike_kt2 : Tryz.prog.keyType 76 = true := by kernel_rfl
theorem alike_cells : Tryz.prog.cellsOf 76 = 3 := by kernel_rfl
theorem int_cells : Tryz.prog.cellsOf 3 = 1 := by kernel_rfl
theorem str_cells : Tryz.prog.cellsOf 9 = 1 := by kernel_rfl
theorem types_pos : decide (2 ≤ Tryz.prog.types.size) = true := by kernel_rfl
theorem alike_keyed : Go.Maps.Keyed Tryz.prog 76 := by
 refine Go.Maps.Keyed.of_law (deep_law (m := 3) (by omega) alike_kt alike_tiled ?_)
 rw [Tryz.underlying76]
theorem wf_i64 {n : Int} (h : I64 n) : (Lit.int .i64 n).wf = true := by
 obtain ⟨h1, h2⟩ := h
 show (decide (IntKind.i64.min ≤ n) && decide (n ≤ IntKind.i64.max)) = true
 rw [decide_eq_true (show IntKind.i64.min ≤ n from h1), decide_eq_true (show n ≤ IntKind.i64.max from h2)]
 rfl
theorem alike_isKey (k : AlikeK) : ∃ l, keyOf Tryz.prog 76 (alikeV k) = some l := by
 obtain ⟨⟨a, b, s⟩, h1, h2, h3⟩ := k
 have hu := Tryz.underlying76
 have hi := Tryz.underlying3
 have hs := Tryz.underlying9
 have hp := of_decide_eq_true types_pos
 obtain ⟨m, hm⟩ : ∃ m, Tryz.prog.types.size = m + 1 := ⟨Tryz.prog.types.size - 1, by omega⟩
 have w1 := wf_i64 h1
 have w2 := wf_i64 h2
 have h3' : s.size ≤ maxLen := h3
 unfold keyOf
 rw [hu]
 simp only [alike_kt2, alikeV, Value.formed, hu, alike_cells, hm]
 simp [Program.keyLits, hu, hi, hs, int_cells, str_cells, alike_cells, Value.cells, w1, w2, h3']
def kAlike : KeyG Tryz.prog 76 AlikeK := ⟨alike_keyed, alikeV, alike_isKey, fun {k j} h => by
 obtain ⟨⟨a, b, s⟩, hk⟩ := k
 obtain ⟨⟨a', b', s'⟩, hj⟩ := j
 simp only [alikeV, Value.agg.injEq, Array.mk.injEq, List.cons.injEq, Value.int.injEq, Value.string.injEq, true_and, and_true] at h
 obtain ⟨rfl, rfl, rfl⟩ := h
 rfl⟩
end
section
def tRowN (ns : List Nat) : Ty RowN where
 size := 5
 rd w F cs r := ∃ tv, cs = [.int .i64 r.kind, .int .i64 r.u, .int .i64 0, .int .i64 0, tv] ∧ SliceRd tTerm w F tv (canon ns r.M)
 len h := by obtain ⟨a, rfl, _⟩ := h; rfl
 keep hk h := by obtain ⟨a, h0, h1⟩ := h; exact ⟨a, h0, h1.keep hk⟩
 more hF h := by obtain ⟨a, h0, h1⟩ := h; exact ⟨a, h0, h1.more hF⟩
theorem OwnT.rows {ns : List Nat} {e : TypeId} {w : World} {B : Nat} {v : Value} {l : List RowN} {xs : List Value} (h : OwnT (tRowN ns) e w B v l xs) : ∃ A c, v = .slice A l.length c ∧ ∀ k, (hk : k < l.length) → ∃ g tv, A = some ⟨g, 0, none⟩ ∧ v.ownBlock = some g ∧ B ≤ g ∧ g < w.heap.size ∧ (∀ o, w.frozen? ⟨g, o, none⟩ = false) ∧ w.cell? ⟨g, k * 5, none⟩ = some (.int .i64 l[k].kind) ∧ w.cell? ⟨g, k * 5 + 1, none⟩ = some (.int .i64 l[k].u) ∧ w.cell? ⟨g, k * 5 + 2, none⟩ = some (.int .i64 0) ∧ w.cell? ⟨g, k * 5 + 3, none⟩ = some (.int .i64 0) ∧ w.cell? ⟨g, k * 5 + 4, none⟩ = some tv ∧ SliceRd tTerm w (fun b => B ≤ b ∧ b < w.heap.size ∧ v.ownBlock ≠ some b) tv (canon ns l[k].M) := by
 rcases h.own.2 with ⟨rfl, h0⟩ | ⟨g, cap, cur, rfl, hb, hg, q1, q2, q3, q4⟩
 ·have : l = [] := List.length_eq_zero_iff.1 h0
  subst this
  exact ⟨none, 0, rfl, fun k hk => absurd hk (by simp)⟩
 ·refine ⟨_, cap, rfl, fun k hk => ?_⟩
  obtain ⟨cs, h1, h2, tv, rfl, h4⟩ := h.el k hk
  have hc : ∀ j, j < 5 → w.cell? ⟨g, k * 5 + j, none⟩ = [Value.int .i64 l[k].kind, .int .i64 l[k].u, .int .i64 0, .int .i64 0, tv][j]? := by
   intro j hj
   rw [cell_of_row w g _ cur e (0, 0) hg, ← h2 j hj]
   have h6 : (tRowN ns).size = 5 := rfl
   rw [h6] at q4 ⊢
   rw [← Array.getElem?_toList, ← q4, List.getElem?_take_of_lt (by omega)]
  exact ⟨g, tv, rfl, rfl, hb, (Array.getElem?_eq_some_iff.1 hg).1, fun o => frozen_of_row w g o cur e hg, hc 0 (by omega), hc 1 (by omega), hc 2 (by omega), hc 3 (by omega), hc 4 (by omega), h4⟩
end
section
def rowOf (ns : List Nat) (r : RowN) : Row := ⟨r.kind, r.u, 0, 0, canon ns r.M⟩
theorem rest_but (u : Int) (l : List Term) : restL u l = butL l u := by
 unfold restL butL
 congr 1
 funext t
 by_cases h : t.unit = u
 ·simp [h]
 ·simp [h]
def keyT (ns : List Nat) (r : RowN) : ByteArray := ⟨((butL (canon ns r.M) r.u).flatMap termF).toArray⟩
theorem keyT_inj {ns : List Nat} {x r : RowN} (h : keyT ns x = keyT ns r) : butL (canon ns x.M) x.u = butL (canon ns r.M) r.u := by
 unfold keyT at h
 have h1 : ((butL (canon ns x.M) x.u).flatMap termF).toArray = ((butL (canon ns r.M) r.u).flatMap termF).toArray := congrArg ByteArray.data h
 have h2 := congrArg Array.toList h1
 simp only at h2
 exact terms_inj h2
def hasKey (ns : List Nat) (k : Int × Int × ByteArray) (x : RowN) : Bool := decide (x.kind = k.1) && (decide ((x.u : Int) = k.2.1) && decide (keyT ns x = k.2.2))
theorem like_key {ns : List Nat} (x r : RowN) : likeN ns x r = hasKey ns (r.kind, (r.u : Int), keyT ns r) x := by
 unfold likeN hasKey
 by_cases h1 : x.kind = r.kind
 ·by_cases h2 : x.u = r.u
  ·have h3 : (x.u : Int) = (r.u : Int) := by omega
   rw [decide_eq_true h1, decide_eq_true h2, decide_eq_true h3]
   congr 2
   refine decide_eq_decide.2 ⟨fun h => ?_, fun h => ?_⟩
   ·show keyT ns x = keyT ns r
    unfold keyT
    rw [h2, h]
   ·have := keyT_inj (x := x) (r := r) h
    rwa [h2] at this
  ·have h3 : ¬ (x.u : Int) = (r.u : Int) := by omega
   rw [decide_eq_false h2, decide_eq_false h3]
   simp
 ·rw [decide_eq_false h1]
  simp
def keyF (ns : List Nat) (rows : List RowN) (k : AlikeK) : Option Value := if k.1.1 = 1 then none else (rows.findIdx? (hasKey ns k.1)).map fun i : Nat => Value.int .i64 (i : Int)
theorem keyF_root {ns : List Nat} {rows : List RowN} (h : ∀ x ∈ rows, x.kind = 1) (k : AlikeK) : keyF ns rows k = none := by
 unfold keyF
 split
 ·rfl
 ·rename_i hk
  have : rows.findIdx? (hasKey ns k.1) = none := by
   rw [List.findIdx?_eq_none_iff]
   intro x hx
   unfold hasKey
   rw [decide_eq_false (show ¬ x.kind = k.1.1 from fun e => hk (e.symm.trans (h x hx)))]
   rfl
  rw [this]
  rfl
theorem keyF_none {ns : List Nat} {rows : List RowN} {r : RowN} {k : AlikeK} (hk : k.1 = (r.kind, (r.u : Int), keyT ns r)) (hr : r.kind ≠ 1) (h : keyF ns rows k = none) : putN ns rows r = rows ++ [r] := by
 have h1 : ¬ k.1.1 = 1 := by rw [hk]; exact hr
 unfold keyF at h
 rw [if_neg h1, Option.map_eq_none_iff, List.findIdx?_eq_none_iff] at h
 refine put_miss fun i hi => ?_
 rw [like_key, ← hk]
 exact h _ (List.getElem_mem hi)
theorem keyF_some {ns : List Nat} {rows : List RowN} {r : RowN} {k : AlikeK} {v : Value} (hk : k.1 = (r.kind, (r.u : Int), keyT ns r)) (hr : r.kind ≠ 1) (h : keyF ns rows k = some v) :
  ∃ i, ∃ hi : i < rows.length, v = .int .i64 (i : Int) ∧ likeN ns rows[i] r = true ∧ putN ns rows r = rows.set i (bothN rows[i] r) := by
 have h1 : ¬ k.1.1 = 1 := by rw [hk]; exact hr
 unfold keyF at h
 rw [if_neg h1, Option.map_eq_some_iff] at h
 obtain ⟨i, h2, rfl⟩ := h
 rw [List.findIdx?_eq_some_iff_getElem] at h2
 obtain ⟨hi, h3, h4⟩ := h2
 have h5 : likeN ns rows[i] r = true := by rw [like_key, ← hk]; exact h3
 refine ⟨i, hi, rfl, h5, put_hit hi (fun j hj hji => ?_) h5⟩
 rw [like_key, ← hk]
 exact Bool.eq_false_iff.2 (h4 j hji)
theorem keyF_snoc {ns : List Nat} {rows : List RowN} {r : RowN} {k : AlikeK} (hk : k.1 = (r.kind, (r.u : Int), keyT ns r)) (hr : r.kind ≠ 1) (h : keyF ns rows k = none) (j : AlikeK) :
  (if j = k then some (Value.int .i64 (rows.length : Int)) else keyF ns rows j) = keyF ns (rows ++ [r]) j := by
 have h1 : ¬ k.1.1 = 1 := by rw [hk]; exact hr
 by_cases e : j = k
 ·subst e
  rw [if_pos rfl]
  unfold keyF at h ⊢
  rw [if_neg h1, Option.map_eq_none_iff] at h
  rw [if_neg h1, List.findIdx?_append, h]
  have : hasKey ns j.1 r = true := by
   unfold hasKey
   rw [hk]
   simp
  simp [List.findIdx?_cons, this]
 ·rw [if_neg e]
  unfold keyF
  split
  ·rfl
  ·have : hasKey ns j.1 r = false := by
    rw [Bool.eq_false_iff]
    intro h2
    unfold hasKey at h2
    simp only [Bool.and_eq_true, decide_eq_true_eq] at h2
    refine e (Subtype.ext ?_)
    rw [hk, h2.1, h2.2.1, h2.2.2]
   rw [List.findIdx?_append]
   cases rows.findIdx? (hasKey ns j.1) with
   | some i => rfl
   | none => simp [List.findIdx?_cons, this]
theorem but_congr {ns : List Nat} {M M' : Nat → Nat} {u : Nat} (h : ∀ v, v ≠ u → M v = M' v) : butL (canon ns M) (u : Int) = butL (canon ns M') (u : Int) := by
 unfold canon
 generalize ns.length = n
 induction n with
 | zero => rfl
 | succ n ih =>
  rw [canonTo_succ, canonTo_succ]
  unfold butL at ih ⊢
  rw [List.filter_append, List.filter_append, ih]
  congr 1
  by_cases e : n = u
  ·subst e
   have : ∀ M : Nat → Nat, ((tm ns M n).toList.filter fun t => !(t.unit == (n : Int))) = [] := fun M => by
    unfold tm
    split
    ·rfl
    ·simp
   rw [this, this]
  ·unfold tm
   rw [h n e]
theorem keyF_set {ns : List Nat} {rows : List RowN} {r : RowN} {i : Nat} (hi : i < rows.length) (hl : likeN ns rows[i] r = true) (j : AlikeK) : keyF ns rows j = keyF ns (rows.set i (bothN rows[i] r)) j := by
 have hu : rows[i].u = r.u := by
  unfold likeN at hl
  simp only [Bool.and_eq_true, decide_eq_true_eq] at hl
  exact hl.2.1
 have hb : ∀ k, hasKey ns k (bothN rows[i] r) = hasKey ns k rows[i] := fun k => by
  have : keyT ns (bothN rows[i] r) = keyT ns rows[i] := by
   unfold keyT
   have := but_congr (ns := ns) (u := rows[i].u) (M := (bothN rows[i] r).M) (M' := rows[i].M) (fun v hv => by
    show (if v = r.u then _ else _) = _
    rw [if_neg (by rw [← hu]; exact hv)])
   show (⟨((butL (canon ns (bothN rows[i] r).M) (rows[i].u : Int)).flatMap termF).toArray⟩ : ByteArray) = _
   rw [this]
  unfold hasKey
  rw [this]
  rfl
 have hm : rows.map (hasKey ns j.1) = (rows.set i (bothN rows[i] r)).map (hasKey ns j.1) := by
  rw [List.map_set, hb]
  apply List.ext_getElem
  ·simp
  ·intro k h1 h2
   rw [List.getElem_set]
   split
   ·rename_i e; subst e; simp
   ·rfl
 unfold keyF
 split
 ·rfl
 ·have hf : ∀ l : List RowN, l.findIdx? (hasKey ns j.1) = (l.map (hasKey ns j.1)).findIdx? id := fun l => by rw [List.findIdx?_map]; rfl
  rw [hf, hf, hm]
end
section
def sAll : SetD := ⟨[wholeSpan], [wholeSpan]⟩
def e0 : ByteArray := ⟨#[]⟩
def smallT : List UnitW := [⟨e0, e0, [⟨⟨0, 0, 0, e0, e0⟩, -1, [[⟨1, sAll⟩]], []⟩]⟩, ⟨⟨#[97, 110, 116]⟩, e0, [⟨⟨1, 0, 0, e0, e0⟩, 0, [[⟨2, sAll⟩]], []⟩]⟩, ⟨⟨#[98, 101, 101]⟩, e0, []⟩]
def ns3 : List Nat := [1, 1, 0]
theorem smallT_ns : nsOf smallT = ns3 := rfl
theorem ns3_ok : NsOk ns3 := ⟨by decide, by decide, fun k h => by
 match k, h with
 | 0, _ => exact Nat.le_of_ble_eq_true rfl
 | 1, _ => exact Nat.le_of_ble_eq_true rfl
 | 2, _ => exact Nat.le_of_ble_eq_true rfl⟩
theorem sAll_ok : sAll.ok := ⟨by show 1 ≤ 4000; omega, by show 1 ≤ 4000; omega, by decide +kernel⟩
theorem smallT_ok : UnitsOk smallT := by
 refine ⟨ns3_ok, fun u hu c hc => ?_⟩
 rcases List.mem_cons.1 hu with rfl | hu
 ·rcases List.mem_singleton.1 hc with rfl
  refine ⟨by show 1 ≤ 8; omega, fun r hr => ?_, by show 0 ≤ 4; omega, fun x hx => by cases hx⟩
  rcases List.mem_singleton.1 hr with rfl
  refine ⟨by show 1 ≤ 2; omega, fun x hx => ?_⟩
  rcases List.mem_singleton.1 hx with rfl
  exact ⟨by show (0 : Int) ≤ 1; omega, by show (1 : Int) < 3; omega, sAll_ok⟩
 ·rcases List.mem_cons.1 hu with rfl | hu
  ·rcases List.mem_singleton.1 hc with rfl
   refine ⟨by show 1 ≤ 8; omega, fun r hr => ?_, by show 0 ≤ 4; omega, fun x hx => by cases hx⟩
   rcases List.mem_singleton.1 hr with rfl
   refine ⟨by show 1 ≤ 2; omega, fun x hx => ?_⟩
   rcases List.mem_singleton.1 hx with rfl
   exact ⟨by show (0 : Int) ≤ 2; omega, by show (2 : Int) < 3; omega, sAll_ok⟩
  ·rcases List.mem_singleton.1 hu with rfl
   cases hc
theorem sAll_has : hasB sAll ⟨1, 0, 0, e0, e0⟩ = true := by decide +kernel
theorem smallT_met1 : metN smallT ⟨1, sAll⟩ = 2 := by
 show metTo [⟨⟨1, 0, 0, e0, e0⟩, 0, [[⟨2, sAll⟩]], []⟩] sAll 1 = 2
 rw [metTo_succ (by decide)]
 show metTo _ sAll 0 + (if hasB sAll ⟨1, 0, 0, e0, e0⟩ = true then 2 ^ (0 + 1) else 0) = 2
 rw [sAll_has]
 rfl
theorem smallT_met2 : metN smallT ⟨2, sAll⟩ = 0 := rfl
theorem smallT_c0 : clauseL smallT 0 0 [⟨1, sAll⟩] false = [⟨0, 2⟩, ⟨1, 1⟩] := by
 show [(⟨((0 : Nat) : Int), ((2 ^ (0 + 1) : Nat) : Int)⟩ : Term), clauseT smallT false ⟨1, sAll⟩] = _
 unfold clauseT
 rw [smallT_met1]
 rfl
theorem smallT_c1 : clauseL smallT 1 0 [⟨2, sAll⟩] false = [⟨1, 2⟩, ⟨2, 1⟩] := by
 show [(⟨((1 : Nat) : Int), ((2 ^ (0 + 1) : Nat) : Int)⟩ : Term), clauseT smallT false ⟨2, sAll⟩] = _
 unfold clauseT
 rw [smallT_met2]
 rfl
def r3a : RowN := ⟨2, 0, meetN ns3 [⟨0, 2⟩, ⟨1, 1⟩]⟩
def r3b : RowN := ⟨2, 1, meetN ns3 [⟨1, 2⟩, ⟨2, 1⟩]⟩
theorem smallT_all : allN smallT = [rootN ns3, r3a, r3b] := by
 have h1 : addN smallT 0 0 2 false [rootN ns3] [⟨1, sAll⟩] = [rootN ns3, r3a] := by
  unfold addN
  rw [smallT_c0, smallT_ns, if_pos (by decide +kernel)]
  rfl
 have h2 : addN smallT 1 0 2 false [rootN ns3, r3a] [⟨2, sAll⟩] = [rootN ns3, r3a, r3b] := by
  unfold addN
  rw [smallT_c1, smallT_ns, if_pos (by decide +kernel)]
  rfl
 show addN smallT 1 0 2 false (addN smallT 0 0 2 false [rootN ns3] [⟨1, sAll⟩]) [⟨2, sAll⟩] = _
 rw [h1, h2]
theorem r3a_terms : canon ns3 r3a.M = [⟨0, 2⟩, ⟨1, 1⟩] := by decide +kernel
theorem r3b_terms : canon ns3 r3b.M = [⟨1, 2⟩] := by decide +kernel
theorem smallT_rows : (allN smallT).map (rowOf ns3) = [⟨1, 0, 0, 0, [⟨0, 1⟩]⟩, ⟨2, 0, 0, 0, [⟨0, 2⟩, ⟨1, 1⟩]⟩, ⟨2, 1, 0, 0, [⟨1, 2⟩]⟩] := by
 rw [smallT_all]
 show [rowOf ns3 (rootN ns3), rowOf ns3 r3a, rowOf ns3 r3b] = _
 unfold rowOf
 rw [r3a_terms, r3b_terms, (root_ok ns3_ok rfl).2]
 rfl
theorem smallT_right : rightR smallT ⟨2, 1, 0, 0, [⟨1, 2⟩]⟩ = true := by
 have h1 : mayL (nsOf smallT) [⟨1, 2⟩] = true := by decide +kernel
 rw [right_says rfl rfl h1 (by decide)]
 show (true && (decide ((0 : Int) ≤ 1 ∧ (1 : Int) < 3) && saysN smallT false (masksF ns3 [⟨1, 2⟩]) 1)) = true
 rw [decide_eq_true (by omega), Bool.true_and, Bool.true_and]
 refine says_true (by decide +kernel) fun p hp hb => ?_
 have h2 : masksF ns3 [⟨1, 2⟩] 1 = 2 := by decide +kernel
 rw [h2] at hb
 obtain rfl : p = 0 := by
  have h3 : (2 : Nat).testBit (p + 1) = true := hb
  rw [show (2 : Nat) = 2 ^ 1 from rfl, Nat.testBit_two_pow] at h3
  have := of_decide_eq_true h3
  omega
 show brokenN smallT false _ 1 0 ⟨⟨1, 0, 0, e0, e0⟩, 0, [[⟨2, sAll⟩]], []⟩ = true
 unfold brokenN
 show ([[(⟨2, sAll⟩ : WantD)]].any fun r => r.all (lostN smallT (masksF ns3 [⟨1, 2⟩]) 1 0)) = true
 show ((lostN smallT (masksF ns3 [⟨1, 2⟩]) 1 0 ⟨2, sAll⟩ && true) || false) = true
 unfold lostN
 rw [smallT_met2, Nat.zero_and]
 rfl
end
end Go.Proofs.YthneiolcljnbeaaGreatDoor
