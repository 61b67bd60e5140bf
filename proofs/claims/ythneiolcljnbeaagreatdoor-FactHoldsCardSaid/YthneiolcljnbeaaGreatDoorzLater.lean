import Derived.Test.YthneiolcljnbeaaGreatDoorzFlat
import Derived.Deep.Quiet
import Derived.Test.YthneiolcljnbeaaGreatDoorzV8
import Derived.BigQuiet
import Derived.Outline
import Derived.Deep.RegionHeld3
namespace Go.Proofs.YthneiolcljnbeaaGreatDoor
open Go Go.RowKit
section
def Later (w : World) : Type := { w' : World // Below w.heap.size w w' }
instance {w : World} : Nonempty (Later w) := ⟨⟨w, b0 w⟩⟩
def Later.w {w : World} (e : Later w) : World := e.1
theorem Later.below {w : World} (e : Later w) : Below w.heap.size w e.w := e.2
theorem wp_region_later {P : Program} {id : Nat} {Q : Exit → Act → World → Prop} {a : Act} {w : World} {l : List Oper} (hm : P.follows .mixedOrders = true) (hB : Region.lexB .any l.toArray = true)
  (h : wpQuiet P l.toArray (fun w' => ∃ e : Later w, w' = e.w) (fun a' => ∀ w', (∃ e : Later w, w' = e.w) → Q .normal a' w') l a) : (Code.region id l.toArray true).wp P Q a w :=
 wp_region_quiet (C := fun w' => ∃ e : Later w, w' = e.w) hm hB ⟨⟨_, (b0 w).drew⟩, rfl⟩ (by simpa using h)
theorem Calls.later {P : Program} {f : FuncId} {args : Array Value} {w : World} {e : Later w} {u v : Value}
  (h : Calls P f args e.w fun x w' => x = .returned u ∧ Below e.w.heap.size e.w w') (hu : u = v) : Calls P f args e.w fun x w'' => x = .returned v ∧ ∃ e2 : Later w, w'' = e2.w :=
 h.mono fun _ w' ⟨he, hb⟩ => ⟨by rw [he, hu], ⟨w', bstep e.2 hb⟩, rfl⟩
theorem later_cell {w : World} {g o : Nat} {v : Value} (hg : g < w.heap.size) (h : w.cell? ⟨g, o, none⟩ = some v) : ∀ e : Later w, e.w.cell? ⟨g, o, none⟩ = some v := fun e => cell_below e.2 hg h
end
section
def SpanAt (w : World) (g o : Nat) (s : Span) : Prop := w.cell? ⟨g, o, none⟩ = some (.int .i64 (s).lo.en) ∧ w.cell? ⟨g, o + 1, none⟩ = some (.int .i64 (s).lo.v.major) ∧ w.cell? ⟨g, o + 2, none⟩ = some (.int .i64 (s).lo.v.minor) ∧ w.cell? ⟨g, o + 3, none⟩ = some (.int .i64 (s).lo.v.patch) ∧ w.cell? ⟨g, o + 4, none⟩ = some (.string (s).lo.v.pre) ∧ w.cell? ⟨g, o + 5, none⟩ = some (.string (s).lo.v.build) ∧ w.cell? ⟨g, o + 6, none⟩ = some (.bool (s).lo.after) ∧ w.cell? ⟨g, o + 7, none⟩ = some (.int .i64 (s).hi.en) ∧ w.cell? ⟨g, o + 8, none⟩ = some (.int .i64 (s).hi.v.major) ∧ w.cell? ⟨g, o + 9, none⟩ = some (.int .i64 (s).hi.v.minor) ∧ w.cell? ⟨g, o + 10, none⟩ = some (.int .i64 (s).hi.v.patch) ∧ w.cell? ⟨g, o + 11, none⟩ = some (.string (s).hi.v.pre) ∧ w.cell? ⟨g, o + 12, none⟩ = some (.string (s).hi.v.build) ∧ w.cell? ⟨g, o + 13, none⟩ = some (.bool (s).hi.after)
theorem SpanAt.below {B : Nat} {w w' : World} (hb : Below B w w') {g o : Nat} (hg : g < B) {s : Span} (h : SpanAt w g o s) : SpanAt w' g o s := by
 obtain ⟨h0, h1, h2, h3, h4, h5, h6, h7, h8, h9, h10, h11, h12, h13⟩ := h
 exact ⟨cell_below hb hg h0, cell_below hb hg h1, cell_below hb hg h2, cell_below hb hg h3, cell_below hb hg h4, cell_below hb hg h5, cell_below hb hg h6, cell_below hb hg h7, cell_below hb hg h8, cell_below hb hg h9, cell_below hb hg h10, cell_below hb hg h11, cell_below hb hg h12, cell_below hb hg h13⟩
theorem span_at {w : World} {g o : Nat} {s : Span} (h : ∀ j u, (fSpan.cells s)[j]? = some u → w.cell? ⟨g, o + j, none⟩ = some u) : SpanAt w g o s :=
 ⟨h 0 _ rfl, h 1 _ rfl, h 2 _ rfl, h 3 _ rfl, h 4 _ rfl, h 5 _ rfl, h 6 _ rfl, h 7 _ rfl, h 8 _ rfl, h 9 _ rfl, h 10 _ rfl, h 11 _ rfl, h 12 _ rfl, h 13 _ rfl⟩
theorem SpanAt.later {w : World} {g o : Nat} (hg : g < w.heap.size) {s : Span} (h : SpanAt w g o s) : (∀ e : Later w, e.w.cell? ⟨g, o, none⟩ = some (.int .i64 (s).lo.en)) ∧ (∀ e : Later w, e.w.cell? ⟨g, o + 1, none⟩ = some (.int .i64 (s).lo.v.major)) ∧ (∀ e : Later w, e.w.cell? ⟨g, o + 2, none⟩ = some (.int .i64 (s).lo.v.minor)) ∧ (∀ e : Later w, e.w.cell? ⟨g, o + 3, none⟩ = some (.int .i64 (s).lo.v.patch)) ∧ (∀ e : Later w, e.w.cell? ⟨g, o + 4, none⟩ = some (.string (s).lo.v.pre)) ∧ (∀ e : Later w, e.w.cell? ⟨g, o + 5, none⟩ = some (.string (s).lo.v.build)) ∧ (∀ e : Later w, e.w.cell? ⟨g, o + 6, none⟩ = some (.bool (s).lo.after)) ∧ (∀ e : Later w, e.w.cell? ⟨g, o + 7, none⟩ = some (.int .i64 (s).hi.en)) ∧ (∀ e : Later w, e.w.cell? ⟨g, o + 8, none⟩ = some (.int .i64 (s).hi.v.major)) ∧ (∀ e : Later w, e.w.cell? ⟨g, o + 9, none⟩ = some (.int .i64 (s).hi.v.minor)) ∧ (∀ e : Later w, e.w.cell? ⟨g, o + 10, none⟩ = some (.int .i64 (s).hi.v.patch)) ∧ (∀ e : Later w, e.w.cell? ⟨g, o + 11, none⟩ = some (.string (s).hi.v.pre)) ∧ (∀ e : Later w, e.w.cell? ⟨g, o + 12, none⟩ = some (.string (s).hi.v.build)) ∧ (∀ e : Later w, e.w.cell? ⟨g, o + 13, none⟩ = some (.bool (s).hi.after)) := by
 obtain ⟨h0, h1, h2, h3, h4, h5, h6, h7, h8, h9, h10, h11, h12, h13⟩ := h
 exact ⟨later_cell hg h0, later_cell hg h1, later_cell hg h2, later_cell hg h3, later_cell hg h4, later_cell hg h5, later_cell hg h6, later_cell hg h7, later_cell hg h8, later_cell hg h9, later_cell hg h10, later_cell hg h11, later_cell hg h12, later_cell hg h13⟩
def rowMayB (l : List Span) : Bool := (List.range l.length).all fun k => spanMay l[k]! && !(decide (0 < k) && decide (0 ≤ cmpC l[k-1]!.hi l[k]!.lo))
def rowBad (l : List Span) (k : Nat) : Bool := !(spanMay l[k]! && !(decide (0 < k) && decide (0 ≤ cmpC l[k-1]!.hi l[k]!.lo)))
theorem rowMay_bad {l : List Span} {k : Nat} (hk : k < l.length) (h : rowBad l k = true) : rowMayB l = false := by
 unfold rowMayB
 rw [List.all_eq_false]
 refine ⟨k, List.mem_range.2 hk, ?_⟩
 unfold rowBad at h
 rw [Bool.not_eq_true'] at h
 rw [h]
 simp
theorem rowMay_good {l : List Span} (h : ∀ k, k < l.length → rowBad l k = false) : rowMayB l = true := by
 unfold rowMayB
 rw [List.all_eq_true]
 intro k hk
 have := h k (List.mem_range.1 hk)
 unfold rowBad at this
 rw [Bool.not_eq_false'] at this
 exact this
theorem rowBad_get {l : List Span} {k : Nat} (hk : k < l.length) (hk0 : 0 < k) : rowBad l k = !(spanMay l[k] && !(decide (0 ≤ cmpC (l[k-1]'(by omega)).hi l[k].lo))) := by
 unfold rowBad
 rw [getElem!_pos l k hk, getElem!_pos l (k-1) (by omega), decide_eq_true hk0, Bool.true_and]
theorem rowBad_zero {l : List Span} {k : Nat} (hk : k < l.length) (hk0 : k = 0) : rowBad l k = !(spanMay l[k]) := by
 unfold rowBad
 rw [getElem!_pos l k hk, decide_eq_false (by omega), Bool.false_and]
 simp
def cutA (u : Cut) : Value := .agg #[.int .i64 u.en, .int .i64 u.v.major, .int .i64 u.v.minor, .int .i64 u.v.patch, .string u.v.pre, .string u.v.build, .bool u.after]
theorem smay_s (s : Span) (w : World) (h : s.B) :
  Calls Tryz.prog 145 #[.agg #[.int .i64 s.lo.en, .int .i64 s.lo.v.major, .int .i64 s.lo.v.minor, .int .i64 s.lo.v.patch, .string s.lo.v.pre, .string s.lo.v.build, .bool s.lo.after, .int .i64 s.hi.en, .int .i64 s.hi.v.major, .int .i64 s.hi.v.minor, .int .i64 s.hi.v.patch, .string s.hi.v.pre, .string s.hi.v.build, .bool s.hi.after]] w fun e w' => e = .returned (.bool (spanMay s)) ∧ Below w.heap.size w w' :=
 smay_any _ _ _ _ _ _ _ _ _ _ _ _ _ _ w h.1.2 h.2.2
theorem ccmp_c (u v : Cut) (w : World) (hu : u.B) (hv : v.B) :
  Calls Tryz.prog 146 #[.agg #[.int .i64 u.en, .int .i64 u.v.major, .int .i64 u.v.minor, .int .i64 u.v.patch, .string u.v.pre, .string u.v.build, .bool u.after], .agg #[.int .i64 v.en, .int .i64 v.v.major, .int .i64 v.v.minor, .int .i64 v.v.patch, .string v.v.pre, .string v.v.build, .bool v.after]] w fun e w' => e = .returned (.int .i64 (cmpC u v)) ∧ Below w.heap.size w w' :=
 ccmp_any _ _ _ _ _ _ _ _ _ _ _ _ _ _ w hu.2 hv.2
theorem SliceRd.spans {w : World} {F : Nat → Prop} {v : Value} {l : List Span} (h : SliceRd fSpan.ty w F v l) :
  ∃ A cap, v = .slice A l.length cap ∧ l.length ≤ cap ∧ cap ≤ maxLen ∧ ∀ k, (hk : k < l.length) → ∃ g o, A = some ⟨g, o, none⟩ ∧ F g ∧ l[k].B ∧ SpanAt w g (o + k * 14) l[k] := by
 obtain ⟨A, cap, hv, h1, h2, h3⟩ := h.flat
 refine ⟨A, cap, hv, h1, h2, fun k hk => ?_⟩
 obtain ⟨g, o, hA, hF, hB, hc⟩ := h3 k hk
 exact ⟨g, o, hA, hF, hB, span_at hc⟩
set_option maxRecDepth 100000 in
set_option maxHeartbeats 1000000 in
theorem rmay4_any (v : Value) (l : List Span) (w : World) (h : SliceRd fSpan.ty w (Lt w.heap.size) v l) :
  Calls Tryz.prog 113 #[v] w fun e w' => e = .returned (.bool (rowMayB l)) ∧ Below w.heap.size w w' := by
 obtain ⟨A, cap, rfl, hcap, hmax, hc⟩ := h.spans
 have HC := hid hc
 unfold maxLen at hmax
 clear h hc
 go_enter Tryz.func113, Tryz.ntmps113
 go_wp2
 go_loopw [3] (fun iv wr => ∃ k : Nat, k ≤ l.length ∧ iv = .int .i64 k ∧ Hid (∀ i, i < k → rowBad l i = false) ∧ Hid (Below w.heap.size w wr)) (fun iv _ => l.length - (intOf iv).toNat)
 case atStart => exact ⟨0, Nat.zero_le _, rfl, hid (fun i hi => absurd hi (by omega)), hid (b0 w)⟩
 case round =>
  obtain ⟨k, hk, rfl, hgood, hb⟩ := hrel
  by_cases hlt : k < l.length
  ·obtain ⟨g, o, hA, hF, hB, hat⟩ := HC.out k hlt
   cases hA
   have HBB := hid hB
   have hbb : g < wr.heap.size := Nat.lt_of_lt_of_le hF hb.out.size
   have hat' := hat.below hb.out hF
   have HAT := hid hat'
   obtain ⟨c0, c1, c2, c3, c4, c5, c6, c7, c8, c9, c10, c11, c12, c13⟩ := hat'.later hbb
   clear hat'
   clear hat hB
   have i1 : (0 : Int) ≤ ↑k := by omega
   have i2 : (↑k : Int) < ↑l.length := by omega
   cases hs : spanMay l[k] with
   | false =>
    have HS := hid hs
    have HBAD : Hid (rowBad l k = true) := hid (by
     by_cases h0 : k = 0
     ·rw [rowBad_zero hlt h0, hs]; rfl
     ·rw [rowBad_get hlt (by omega), hs]; rfl)
    clear hs
    go_wp2
    refine wp_region_later (by kernel_rfl) (by kernel_rfl) ?_
    repeat (go_big_quiet_step ((go_at_call 145; exact Calls.later (smay_s l[k] _ HBB.out) (congrArg Value.bool HS.out))))
    refine wpQuiet_nil ?_
    rintro _ ⟨⟨w1, hb1⟩, rfl⟩
    go_wp2
    go_ret
    exact ⟨ret_bool (rowMay_bad hlt HBAD.out).symm, bstep hb.out hb1⟩
   | true =>
    have HS := hid hs
    by_cases h0 : k = 0
    ·have HOK : Hid (rowBad l k = false) := hid (by rw [rowBad_zero hlt h0, hs]; rfl)
     have z1 : decide (0 < k) = false := decide_eq_false (by omega)
     have z2 : decide ((0 : Int) < ↑k) = false := decide_eq_false (by omega)
     clear hs h0
     go_wp2
     refine wp_region_later (by kernel_rfl) (by kernel_rfl) ?_
     repeat (go_big_quiet_step ((go_at_call 145; exact Calls.later (smay_s l[k] _ HBB.out) (congrArg Value.bool HS.out))))
     refine wpQuiet_nil ?_
     rintro _ ⟨⟨w1, hb1⟩, rfl⟩
     go_wp2
     go_roundw
     case rel => exact ⟨k + 1, by omega, by go_num, hid (fun i hi => if e : i = k then by subst e; exact HOK.out else hgood.out i (by omega)), hid (bstep hb.out hb1)⟩
     case measure => simp [intOf]; omega
    ·obtain ⟨g2, o2, hA2, hF2, hB2, hat2⟩ := HC.out (k - 1) (by omega)
     cases hA2
     have HBB2 := hid hB2
     obtain ⟨e0, e1, e2, e3, e4, e5, e6, e7, e8, e9, e10, e11, e12, e13⟩ := (hat2.below hb.out hF2).later hbb
     clear hat2 hB2
     have i3 : (0 : Int) ≤ ↑k - 1 := by omega
     have i4 : (↑k : Int) - 1 < ↑l.length := by omega
     have i5 : ((↑k : Int) - 1).toNat = k - 1 := by omega
     have i6 : IntKind.i64.wrap (↑k - 1) = (↑k : Int) - 1 := IntWalk.i64_in _ (by omega)
     have z1 : decide (0 < k) = true := decide_eq_true (by omega)
     have hk1 : k - 1 < l.length := by omega
     by_cases hcm : 0 ≤ cmpC (l[k-1]'hk1).hi l[k].lo
     ·have HBAD : Hid (rowBad l k = true) := hid (by rw [rowBad_get hlt (by omega), hs, decide_eq_true hcm]; rfl)
      have z2 : decide (0 ≤ cmpC (l[k-1]'hk1).hi l[k].lo) = true := decide_eq_true hcm
      clear hs h0
      go_wp2
      refine wp_region_later (by kernel_rfl) (by kernel_rfl) ?_
      repeat (go_big_quiet_step ((first
       | (go_at_call 145; exact Calls.later (smay_s l[k] _ HBB.out) (congrArg Value.bool HS.out))
       | (go_at_call 146; exact Calls.later (ccmp_c (l[k-1]'hk1).hi l[k].lo _ HBB2.out.2 HBB.out.1) rfl))))
      refine wpQuiet_nil ?_
      rintro _ ⟨⟨w1, hb1⟩, rfl⟩
      go_wp2
      go_ret
      exact ⟨ret_bool (rowMay_bad hlt HBAD.out).symm, bstep hb.out hb1⟩
     ·have HOK : Hid (rowBad l k = false) := hid (by rw [rowBad_get hlt (by omega), hs, decide_eq_false hcm]; rfl)
      have z2 : decide (0 ≤ cmpC (l[k-1]'hk1).hi l[k].lo) = false := decide_eq_false hcm
      clear hs h0
      go_wp2
      refine wp_region_later (by kernel_rfl) (by kernel_rfl) ?_
      repeat (go_big_quiet_step ((first
       | (go_at_call 145; exact Calls.later (smay_s l[k] _ HBB.out) (congrArg Value.bool HS.out))
       | (go_at_call 146; exact Calls.later (ccmp_c (l[k-1]'hk1).hi l[k].lo _ HBB2.out.2 HBB.out.1) rfl))))
      refine wpQuiet_nil ?_
      rintro _ ⟨⟨w1, hb1⟩, rfl⟩
      go_wp2
      go_roundw
      case rel => exact ⟨k + 1, by omega, by go_num, hid (fun i hi => if e : i = k then by subst e; exact HOK.out else hgood.out i (by omega)), hid (bstep hb.out hb1)⟩
      case measure => simp [intOf]; omega
  ·have HN : Hid (rowMayB l = true) := hid (rowMay_good (fun i hi => hgood.out i (by omega)))
   go_wp2
   go_ret
   exact ⟨ret_bool HN.out.symm, hb.out⟩
end
section
def CutAt (w : World) (g o : Nat) (c : Cut) : Prop := w.cell? ⟨g, o, none⟩ = some (.int .i64 c.en) ∧ w.cell? ⟨g, o + 1, none⟩ = some (.int .i64 c.v.major) ∧ w.cell? ⟨g, o + 2, none⟩ = some (.int .i64 c.v.minor) ∧ w.cell? ⟨g, o + 3, none⟩ = some (.int .i64 c.v.patch) ∧ w.cell? ⟨g, o + 4, none⟩ = some (.string c.v.pre) ∧ w.cell? ⟨g, o + 5, none⟩ = some (.string c.v.build) ∧ w.cell? ⟨g, o + 6, none⟩ = some (.bool c.after)
theorem CutAt.below {B : Nat} {w w' : World} (hb : Below B w w') {g o : Nat} (hg : g < B) {c : Cut} (h : CutAt w g o c) : CutAt w' g o c := by
 obtain ⟨h0, h1, h2, h3, h4, h5, h6⟩ := h
 exact ⟨cell_below hb hg h0, cell_below hb hg h1, cell_below hb hg h2, cell_below hb hg h3, cell_below hb hg h4, cell_below hb hg h5, cell_below hb hg h6⟩
theorem CutAt.later {w : World} {g o : Nat} (hg : g < w.heap.size) {c : Cut} (h : CutAt w g o c) : (∀ e : Later w, e.w.cell? ⟨g, o, none⟩ = some (.int .i64 c.en)) ∧ (∀ e : Later w, e.w.cell? ⟨g, o + 1, none⟩ = some (.int .i64 c.v.major)) ∧ (∀ e : Later w, e.w.cell? ⟨g, o + 2, none⟩ = some (.int .i64 c.v.minor)) ∧ (∀ e : Later w, e.w.cell? ⟨g, o + 3, none⟩ = some (.int .i64 c.v.patch)) ∧ (∀ e : Later w, e.w.cell? ⟨g, o + 4, none⟩ = some (.string c.v.pre)) ∧ (∀ e : Later w, e.w.cell? ⟨g, o + 5, none⟩ = some (.string c.v.build)) ∧ (∀ e : Later w, e.w.cell? ⟨g, o + 6, none⟩ = some (.bool c.after)) := by
 obtain ⟨h0, h1, h2, h3, h4, h5, h6⟩ := h
 exact ⟨later_cell hg h0, later_cell hg h1, later_cell hg h2, later_cell hg h3, later_cell hg h4, later_cell hg h5, later_cell hg h6⟩
theorem cut_at {w : World} {g o : Nat} {c : Cut} (h : ∀ j u, (fCut.cells c)[j]? = some u → w.cell? ⟨g, o + j, none⟩ = some u) : CutAt w g o c :=
 ⟨h 0 _ rfl, h 1 _ rfl, h 2 _ rfl, h 3 _ rfl, h 4 _ rfl, h 5 _ rfl, h 6 _ rfl⟩
def BoxC (w : World) (g : Nat) (c : Cut) : Prop := w.cell? ⟨g, 0, none⟩ = some (.int .i64 c.en) ∧ w.cell? ⟨g, 1, none⟩ = some (.int .i64 c.v.major) ∧ w.cell? ⟨g, 2, none⟩ = some (.int .i64 c.v.minor) ∧ w.cell? ⟨g, 3, none⟩ = some (.int .i64 c.v.patch) ∧ w.cell? ⟨g, 4, none⟩ = some (.string c.v.pre) ∧ w.cell? ⟨g, 5, none⟩ = some (.string c.v.build) ∧ w.cell? ⟨g, 6, none⟩ = some (.bool c.after)
theorem BoxC.below {B : Nat} {w w' : World} (hb : Below B w w') {g : Nat} (hg : g < B) {c : Cut} (h : BoxC w g c) : BoxC w' g c := by
 obtain ⟨h0, h1, h2, h3, h4, h5, h6⟩ := h
 exact ⟨cell_below hb hg h0, cell_below hb hg h1, cell_below hb hg h2, cell_below hb hg h3, cell_below hb hg h4, cell_below hb hg h5, cell_below hb hg h6⟩
theorem BoxC.later {w : World} {g : Nat} (hg : g < w.heap.size) {c : Cut} (h : BoxC w g c) : (∀ e : Later w, e.w.cell? ⟨g, 0, none⟩ = some (.int .i64 c.en)) ∧ (∀ e : Later w, e.w.cell? ⟨g, 1, none⟩ = some (.int .i64 c.v.major)) ∧ (∀ e : Later w, e.w.cell? ⟨g, 2, none⟩ = some (.int .i64 c.v.minor)) ∧ (∀ e : Later w, e.w.cell? ⟨g, 3, none⟩ = some (.int .i64 c.v.patch)) ∧ (∀ e : Later w, e.w.cell? ⟨g, 4, none⟩ = some (.string c.v.pre)) ∧ (∀ e : Later w, e.w.cell? ⟨g, 5, none⟩ = some (.string c.v.build)) ∧ (∀ e : Later w, e.w.cell? ⟨g, 6, none⟩ = some (.bool c.after)) := by
 obtain ⟨h0, h1, h2, h3, h4, h5, h6⟩ := h
 exact ⟨later_cell hg h0, later_cell hg h1, later_cell hg h2, later_cell hg h3, later_cell hg h4, later_cell hg h5, later_cell hg h6⟩
theorem BoxC.new (w : World) (u : Cut) (T : TypeId) : BoxC (w.alloc (.cells #[.int .i64 u.en, .int .i64 u.v.major, .int .i64 u.v.minor, .int .i64 u.v.patch, .string u.v.pre, .string u.v.build, .bool u.after] T)) w.heap.size u := by
 have h := heap_alloc_new w (.cells #[.int .i64 u.en, .int .i64 u.v.major, .int .i64 u.v.minor, .int .i64 u.v.patch, .string u.v.pre, .string u.v.build, .bool u.after] T)
 refine ⟨?_, ?_, ?_, ?_, ?_, ?_, ?_⟩ <;> (rw [cell_of_row _ _ _ _ T (0, 0) h]; rfl)
theorem SliceRd.cuts {w : World} {F : Nat → Prop} {v : Value} {l : List Cut} (h : SliceRd fCut.ty w F v l) :
  ∃ A cap, v = .slice A l.length cap ∧ l.length ≤ cap ∧ cap ≤ maxLen ∧ ∀ k, (hk : k < l.length) → ∃ g o, A = some ⟨g, o, none⟩ ∧ F g ∧ l[k].B ∧ CutAt w g (o + k * 7) l[k] := by
 obtain ⟨A, cap, hv, h1, h2, h3⟩ := h.flat
 refine ⟨A, cap, hv, h1, h2, fun k hk => ?_⟩
 obtain ⟨g, o, hA, hF, hB, hc⟩ := h3 k hk
 exact ⟨g, o, hA, hF, hB, cut_at hc⟩
def inB (l : List Span) (f t : Cut) : Bool := l.any fun s => decide (cmpC s.lo f ≤ 0) && decide (cmpC t s.hi ≤ 0)
set_option maxRecDepth 100000 in
set_option maxHeartbeats 1000000 in
theorem in_any (lv : Value) (l : List Span) (u v : Cut) (w : World) (h : SliceRd fSpan.ty w (Lt w.heap.size) lv l) (hu : u.B) (hv : v.B) :
  Calls Tryz.prog 117 #[lv, .agg #[.int .i64 u.en, .int .i64 u.v.major, .int .i64 u.v.minor, .int .i64 u.v.patch, .string u.v.pre, .string u.v.build, .bool u.after], .agg #[.int .i64 v.en, .int .i64 v.v.major, .int .i64 v.v.minor, .int .i64 v.v.patch, .string v.v.pre, .string v.v.build, .bool v.after]] w fun e w' => e = .returned (.bool (inB l u v)) ∧ Below w.heap.size w w' := by
 obtain ⟨A, cap, rfl, hcap, hmax, hc⟩ := h.spans
 have HC := hid hc
 have HU := hid hu
 have HV := hid hv
 unfold maxLen at hmax
 clear h hc hu hv
 go_enter Tryz.func117, Tryz.ntmps117
 go_wp2
 obtain ⟨w0, hw0⟩ : ∃ w0 : World, w0 = (w.alloc (.cells #[.int .i64 u.en, .int .i64 u.v.major, .int .i64 u.v.minor, .int .i64 u.v.patch, .string u.v.pre, .string u.v.build, .bool u.after] 103)).alloc (.cells #[.int .i64 v.en, .int .i64 v.v.major, .int .i64 v.v.minor, .int .i64 v.v.patch, .string v.v.pre, .string v.v.build, .bool v.after] 103) := ⟨_, rfl⟩
 have hb0 : Below w.heap.size w w0 := by rw [hw0]; exact balloc (balloc (b0 w) _) _
 have hx1 : BoxC w0 w.heap.size u := by rw [hw0]; exact (BoxC.new w u _).below (balloc (b0 _) _) (by simp)
 have hx2 : BoxC w0 (w.heap.size + 1) v := by
  rw [hw0]
  have := BoxC.new (w.alloc (.cells #[.int .i64 u.en, .int .i64 u.v.major, .int .i64 u.v.minor, .int .i64 u.v.patch, .string u.v.pre, .string u.v.build, .bool u.after] 103)) v 103
  rwa [World.size_alloc] at this
 have hz : w.heap.size + 1 < w0.heap.size := by rw [hw0]; simp
 rw [← hw0]
 have HB0 := hid hb0
 have HX1 := hid hx1
 have HX2 := hid hx2
 clear hw0 hb0 hx1 hx2
 go_loopw [7] (fun iv wr => ∃ k : Nat, k ≤ l.length ∧ iv = .int .i64 k ∧ Hid (inB (l.take k) u v = false) ∧ Hid (Below w0.heap.size w0 wr)) (fun iv _ => l.length - (intOf iv).toNat)
 case atStart => exact ⟨0, Nat.zero_le _, rfl, hid rfl, hid (b0 _)⟩
 case round =>
  obtain ⟨k, hk, rfl, hno, hbr⟩ := hrel
  by_cases hlt : k < l.length
  ·obtain ⟨g, o, hA, hF, hB, hat⟩ := HC.out k hlt
   cases hA
   have HBL := hid hB.1
   have HBH := hid hB.2
   have hzr : w.heap.size + 1 < wr.heap.size := Nat.lt_of_lt_of_le hz hbr.out.size
   have hgw : g < w.heap.size := hF
   obtain ⟨c0, c1, c2, c3, c4, c5, c6, d0, d1, d2, d3, d4, d5, d6⟩ := (hat.below (HB0.out.trans (hbr.out.mono HB0.out.size)) hF).later (show g < wr.heap.size by omega)
   obtain ⟨e0, e1, e2, e3, e4, e5, e6⟩ := (HX1.out.below hbr.out (by omega)).later (show w.heap.size < wr.heap.size by omega)
   obtain ⟨f0, f1, f2, f3, f4, f5, f6⟩ := (HX2.out.below hbr.out hz).later hzr
   have HIN := hid (show inB (l.take (k + 1)) u v = (inB (l.take k) u v || (decide (cmpC l[k].lo u ≤ 0) && decide (cmpC v l[k].hi ≤ 0))) by unfold inB; rw [List.take_succ_eq_append_getElem hlt, List.any_append]; simp)
   have HINB := hid (show (decide (cmpC l[k].lo u ≤ 0) && decide (cmpC v l[k].hi ≤ 0)) = true → inB l u v = true by
    intro h
    unfold inB
    rw [List.any_eq_true]
    exact ⟨l[k], List.getElem_mem hlt, h⟩)
   clear hat hB
   have i1 : (0 : Int) ≤ ↑k := by omega
   have i2 : (↑k : Int) < ↑l.length := by omega
   by_cases q1 : cmpC l[k].lo u ≤ 0
   ·have z1 : decide (cmpC l[k].lo u ≤ 0) = true := decide_eq_true q1
    by_cases q2 : cmpC v l[k].hi ≤ 0
    ·have z2 : decide (cmpC v l[k].hi ≤ 0) = true := decide_eq_true q2
     have HRES := hid (HINB.out (by rw [z1, z2]; rfl))
     clear q1 q2
     go_wp2
     refine wp_region_later (by kernel_rfl) (by kernel_rfl) ?_
     repeat (go_big_quiet_step ((first
       | (go_at_call 146; (with_reducible exact Calls.later (ccmp_c l[k].lo u _ HBL.out HU.out) rfl))
       | (go_at_call 146; (with_reducible exact Calls.later (ccmp_c v l[k].hi _ HV.out HBH.out) rfl)))))
     refine wpQuiet_nil ?_
     rintro _ ⟨⟨w1, hb1⟩, rfl⟩
     go_wp2
     go_ret
     exact ⟨ret_bool HRES.out.symm, bstep (HB0.out.trans (hbr.out.mono HB0.out.size)) hb1⟩
    ·have z2 : decide (cmpC v l[k].hi ≤ 0) = false := decide_eq_false q2
     have HRES := hid (show inB (l.take (k + 1)) u v = false by rw [HIN.out, hno.out, z1, z2]; rfl)
     clear q1 q2
     go_wp2
     refine wp_region_later (by kernel_rfl) (by kernel_rfl) ?_
     repeat (go_big_quiet_step ((first
       | (go_at_call 146; (with_reducible exact Calls.later (ccmp_c l[k].lo u _ HBL.out HU.out) rfl))
       | (go_at_call 146; (with_reducible exact Calls.later (ccmp_c v l[k].hi _ HV.out HBH.out) rfl)))))
     refine wpQuiet_nil ?_
     rintro _ ⟨⟨w1, hb1⟩, rfl⟩
     go_wp2
     exact ⟨⟨k + 1, by omega, by go_num, HRES, hid (bstep hbr.out hb1)⟩, by simp [intOf]; omega⟩
   ·have z1 : decide (cmpC l[k].lo u ≤ 0) = false := decide_eq_false q1
    have HRES := hid (show inB (l.take (k + 1)) u v = false by rw [HIN.out, hno.out, z1]; rfl)
    clear q1
    go_wp2
    refine wp_region_later (by kernel_rfl) (by kernel_rfl) ?_
    repeat (go_big_quiet_step ((first
      | (go_at_call 146; (with_reducible exact Calls.later (ccmp_c l[k].lo u _ HBL.out HU.out) rfl))
      | (go_at_call 146; (with_reducible exact Calls.later (ccmp_c v l[k].hi _ HV.out HBH.out) rfl)))))
    refine wpQuiet_nil ?_
    rintro _ ⟨⟨w1, hb1⟩, rfl⟩
    go_wp2
    exact ⟨⟨k + 1, by omega, by go_num, HRES, hid (bstep hbr.out hb1)⟩, by simp [intOf]; omega⟩
  ·have HRES := hid (show inB l u v = false by have := hno.out; rwa [List.take_of_length_le (by omega)] at this)
   go_wp2
   go_ret
   exact ⟨ret_bool HRES.out.symm, HB0.out.trans (hbr.out.mono HB0.out.size)⟩
end
section
structure TO {α : Type} (f : α → α → Int) : Prop where
  flip : ∀ a b, f a b < 0 ↔ 0 < f b a
  trans : ∀ a b c, f a b ≤ 0 → f b c ≤ 0 → f a c ≤ 0
section
variable {α β : Type} {f g : α → α → Int}
theorem TO.refl (h : TO f) (a : α) : f a a = 0 := by have := h.flip a a; omega
theorem TO.ge (h : TO f) {a b : α} (hab : 0 ≤ f a b) : f b a ≤ 0 := by have := h.flip a b; omega
theorem TO.zero (h : TO f) {a b : α} (hab : f a b = 0) : f b a = 0 := by have := h.flip a b; have := h.flip b a; omega
theorem TO.lt_le (h : TO f) {a b c : α} (h1 : f a b < 0) (h2 : f b c ≤ 0) : f a c < 0 := by
  rcases Int.lt_or_le (f a c) 0 with h3 | h3
  · exact h3
  · have := h.trans b c a h2 (h.ge h3)
    have := (h.flip a b).1 h1
    omega
theorem TO.le_lt (h : TO f) {a b c : α} (h1 : f a b ≤ 0) (h2 : f b c < 0) : f a c < 0 := by
  rcases Int.lt_or_le (f a c) 0 with h3 | h3
  · exact h3
  · have := h.trans c a b (h.ge h3) h1
    have := (h.flip b c).1 h2
    omega
theorem TO.on (h : TO f) (k : β → α) : TO fun a b => f (k a) (k b) := ⟨fun _a _b => h.flip _ _, fun _a _b _c => h.trans _ _ _⟩
def lexF (f g : α → α → Int) (a b : α) : Int := if f a b = 0 then g a b else f a b
theorem lex0 {a b : α} (h : f a b = 0) : lexF f g a b = g a b := if_pos h
theorem lex1 {a b : α} (h : f a b ≠ 0) : lexF f g a b = f a b := if_neg h
theorem TO.lex (h : TO f) (h' : TO g) : TO (lexF f g) := by
  refine ⟨fun a b => ?_, fun a b c h1 h2 => ?_⟩
  · have e1 := h.flip a b
    have e2 := h.flip b a
    have e3 := h'.flip a b
    unfold lexF
    split <;> split <;> omega
  · unfold lexF at h1 h2 ⊢
    have t := h.trans a b c
    have t' := h'.trans a b c
    by_cases e1 : f a b = 0
    · rw [if_pos e1] at h1
      by_cases e2 : f b c = 0
      · rw [if_pos e2] at h2
        have := h.trans c b a (by have := h.zero e2; omega) (by have := h.zero e1; omega)
        have e3 := h.flip a c
        have e4 := h.flip c a
        split
        · exact t' h1 h2
        · omega
      · rw [if_neg e2] at h2
        have := h.le_lt (by omega : f a b ≤ 0) (by omega : f b c < 0)
        split <;> omega
    · rw [if_neg e1] at h1
      have h3 : f b c ≤ 0 := by
        split at h2 <;> omega
      have := h.lt_le (by omega : f a b < 0) h3
      split <;> omega
end
theorem ints_to : TO intsF := by
  refine ⟨fun a b => ?_, fun a b c h1 h2 => ?_⟩
  · unfold intsF
    split <;> split <;> (try split) <;> omega
  · unfold intsF at *
    (repeat' split at *) <;> omega
theorem less_irr : ∀ a : List UInt8, Op.bytesLess a a = false
  | [] => rfl
  | x :: a => by simp [Op.bytesLess, less_irr a]
theorem less_asym : ∀ a b : List UInt8, Op.bytesLess a b = true → Op.bytesLess b a = false
  | _, [], h => by simp [Op.bytesLess] at h
  | [], _ :: _, _ => rfl
  | x :: a, y :: b, h => by
    simp only [Op.bytesLess, Bool.or_eq_true, decide_eq_true_eq, Bool.and_eq_true, beq_iff_eq] at h
    simp only [Op.bytesLess, Bool.or_eq_false_iff, decide_eq_false_iff_not, Bool.and_eq_false_iff]
    rcases h with h | ⟨rfl, h⟩
    · exact ⟨fun h2 => by have a1 := UInt8.lt_iff_toNat_lt.1 h; have a2 := UInt8.lt_iff_toNat_lt.1 h2; omega, .inl (by rw [beq_eq_false_iff_ne]; rintro rfl; have a1 := UInt8.lt_iff_toNat_lt.1 h; omega)⟩
    · exact ⟨fun h2 => by have a2 := UInt8.lt_iff_toNat_lt.1 h2; omega, .inr (less_asym a b h)⟩
theorem less_tri : ∀ a b : List UInt8, Op.bytesLess a b = false → Op.bytesLess b a = false → a = b
  | [], [], _, _ => rfl
  | [], _ :: _, h, _ => by simp [Op.bytesLess] at h
  | _ :: _, [], _, h => by simp [Op.bytesLess] at h
  | x :: a, y :: b, h, h' => by
    simp only [Op.bytesLess, Bool.or_eq_false_iff, decide_eq_false_iff_not, Bool.and_eq_false_iff] at h h'
    have e : x = y := by
      have a1 : ¬ x.toNat < y.toNat := fun h3 => h.1 (UInt8.lt_iff_toNat_lt.2 h3)
      have a2 : ¬ y.toNat < x.toNat := fun h3 => h'.1 (UInt8.lt_iff_toNat_lt.2 h3)
      exact UInt8.toNat_inj.1 (by omega)
    subst e
    have h1 : Op.bytesLess a b = false := by rcases h.2 with h | h; · simp at h
                                             · exact h
    have h2 : Op.bytesLess b a = false := by rcases h'.2 with h | h; · simp at h
                                             · exact h
    rw [less_tri a b h1 h2]
theorem less_trans : ∀ a b c : List UInt8, Op.bytesLess a b = true → Op.bytesLess b c = true → Op.bytesLess a c = true
  | _, [], _, h, _ => by simp [Op.bytesLess] at h
  | _, _ :: _, [], _, h => by simp [Op.bytesLess] at h
  | [], _ :: _, _ :: _, _, _ => rfl
  | x :: a, y :: b, z :: c, h, h' => by
    simp only [Op.bytesLess, Bool.or_eq_true, decide_eq_true_eq, Bool.and_eq_true, beq_iff_eq] at h h' ⊢
    rcases h with h | ⟨rfl, h⟩
    · rcases h' with h' | ⟨rfl, h'⟩
      · exact .inl (UInt8.lt_iff_toNat_lt.2 (by have a1 := UInt8.lt_iff_toNat_lt.1 h; have a2 := UInt8.lt_iff_toNat_lt.1 h'; omega))
      · exact .inl h
    · rcases h' with h' | ⟨rfl, h'⟩
      · exact .inl h'
      · exact .inr ⟨rfl, less_trans a b c h h'⟩
def textL (a b : List UInt8) : Int := if Op.bytesLess a b = true then -1 else if (!a == b) = true then 1 else 0
theorem textL_lt {a b : List UInt8} : textL a b < 0 ↔ Op.bytesLess a b = true := by
  unfold textL
  split
  · rename_i h; simp [h]
  · rename_i h; split <;> simp [h]
theorem textL_gt {a b : List UInt8} : 0 < textL a b ↔ Op.bytesLess b a = true := by
  unfold textL
  split
  · rename_i h; rw [less_asym a b h]; simp
  · rename_i h
    split
    · rename_i h2
      simp only [Bool.not_eq_true', beq_eq_false_iff_ne] at h2
      cases h3 : Op.bytesLess b a with
      | true => simp
      | false => exact absurd (less_tri a b (by simpa using h) h3) h2
    · rename_i h2
      have : a = b := by simpa using h2
      subst this
      rw [less_irr]
      simp
theorem textL_to : TO textL := by
  refine ⟨fun a b => by rw [textL_lt, textL_gt], fun a b c h1 h2 => ?_⟩
  have k1 : Op.bytesLess b a = false := by cases h : Op.bytesLess b a with | false => rfl | true => have := textL_gt.2 h; omega
  have k2 : Op.bytesLess c b = false := by cases h : Op.bytesLess c b with | false => rfl | true => have := textL_gt.2 h; omega
  rcases Int.lt_or_le 0 (textL a c) with h | h
  · exfalso
    have k3 := textL_gt.1 h
    cases h4 : Op.bytesLess a b with
    | true =>
      have := less_trans c a b k3 h4
      rw [k2] at this
      cases this
    | false =>
      have := less_tri a b h4 k1
      subst this
      rw [k2] at k3
      cases k3
  · exact h
def clsT (a : ByteArray) : Int := if numericB a.data.toList = true then 0 else 1
def nvT (a : ByteArray) : Int := if numericB a.data.toList = true then numV a.data.toList else 0
def txT (a : ByteArray) : List UInt8 := if numericB a.data.toList = true then [] else a.toList
theorem one_lex : oneF = lexF (fun a b => intsF (clsT a) (clsT b)) (lexF (fun a b => intsF (nvT a) (nvT b)) fun a b => textL (txT a) (txT b)) := by
  funext a b
  have z : ∀ x : Int, intsF x x = 0 := fun x => ints_to.refl x
  unfold oneF lexF clsT nvT txT
  cases h1 : numericB a.data.toList <;> cases h2 : numericB b.data.toList <;> simp [h1, h2, intsF, textsF, textL, Op.bytesLess]
theorem one_to : TO oneF := by
  rw [one_lex]
  exact (ints_to.on clsT).lex ((ints_to.on nvT).lex (textL_to.on txT))
theorem cmpL_nil (l : List ByteArray) : cmpL [] l = intsF (0 : Int) l.length := by cases l <;> rfl
theorem cmpL_nil2 (l : List ByteArray) : cmpL l [] = intsF l.length (0 : Int) := by cases l <;> rfl
theorem cmpL_flip : ∀ l m : List ByteArray, cmpL l m < 0 ↔ 0 < cmpL m l
  | [], m => by rw [cmpL_nil, cmpL_nil2]; exact ints_to.flip _ _
  | x :: l, [] => by rw [cmpL_nil, cmpL_nil2]; exact ints_to.flip _ _
  | x :: l, y :: m => by
    have e1 := one_to.flip x y
    have e2 := one_to.flip y x
    have ih := cmpL_flip l m
    rw [cmpL, cmpL]
    split <;> split <;> omega
theorem cmpL_trans : ∀ l m n : List ByteArray, cmpL l m ≤ 0 → cmpL m n ≤ 0 → cmpL l n ≤ 0
  | [], _, n, _, _ => by rw [cmpL_nil]; unfold intsF; split <;> (try split) <;> omega
  | x :: l, [], _, h, _ => by
    rw [cmpL_nil2] at h
    unfold intsF at h
    simp only [List.length_cons] at h
    split at h <;> (try split at h) <;> omega
  | x :: l, y :: m, [], _, h => by
    rw [cmpL_nil2] at h
    unfold intsF at h
    simp only [List.length_cons] at h
    split at h <;> (try split at h) <;> omega
  | x :: l, y :: m, z :: n, h1, h2 => by
    rw [cmpL] at h1 h2 ⊢
    have ih := cmpL_trans l m n
    by_cases e1 : oneF x y = 0
    · rw [if_pos e1] at h1
      by_cases e2 : oneF y z = 0
      · rw [if_pos e2] at h2
        have t1 := one_to.trans x y z (by omega) (by omega)
        have t2 := one_to.trans z y x (by have := one_to.zero e2; omega) (by have := one_to.zero e1; omega)
        have t3 := one_to.flip x z
        have t4 := one_to.flip z x
        split
        · exact ih h1 h2
        · omega
      · rw [if_neg e2] at h2
        have := one_to.le_lt (by omega : oneF x y ≤ 0) (by omega : oneF y z < 0)
        split <;> omega
    · rw [if_neg e1] at h1
      have h3 : oneF y z ≤ 0 := by split at h2 <;> omega
      have := one_to.lt_le (by omega : oneF x y < 0) h3
      split <;> omega
theorem cmpL_to : TO cmpL := ⟨cmpL_flip, cmpL_trans⟩
def empT (a : ByteArray) : Int := if a.size = 0 then 1 else 0
theorem size0 {a : ByteArray} (h : a.size = 0) : a = ⟨#[]⟩ := by
  obtain ⟨d⟩ := a
  have : d = #[] := Array.eq_empty_of_size_eq_zero h
  rw [this]
theorem pres_lex : presF = lexF (fun a b => intsF (empT a) (empT b)) fun a b => cmpL (wordsOf a) (wordsOf b) := by
  funext a b
  unfold presF
  by_cases e : a = b
  · subst e
    rw [if_pos rfl]
    exact ((lex0 (f := fun a b => intsF (empT a) (empT b)) (a := a) (b := a) (ints_to.refl _)).trans (cmpL_to.refl (wordsOf a))).symm
  · rw [if_neg e]
    by_cases h1 : a.size = 0
    · by_cases h2 : b.size = 0
      · exact absurd ((size0 h1).trans (size0 h2).symm) e
      · rw [if_pos h1]
        have k : intsF (empT a) (empT b) = 1 := by unfold empT; rw [if_pos h1, if_neg h2]; rfl
        exact ((lex1 (f := fun a b => intsF (empT a) (empT b)) (a := a) (b := b) (by show intsF (empT a) (empT b) ≠ 0; rw [k]; decide)).trans k).symm
    · rw [if_neg h1]
      by_cases h2 : b.size = 0
      · rw [if_pos h2]
        have k : intsF (empT a) (empT b) = -1 := by unfold empT; rw [if_neg h1, if_pos h2]; rfl
        exact ((lex1 (f := fun a b => intsF (empT a) (empT b)) (a := a) (b := b) (by show intsF (empT a) (empT b) ≠ 0; rw [k]; decide)).trans k).symm
      · rw [if_neg h2]
        have k : intsF (empT a) (empT b) = 0 := by unfold empT; rw [if_neg h1, if_neg h2]; rfl
        exact (lex0 (f := fun a b => intsF (empT a) (empT b)) (g := fun a b => cmpL (wordsOf a) (wordsOf b)) (a := a) (b := b) k).symm
theorem pres_to : TO presF := by
  rw [pres_lex]
  exact (ints_to.on empT).lex (cmpL_to.on wordsOf)
def cmpV0 : Ver → Ver → Int := lexF (fun u v => intsF u.major v.major) (lexF (fun u v => intsF u.minor v.minor) (lexF (fun u v => intsF u.patch v.patch) fun u v => presF u.pre v.pre))
theorem cmpV0_to : TO cmpV0 := (ints_to.on _).lex ((ints_to.on _).lex ((ints_to.on _).lex (pres_to.on _)))
theorem cmpV_eq {u v : Ver} (hu : mayV u = true) (hv : mayV v = true) : cmpV u v = cmpV0 u v := by
  unfold cmpV cmpV0 lexF
  rw [if_pos ⟨hu, hv⟩]
  by_cases h1 : intsF u.major v.major = 0
  · rw [if_neg (by omega), if_pos h1]
    by_cases h2 : intsF u.minor v.minor = 0
    · rw [if_neg (by omega), if_pos h2]
      by_cases h3 : intsF u.patch v.patch = 0
      · rw [if_neg (by omega), if_pos h3]
      · rw [if_pos h3, if_neg h3]
    · rw [if_pos h2, if_neg h2]
  · rw [if_pos h1, if_neg h1]
def aftC (c : Cut) : Int := if c.after = true then 1 else 0
def cmpC0 : Cut → Cut → Int := lexF (fun u v => intsF u.en v.en) (lexF (fun u v => cmpV0 u.v v.v) fun u v => intsF (aftC u) (aftC v))
theorem cmpC0_to : TO cmpC0 := (ints_to.on _).lex ((cmpV0_to.on _).lex (ints_to.on _))
theorem zero_ver {v : Ver} (h : zeroB v.major v.minor v.patch v.pre v.build = true) : v = ⟨0, 0, 0, ⟨#[]⟩, ⟨#[]⟩⟩ := by
  unfold zeroB at h
  simp only [Bool.and_eq_true, decide_eq_true_eq] at h
  obtain ⟨h1, h2, h3, h4, h5⟩ := h
  obtain ⟨a, b, c, p, q⟩ := v
  dsimp only at h1 h2 h3 h4 h5
  rw [h1, h2, h3, size0 h4, size0 h5]
theorem cmpC_eq {u v : Cut} (hu : cutMay u = true) (hv : cutMay v = true) : cmpC u v = cmpC0 u v := by
  unfold cmpC cmpC0
  rw [if_pos ⟨hu, hv⟩]
  have z : ∀ x : Int, intsF x x = 0 := fun x => ints_to.refl x
  by_cases he : u.en = v.en
  · rw [lex0 (f := fun u v : Cut => intsF u.en v.en) (a := u) (b := v) (show intsF u.en v.en = 0 by rw [he]; exact z _)]
    by_cases h0 : u.en = 0
    · rw [if_neg (by rw [not_or]; exact ⟨fun h => h he, fun h => h h0⟩)]
      have m1 : mayV u.v = true := by unfold cutMay at hu; rw [if_pos h0, Bool.and_eq_true] at hu; exact hu.1
      have m2 : mayV v.v = true := by unfold cutMay at hv; rw [if_pos (he ▸ h0), Bool.and_eq_true] at hv; exact hv.1
      rw [cmpV_eq m1 m2]
      by_cases hc : cmpV0 u.v v.v = 0
      · rw [if_neg (by omega), lex0 (f := fun u v : Cut => cmpV0 u.v v.v) (a := u) (b := v) hc]
        unfold aftC intsF
        cases u.after <;> cases v.after <;> rfl
      · rw [if_pos hc, lex1 (f := fun u v : Cut => cmpV0 u.v v.v) (a := u) (b := v) hc]
    · rw [if_pos (.inr h0), he, z]
      unfold cutMay at hu hv
      rw [if_neg h0, Bool.and_eq_true, Bool.and_eq_true] at hu
      rw [if_neg (he ▸ h0), Bool.and_eq_true, Bool.and_eq_true] at hv
      have a1 : u.after = false := by simpa using hu.2
      have a2 : v.after = false := by simpa using hv.2
      rw [lex0 (f := fun u v : Cut => cmpV0 u.v v.v) (a := u) (b := v) (show cmpV0 u.v v.v = 0 by rw [zero_ver hu.1.2, zero_ver hv.1.2]; exact cmpV0_to.refl _)]
      unfold aftC
      rw [a1, a2]
      rfl
  · have hne : intsF u.en v.en ≠ 0 := by unfold intsF; split <;> (try split) <;> omega
    rw [if_pos (.inl he), lex1 (f := fun u v : Cut => intsF u.en v.en) (a := u) (b := v) hne]
section
variable {u v t : Cut}
theorem cut_flip (hu : cutMay u = true) (hv : cutMay v = true) : cmpC u v < 0 ↔ 0 < cmpC v u := by
  rw [cmpC_eq hu hv, cmpC_eq hv hu]; exact cmpC0_to.flip u v
theorem cut_refl (hu : cutMay u = true) : cmpC u u = 0 := by rw [cmpC_eq hu hu]; exact cmpC0_to.refl u
theorem cut_lt_le (hu : cutMay u = true) (hv : cutMay v = true) (ht : cutMay t = true) (h1 : cmpC u v < 0) (h2 : cmpC v t ≤ 0) : cmpC u t < 0 := by
  rw [cmpC_eq hu hv] at h1; rw [cmpC_eq hv ht] at h2; rw [cmpC_eq hu ht]; exact cmpC0_to.lt_le h1 h2
theorem cut_le_le (hu : cutMay u = true) (hv : cutMay v = true) (ht : cutMay t = true) (h1 : cmpC u v ≤ 0) (h2 : cmpC v t ≤ 0) : cmpC u t ≤ 0 := by
  rw [cmpC_eq hu hv] at h1; rw [cmpC_eq hv ht] at h2; rw [cmpC_eq hu ht]; exact cmpC0_to.trans _ _ _ h1 h2
end
def Rise : List Cut → Prop
  | [] => True
  | [u] => cutMay u = true
  | u :: v :: l => cutMay u = true ∧ cmpC u v < 0 ∧ Rise (v :: l)
theorem Rise.tail : ∀ {u : Cut} {l : List Cut}, Rise (u :: l) → Rise l
  | _, [], _ => trivial
  | _, _ :: _, h => h.2.2
theorem Rise.head : ∀ {u : Cut} {l : List Cut}, Rise (u :: l) → cutMay u = true
  | _, [], h => h
  | _, _ :: _, h => h.1
theorem Rise.cons {u : Cut} (hu : cutMay u = true) : ∀ {l : List Cut}, Rise l → (∀ v, l.head? = some v → cmpC u v < 0) → Rise (u :: l)
  | [], _, _ => hu
  | _ :: _, h, h2 => ⟨hu, h2 _ rfl, h⟩
def putC : List Cut → Cut → List Cut
  | [], c => [c]
  | u :: l, c => if cmpC u c < 0 then u :: putC l c else if cmpC u c = 0 then u :: l else c :: u :: l
theorem putC_head : ∀ {l : List Cut} {c v : Cut}, (putC l c).head? = some v → v = c ∨ l.head? = some v
  | [], c, v, h => by simp only [putC, List.head?_cons, Option.some.injEq] at h; exact .inl h.symm
  | u :: l, c, v, h => by
    unfold putC at h
    split at h
    · exact .inr h
    · split at h
      · exact .inr h
      · simp only [List.head?_cons, Option.some.injEq] at h; exact .inl h.symm
theorem Rise.put {c : Cut} (hc : cutMay c = true) : ∀ {l : List Cut}, Rise l → Rise (putC l c)
  | [], _ => hc
  | u :: l, h => by
    unfold putC
    split
    · rename_i h1
      refine Rise.cons h.head (Rise.put hc h.tail) fun v hv => ?_
      rcases putC_head hv with rfl | h2
      · exact h1
      · cases l with
        | nil => cases h2
        | cons x l => injection h2 with h2; subst h2; exact h.2.1
    · split
      · exact h
      · rename_i h1 h2
        exact ⟨hc, (cut_flip hc h.head).2 (by omega), h⟩
def endCut (n : Int) : Cut := ⟨n, ⟨0, 0, 0, ⟨#[]⟩, ⟨#[]⟩⟩, false⟩
def cutsC (l : List Span) : List Cut := l.foldl (fun o s => putC (putC o s.lo) s.hi) [endCut (-1), endCut 1]
theorem cuts_fold : ∀ (l : List Span) {o : List Cut}, Rise o → (∀ s ∈ l, cutMay s.lo = true ∧ cutMay s.hi = true) → Rise (l.foldl (fun o s => putC (putC o s.lo) s.hi) o)
  | [], _, h, _ => h
  | s :: l, _, h, hs => cuts_fold l ((h.put (hs s (List.mem_cons_self ..)).1).put (hs s (List.mem_cons_self ..)).2) fun x hx => hs x (List.mem_cons_of_mem _ hx)
theorem cuts_rise {l : List Span} (h : ∀ s ∈ l, cutMay s.lo = true ∧ cutMay s.hi = true) : Rise (cutsC l) :=
  cuts_fold l ⟨by decide +kernel, by decide +kernel, by show cutMay _ = true; decide +kernel⟩ h
def RowR : List Span → Prop
  | [] => True
  | [s] => spanMay s = true
  | s :: x :: l => spanMay s = true ∧ cmpC x.hi s.lo < 0 ∧ RowR (x :: l)
def growR : List Span → Cut → Cut → List Span
  | [], u, t => [⟨u, t⟩]
  | s :: l, u, t => if cmpC s.hi u = 0 then ⟨s.lo, t⟩ :: l else ⟨u, t⟩ :: s :: l
def growC (l : List Span) (u t : Cut) : List Span := (growR l.reverse u t).reverse
theorem span_iff {s : Span} : spanMay s = true ↔ cutMay s.lo = true ∧ cutMay s.hi = true ∧ cmpC s.lo s.hi < 0 := by
  unfold spanMay
  rw [Bool.and_eq_true, Bool.and_eq_true, decide_eq_true_eq]
theorem RowR.head : ∀ {s : Span} {l : List Span}, RowR (s :: l) → spanMay s = true
  | _, [], h => h
  | _, _ :: _, h => h.1
theorem RowR.tail : ∀ {s : Span} {l : List Span}, RowR (s :: l) → RowR l
  | _, [], _ => trivial
  | _, _ :: _, h => h.2.2
theorem growR_nil (u t : Cut) : growR [] u t = [⟨u, t⟩] := rfl
theorem growR_eq {s : Span} {l : List Span} {u : Cut} (t : Cut) (h : cmpC s.hi u = 0) : growR (s :: l) u t = ⟨s.lo, t⟩ :: l := if_pos h
theorem growR_ne {s : Span} {l : List Span} {u : Cut} (t : Cut) (h : ¬ cmpC s.hi u = 0) : growR (s :: l) u t = ⟨u, t⟩ :: s :: l := if_neg h
theorem RowR.swap {s s' : Span} (h' : spanMay s' = true) (he : s'.lo = s.lo) : ∀ {l : List Span}, RowR (s :: l) → RowR (s' :: l)
  | [], _ => h'
  | x :: l, h => ⟨h', by rw [he]; exact h.2.1, h.2.2⟩
theorem RowR.grow {u t : Cut} (hu : cutMay u = true) (ht : cutMay t = true) (hut : cmpC u t < 0) {l : List Span} (h : RowR l) (hl : ∀ s, l.head? = some s → cmpC s.hi u ≤ 0) : RowR (growR l u t) := by
  cases l with
  | nil => exact span_iff.2 ⟨hu, ht, hut⟩
  | cons s l =>
    have hs := span_iff.1 h.head
    have h3 := hl s rfl
    by_cases h0 : cmpC s.hi u = 0
    · rw [growR_eq t h0]
      exact h.swap (s := s) (s' := ⟨s.lo, t⟩) (span_iff.2 ⟨hs.1, ht, cut_lt_le hs.1 hu ht (cut_lt_le hs.1 hs.2.1 hu hs.2.2 h3) (Int.le_of_lt hut)⟩) rfl
    · rw [growR_ne t h0]
      exact ⟨span_iff.2 ⟨hu, ht, hut⟩, by show cmpC s.hi u < 0; omega, h⟩
theorem growR_head {l : List Span} {u t : Cut} {s : Span} (h : (growR l u t).head? = some s) : s.hi = t := by
  cases l with
  | nil => rw [growR_nil] at h; injection h with h; rw [← h]
  | cons x l =>
    by_cases h0 : cmpC x.hi u = 0
    · rw [growR_eq t h0] at h; injection h with h; rw [← h]
    · rw [growR_ne t h0] at h; injection h with h; rw [← h]
def makeR (p : Cut → Cut → Bool) : List Cut → List Span → List Span
  | u :: t :: c, o => makeR p (t :: c) (if p u t = true then growR o u t else o)
  | _, o => o
theorem makeR_ok (p : Cut → Cut → Bool) : ∀ (c : List Cut) {u : Cut} {o : List Span}, Rise (u :: c) → RowR o → (∀ s, o.head? = some s → cmpC s.hi u ≤ 0) → RowR (makeR p (u :: c) o)
  | [], _, _, _, ho, _ => ho
  | t :: c, u, o, h, ho, hl => by
    have hu := h.head
    have ht := h.tail.head
    have hut := h.2.1
    unfold makeR
    refine makeR_ok p c h.tail ?_ fun s hs => ?_
    · split
      · exact ho.grow hu ht hut hl
      · exact ho
    · split at hs
      · rw [growR_head hs, cut_refl ht]; exact Int.le_refl _
      · have hm : cutMay s.hi = true := by
          cases o with
          | nil => cases hs
          | cons x o => injection hs with hs; subst hs; exact (span_iff.1 ho.head).2.1
        exact cut_le_le hm hu ht (hl s hs) (by omega)
theorem rowMayB_iff {l : List Span} : rowMayB l = true ↔ (∀ k, (hk : k < l.length) → spanMay l[k] = true) ∧ ∀ k, (hk : k + 1 < l.length) → cmpC l[k].hi l[k + 1].lo < 0 := by
  unfold rowMayB
  rw [List.all_eq_true]
  constructor
  · intro h
    refine ⟨fun k hk => ?_, fun k hk => ?_⟩
    · have := h k (List.mem_range.2 hk)
      rw [Bool.and_eq_true, getElem!_pos l k hk] at this
      exact this.1
    · have := h (k + 1) (List.mem_range.2 hk)
      rw [Bool.and_eq_true, Nat.add_sub_cancel, getElem!_pos l k (by omega), getElem!_pos l (k + 1) hk] at this
      have h2 := this.2
      simp only [Bool.not_eq_true', Bool.and_eq_false_iff, decide_eq_false_iff_not] at h2
      rcases h2 with h2 | h2 <;> omega
  · rintro ⟨h1, h2⟩ k hk
    rw [List.mem_range] at hk
    rw [Bool.and_eq_true, getElem!_pos l k hk]
    refine ⟨h1 k hk, ?_⟩
    cases k with
    | zero => simp
    | succ k =>
      have := h2 k hk
      rw [Nat.add_sub_cancel, getElem!_pos l k (by omega)]
      simp only [Bool.not_eq_true', Bool.and_eq_false_iff, decide_eq_false_iff_not]
      exact .inr (by omega)
theorem rowR_iff : ∀ {l : List Span}, RowR l ↔ (∀ k, (hk : k < l.length) → spanMay l[k] = true) ∧ ∀ k, (hk : k + 1 < l.length) → cmpC l[k + 1].hi l[k].lo < 0
  | [] => ⟨fun _ => ⟨fun k hk => absurd hk (by simp), fun k hk => absurd hk (by simp)⟩, fun _ => trivial⟩
  | [s] => ⟨fun h => ⟨fun k hk => by
      have : k = 0 := by simpa using hk
      subst this; exact h, fun k hk => absurd hk (by simp)⟩, fun h => h.1 0 (by simp)⟩
  | s :: x :: l => by
    have ih := rowR_iff (l := x :: l)
    refine ⟨fun h => ⟨fun k hk => ?_, fun k hk => ?_⟩, fun h => ⟨h.1 0 (by simp), h.2 0 (by simp), ih.2 ⟨fun k hk => ?_, fun k hk => ?_⟩⟩⟩
    · cases k with
      | zero => exact h.1
      | succ k => exact (ih.1 h.2.2).1 k (by simpa using hk)
    · cases k with
      | zero => exact h.2.1
      | succ k => exact (ih.1 h.2.2).2 k (by simpa using hk)
    · exact h.1 (k + 1) (by simpa using hk)
    · exact h.2 (k + 1) (by simpa using hk)
theorem rowR_rev {l : List Span} : RowR l ↔ rowMayB l.reverse = true := by
  rw [rowR_iff, rowMayB_iff]
  constructor
  · rintro ⟨h1, h2⟩
    refine ⟨fun k hk => ?_, fun k hk => ?_⟩
    · rw [List.length_reverse] at hk
      rw [List.getElem_reverse]
      exact h1 _ (by omega)
    · rw [List.length_reverse] at hk
      rw [List.getElem_reverse, List.getElem_reverse]
      have := h2 (l.length - 1 - (k + 1)) (by omega)
      have e : l.length - 1 - (k + 1) + 1 = l.length - 1 - k := by omega
      simp only [e] at this
      exact this
  · rintro ⟨h1, h2⟩
    refine ⟨fun k hk => ?_, fun k hk => ?_⟩
    · have := h1 (l.length - 1 - k) (by rw [List.length_reverse]; omega)
      rw [List.getElem_reverse] at this
      have e : l.length - 1 - (l.length - 1 - k) = k := by omega
      simp only [e] at this
      exact this
    · have := h2 (l.length - 1 - (k + 1)) (by rw [List.length_reverse]; omega)
      rw [List.getElem_reverse, List.getElem_reverse] at this
      have e : l.length - 1 - (l.length - 1 - (k + 1)) = k + 1 := by omega
      have e2 : l.length - 1 - (l.length - 1 - (k + 1) + 1) = k := by omega
      simp only [e, e2] at this
      exact this
def rowC (p : Cut → Cut → Bool) (c : List Cut) : List Span := (makeR p c []).reverse
theorem rowC_may {p : Cut → Cut → Bool} {c : List Cut} (h : Rise c) : rowMayB (rowC p c) = true := by
  unfold rowC
  rw [← rowR_rev]
  cases c with
  | nil => exact (trivial : RowR [])
  | cons u c => exact makeR_ok p c h trivial fun s hs => by cases hs
theorem putC_mem : ∀ {l : List Cut} {c x : Cut}, x ∈ putC l c → x = c ∨ x ∈ l
  | [], c, x, h => .inl (List.mem_singleton.1 h)
  | u :: l, c, x, h => by
    by_cases h1 : cmpC u c < 0
    · rw [show putC (u :: l) c = u :: putC l c from if_pos h1] at h
      rcases List.mem_cons.1 h with h | h
      · exact .inr (List.mem_cons.2 (.inl h))
      · rcases putC_mem h with h | h
        · exact .inl h
        · exact .inr (List.mem_cons_of_mem _ h)
    · by_cases h2 : cmpC u c = 0
      · rw [show putC (u :: l) c = u :: l from (if_neg h1).trans (if_pos h2)] at h
        exact .inr h
      · rw [show putC (u :: l) c = c :: u :: l from (if_neg h1).trans (if_neg h2)] at h
        rcases List.mem_cons.1 h with h | h
        · exact .inl h
        · exact .inr h
theorem putC_len : ∀ (l : List Cut) (c : Cut), l.length ≤ (putC l c).length ∧ (putC l c).length ≤ l.length + 1
  | [], c => ⟨Nat.zero_le _, Nat.le_refl _⟩
  | u :: l, c => by
    have ih := putC_len l c
    by_cases h1 : cmpC u c < 0
    · rw [show putC (u :: l) c = u :: putC l c from if_pos h1]
      simp only [List.length_cons]
      omega
    · by_cases h2 : cmpC u c = 0
      · rw [show putC (u :: l) c = u :: l from (if_neg h1).trans (if_pos h2)]
        omega
      · rw [show putC (u :: l) c = c :: u :: l from (if_neg h1).trans (if_neg h2)]
        simp only [List.length_cons]
        omega
theorem cuts_all {P : Cut → Prop} : ∀ (l : List Span) {o : List Cut}, (∀ x ∈ o, P x) → (∀ s ∈ l, P s.lo ∧ P s.hi) → ∀ x ∈ l.foldl (fun o s => putC (putC o s.lo) s.hi) o, P x
  | [], _, h, _ => h
  | s :: l, _, h, hs => cuts_all l (fun x hx => by
      rcases putC_mem hx with rfl | hx
      · exact (hs s (List.mem_cons_self ..)).2
      · rcases putC_mem hx with rfl | hx
        · exact (hs s (List.mem_cons_self ..)).1
        · exact h x hx) fun x hx => hs x (List.mem_cons_of_mem _ hx)
theorem cutsC_all {P : Cut → Prop} {l : List Span} (h1 : P (endCut (-1))) (h2 : P (endCut 1)) (h : ∀ s ∈ l, P s.lo ∧ P s.hi) : ∀ x ∈ cutsC l, P x :=
  cuts_all l (fun x hx => by
    rcases List.mem_cons.1 hx with rfl | hx
    · exact h1
    · rw [List.mem_singleton.1 hx]; exact h2) h
theorem cuts_len : ∀ (l : List Span) (o : List Cut), o.length ≤ (l.foldl (fun o s => putC (putC o s.lo) s.hi) o).length ∧ (l.foldl (fun o s => putC (putC o s.lo) s.hi) o).length ≤ o.length + 2 * l.length
  | [], o => ⟨Nat.le_refl _, by simp⟩
  | s :: l, o => by
    have h1 := putC_len o s.lo
    have h2 := putC_len (putC o s.lo) s.hi
    have h3 := cuts_len l (putC (putC o s.lo) s.hi)
    simp only [List.foldl_cons, List.length_cons]
    omega
theorem cutsC_len (l : List Span) : 2 ≤ (cutsC l).length ∧ (cutsC l).length ≤ 2 + 2 * l.length := cuts_len l [endCut (-1), endCut 1]
theorem growR_all {P : Cut → Prop} {l : List Span} {u t : Cut} (hu : P u) (ht : P t) (h : ∀ s ∈ l, P s.lo ∧ P s.hi) : ∀ s ∈ growR l u t, P s.lo ∧ P s.hi := by
  cases l with
  | nil => intro s hs; rw [List.mem_singleton.1 hs]; exact ⟨hu, ht⟩
  | cons x l =>
    by_cases h0 : cmpC x.hi u = 0
    · rw [growR_eq t h0]
      intro s hs
      rcases List.mem_cons.1 hs with rfl | hs
      · exact ⟨(h x (List.mem_cons_self ..)).1, ht⟩
      · exact h s (List.mem_cons_of_mem _ hs)
    · rw [growR_ne t h0]
      intro s hs
      rcases List.mem_cons.1 hs with rfl | hs
      · exact ⟨hu, ht⟩
      · exact h s hs
theorem growR_len (l : List Span) (u t : Cut) : l.length ≤ (growR l u t).length ∧ (growR l u t).length ≤ l.length + 1 := by
  cases l with
  | nil => exact ⟨Nat.zero_le _, Nat.le_refl _⟩
  | cons x l =>
    by_cases h0 : cmpC x.hi u = 0
    · rw [growR_eq t h0]; simp
    · rw [growR_ne t h0]; simp
theorem makeR_all {P : Cut → Prop} {p : Cut → Cut → Bool} : ∀ (c : List Cut) {o : List Span}, (∀ x ∈ c, P x) → (∀ s ∈ o, P s.lo ∧ P s.hi) → ∀ s ∈ makeR p c o, P s.lo ∧ P s.hi
  | [], _, _, h => h
  | [_], _, _, h => h
  | u :: t :: c, _, hc, h => by
    unfold makeR
    refine makeR_all (t :: c) (fun x hx => hc x (List.mem_cons_of_mem _ hx)) ?_
    split
    · exact growR_all (hc u (List.mem_cons_self ..)) (hc t (List.mem_cons_of_mem _ (List.mem_cons_self ..))) h
    · exact h
theorem makeR_len {p : Cut → Cut → Bool} : ∀ (c : List Cut) (o : List Span), (makeR p c o).length + 1 ≤ o.length + 1 + c.length
  | [], o => by show o.length + 1 ≤ _; simp
  | [_], o => by show o.length + 1 ≤ _; simp
  | u :: t :: c, o => by
    unfold makeR
    have h1 := makeR_len (p := p) (t :: c) (if p u t = true then growR o u t else o)
    have h2 := growR_len o u t
    simp only [List.length_cons] at h1 ⊢
    split at h1 <;> rename_i h3
    · rw [if_pos h3]; omega
    · rw [if_neg h3]; omega
theorem rowC_all {P : Cut → Prop} {p : Cut → Cut → Bool} {c : List Cut} (h : ∀ x ∈ c, P x) : ∀ s ∈ rowC p c, P s.lo ∧ P s.hi := fun s hs =>
  makeR_all c h (fun _ hx => by cases hx) s (List.mem_reverse.1 hs)
def makeC (l : List Span) : List Span := rowC (inB l) (cutsC l)
def notC (l : List Span) : List Span := rowC (fun u t => !inB l u t) (cutsC l)
def orC (l m : List Span) : List Span := makeC (l ++ m)
theorem row_cuts {l : List Span} (h : rowMayB l = true) : ∀ s ∈ l, cutMay s.lo = true ∧ cutMay s.hi = true := fun s hs => by
  obtain ⟨k, hk, rfl⟩ := List.getElem_of_mem hs
  have := span_iff.1 ((rowMayB_iff.1 h).1 k hk)
  exact ⟨this.1, this.2.1⟩
theorem notC_may {l : List Span} (h : rowMayB l = true) : rowMayB (notC l) = true := rowC_may (cuts_rise (row_cuts h))
theorem makeC_may {l : List Span} (h : ∀ s ∈ l, cutMay s.lo = true ∧ cutMay s.hi = true) : rowMayB (makeC l) = true := rowC_may (cuts_rise h)
theorem putC_stop : ∀ {l : List Cut} {c : Cut} {k : Nat}, (∀ j, (hj : j < l.length) → j < k → cmpC l[j] c < 0) → k ≤ l.length → (∀ h : k < l.length, ¬ cmpC l[k] c < 0 ∧ ¬ cmpC l[k] c = 0) → putC l c = l.take k ++ c :: l.drop k
  | [], c, k, _, _, _ => by simp [putC]
  | u :: l, c, 0, _, _, hs => by
    have := hs (by simp)
    rw [show putC (u :: l) c = c :: u :: l from (if_neg this.1).trans (if_neg this.2)]
    rfl
  | u :: l, c, k + 1, h, hk, hs => by
    rw [show putC (u :: l) c = u :: putC l c from if_pos (h 0 (by simp) (by omega))]
    rw [putC_stop (l := l) (k := k) (fun j hj hjk => h (j + 1) (by simpa using hj) (by omega)) (by simpa using hk) (fun h2 => hs (by simpa using h2))]
    rfl
theorem putC_same : ∀ {l : List Cut} {c : Cut} {k : Nat}, (∀ j, (hj : j < l.length) → j < k → cmpC l[j] c < 0) → (hk : k < l.length) → cmpC l[k] c = 0 → putC l c = l
  | [], _, _, _, hk, _ => absurd hk (by simp)
  | u :: l, c, 0, _, _, h0 => (if_neg (by have h1 : cmpC u c = 0 := h0; omega)).trans (if_pos h0)
  | u :: l, c, k + 1, h, hk, h0 => by
    rw [show putC (u :: l) c = u :: putC l c from if_pos (h 0 (by simp) (by omega))]
    rw [putC_same (l := l) (k := k) (fun j hj hjk => h (j + 1) (by simpa using hj) (by omega)) (by simpa using hk) h0]
theorem makeR_snoc (p : Cut → Cut → Bool) : ∀ (c : List Cut) (u t : Cut) (o : List Span), makeR p (c ++ [u, t]) o = if p u t = true then growR (makeR p (c ++ [u]) o) u t else makeR p (c ++ [u]) o
  | [], _u, _t, _o => rfl
  | [a], u, t, o => makeR_snoc p [] u t (if p a u = true then growR o a u else o)
  | a :: b :: c, u, t, o => makeR_snoc p (b :: c) u t (if p a b = true then growR o a b else o)
def rowK (p : Cut → Cut → Bool) (C : List Cut) (k : Nat) : List Span := (makeR p (C.take (k + 1)) []).reverse
theorem rowK_zero (p : Cut → Cut → Bool) (C : List Cut) : rowK p C 0 = [] := by
  unfold rowK
  cases C <;> rfl
theorem rowK_succ {p : Cut → Cut → Bool} {C : List Cut} {k : Nat} (hk : k + 1 < C.length) : rowK p C (k + 1) = if p C[k] C[k + 1] = true then growC (rowK p C k) C[k] C[k + 1] else rowK p C k := by
  unfold rowK
  have e1 : C.take (k + 1) = C.take k ++ [C[k]] := List.take_succ_eq_append_getElem (by omega)
  have e2 : C.take (k + 1 + 1) = C.take k ++ [C[k], C[k + 1]] := by rw [List.take_succ_eq_append_getElem hk, e1, List.append_assoc]; rfl
  rw [e1, e2, makeR_snoc]
  split
  · unfold growC
    rw [List.reverse_reverse]
  · rfl
theorem rowK_all {p : Cut → Cut → Bool} {C : List Cut} {k : Nat} (hk : C.length ≤ k + 1) : rowK p C k = rowC p C := by
  unfold rowK rowC
  rw [List.take_of_length_le hk]
theorem rowK_len (p : Cut → Cut → Bool) (C : List Cut) (k : Nat) : (rowK p C k).length ≤ k := by
  unfold rowK
  rw [List.length_reverse]
  have h := makeR_len (p := p) (C.take (k + 1)) []
  have h2 : (C.take (k + 1)).length ≤ k + 1 := by rw [List.length_take]; omega
  have h3 := h
  cases hc : C.take (k + 1) with
  | nil => simp [makeR]
  | cons a c =>
    rw [hc] at h h2
    have h4 : (makeR p (a :: c) []).length + 1 ≤ 1 + c.length := by
      have : ∀ (c : List Cut) (a : Cut) (o : List Span), (makeR p (a :: c) o).length ≤ o.length + c.length := fun c => by
        induction c with
        | nil => intro a o; exact Nat.le_refl _
        | cons t c ih =>
          intro a o
          have h5 := ih t (if p a t = true then growR o a t else o)
          have h6 := growR_len o a t
          have h7 : (if p a t = true then growR o a t else o).length ≤ o.length + 1 := by split <;> omega
          show (makeR p (t :: c) (if p a t = true then growR o a t else o)).length ≤ _
          simp only [List.length_cons]
          omega
      have := this c a []
      simp only [List.length_nil] at this
      omega
    simp only [List.length_cons] at h2
    omega
def makeF (l : List Span) : List Span := if l.all spanMay = true then makeC l else []
def notF (l : List Span) : List Span := if rowMayB l = true then notC l else []
def orF (l m : List Span) : List Span := if rowMayB l = true ∧ rowMayB m = true then makeF (l ++ m) else []
theorem makeF_may (l : List Span) : rowMayB (makeF l) = true := by
  unfold makeF
  split
  · rename_i h
    rw [List.all_eq_true] at h
    exact makeC_may fun s hs => by have := span_iff.1 (h s hs); exact ⟨this.1, this.2.1⟩
  · rfl
theorem notF_may (l : List Span) : rowMayB (notF l) = true := by
  unfold notF
  split
  · rename_i h; exact notC_may h
  · rfl
theorem orF_may (l m : List Span) : rowMayB (orF l m) = true := by
  unfold orF
  split
  · exact makeF_may _
  · rfl
section
variable {P : Cut → Prop} {l m : List Span}
theorem makeF_all (h1 : P (endCut (-1))) (h2 : P (endCut 1)) (h : ∀ s ∈ l, P s.lo ∧ P s.hi) : ∀ s ∈ makeF l, P s.lo ∧ P s.hi := by
  unfold makeF
  split
  · exact rowC_all (cutsC_all h1 h2 h)
  · intro s hs; cases hs
theorem notF_all (h1 : P (endCut (-1))) (h2 : P (endCut 1)) (h : ∀ s ∈ l, P s.lo ∧ P s.hi) : ∀ s ∈ notF l, P s.lo ∧ P s.hi := by
  unfold notF
  split
  · exact rowC_all (cutsC_all h1 h2 h)
  · intro s hs; cases hs
theorem orF_all (h1 : P (endCut (-1))) (h2 : P (endCut 1)) (h : ∀ s ∈ l, P s.lo ∧ P s.hi) (h' : ∀ s ∈ m, P s.lo ∧ P s.hi) : ∀ s ∈ orF l m, P s.lo ∧ P s.hi := by
  unfold orF
  split
  · exact makeF_all h1 h2 fun s hs => by
      rcases List.mem_append.1 hs with hs | hs
      · exact h s hs
      · exact h' s hs
  · intro s hs; cases hs
end
theorem rowC_len (p : Cut → Cut → Bool) (C : List Cut) : (rowC p C).length ≤ C.length := by
  rw [← rowK_all (p := p) (C := C) (k := C.length) (by omega)]
  exact rowK_len p C _
theorem makeF_len (l : List Span) : (makeF l).length ≤ 2 + 2 * l.length := by
  unfold makeF
  split
  · exact Nat.le_trans (rowC_len _ _) (cutsC_len l).2
  · simp
theorem notF_len (l : List Span) : (notF l).length ≤ 2 + 2 * l.length := by
  unfold notF
  split
  · exact Nat.le_trans (rowC_len _ _) (cutsC_len l).2
  · simp
theorem orF_len (l m : List Span) : (orF l m).length ≤ 2 + 2 * (l.length + m.length) := by
  unfold orF
  split
  · have := makeF_len (l ++ m); rwa [List.length_append] at this
  · simp
end
end Go.Proofs.YthneiolcljnbeaaGreatDoor
