import Derived.Test.YtbfbppjccbppiaaGreatDoorzV8
import Derived.Test.YtbfbppjccbppiaaGreatDoorzA
import Derived.BigQuiet
import Derived.Outline
import Derived.Deep.RegionHeld3
namespace Go.Proofs.YtbfbppjccbppiaaGreatDoor
open Go Go.RowKit
section
def zg0 (w : World) (g o : Nat) (s : Span) : Prop := w.cell? ⟨g, o, none⟩ = some (.int .i64 (s).lo.en) ∧ w.cell? ⟨g, o + 1, none⟩ = some (.int .i64 (s).lo.v.major) ∧ w.cell? ⟨g, o + 2, none⟩ = some (.int .i64 (s).lo.v.minor) ∧ w.cell? ⟨g, o + 3, none⟩ = some (.int .i64 (s).lo.v.patch) ∧ w.cell? ⟨g, o + 4, none⟩ = some (.string (s).lo.v.pre) ∧ w.cell? ⟨g, o + 5, none⟩ = some (.string (s).lo.v.build) ∧ w.cell? ⟨g, o + 6, none⟩ = some (.bool (s).lo.after) ∧ w.cell? ⟨g, o + 7, none⟩ = some (.int .i64 (s).hi.en) ∧ w.cell? ⟨g, o + 8, none⟩ = some (.int .i64 (s).hi.v.major) ∧ w.cell? ⟨g, o + 9, none⟩ = some (.int .i64 (s).hi.v.minor) ∧ w.cell? ⟨g, o + 10, none⟩ = some (.int .i64 (s).hi.v.patch) ∧ w.cell? ⟨g, o + 11, none⟩ = some (.string (s).hi.v.pre) ∧ w.cell? ⟨g, o + 12, none⟩ = some (.string (s).hi.v.build) ∧ w.cell? ⟨g, o + 13, none⟩ = some (.bool (s).hi.after)
theorem zg0.below {B : Nat} {w w' : World} (hb : Below B w w') {g o : Nat} (hg : g < B) {s : Span} (h : zg0 w g o s) : zg0 w' g o s := by
 obtain ⟨h0, h1, h2, h3, h4, h5, h6, h7, h8, h9, h10, h11, h12, h13⟩ := h
 exact ⟨cell_below hb hg h0, cell_below hb hg h1, cell_below hb hg h2, cell_below hb hg h3, cell_below hb hg h4, cell_below hb hg h5, cell_below hb hg h6, cell_below hb hg h7, cell_below hb hg h8, cell_below hb hg h9, cell_below hb hg h10, cell_below hb hg h11, cell_below hb hg h12, cell_below hb hg h13⟩
theorem span_at {w : World} {g o : Nat} {s : Span} (h : ∀ j u, (qd6.cells s)[j]? = some u → w.cell? ⟨g, o + j, none⟩ = some u) : zg0 w g o s :=
 ⟨h 0 _ rfl, h 1 _ rfl, h 2 _ rfl, h 3 _ rfl, h 4 _ rfl, h 5 _ rfl, h 6 _ rfl, h 7 _ rfl, h 8 _ rfl, h 9 _ rfl, h 10 _ rfl, h 11 _ rfl, h 12 _ rfl, h 13 _ rfl⟩
theorem zg0.later {w : World} {g o : Nat} (hg : g < w.heap.size) {s : Span} (h : zg0 w g o s) : (∀ e : Later w, e.w.cell? ⟨g, o, none⟩ = some (.int .i64 (s).lo.en)) ∧ (∀ e : Later w, e.w.cell? ⟨g, o + 1, none⟩ = some (.int .i64 (s).lo.v.major)) ∧ (∀ e : Later w, e.w.cell? ⟨g, o + 2, none⟩ = some (.int .i64 (s).lo.v.minor)) ∧ (∀ e : Later w, e.w.cell? ⟨g, o + 3, none⟩ = some (.int .i64 (s).lo.v.patch)) ∧ (∀ e : Later w, e.w.cell? ⟨g, o + 4, none⟩ = some (.string (s).lo.v.pre)) ∧ (∀ e : Later w, e.w.cell? ⟨g, o + 5, none⟩ = some (.string (s).lo.v.build)) ∧ (∀ e : Later w, e.w.cell? ⟨g, o + 6, none⟩ = some (.bool (s).lo.after)) ∧ (∀ e : Later w, e.w.cell? ⟨g, o + 7, none⟩ = some (.int .i64 (s).hi.en)) ∧ (∀ e : Later w, e.w.cell? ⟨g, o + 8, none⟩ = some (.int .i64 (s).hi.v.major)) ∧ (∀ e : Later w, e.w.cell? ⟨g, o + 9, none⟩ = some (.int .i64 (s).hi.v.minor)) ∧ (∀ e : Later w, e.w.cell? ⟨g, o + 10, none⟩ = some (.int .i64 (s).hi.v.patch)) ∧ (∀ e : Later w, e.w.cell? ⟨g, o + 11, none⟩ = some (.string (s).hi.v.pre)) ∧ (∀ e : Later w, e.w.cell? ⟨g, o + 12, none⟩ = some (.string (s).hi.v.build)) ∧ (∀ e : Later w, e.w.cell? ⟨g, o + 13, none⟩ = some (.bool (s).hi.after)) := by
 obtain ⟨h0, h1, h2, h3, h4, h5, h6, h7, h8, h9, h10, h11, h12, h13⟩ := h
 exact ⟨qa2 hg h0, qa2 hg h1, qa2 hg h2, qa2 hg h3, qa2 hg h4, qa2 hg h5, qa2 hg h6, qa2 hg h7, qa2 hg h8, qa2 hg h9, qa2 hg h10, qa2 hg h11, qa2 hg h12, qa2 hg h13⟩
def qj1 (l : List Span) : Bool := (List.range l.length).all fun k => qj2 l[k]! && !(decide (0 < k) && decide (0 ≤ cmpC l[k-1]!.hi l[k]!.lo))
def qq1 (l : List Span) (k : Nat) : Bool := !(qj2 l[k]! && !(decide (0 < k) && decide (0 ≤ cmpC l[k-1]!.hi l[k]!.lo)))
theorem zo7 {l : List Span} {k : Nat} (hk : k < l.length) (h : qq1 l k = true) : qj1 l = false := by
 unfold qj1
 rw [List.all_eq_false]
 refine ⟨k, List.mem_range.2 hk, ?_⟩
 unfold qq1 at h
 rw [Bool.not_eq_true'] at h
 rw [h]
 simp
theorem rowMay_good {l : List Span} (h : ∀ k, k < l.length → qq1 l k = false) : qj1 l = true := by
 unfold qj1
 rw [List.all_eq_true]
 intro k hk
 have := h k (List.mem_range.1 hk)
 unfold qq1 at this
 rw [Bool.not_eq_false'] at this
 exact this
theorem zd2 {l : List Span} {k : Nat} (hk : k < l.length) (hk0 : 0 < k) : qq1 l k = !(qj2 l[k] && !(decide (0 ≤ cmpC (l[k-1]'(by omega)).hi l[k].lo))) := by
 unfold qq1
 rw [getElem!_pos l k hk, getElem!_pos l (k-1) (by omega), decide_eq_true hk0, Bool.true_and]
theorem zj8 {l : List Span} {k : Nat} (hk : k < l.length) (hk0 : k = 0) : qq1 l k = !(qj2 l[k]) := by
 unfold qq1
 rw [getElem!_pos l k hk, decide_eq_false (by omega), Bool.false_and]
 simp
def cutA (u : Cut) : Value := .agg #[.int .i64 u.en, .int .i64 u.v.major, .int .i64 u.v.minor, .int .i64 u.v.patch, .string u.v.pre, .string u.v.build, .bool u.after]
theorem smay_s (s : Span) (w : World) (h : s.B) :
  Calls Tryz.prog 179 #[.agg #[.int .i64 s.lo.en, .int .i64 s.lo.v.major, .int .i64 s.lo.v.minor, .int .i64 s.lo.v.patch, .string s.lo.v.pre, .string s.lo.v.build, .bool s.lo.after, .int .i64 s.hi.en, .int .i64 s.hi.v.major, .int .i64 s.hi.v.minor, .int .i64 s.hi.v.patch, .string s.hi.v.pre, .string s.hi.v.build, .bool s.hi.after]] w fun e w' => e = .returned (.bool (qj2 s)) ∧ Below w.heap.size w w' :=
 qv6 _ _ _ _ _ _ _ _ _ _ _ _ _ _ w h.1.2 h.2.2
theorem qo5 (u v : Cut) (w : World) (hu : u.B) (hv : v.B) :
  Calls Tryz.prog 180 #[.agg #[.int .i64 u.en, .int .i64 u.v.major, .int .i64 u.v.minor, .int .i64 u.v.patch, .string u.v.pre, .string u.v.build, .bool u.after], .agg #[.int .i64 v.en, .int .i64 v.v.major, .int .i64 v.v.minor, .int .i64 v.v.patch, .string v.v.pre, .string v.v.build, .bool v.after]] w fun e w' => e = .returned (.int .i64 (cmpC u v)) ∧ Below w.heap.size w w' :=
 qz0 _ _ _ _ _ _ _ _ _ _ _ _ _ _ w hu.2 hv.2
theorem SliceRd.spans {w : World} {F : Nat → Prop} {v : Value} {l : List Span} (h : SliceRd qd6.ty w F v l) :
  ∃ A cap, v = .slice A l.length cap ∧ l.length ≤ cap ∧ cap ≤ maxLen ∧ ∀ k, (hk : k < l.length) → ∃ g o, A = some ⟨g, o, none⟩ ∧ F g ∧ l[k].B ∧ zg0 w g (o + k * 14) l[k] := by
 obtain ⟨A, cap, hv, h1, h2, h3⟩ := h.flat
 refine ⟨A, cap, hv, h1, h2, fun k hk => ?_⟩
 obtain ⟨g, o, hA, hF, hB, hc⟩ := h3 k hk
 exact ⟨g, o, hA, hF, hB, span_at hc⟩
set_option maxRecDepth 100000 in
set_option maxHeartbeats 1000000 in
theorem qh4 (v : Value) (l : List Span) (w : World) (h : SliceRd qd6.ty w (Lt w.heap.size) v l) :
  Calls Tryz.prog 156 #[v] w fun e w' => e = .returned (.bool (qj1 l)) ∧ Below w.heap.size w w' := by
 obtain ⟨A, cap, rfl, hcap, hmax, hc⟩ := h.spans
 have HC := hid hc
 unfold maxLen at hmax
 clear h hc
 go_enter Tryz.func156, Tryz.ntmps156
 go_wp2
 go_loopw [3] (fun iv wr => ∃ k : Nat, k ≤ l.length ∧ iv = .int .i64 k ∧ Hid (∀ i, i < k → qq1 l i = false) ∧ Hid (Below w.heap.size w wr)) (fun iv _ => l.length - (intOf iv).toNat)
 case atStart => exact ⟨0, Nat.zero_le _, rfl, hid (fun i hi => absurd hi (by omega)), hid (b0 w)⟩
 case round =>
  obtain ⟨k, hk, rfl, hgood, hb⟩ := hrel
  by_cases hlt : k < l.length
  ·obtain ⟨g, o, hA, hF, hB, hat⟩ := HC.out k hlt
   cases hA
   have HBB := hid hB
   have hbb : g < wr.heap.size := Nat.lt_of_lt_of_le hF hb.out.size
   have hat' := hat.below hb.out hF
   have HAT := hid hat'
   obtain ⟨c0, c1, c2, c3, c4, c5, c6, c7, c8, c9, c10, c11, c12, c13⟩ := hat'.later hbb
   clear hat'
   clear hat hB
   have i1 : (0 : Int) ≤ ↑k := by omega
   have i2 : (↑k : Int) < ↑l.length := by omega
   cases hs : qj2 l[k] with
   | false =>
    have HS := hid hs
    have HBAD : Hid (qq1 l k = true) := hid (by
     by_cases h0 : k = 0
     ·rw [zj8 hlt h0, hs]; rfl
     ·rw [zd2 hlt (by omega), hs]; rfl)
    clear hs
    go_wp2
    refine qa3 (by kernel_rfl) (by kernel_rfl) ?_
    repeat (go_big_quiet_step ((go_at_call 179; exact Calls.later (smay_s l[k] _ HBB.out) (congrArg Value.bool HS.out))))
    refine wpQuiet_nil ?_
    rintro _ ⟨⟨w1, hb1⟩, rfl⟩
    go_wp2
    go_ret
    exact ⟨qa4 (zo7 hlt HBAD.out).symm, qa1 hb.out hb1⟩
   | true =>
    have HS := hid hs
    by_cases h0 : k = 0
    ·have HOK : Hid (qq1 l k = false) := hid (by rw [zj8 hlt h0, hs]; rfl)
     have z1 : decide (0 < k) = false := decide_eq_false (by omega)
     have z2 : decide ((0 : Int) < ↑k) = false := decide_eq_false (by omega)
     clear hs h0
     go_wp2
     refine qa3 (by kernel_rfl) (by kernel_rfl) ?_
     repeat (go_big_quiet_step ((go_at_call 179; exact Calls.later (smay_s l[k] _ HBB.out) (congrArg Value.bool HS.out))))
     refine wpQuiet_nil ?_
     rintro _ ⟨⟨w1, hb1⟩, rfl⟩
     go_wp2
     go_roundw
     case rel => exact ⟨k + 1, by omega, by go_num, hid (fun i hi => if e : i = k then by subst e; exact HOK.out else hgood.out i (by omega)), hid (qa1 hb.out hb1)⟩
     case measure => simp [intOf]; omega
    ·obtain ⟨g2, o2, hA2, hF2, hB2, hat2⟩ := HC.out (k - 1) (by omega)
     cases hA2
     have HBB2 := hid hB2
     obtain ⟨e0, e1, e2, e3, e4, e5, e6, e7, e8, e9, e10, e11, e12, e13⟩ := (hat2.below hb.out hF2).later hbb
     clear hat2 hB2
     have i3 : (0 : Int) ≤ ↑k - 1 := by omega
     have i4 : (↑k : Int) - 1 < ↑l.length := by omega
     have i5 : ((↑k : Int) - 1).toNat = k - 1 := by omega
     have i6 : IntKind.i64.wrap (↑k - 1) = (↑k : Int) - 1 := IntWalk.i64_in _ (by omega)
     have z1 : decide (0 < k) = true := decide_eq_true (by omega)
     have hk1 : k - 1 < l.length := by omega
     by_cases hcm : 0 ≤ cmpC (l[k-1]'hk1).hi l[k].lo
     ·have HBAD : Hid (qq1 l k = true) := hid (by rw [zd2 hlt (by omega), hs, decide_eq_true hcm]; rfl)
      have z2 : decide (0 ≤ cmpC (l[k-1]'hk1).hi l[k].lo) = true := decide_eq_true hcm
      clear hs h0
      go_wp2
      refine qa3 (by kernel_rfl) (by kernel_rfl) ?_
      repeat (go_big_quiet_step ((first
       | (go_at_call 179; exact Calls.later (smay_s l[k] _ HBB.out) (congrArg Value.bool HS.out))
       | (go_at_call 180; exact Calls.later (qo5 (l[k-1]'hk1).hi l[k].lo _ HBB2.out.2 HBB.out.1) rfl))))
      refine wpQuiet_nil ?_
      rintro _ ⟨⟨w1, hb1⟩, rfl⟩
      go_wp2
      go_ret
      exact ⟨qa4 (zo7 hlt HBAD.out).symm, qa1 hb.out hb1⟩
     ·have HOK : Hid (qq1 l k = false) := hid (by rw [zd2 hlt (by omega), hs, decide_eq_false hcm]; rfl)
      have z2 : decide (0 ≤ cmpC (l[k-1]'hk1).hi l[k].lo) = false := decide_eq_false hcm
      clear hs h0
      go_wp2
      refine qa3 (by kernel_rfl) (by kernel_rfl) ?_
      repeat (go_big_quiet_step ((first
       | (go_at_call 179; exact Calls.later (smay_s l[k] _ HBB.out) (congrArg Value.bool HS.out))
       | (go_at_call 180; exact Calls.later (qo5 (l[k-1]'hk1).hi l[k].lo _ HBB2.out.2 HBB.out.1) rfl))))
      refine wpQuiet_nil ?_
      rintro _ ⟨⟨w1, hb1⟩, rfl⟩
      go_wp2
      go_roundw
      case rel => exact ⟨k + 1, by omega, by go_num, hid (fun i hi => if e : i = k then by subst e; exact HOK.out else hgood.out i (by omega)), hid (qa1 hb.out hb1)⟩
      case measure => simp [intOf]; omega
  ·have HN : Hid (qj1 l = true) := hid (rowMay_good (fun i hi => hgood.out i (by omega)))
   go_wp2
   go_ret
   exact ⟨qa4 HN.out.symm, hb.out⟩
end
section
def CutAt (w : World) (g o : Nat) (c : Cut) : Prop := w.cell? ⟨g, o, none⟩ = some (.int .i64 c.en) ∧ w.cell? ⟨g, o + 1, none⟩ = some (.int .i64 c.v.major) ∧ w.cell? ⟨g, o + 2, none⟩ = some (.int .i64 c.v.minor) ∧ w.cell? ⟨g, o + 3, none⟩ = some (.int .i64 c.v.patch) ∧ w.cell? ⟨g, o + 4, none⟩ = some (.string c.v.pre) ∧ w.cell? ⟨g, o + 5, none⟩ = some (.string c.v.build) ∧ w.cell? ⟨g, o + 6, none⟩ = some (.bool c.after)
theorem CutAt.below {B : Nat} {w w' : World} (hb : Below B w w') {g o : Nat} (hg : g < B) {c : Cut} (h : CutAt w g o c) : CutAt w' g o c := by
 obtain ⟨h0, h1, h2, h3, h4, h5, h6⟩ := h
 exact ⟨cell_below hb hg h0, cell_below hb hg h1, cell_below hb hg h2, cell_below hb hg h3, cell_below hb hg h4, cell_below hb hg h5, cell_below hb hg h6⟩
theorem CutAt.later {w : World} {g o : Nat} (hg : g < w.heap.size) {c : Cut} (h : CutAt w g o c) : (∀ e : Later w, e.w.cell? ⟨g, o, none⟩ = some (.int .i64 c.en)) ∧ (∀ e : Later w, e.w.cell? ⟨g, o + 1, none⟩ = some (.int .i64 c.v.major)) ∧ (∀ e : Later w, e.w.cell? ⟨g, o + 2, none⟩ = some (.int .i64 c.v.minor)) ∧ (∀ e : Later w, e.w.cell? ⟨g, o + 3, none⟩ = some (.int .i64 c.v.patch)) ∧ (∀ e : Later w, e.w.cell? ⟨g, o + 4, none⟩ = some (.string c.v.pre)) ∧ (∀ e : Later w, e.w.cell? ⟨g, o + 5, none⟩ = some (.string c.v.build)) ∧ (∀ e : Later w, e.w.cell? ⟨g, o + 6, none⟩ = some (.bool c.after)) := by
 obtain ⟨h0, h1, h2, h3, h4, h5, h6⟩ := h
 exact ⟨qa2 hg h0, qa2 hg h1, qa2 hg h2, qa2 hg h3, qa2 hg h4, qa2 hg h5, qa2 hg h6⟩
theorem cut_at {w : World} {g o : Nat} {c : Cut} (h : ∀ j u, (fCut.cells c)[j]? = some u → w.cell? ⟨g, o + j, none⟩ = some u) : CutAt w g o c :=
 ⟨h 0 _ rfl, h 1 _ rfl, h 2 _ rfl, h 3 _ rfl, h 4 _ rfl, h 5 _ rfl, h 6 _ rfl⟩
def BoxC (w : World) (g : Nat) (c : Cut) : Prop := w.cell? ⟨g, 0, none⟩ = some (.int .i64 c.en) ∧ w.cell? ⟨g, 1, none⟩ = some (.int .i64 c.v.major) ∧ w.cell? ⟨g, 2, none⟩ = some (.int .i64 c.v.minor) ∧ w.cell? ⟨g, 3, none⟩ = some (.int .i64 c.v.patch) ∧ w.cell? ⟨g, 4, none⟩ = some (.string c.v.pre) ∧ w.cell? ⟨g, 5, none⟩ = some (.string c.v.build) ∧ w.cell? ⟨g, 6, none⟩ = some (.bool c.after)
theorem BoxC.below {B : Nat} {w w' : World} (hb : Below B w w') {g : Nat} (hg : g < B) {c : Cut} (h : BoxC w g c) : BoxC w' g c := by
 obtain ⟨h0, h1, h2, h3, h4, h5, h6⟩ := h
 exact ⟨cell_below hb hg h0, cell_below hb hg h1, cell_below hb hg h2, cell_below hb hg h3, cell_below hb hg h4, cell_below hb hg h5, cell_below hb hg h6⟩
theorem BoxC.later {w : World} {g : Nat} (hg : g < w.heap.size) {c : Cut} (h : BoxC w g c) : (∀ e : Later w, e.w.cell? ⟨g, 0, none⟩ = some (.int .i64 c.en)) ∧ (∀ e : Later w, e.w.cell? ⟨g, 1, none⟩ = some (.int .i64 c.v.major)) ∧ (∀ e : Later w, e.w.cell? ⟨g, 2, none⟩ = some (.int .i64 c.v.minor)) ∧ (∀ e : Later w, e.w.cell? ⟨g, 3, none⟩ = some (.int .i64 c.v.patch)) ∧ (∀ e : Later w, e.w.cell? ⟨g, 4, none⟩ = some (.string c.v.pre)) ∧ (∀ e : Later w, e.w.cell? ⟨g, 5, none⟩ = some (.string c.v.build)) ∧ (∀ e : Later w, e.w.cell? ⟨g, 6, none⟩ = some (.bool c.after)) := by
 obtain ⟨h0, h1, h2, h3, h4, h5, h6⟩ := h
 exact ⟨qa2 hg h0, qa2 hg h1, qa2 hg h2, qa2 hg h3, qa2 hg h4, qa2 hg h5, qa2 hg h6⟩
theorem BoxC.new (w : World) (u : Cut) (T : TypeId) : BoxC (w.alloc (.cells #[.int .i64 u.en, .int .i64 u.v.major, .int .i64 u.v.minor, .int .i64 u.v.patch, .string u.v.pre, .string u.v.build, .bool u.after] T)) w.heap.size u := by
 have h := heap_alloc_new w (.cells #[.int .i64 u.en, .int .i64 u.v.major, .int .i64 u.v.minor, .int .i64 u.v.patch, .string u.v.pre, .string u.v.build, .bool u.after] T)
 refine ⟨?_, ?_, ?_, ?_, ?_, ?_, ?_⟩ <;> (rw [cell_of_row _ _ _ _ T (0, 0) h]; rfl)
theorem SliceRd.cuts {w : World} {F : Nat → Prop} {v : Value} {l : List Cut} (h : SliceRd fCut.ty w F v l) :
  ∃ A cap, v = .slice A l.length cap ∧ l.length ≤ cap ∧ cap ≤ maxLen ∧ ∀ k, (hk : k < l.length) → ∃ g o, A = some ⟨g, o, none⟩ ∧ F g ∧ l[k].B ∧ CutAt w g (o + k * 7) l[k] := by
 obtain ⟨A, cap, hv, h1, h2, h3⟩ := h.flat
 refine ⟨A, cap, hv, h1, h2, fun k hk => ?_⟩
 obtain ⟨g, o, hA, hF, hB, hc⟩ := h3 k hk
 exact ⟨g, o, hA, hF, hB, cut_at hc⟩
def inB (l : List Span) (f t : Cut) : Bool := l.any fun s => decide (cmpC s.lo f ≤ 0) && decide (cmpC t s.hi ≤ 0)
set_option maxRecDepth 100000 in
set_option maxHeartbeats 1000000 in
theorem in_any (lv : Value) (l : List Span) (u v : Cut) (w : World) (h : SliceRd qd6.ty w (Lt w.heap.size) lv l) (hu : u.B) (hv : v.B) :
  Calls Tryz.prog 160 #[lv, .agg #[.int .i64 u.en, .int .i64 u.v.major, .int .i64 u.v.minor, .int .i64 u.v.patch, .string u.v.pre, .string u.v.build, .bool u.after], .agg #[.int .i64 v.en, .int .i64 v.v.major, .int .i64 v.v.minor, .int .i64 v.v.patch, .string v.v.pre, .string v.v.build, .bool v.after]] w fun e w' => e = .returned (.bool (inB l u v)) ∧ Below w.heap.size w w' := by
 obtain ⟨A, cap, rfl, hcap, hmax, hc⟩ := h.spans
 have HC := hid hc
 have HU := hid hu
 have HV := hid hv
 unfold maxLen at hmax
 clear h hc hu hv
 go_enter Tryz.func160, Tryz.ntmps160
 go_wp2
 obtain ⟨w0, hw0⟩ : ∃ w0 : World, w0 = (w.alloc (.cells #[.int .i64 u.en, .int .i64 u.v.major, .int .i64 u.v.minor, .int .i64 u.v.patch, .string u.v.pre, .string u.v.build, .bool u.after] 116)).alloc (.cells #[.int .i64 v.en, .int .i64 v.v.major, .int .i64 v.v.minor, .int .i64 v.v.patch, .string v.v.pre, .string v.v.build, .bool v.after] 116) := ⟨_, rfl⟩
 have hb0 : Below w.heap.size w w0 := by rw [hw0]; exact qa0 (qa0 (b0 w) _) _
 have hx1 : BoxC w0 w.heap.size u := by rw [hw0]; exact (BoxC.new w u _).below (qa0 (b0 _) _) (by simp)
 have hx2 : BoxC w0 (w.heap.size + 1) v := by
  rw [hw0]
  have := BoxC.new (w.alloc (.cells #[.int .i64 u.en, .int .i64 u.v.major, .int .i64 u.v.minor, .int .i64 u.v.patch, .string u.v.pre, .string u.v.build, .bool u.after] 116)) v 116
  rwa [World.size_alloc] at this
 have hz : w.heap.size + 1 < w0.heap.size := by rw [hw0]; simp
 rw [← hw0]
 have HB0 := hid hb0
 have HX1 := hid hx1
 have HX2 := hid hx2
 clear hw0 hb0 hx1 hx2
 go_loopw [7] (fun iv wr => ∃ k : Nat, k ≤ l.length ∧ iv = .int .i64 k ∧ Hid (inB (l.take k) u v = false) ∧ Hid (Below w0.heap.size w0 wr)) (fun iv _ => l.length - (intOf iv).toNat)
 case atStart => exact ⟨0, Nat.zero_le _, rfl, hid rfl, hid (b0 _)⟩
 case round =>
  obtain ⟨k, hk, rfl, hno, hbr⟩ := hrel
  by_cases hlt : k < l.length
  ·obtain ⟨g, o, hA, hF, hB, hat⟩ := HC.out k hlt
   cases hA
   have HBL := hid hB.1
   have HBH := hid hB.2
   have hzr : w.heap.size + 1 < wr.heap.size := Nat.lt_of_lt_of_le hz hbr.out.size
   have hgw : g < w.heap.size := hF
   obtain ⟨c0, c1, c2, c3, c4, c5, c6, d0, d1, d2, d3, d4, d5, d6⟩ := (hat.below (HB0.out.trans (hbr.out.mono HB0.out.size)) hF).later (show g < wr.heap.size by omega)
   obtain ⟨e0, e1, e2, e3, e4, e5, e6⟩ := (HX1.out.below hbr.out (by omega)).later (show w.heap.size < wr.heap.size by omega)
   obtain ⟨f0, f1, f2, f3, f4, f5, f6⟩ := (HX2.out.below hbr.out hz).later hzr
   have HIN := hid (show inB (l.take (k + 1)) u v = (inB (l.take k) u v || (decide (cmpC l[k].lo u ≤ 0) && decide (cmpC v l[k].hi ≤ 0))) by unfold inB; rw [List.take_succ_eq_append_getElem hlt, List.any_append]; simp)
   have HINB := hid (show (decide (cmpC l[k].lo u ≤ 0) && decide (cmpC v l[k].hi ≤ 0)) = true → inB l u v = true by
    intro h
    unfold inB
    rw [List.any_eq_true]
    exact ⟨l[k], List.getElem_mem hlt, h⟩)
   clear hat hB
   have i1 : (0 : Int) ≤ ↑k := by omega
   have i2 : (↑k : Int) < ↑l.length := by omega
   by_cases q1 : cmpC l[k].lo u ≤ 0
   ·have z1 : decide (cmpC l[k].lo u ≤ 0) = true := decide_eq_true q1
    by_cases q2 : cmpC v l[k].hi ≤ 0
    ·have z2 : decide (cmpC v l[k].hi ≤ 0) = true := decide_eq_true q2
     have HRES := hid (HINB.out (by rw [z1, z2]; rfl))
     clear q1 q2
     go_wp2
     refine qa3 (by kernel_rfl) (by kernel_rfl) ?_
     repeat (go_big_quiet_step ((first
       | (go_at_call 180; (with_reducible exact Calls.later (qo5 l[k].lo u _ HBL.out HU.out) rfl))
       | (go_at_call 180; (with_reducible exact Calls.later (qo5 v l[k].hi _ HV.out HBH.out) rfl)))))
     refine wpQuiet_nil ?_
     rintro _ ⟨⟨w1, hb1⟩, rfl⟩
     go_wp2
     go_ret
     exact ⟨qa4 HRES.out.symm, qa1 (HB0.out.trans (hbr.out.mono HB0.out.size)) hb1⟩
    ·have z2 : decide (cmpC v l[k].hi ≤ 0) = false := decide_eq_false q2
     have HRES := hid (show inB (l.take (k + 1)) u v = false by rw [HIN.out, hno.out, z1, z2]; rfl)
     clear q1 q2
     go_wp2
     refine qa3 (by kernel_rfl) (by kernel_rfl) ?_
     repeat (go_big_quiet_step ((first
       | (go_at_call 180; (with_reducible exact Calls.later (qo5 l[k].lo u _ HBL.out HU.out) rfl))
       | (go_at_call 180; (with_reducible exact Calls.later (qo5 v l[k].hi _ HV.out HBH.out) rfl)))))
     refine wpQuiet_nil ?_
     rintro _ ⟨⟨w1, hb1⟩, rfl⟩
     go_wp2
     exact ⟨⟨k + 1, by omega, by go_num, HRES, hid (qa1 hbr.out hb1)⟩, by simp [intOf]; omega⟩
   ·have z1 : decide (cmpC l[k].lo u ≤ 0) = false := decide_eq_false q1
    have HRES := hid (show inB (l.take (k + 1)) u v = false by rw [HIN.out, hno.out, z1]; rfl)
    clear q1
    go_wp2
    refine qa3 (by kernel_rfl) (by kernel_rfl) ?_
    repeat (go_big_quiet_step ((first
      | (go_at_call 180; (with_reducible exact Calls.later (qo5 l[k].lo u _ HBL.out HU.out) rfl))
      | (go_at_call 180; (with_reducible exact Calls.later (qo5 v l[k].hi _ HV.out HBH.out) rfl)))))
    refine wpQuiet_nil ?_
    rintro _ ⟨⟨w1, hb1⟩, rfl⟩
    go_wp2
    exact ⟨⟨k + 1, by omega, by go_num, HRES, hid (qa1 hbr.out hb1)⟩, by simp [intOf]; omega⟩
  ·have HRES := hid (show inB l u v = false by have := hno.out; rwa [List.take_of_length_le (by omega)] at this)
   go_wp2
   go_ret
   exact ⟨qa4 HRES.out.symm, HB0.out.trans (hbr.out.mono HB0.out.size)⟩
end
end Go.Proofs.YtbfbppjccbppiaaGreatDoor
