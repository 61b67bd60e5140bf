import Derived.Test.YthneiolcljnbeaaGreatDoorV12
import Derived.Outline
namespace Go.Proofs.YthneiolcljnbeaaGreatDoor
open Go Go.RowKit
section
def CutsPost (l : List Span) (w : World) (e : Ending) (w' : World) : Prop := ∃ A c, e = .returned (.slice A (cutsC l).length c) ∧ SliceRd fCut.ty w' (Lt w'.heap.size) (.slice A (cutsC l).length c) (cutsC l) ∧ Below w.heap.size w w'
def cutsK (l : List Span) (k : Nat) : List Cut := (l.take k).foldl (fun o s => putC (putC o s.lo) s.hi) [endCut (-1), endCut 1]
theorem cutsK_succ {l : List Span} {k : Nat} (hk : k < l.length) : cutsK l (k + 1) = putC (putC (cutsK l k) l[k].lo) l[k].hi := by
 unfold cutsK
 rw [List.take_succ_eq_append_getElem hk, List.foldl_append]
 rfl
theorem cutsK_all (l : List Span) : cutsK l l.length = cutsC l := by
 unfold cutsK cutsC
 rw [List.take_length]
theorem cutsK_len (l : List Span) (k : Nat) : 1 ≤ (cutsK l k).length ∧ (cutsK l k).length ≤ 2 + 2 * k := by
 have h := cuts_len (l.take k) [endCut (-1), endCut 1]
 have h2 : (l.take k).length ≤ k := by rw [List.length_take]; omega
 unfold cutsK
 simp only [List.length_cons, List.length_nil] at h
 omega
theorem endCut_B {n : Int} (h : n = -1 ∨ n = 1) : (endCut n).B := by
 refine ⟨by simp only [endCut]; omega, ?_⟩
 exact vb_zero
theorem ends_rd (w : World) : SliceRd fCut.ty (w.alloc (.cells #[.int .i64 (-1), .int .i64 0, .int .i64 0, .int .i64 0, .string ⟨#[]⟩, .string ⟨#[]⟩, .bool false, .int .i64 1, .int .i64 0, .int .i64 0, .int .i64 0, .string ⟨#[]⟩, .string ⟨#[]⟩, .bool false] 103)) (Lt (w.heap.size + 1)) (.slice (some ⟨w.heap.size, 0, none⟩) 2 2) [endCut (-1), endCut 1] := by
 have hown : (w.alloc (.cells #[.int .i64 (-1), .int .i64 0, .int .i64 0, .int .i64 0, .string ⟨#[]⟩, .string ⟨#[]⟩, .bool false, .int .i64 1, .int .i64 0, .int .i64 0, .int .i64 0, .string ⟨#[]⟩, .string ⟨#[]⟩, .bool false] 103)).ownsRow 0 103 7 (.slice (some ⟨w.heap.size, 0, none⟩) 2 2) 2 (fCut.all [endCut (-1), endCut 1]) :=
  ⟨rfl, .inr ⟨w.heap.size, 2, _, rfl, by omega, heap_alloc_new w _, Nat.le_refl _, by unfold maxLen; omega, by decide, rfl⟩⟩
 refine rd_of_ownF (f := fCut) hown (fun x hx => ?_) (fun g hg => ?_)
 ·rcases List.mem_cons.1 hx with rfl | hx
  ·exact endCut_B (.inl rfl)
  ·rcases List.mem_cons.1 hx with rfl | hx
   ·exact endCut_B (.inr rfl)
   ·cases hx
 ·injection hg with hg
  have hg' : w.heap.size = g := hg
  show g < w.heap.size + 1
  omega
set_option maxRecDepth 100000 in
set_option maxHeartbeats 2000000 in
theorem cuts_any (lv : Value) (l : List Span) (w : World) (h : SliceRd fSpan.ty w (Lt w.heap.size) lv l) (hl : l.length ≤ 10000) :
  Calls Tryz.prog 116 #[lv] w (CutsPost l w) := by
 obtain ⟨A, cap, rfl, hcap, hmax, hc⟩ := h.spans
 have HC := hid hc
 unfold maxLen at hmax
 clear h hc
 go_enter Tryz.func116, Tryz.ntmps116
 go_wp2_with (first
  | (go_at_call 73; refine (first_any _).mono ?_; rintro e w1 ⟨rfl, hb1⟩)
  | (go_at_call 75; refine (last_any _).mono ?_; rintro e w2 ⟨rfl, hb2⟩; have HB0 := hid (bstep hb1 hb2)))
 have HE := hid (ends_rd w2)
 have HB3 := hid (balloc HB0.out (.cells #[.int .i64 (-1), .int .i64 0, .int .i64 0, .int .i64 0, .string ⟨#[]⟩, .string ⟨#[]⟩, .bool false, .int .i64 1, .int .i64 0, .int .i64 0, .int .i64 0, .string ⟨#[]⟩, .string ⟨#[]⟩, .bool false] 103))
 go_loopw [3, 4] (fun ov iv wr => ∃ k : Nat, k ≤ l.length ∧ iv = .int .i64 k ∧ Hid (SliceRd fCut.ty wr (Lt wr.heap.size) ov (cutsK l k)) ∧ Hid (Below w.heap.size w wr)) (fun _ iv _ => l.length - (intOf iv).toNat)
 case atStart => exact ⟨0, Nat.zero_le _, rfl, hid (by simpa [cutsK] using HE.out), HB3⟩
 case round =>
  obtain ⟨k, hk, rfl, hout, hb⟩ := hrel
  have hrd := hout.out
  have hl1 := (cutsK_len l k).1
  have hl2 := (cutsK_len l k).2
  by_cases hlt : k < l.length
  ·have HKS := hid (cutsK_succ hlt)
   obtain ⟨l', hl'⟩ : ∃ l', cutsK l k = l' := ⟨_, rfl⟩
   rw [hl'] at hrd hl1 hl2 HKS
   obtain ⟨g, o, hA, hF, hB, hat⟩ := HC.out k hlt
   cases hA
   obtain ⟨s, hs⟩ : ∃ s, s = l[k] := ⟨_, rfl⟩
   rw [← hs] at hB hat HKS
   have hp1 := putC_len l' s.lo
   obtain ⟨l3, hl3⟩ : ∃ l3, putC l' s.lo = l3 := ⟨_, rfl⟩
   have HL3 := hid hl3
   rw [hl3] at hp1 HKS
   clear hs hl' hl3 hout
   have HLO := hid hB.1
   have HHI := hid hB.2
   have HRD := hid hrd
   have hgw : g < wr.heap.size := Nat.lt_of_lt_of_le hF hb.out.size
   have HAT := hid (hat.below hb.out hF)
   obtain ⟨c0, c1, c2, c3, c4, c5, c6, c7, c8, c9, c10, c11, c12, c13⟩ := HAT.out
   clear hat hB hrd
   have i1 : (0 : Int) ≤ ↑k := by omega
   have i2 : (↑k : Int) < ↑l.length := by omega
   go_wp2
   first
    | go_must (go_region_held3 (fun w' => w'.cell? ⟨g, o + k * 14, none⟩ = some (.int .i64 s.lo.en) ∧ w'.cell? ⟨g, o + k * 14 + 1, none⟩ = some (.int .i64 s.lo.v.major) ∧ w'.cell? ⟨g, o + k * 14 + 2, none⟩ = some (.int .i64 s.lo.v.minor) ∧ w'.cell? ⟨g, o + k * 14 + 3, none⟩ = some (.int .i64 s.lo.v.patch) ∧ w'.cell? ⟨g, o + k * 14 + 4, none⟩ = some (.string s.lo.v.pre) ∧ w'.cell? ⟨g, o + k * 14 + 5, none⟩ = some (.string s.lo.v.build) ∧ w'.cell? ⟨g, o + k * 14 + 6, none⟩ = some (.bool s.lo.after) ∧ w'.cell? ⟨g, o + k * 14 + 7, none⟩ = some (.int .i64 s.hi.en) ∧ w'.cell? ⟨g, o + k * 14 + 8, none⟩ = some (.int .i64 s.hi.v.major) ∧ w'.cell? ⟨g, o + k * 14 + 9, none⟩ = some (.int .i64 s.hi.v.minor) ∧ w'.cell? ⟨g, o + k * 14 + 10, none⟩ = some (.int .i64 s.hi.v.patch) ∧ w'.cell? ⟨g, o + k * 14 + 11, none⟩ = some (.string s.hi.v.pre) ∧ w'.cell? ⟨g, o + k * 14 + 12, none⟩ = some (.string s.hi.v.build) ∧ w'.cell? ⟨g, o + k * 14 + 13, none⟩ = some (.bool s.hi.after)) (first | exact ⟨by assumption, by assumption, by assumption, by assumption, by assumption, by assumption, by assumption, by assumption, by assumption, by assumption, by assumption, by assumption, by assumption, by assumption⟩ | go_keep)
      ((first
       | (go_at_call_of 147 (s.lo.en); go_must (refine (put_any _ l' s.lo _ (HRD.out.lift (b0 _).drew (Nat.le_refl _)) HLO.out hl1 (by omega)).mono ?_; rintro e w3 ⟨v3, rfl, hrd3, hb3⟩; rw [HL3.out] at hrd3; replace hb3 : Below wr.heap.size wr w3 := ((b0 wr).drew).trans hb3; have HR3 := hid hrd3; have HB4 := hid hb3; clear hrd3 hb3; obtain ⟨d0, d1, d2, d3, d4, d5, d6, d7, d8, d9, d10, d11, d12, d13⟩ := HAT.out.below HB4.out hgw))
       | (go_at_call_of 147 (s.hi.en); go_must (refine (put_any _ l3 s.hi _ HR3.out HHI.out (by omega) (by omega)).mono ?_; rintro e w4 ⟨v4, rfl, hrd4, hb4⟩; have HR4 := hid hrd4; have HB5 := hid (bstep HB4.out hb4); clear hrd4 hb4; obtain ⟨e0, e1, e2, e3, e4, e5, e6, e7, e8, e9, e10, e11, e12, e13⟩ := HAT.out.below HB5.out hgw)))))
    | fail
   all_goals go_wp2
   all_goals exact ⟨⟨k + 1, by omega, by go_num, hid (by rw [HKS.out]; exact HR4.out), hid (bstep hb.out HB5.out)⟩, by simp [intOf]; omega⟩
  ·have hkl : k = l.length := by omega
   subst hkl
   rw [cutsK_all] at hrd
   clear hout
   obtain ⟨A5, c5, rfl, -, -, -⟩ := hrd.cuts
   have HRD := hid hrd
   clear hrd
   go_wp2
   go_ret
   exact ⟨A5, c5, rfl, HRD.out, hb.out⟩
end
section
theorem span_info : (Tryz.prog.info? 106).map (fun i => (i.zero, i.size, i.bytes)) = some (some (.agg #[.int .i64 0, .int .i64 0, .int .i64 0, .int .i64 0, .string ⟨#[]⟩, .string ⟨#[]⟩, .bool false, .int .i64 0, .int .i64 0, .int .i64 0, .int .i64 0, .string ⟨#[]⟩, .string ⟨#[]⟩, .bool false]), 14, 144) := by kernel_rfl
def OwnSpans (B : Nat) (w : World) (v : Value) (l : List Span) : Prop := w.ownsRow B 106 14 v l.length (fSpan.all l) ∧ ∀ s ∈ l, s.B
theorem OwnSpans.form {B : Nat} {w : World} {v : Value} {l : List Span} (h : OwnSpans B w v l) : ∃ A c, v = .slice A l.length c := own_form h.1
theorem OwnSpans.below {B M : Nat} {w w' : World} {v : Value} {l : List Span} (h : OwnSpans B w v l) (hb : Below M w w') (hM : w.heap.size ≤ M) : OwnSpans B w' v l :=
  ⟨ownsRow_below h.1 hb fun g hg => Nat.lt_of_lt_of_le (h.1.lt g hg).2 hM, h.2⟩
theorem OwnSpans.rd {B : Nat} {w : World} {v : Value} {l : List Span} (h : OwnSpans B w v l) : SliceRd fSpan.ty w (Lt w.heap.size) v l := rd_of_ownF (f := fSpan) h.1 h.2 (fun g hg => (h.1.lt g hg).2)
theorem OwnSpans.nil (B : Nat) (w : World) : OwnSpans B w (.slice none 0 0) [] := ⟨⟨rfl, .inl ⟨rfl, rfl⟩⟩, fun s h => by cases h⟩
theorem own_set {w : World} {B : Nat} {e : TypeId} {s n : Nat} {v : Value} {xs : List Value} (h : w.ownsRow B e s v n xs) {g : Nat} (hg : v.ownBlock = some g) {i : Nat} (_hi : i < n * s) (x : Value) : (w.setCell ⟨g, i, none⟩ x).ownsRow B e s v n (xs.set i x) := by
  refine ⟨by rw [List.length_set]; exact h.1, ?_⟩
  rcases h.2 with ⟨rfl, _⟩ | ⟨g', cap, cur, rfl, hb, hgg, h1, h2, h3, h4⟩
  · cases hg
  · obtain rfl : g' = g := Option.some.inj hg
    refine .inr ⟨g', cap, cur.setIfInBounds i x, rfl, hb, ?_, h1, h2, by rw [Array.size_setIfInBounds]; exact h3, ?_⟩
    · exact heap_setCell_same w g' i _ e _ hgg
    · rw [Array.toList_setIfInBounds, List.take_set, h4]
theorem set_at {α : Type} (P Q : List α) {i j : Nat} (hi : i = P.length + j) (x : α) : (P ++ Q).set i x = P ++ Q.set j x := by
  subst hi
  rw [List.set_append_right _ _ (by omega)]
  congr 2
  omega
theorem OwnSpans.turn {B : Nat} {w : World} {v : Value} {l : List Span} {s : Span} (h : OwnSpans B w v (l ++ [s])) {g : Nat} (hg : v.ownBlock = some g) (u : Cut) (hu : u.B) :
    OwnSpans B (((((((w.setCell ⟨g, l.length * 14 + 7, none⟩ (.int .i64 u.en)).setCell ⟨g, l.length * 14 + 7 + 1, none⟩ (.int .i64 u.v.major)).setCell ⟨g, l.length * 14 + 7 + 2, none⟩ (.int .i64 u.v.minor)).setCell ⟨g, l.length * 14 + 7 + 3, none⟩ (.int .i64 u.v.patch)).setCell ⟨g, l.length * 14 + 7 + 4, none⟩ (.string u.v.pre)).setCell ⟨g, l.length * 14 + 7 + 5, none⟩ (.string u.v.build)).setCell ⟨g, l.length * 14 + 7 + 6, none⟩ (.bool u.after)) v (l ++ [⟨s.lo, u⟩]) := by
  have hn : (l ++ [s]).length = l.length + 1 := by simp
  have hn2 : (l ++ [(⟨s.lo, u⟩ : Span)]).length = l.length + 1 := by simp
  refine ⟨?_, ?_⟩
  · have h0 := h.1
    rw [hn] at h0
    rw [hn2]
    have hi : ∀ j, j < 7 → l.length * 14 + 7 + j < (l.length + 1) * 14 := by intro j hj; omega
    have h1 := own_set (own_set (own_set (own_set (own_set (own_set (own_set h0 hg (hi 0 (by omega)) (.int .i64 u.en)) hg (hi 1 (by omega)) (.int .i64 u.v.major)) hg (hi 2 (by omega)) (.int .i64 u.v.minor)) hg (hi 3 (by omega)) (.int .i64 u.v.patch)) hg (hi 4 (by omega)) (.string u.v.pre)) hg (hi 5 (by omega)) (.string u.v.build)) hg (hi 6 (by omega)) (.bool u.after)
    have e : (((((((fSpan.all (l ++ [s])).set (l.length * 14 + 7 + 0) (.int .i64 u.en)).set (l.length * 14 + 7 + 1) (.int .i64 u.v.major)).set (l.length * 14 + 7 + 2) (.int .i64 u.v.minor)).set (l.length * 14 + 7 + 3) (.int .i64 u.v.patch)).set (l.length * 14 + 7 + 4) (.string u.v.pre)).set (l.length * 14 + 7 + 5) (.string u.v.build)).set (l.length * 14 + 7 + 6) (.bool u.after) = fSpan.all (l ++ [⟨s.lo, u⟩]) := by
      have e0 : fSpan.all (l ++ [s]) = (fSpan.all l ++ cutCells s.lo) ++ cutCells s.hi := by rw [fSpan.all_snoc, List.append_assoc]; rfl
      have e1 : fSpan.all (l ++ [(⟨s.lo, u⟩ : Span)]) = (fSpan.all l ++ cutCells s.lo) ++ cutCells u := by rw [fSpan.all_snoc, List.append_assoc]; rfl
      have hP : (fSpan.all l ++ cutCells s.lo).length = l.length * 14 + 7 := by rw [List.length_append, fSpan.all_length]; rfl
      rw [e0, e1, set_at _ _ (j := 0) (by rw [hP]), set_at _ _ (j := 1) (by rw [hP]), set_at _ _ (j := 2) (by rw [hP]), set_at _ _ (j := 3) (by rw [hP]), set_at _ _ (j := 4) (by rw [hP]), set_at _ _ (j := 5) (by rw [hP]), set_at _ _ (j := 6) (by rw [hP])]
      rfl
    rw [e] at h1
    exact h1
  · intro x hx
    rcases List.mem_append.1 hx with hx | hx
    · exact h.2 x (List.mem_append_left _ hx)
    · have : x = ⟨s.lo, u⟩ := by simpa using hx
      subst this
      exact ⟨(h.2 s (by simp)).1, hu⟩
theorem own_addr {w : World} {B : Nat} {e : TypeId} {s n : Nat} {v : Value} {xs : List Value} (h : w.ownsRow B e s v n xs) (hn : 0 < n) :
    ∃ g cap, v = .slice (some ⟨g, 0, none⟩) n cap ∧ v.ownBlock = some g ∧ B ≤ g ∧ g < w.heap.size ∧ n ≤ cap ∧ cap ≤ maxLen ∧ (∀ i, i < n * s → w.cell? ⟨g, i, none⟩ = xs[i]?) ∧ ∀ o, w.frozen? ⟨g, o, none⟩ = false := by
  have hlt := h.lt
  rcases h.2 with ⟨rfl, h0⟩ | ⟨g, cap, cur, rfl, hb, hg, h1, h2, h3, h4⟩
  · omega
  · refine ⟨g, cap, rfl, rfl, hb, (hlt g rfl).2, h1, h2, fun i hi => ?_, fun o => frozen_of_row w g o cur e hg⟩
    rw [cell_of_row w g i cur e (0, 0) hg, ← h4, List.getElem?_take_of_lt hi, Array.getElem?_toList]
def GrowPost (B : Nat) (l : List Span) (u t : Cut) (w : World) (e : Ending) (w' : World) : Prop := ∃ v', e = .returned v' ∧ OwnSpans B w' v' (growC l u t) ∧ Below B w w'
theorem growC_nil (u t : Cut) : growC [] u t = [] ++ [⟨u, t⟩] := rfl
theorem growC_eq {l : List Span} {s : Span} {u : Cut} (t : Cut) (h : cmpC s.hi u = 0) : growC (l ++ [s]) u t = l ++ [⟨s.lo, t⟩] := by
  unfold growC
  rw [List.reverse_append, List.reverse_singleton, List.singleton_append, growR_eq t h, List.reverse_cons, List.reverse_reverse]
theorem growC_ne {l : List Span} {s : Span} {u : Cut} (t : Cut) (h : ¬ cmpC s.hi u = 0) : growC (l ++ [s]) u t = (l ++ [s]) ++ [⟨u, t⟩] := by
  unfold growC
  rw [List.reverse_append, List.reverse_singleton, List.singleton_append, growR_ne t h, List.reverse_cons, List.reverse_cons, List.reverse_reverse]
theorem grow_end {B : Nat} {w' : World} {v : Value} {l : List Span} {u t : Cut} {xs : List Value} {n : Nat} (h : w'.ownsRow B 106 14 v n xs) (hl : ∀ s ∈ l, s.B) (hu : u.B) (ht : t.B) (hn : n = l.length + 1) (hx : xs = fSpan.all l ++ (cutCells u ++ cutCells t)) : OwnSpans B w' v (l ++ [⟨u, t⟩]) := by
  refine ⟨?_, ?_⟩
  · rw [fSpan.all_snoc, List.length_append]
    subst hn; subst hx
    exact h
  · intro x hx
    rcases List.mem_append.1 hx with hx | hx
    · exact hl x hx
    · have : x = ⟨u, t⟩ := by simpa using hx
      subst this
      exact ⟨hu, ht⟩
set_option maxRecDepth 100000 in
set_option maxHeartbeats 2000000 in
theorem grow_any (lv : Value) (l : List Span) (u t : Cut) (B : Nat) (w : World) (h : OwnSpans B w lv l) (hu : u.B) (ht : t.B) (hl : l.length ≤ 100000) (hB : B ≤ w.heap.size) :
    Calls Tryz.prog 118 #[lv, .agg #[.int .i64 u.en, .int .i64 u.v.major, .int .i64 u.v.minor, .int .i64 u.v.patch, .string u.v.pre, .string u.v.build, .bool u.after], .agg #[.int .i64 t.en, .int .i64 t.v.major, .int .i64 t.v.minor, .int .i64 t.v.patch, .string t.v.pre, .string t.v.build, .bool t.after]] w (GrowPost B l u t w) := by
  obtain ⟨ii, hii⟩ := info_parts span_info
  have HII := hid hii
  have HU := hid hu
  have HT := hid ht
  clear hii hu ht
  obtain ⟨A, cap, rfl⟩ := h.form
  have HO := hid h
  have HLB := hid h.2
  have hcase : l = [] ∨ ∃ l0 s, l = l0 ++ [s] := by
    rcases List.eq_nil_or_concat l with h | ⟨l0, s, h⟩
    · exact .inl h
    · exact .inr ⟨l0, s, by rw [h, List.concat_eq_append]⟩
  rcases hcase with rfl | ⟨l0, s, rfl⟩
  · clear h
    go_enter Tryz.func118, Tryz.ntmps118
    go_wp2
    obtain ⟨w0, hw0⟩ : ∃ w0 : World, w0 = (w.alloc (.cells #[.int .i64 u.en, .int .i64 u.v.major, .int .i64 u.v.minor, .int .i64 u.v.patch, .string u.v.pre, .string u.v.build, .bool u.after] 103)).alloc (.cells #[.int .i64 t.en, .int .i64 t.v.major, .int .i64 t.v.minor, .int .i64 t.v.patch, .string t.v.pre, .string t.v.build, .bool t.after] 103) := ⟨_, rfl⟩
    have HB0 : Hid (Below w.heap.size w w0) := hid (by rw [hw0]; exact balloc (balloc (b0 w) _) _)
    have HX1 : Hid (BoxC w0 w.heap.size u) := hid (by rw [hw0]; exact (BoxC.new w u _).below (balloc (b0 _) _) (by simp))
    have HX2 : Hid (BoxC w0 (w.heap.size + 1) t) := hid (by
      rw [hw0]
      have := BoxC.new (w.alloc (.cells #[.int .i64 u.en, .int .i64 u.v.major, .int .i64 u.v.minor, .int .i64 u.v.patch, .string u.v.pre, .string u.v.build, .bool u.after] 103)) t 103
      rwa [World.size_alloc] at this)
    have hz : w.heap.size + 1 < w0.heap.size := by rw [hw0]; simp
    rw [← hw0]
    clear hw0
    refine wp_region_later (by kernel_rfl) (by kernel_rfl) ?_
    repeat (go_big_quiet_step (fail))
    refine wpQuiet_nil ?_
    rintro _ ⟨e1, rfl⟩
    obtain ⟨wx, hwx⟩ : ∃ wx : World, wx = e1.w := ⟨_, rfl⟩
    have HBX := hid (show Below w0.heap.size w0 wx from hwx ▸ e1.below)
    rw [← hwx]
    clear hwx
    obtain ⟨d0, d1, d2, d3, d4, d5, d6⟩ := HX1.out.below HBX.out (by omega)
    obtain ⟨e0, e1, e2, e3, e4, e5, e6⟩ := HX2.out.below HBX.out hz
    have hzx : w.heap.size + 1 < wx.heap.size := Nat.lt_of_lt_of_le hz HBX.out.size
    have HOX := hid (ownsRow_below HO.out.1 (HB0.out.trans (HBX.out.mono HB0.out.size)) (fun g hg => (HO.out.1.lt g hg).2))
    go_wp2_with (first
      | (at_builtin
         go_must (refine wpList_append_src _ rfl (.tmp 29) (.tmp 33) _ rfl B 106 ii _ 14 144 Tryz.underlying60 HII.out.1 HII.out.2.1 HII.out.2.2.1 HII.out.2.2.2 rfl (by omega) _ (0) ([]) (by rfl) (by exact (HOX.out).alloc _) (some ⟨wx.heap.size, 0, none⟩) 1 1 (cutCells u ++ cutCells t) (by rfl) (by exact src_new _ _ rfl 14 _ rfl rfl) (by exact fSpan.one ⟨u, t⟩) (by unfold maxLen; omega) (by omega) (by simp; omega) ?_)
         intro v4 w4 hown4 hg4 _
         have HB4 := hid (show Below B w w4 from Below.grown (((HB0.out.trans (HBX.out.mono HB0.out.size)).mono hB).alloc (by omega) _) hg4 (by simp; omega) (fun k hk => ((HOX.out).lt k hk).1))
         have HO4 := hid hown4
         clear hown4 hg4))
    go_ret
    exact ⟨v4, rfl, by rw [growC_nil]; exact grow_end HO4.out HLB.out HU.out HT.out (by first | rfl | simp) (by first | rfl | simp [Flat.all]), HB4.out⟩
  · have hlen : (l0 ++ [s]).length = l0.length + 1 := by simp
    obtain ⟨g, cap', hv, hgb, hBg, hgl, hcap, hmax, hcel, hfz⟩ := own_addr h.1 (by rw [hlen]; omega)
    injection hv with e1 e2 e3
    subst e1
    rw [hlen] at hcel hcap ⊢
    have hat : CutAt w g (l0.length * 14 + 7) s.hi := by
      have hx : ∀ j, j < 7 → w.cell? ⟨g, l0.length * 14 + 7 + j, none⟩ = (cutCells s.hi)[j]? := by
        intro j hj
        rw [hcel _ (by omega), fSpan.all_snoc]
        rw [List.getElem?_append_right (by rw [fSpan.all_length]; show l0.length * 14 ≤ _; omega), fSpan.all_length]
        have e : l0.length * 14 + 7 + j - l0.length * fSpan.size = 7 + j := by show l0.length * 14 + 7 + j - l0.length * 14 = 7 + j; omega
        rw [e]
        show (cutCells s.lo ++ cutCells s.hi)[7 + j]? = _
        rw [List.getElem?_append_right (by show 7 ≤ _; omega)]
        congr 1
        show 7 + j - 7 = j
        omega
      exact ⟨hx 0 (by omega), hx 1 (by omega), hx 2 (by omega), hx 3 (by omega), hx 4 (by omega), hx 5 (by omega), hx 6 (by omega)⟩
    have HAT := hid hat
    have HSB := hid ((h.2 s (by simp)).2)
    rw [List.length_append] at hl
    simp only [List.length_cons, List.length_nil] at hl
    clear h hat hcel e2 e3
    have k1 : IntKind.i64.wrap (↑l0.length + 1 - 1) = (↑l0.length : Int) := by rw [show (↑l0.length : Int) + 1 - 1 = ↑l0.length by omega]; exact IntWalk.i64_in _ (by omega)
    unfold maxLen at hmax
    go_enter Tryz.func118, Tryz.ntmps118
    go_wp2
    obtain ⟨w0, hw0⟩ : ∃ w0 : World, w0 = (w.alloc (.cells #[.int .i64 u.en, .int .i64 u.v.major, .int .i64 u.v.minor, .int .i64 u.v.patch, .string u.v.pre, .string u.v.build, .bool u.after] 103)).alloc (.cells #[.int .i64 t.en, .int .i64 t.v.major, .int .i64 t.v.minor, .int .i64 t.v.patch, .string t.v.pre, .string t.v.build, .bool t.after] 103) := ⟨_, rfl⟩
    have HB0 : Hid (Below w.heap.size w w0) := hid (by rw [hw0]; exact balloc (balloc (b0 w) _) _)
    have HX1 : Hid (BoxC w0 w.heap.size u) := hid (by rw [hw0]; exact (BoxC.new w u _).below (balloc (b0 _) _) (by simp))
    have HX2 : Hid (BoxC w0 (w.heap.size + 1) t) := hid (by
      rw [hw0]
      have := BoxC.new (w.alloc (.cells #[.int .i64 u.en, .int .i64 u.v.major, .int .i64 u.v.minor, .int .i64 u.v.patch, .string u.v.pre, .string u.v.build, .bool u.after] 103)) t 103
      rwa [World.size_alloc] at this)
    have hz : w.heap.size + 1 < w0.heap.size := by rw [hw0]; simp
    rw [← hw0]
    clear hw0
    have HLEN := hid hlen
    clear hlen
    have i1 : (0 : Int) ≤ ↑l0.length := by omega
    have i2 : (↑l0.length : Int) < ↑l0.length + 1 := by omega
    have z0 : decide ((0 : Int) ≤ ↑l0.length) = true := decide_eq_true i1
    have hgx : g < w0.heap.size := by have := HB0.out.size; omega
    obtain ⟨c0, c1, c2, c3, c4, c5, c6⟩ := (HAT.out.below HB0.out hgl).later hgx
    obtain ⟨d0, d1, d2, d3, d4, d5, d6⟩ := HX1.out.later (show w.heap.size < w0.heap.size by omega)
    by_cases q1 : cmpC s.hi u = 0
    · have z1 : (cmpC s.hi u == 0) = true := by rw [q1]; rfl
      have HG := hid (growC_eq (l := l0) t q1)
      clear q1
      refine wp_region_later (by kernel_rfl) (by kernel_rfl) ?_
      repeat (go_big_quiet_step ((go_at_call 146; (with_reducible exact Calls.later (ccmp_c s.hi u _ HSB.out HU.out) rfl))))
      refine wpQuiet_nil ?_
      rintro _ ⟨e1, rfl⟩
      obtain ⟨wx, hwx⟩ : ∃ wx : World, wx = e1.w := ⟨_, rfl⟩
      have HBX := hid (show Below w0.heap.size w0 wx from hwx ▸ e1.below)
      rw [← hwx]
      clear hwx c0 c1 c2 c3 c4 c5 c6 d0 d1 d2 d3 d4 d5 d6
      obtain ⟨d0, d1, d2, d3, d4, d5, d6⟩ := HX1.out.below HBX.out (by omega)
      obtain ⟨e0, e1, e2, e3, e4, e5, e6⟩ := HX2.out.below HBX.out hz
      have hzx : w.heap.size + 1 < wx.heap.size := Nat.lt_of_lt_of_le hz HBX.out.size
      have HBWX := hid (HB0.out.trans (HBX.out.mono HB0.out.size))
      have HATX := hid (HAT.out.below HBWX.out hgl)
      obtain ⟨c0, c1, c2, c3, c4, c5, c6⟩ := HATX.out
      have hfx : ∀ o, wx.frozen? ⟨g, o, none⟩ = false := fun o => (HBWX.out.frozen (p := ⟨g, o, none⟩) hgl).trans (hfz o)
      have HOX : Hid (OwnSpans B wx (.slice (some ⟨g, 0, none⟩) (l0.length + 1) cap) (l0 ++ [s])) := hid (HLEN.out ▸ HO.out.below HBWX.out (Nat.le_refl _))
      go_wp2
      go_ret
      refine ⟨.slice (some ⟨g, 0, none⟩) (l0.length + 1) cap, rfl, by rw [HG.out]; exact HOX.out.turn (g := g) rfl t HT.out, ?_⟩
      have hbm := HBWX.out.mono hB
      exact ((((((hbm.setCell (p := ⟨g, _, none⟩) hBg _).setCell (p := ⟨g, _, none⟩) hBg _).setCell (p := ⟨g, _, none⟩) hBg _).setCell (p := ⟨g, _, none⟩) hBg _).setCell (p := ⟨g, _, none⟩) hBg _).setCell (p := ⟨g, _, none⟩) hBg _).setCell (p := ⟨g, _, none⟩) hBg _
    · have z1 : (cmpC s.hi u == 0) = false := by rw [beq_eq_false_iff_ne]; exact q1
      have HG := hid (growC_ne (l := l0) t q1)
      clear q1
      refine wp_region_later (by kernel_rfl) (by kernel_rfl) ?_
      repeat (go_big_quiet_step ((go_at_call 146; (with_reducible exact Calls.later (ccmp_c s.hi u _ HSB.out HU.out) rfl))))
      refine wpQuiet_nil ?_
      rintro _ ⟨e1, rfl⟩
      obtain ⟨wx, hwx⟩ : ∃ wx : World, wx = e1.w := ⟨_, rfl⟩
      have HBX := hid (show Below w0.heap.size w0 wx from hwx ▸ e1.below)
      rw [← hwx]
      clear hwx c0 c1 c2 c3 c4 c5 c6 d0 d1 d2 d3 d4 d5 d6
      obtain ⟨d0, d1, d2, d3, d4, d5, d6⟩ := HX1.out.below HBX.out (by omega)
      obtain ⟨e0, e1, e2, e3, e4, e5, e6⟩ := HX2.out.below HBX.out hz
      have hzx : w.heap.size + 1 < wx.heap.size := Nat.lt_of_lt_of_le hz HBX.out.size
      have HBWX := hid (HB0.out.trans (HBX.out.mono HB0.out.size))
      have HOX := hid (ownsRow_below HO.out.1 HBWX.out (fun g hg => (HO.out.1.lt g hg).2))
      go_wp2_with (first
        | (at_builtin
           go_must (refine wpList_append_src _ rfl (.tmp 29) (.tmp 33) _ rfl B 106 ii _ 14 144 Tryz.underlying60 HII.out.1 HII.out.2.1 HII.out.2.2.1 HII.out.2.2.2 rfl (by omega) _ (l0.length + 1) (fSpan.all (l0 ++ [s])) (by rfl) (by exact (HLEN.out ▸ HOX.out).alloc _) (some ⟨wx.heap.size, 0, none⟩) 1 1 (cutCells u ++ cutCells t) (by rfl) (by exact src_new _ _ rfl 14 _ rfl rfl) (by exact fSpan.one ⟨u, t⟩) (by unfold maxLen; omega) (by omega) (by simp; omega) ?_)
           intro v4 w4 hown4 hg4 _
           have HB4 := hid (show Below B w w4 from Below.grown ((HBWX.out.mono hB).alloc (by omega) _) hg4 (by simp; omega) (fun k hk => ((HLEN.out ▸ HOX.out).lt k hk).1))
           have HO4 := hid hown4
           clear hown4 hg4))
      go_ret
      exact ⟨v4, rfl, by rw [HG.out]; exact grow_end HO4.out HLB.out HU.out HT.out (by rw [HLEN.out]) rfl, HB4.out⟩
end
section
theorem OwnSpans.mono {B B' : Nat} {w : World} {v : Value} {l : List Span} (h : OwnSpans B w v l) (hB : B' ≤ B) : OwnSpans B' w v l := by
  refine ⟨⟨h.1.1, ?_⟩, h.2⟩
  rcases h.1.2 with hn | ⟨g, cap, cur, rfl, hb, rest⟩
  · exact .inl hn
  · exact .inr ⟨g, cap, cur, rfl, Nat.le_trans hB hb, rest⟩
def MakePost (l' : List Span) (w : World) (e : Ending) (w' : World) : Prop := ∃ v' ok, e = .returned (.tuple #[v', .bool ok]) ∧ OwnSpans w.heap.size w' v' l' ∧ Below w.heap.size w w'
def RowPost (l' : List Span) (w : World) (e : Ending) (w' : World) : Prop := ∃ v', e = .returned v' ∧ OwnSpans w.heap.size w' v' l' ∧ Below w.heap.size w w'
set_option maxRecDepth 100000 in
set_option maxHeartbeats 2000000 in
theorem rmake_any (lv : Value) (l : List Span) (w : World) (h : SliceRd fSpan.ty w (Lt w.heap.size) lv l) (hl : l.length ≤ 10000) :
    Calls Tryz.prog 115 #[lv] w (MakePost (makeF l) w) := by
  obtain ⟨A, cap, rfl, hcap, hmax, hc⟩ := h.spans
  have HCL := hid hc
  have HL := hid h
  unfold maxLen at hmax
  clear h hc
  go_enter Tryz.func115, Tryz.ntmps115
  go_wp2
  go_loopw [4] (fun iv wr => ∃ k : Nat, k ≤ l.length ∧ iv = .int .i64 k ∧ Hid (Below w.heap.size w wr) ∧ Hid (∀ j, (hj : j < l.length) → j < k → spanMay l[j] = true)) (fun iv _ => l.length - (intOf iv).toNat)
  case atStart => exact ⟨0, Nat.zero_le _, rfl, hid (b0 _), hid (fun j _ hj => absurd hj (by omega))⟩
  case round =>
    obtain ⟨k, hk, rfl, hb, hup⟩ := hrel
    by_cases hlt : k < l.length
    · obtain ⟨g, o, hA, hF, hB, hat⟩ := HCL.out k hlt
      cases hA
      have HNO := hid (fun h : spanMay l[k] = false => show makeF l = [] from if_neg fun h2 => by rw [List.all_eq_true] at h2; rw [h2 _ (List.getElem_mem hlt)] at h; cases h)
      have HUP := hid (fun h : spanMay l[k] = true => show ∀ j, (hj : j < l.length) → j < k + 1 → spanMay l[j] = true from fun j hj hjk => by
        by_cases he : j = k
        · subst he; exact h
        · exact hup.out j hj (by omega))
      obtain ⟨s, hs⟩ : ∃ s, s = l[k] := ⟨_, rfl⟩
      rw [← hs] at hB hat HNO HUP
      clear hs hup
      have HSB := hid hB
      have hgw : g < wr.heap.size := Nat.lt_of_lt_of_le hF hb.out.size
      obtain ⟨c0, c1, c2, c3, c4, c5, c6, c7, c8, c9, c10, c11, c12, c13⟩ := hat.below hb.out hF
      clear hat hB
      have i1 : (0 : Int) ≤ ↑k := by omega
      have i2 : (↑k : Int) < ↑l.length := by omega
      cases hm : spanMay s
      all_goals
        have HM := hid hm
        try have HUP2 := hid (HUP.out hm)
        try have HNO2 := hid (HNO.out hm)
        clear hm HUP HNO
        go_wp2_with (go_at_call 145; (with_reducible refine (smay_s s _ HSB.out).mono ?_); rintro e w1 ⟨rfl, hb1⟩; rw [HM.out])
      · go_ret2
        exact ⟨.slice none 0 0, false, rfl, by rw [HNO2.out]; exact OwnSpans.nil _ _, bstep hb.out hb1⟩
      · exact ⟨⟨k + 1, by omega, by go_num, hid (bstep hb.out hb1), HUP2⟩, by simp [intOf]; omega⟩
    · have HALL := hid (show makeF l = rowC (inB l) (cutsC l) from if_pos (List.all_eq_true.2 fun x hx => by
        obtain ⟨j, hj, rfl⟩ := List.getElem_of_mem hx
        exact hup.out j hj (by omega)))
      clear hup
      have HLR := hid (HL.out.lift hb.out hb.out.size)
      go_wp2_with (go_at_call 116; (refine (cuts_any _ l _ HLR.out hl).mono ?_); rintro e wc ⟨CA, ccap, rfl, hrd, hbc⟩; obtain ⟨C, hCC⟩ : ∃ C, cutsC l = C := ⟨_, rfl⟩; have hC1 := (cutsC_len l).1; have hC2 := (cutsC_len l).2; have HCC := hid hCC; rw [hCC] at hrd hC1 hC2 ⊢; have HCR := hid hrd; have HBC := hid hbc; clear hrd hbc hCC)
      obtain ⟨_, _, hv, hcc, hcm, hcc2⟩ := HCR.out.cuts
      injection hv with q1 q2 q3
      subst q1
      have HC := hid hcc2
      have HLC := hid (HLR.out.lift HBC.out HBC.out.size)
      unfold maxLen at hcm
      clear hcc2 q2 q3
      have HBW := hid (bstep hb.out HBC.out)
      go_loopw [5, 7] (fun ov iv wr => ∃ k : Nat, k ≤ C.length ∧ iv = .int .i64 k ∧ k + 1 ≤ C.length ∧ Hid (OwnSpans wc.heap.size wr ov (rowK (inB l) C k)) ∧ Hid (Below wc.heap.size wc wr)) (fun _ iv _ => C.length - (intOf iv).toNat)
      case atStart => exact ⟨0, Nat.zero_le _, rfl, by omega, hid (by rw [rowK_zero]; exact OwnSpans.nil _ _), hid (b0 _)⟩
      case round =>
        obtain ⟨k, hk, rfl, hk1, hout, hb⟩ := hrel
        have hown := hout.out
        have hL := rowK_len (inB l) C k
        have HRA := hid (fun h : C.length ≤ k + 1 => rowK_all (p := (inB l)) h)
        have HRS := hid (fun h : k + 1 < C.length => rowK_succ (p := (inB l)) h)
        obtain ⟨L, hLL⟩ : ∃ L, rowK (inB l) C k = L := ⟨_, rfl⟩
        rw [hLL] at hown hL HRA HRS
        clear hLL hout
        have i1 : (0 : Int) ≤ ↑k := by omega
        have i0 : (0 : Int) ≤ ↑k + 1 := by omega
        have i6 : IntKind.i64.wrap (↑k + 1) = (↑k : Int) + 1 := IntWalk.i64_in _ (by omega)
        have i7 : ((↑k : Int) + 1).toNat = k + 1 := by omega
        by_cases hlt : k + 1 < C.length
        · obtain ⟨g, o, hA, hF, hB1, hat1⟩ := HC.out k (by omega)
          cases hA
          obtain ⟨_, _, hA, -, hB2, hat2⟩ := HC.out (k + 1) hlt
          cases hA
          have HRS2 := hid (HRS.out hlt)
          obtain ⟨u, hu⟩ : ∃ u, u = C[k] := ⟨_, rfl⟩
          rw [← hu] at hB1 hat1 HRS2
          obtain ⟨v, hv⟩ : ∃ v, v = C[k + 1] := ⟨_, rfl⟩
          rw [← hv] at hB2 hat2 HRS2
          clear hu hv HRS
          have HU := hid hB1
          have HV := hid hB2
          have HO := hid hown
          have hgw : g < wr.heap.size := Nat.lt_of_lt_of_le hF hb.out.size
          have hgc : g < wc.heap.size := hF
          have HAT1 := hid (hat1.below hb.out hF)
          have HAT2 := hid (hat2.below hb.out hF)
          have HSL := hid (HLC.out.lift hb.out hb.out.size)
          obtain ⟨c0, c1, c2, c3, c4, c5, c6⟩ := HAT1.out.later hgw
          obtain ⟨d0, d1, d2, d3, d4, d5, d6⟩ := HAT2.out.later hgw
          clear hat1 hat2 hB1 hB2 hown
          have i2 : (↑k : Int) < ↑C.length := by omega
          have i3 : (↑k : Int) + 1 < ↑C.length := by omega
          cases hin : inB l u v with
          | false =>
            have HI := hid hin
            try rw [hin] at HRS2
            clear hin
            go_wp2
            (refine wp_region_later (by kernel_rfl) (by kernel_rfl) ?_; (repeat (go_big_quiet_step ((go_at_call 117; exact Calls.later (in_any _ l u v _ (HSL.out.lift (Later.below _) (Later.below _).size) HU.out HV.out) (congrArg Value.bool HI.out))))); refine wpQuiet_nil ?_; rintro _ ⟨⟨w1, hb1⟩, rfl⟩)
            go_wp2
            exact ⟨⟨k + 1, by omega, by go_num, by omega, hid (by rw [show _ = L from HRS2.out]; exact HO.out.below hb1 (Nat.le_refl _)), hid (bstep hb.out hb1)⟩, by simp [intOf]; omega⟩
          | true =>
            have HI := hid hin
            try rw [hin] at HRS2
            clear hin
            go_wp2
            (refine wp_region_later (by kernel_rfl) (by kernel_rfl) ?_; (repeat (go_big_quiet_step ((go_at_call 117; exact Calls.later (in_any _ l u v _ (HSL.out.lift (Later.below _) (Later.below _).size) HU.out HV.out) (congrArg Value.bool HI.out))))); refine wpQuiet_nil ?_; rintro _ ⟨e1, rfl⟩)
            obtain ⟨wx, hwx⟩ : ∃ wx : World, wx = e1.w := ⟨_, rfl⟩
            have HBX := hid (show Below wr.heap.size wr wx from hwx ▸ e1.below)
            rw [← hwx]
            clear hwx c0 c1 c2 c3 c4 c5 c6 d0 d1 d2 d3 d4 d5 d6
            have HOX := hid (HO.out.below HBX.out (Nat.le_refl _))
            have HX1 := hid (HAT1.out.below HBX.out hgw)
            have HX2 := hid (HAT2.out.below HBX.out hgw)
            obtain ⟨c0, c1, c2, c3, c4, c5, c6⟩ := HX1.out
            obtain ⟨d0, d1, d2, d3, d4, d5, d6⟩ := HX2.out
            have hgx : g < wx.heap.size := Nat.lt_of_lt_of_le hgw HBX.out.size
            have hwcx : wc.heap.size ≤ wx.heap.size := Nat.le_trans hb.out.size HBX.out.size
            go_wp2
            first
              | go_must (go_region_held3 (fun w' => w'.cell? ⟨g, o + k * 7, none⟩ = some (.int .i64 u.en) ∧ w'.cell? ⟨g, o + k * 7 + 1, none⟩ = some (.int .i64 u.v.major) ∧ w'.cell? ⟨g, o + k * 7 + 2, none⟩ = some (.int .i64 u.v.minor) ∧ w'.cell? ⟨g, o + k * 7 + 3, none⟩ = some (.int .i64 u.v.patch) ∧ w'.cell? ⟨g, o + k * 7 + 4, none⟩ = some (.string u.v.pre) ∧ w'.cell? ⟨g, o + k * 7 + 5, none⟩ = some (.string u.v.build) ∧ w'.cell? ⟨g, o + k * 7 + 6, none⟩ = some (.bool u.after) ∧ w'.cell? ⟨g, o + (k + 1) * 7, none⟩ = some (.int .i64 v.en) ∧ w'.cell? ⟨g, o + (k + 1) * 7 + 1, none⟩ = some (.int .i64 v.v.major) ∧ w'.cell? ⟨g, o + (k + 1) * 7 + 2, none⟩ = some (.int .i64 v.v.minor) ∧ w'.cell? ⟨g, o + (k + 1) * 7 + 3, none⟩ = some (.int .i64 v.v.patch) ∧ w'.cell? ⟨g, o + (k + 1) * 7 + 4, none⟩ = some (.string v.v.pre) ∧ w'.cell? ⟨g, o + (k + 1) * 7 + 5, none⟩ = some (.string v.v.build) ∧ w'.cell? ⟨g, o + (k + 1) * 7 + 6, none⟩ = some (.bool v.after)) (first | exact ⟨by assumption, by assumption, by assumption, by assumption, by assumption, by assumption, by assumption, by assumption, by assumption, by assumption, by assumption, by assumption, by assumption, by assumption⟩ | go_keep)
                  ((go_at_call 118; go_must (refine (grow_any _ L u v wc.heap.size _ (HOX.out.below (b0 _).drew (Nat.le_refl _)) HU.out HV.out (by omega) hwcx).mono ?_; rintro e w3 ⟨v3, rfl, hown3, hb3⟩; replace hb3 : Below wc.heap.size wx w3 := ((Below.refl _ wx).drew).trans hb3; have HB3 := hid hb3; have HO3 := hid hown3; clear hb3 hown3; obtain ⟨e0, e1, e2, e3, e4, e5, e6⟩ := HX1.out.below HB3.out hgc; obtain ⟨f0, f1, f2, f3, f4, f5, f6⟩ := HX2.out.below HB3.out hgc))))
              | fail
            all_goals go_wp2
            all_goals exact ⟨⟨k + 1, by omega, by go_num, by omega, hid (by rw [show _ = growC L u v from HRS2.out]; exact HO3.out), hid ((hb.out.trans (HBX.out.mono hb.out.size)).trans HB3.out)⟩, by simp [intOf]; omega⟩
        · obtain ⟨A5, c5, rfl⟩ := hown.form
          have HO := hid hown
          clear hown
          go_wp2
          go_ret2
          exact ⟨_, true, rfl, by rw [HALL.out, HCC.out, ← HRA.out (by omega)]; exact HO.out.mono HBW.out.size, HBW.out.trans (hb.out.mono HBW.out.size)⟩
set_option maxRecDepth 100000 in
set_option maxHeartbeats 2000000 in
theorem rnot_any (lv : Value) (l : List Span) (w : World) (h : SliceRd fSpan.ty w (Lt w.heap.size) lv l) (hl : l.length ≤ 10000) :
    Calls Tryz.prog 99 #[lv] w (RowPost (notF l) w) := by
  have HL := hid h
  clear h
  cases hm : rowMayB l with
  | false =>
    have HM := hid hm
    clear hm
    go_enter Tryz.func99, Tryz.ntmps99
    go_wp2_with (go_at_call 113; (refine (rmay4_any _ l _ HL.out).mono ?_); rintro e w1 ⟨rfl, hb1⟩; rw [HM.out])
    go_ret
    exact ⟨.slice none 0 0, rfl, by rw [show notF l = [] from if_neg (by rw [HM.out]; decide)]; exact OwnSpans.nil _ _, hb1⟩
  | true =>
    have HM := hid hm
    clear hm
    go_enter Tryz.func99, Tryz.ntmps99
    go_wp2_with (first
      | (go_at_call 113; (refine (rmay4_any _ l _ HL.out).mono ?_); rintro e w1 ⟨rfl, hb1⟩; rw [HM.out]; have HB1 := hid hb1; have HLR := hid (HL.out.lift hb1 hb1.size))
      | (go_at_call 116; (refine (cuts_any _ l _ HLR.out hl).mono ?_); rintro e wc ⟨CA, ccap, rfl, hrd, hbc⟩; obtain ⟨C, hCC⟩ : ∃ C, cutsC l = C := ⟨_, rfl⟩; have hC1 := (cutsC_len l).1; have hC2 := (cutsC_len l).2; have HCC := hid hCC; rw [hCC] at hrd hC1 hC2 ⊢; have HCR := hid hrd; have HBC := hid hbc; clear hrd hbc hCC))
    obtain ⟨_, _, hv, hcc, hcm, hcc2⟩ := HCR.out.cuts
    injection hv with q1 q2 q3
    subst q1
    have HC := hid hcc2
    have HLC := hid (HLR.out.lift HBC.out HBC.out.size)
    unfold maxLen at hcm
    clear hcc2 q2 q3
    have HBW := hid (bstep HB1.out HBC.out)
    go_loopw [3, 5] (fun ov iv wr => ∃ k : Nat, k ≤ C.length ∧ iv = .int .i64 k ∧ k + 1 ≤ C.length ∧ Hid (OwnSpans wc.heap.size wr ov (rowK (fun u t => !inB l u t) C k)) ∧ Hid (Below wc.heap.size wc wr)) (fun _ iv _ => C.length - (intOf iv).toNat)
    case atStart => exact ⟨0, Nat.zero_le _, rfl, by omega, hid (by rw [rowK_zero]; exact OwnSpans.nil _ _), hid (b0 _)⟩
    case round =>
      obtain ⟨k, hk, rfl, hk1, hout, hb⟩ := hrel
      have hown := hout.out
      have hL := rowK_len (fun u t => !inB l u t) C k
      have HRA := hid (fun h : C.length ≤ k + 1 => rowK_all (p := (fun u t => !inB l u t)) h)
      have HRS := hid (fun h : k + 1 < C.length => rowK_succ (p := (fun u t => !inB l u t)) h)
      obtain ⟨L, hLL⟩ : ∃ L, rowK (fun u t => !inB l u t) C k = L := ⟨_, rfl⟩
      rw [hLL] at hown hL HRA HRS
      clear hLL hout
      have i1 : (0 : Int) ≤ ↑k := by omega
      have i0 : (0 : Int) ≤ ↑k + 1 := by omega
      have i6 : IntKind.i64.wrap (↑k + 1) = (↑k : Int) + 1 := IntWalk.i64_in _ (by omega)
      have i7 : ((↑k : Int) + 1).toNat = k + 1 := by omega
      by_cases hlt : k + 1 < C.length
      · obtain ⟨g, o, hA, hF, hB1, hat1⟩ := HC.out k (by omega)
        cases hA
        obtain ⟨_, _, hA, -, hB2, hat2⟩ := HC.out (k + 1) hlt
        cases hA
        have HRS2 := hid (HRS.out hlt)
        obtain ⟨u, hu⟩ : ∃ u, u = C[k] := ⟨_, rfl⟩
        rw [← hu] at hB1 hat1 HRS2
        obtain ⟨v, hv⟩ : ∃ v, v = C[k + 1] := ⟨_, rfl⟩
        rw [← hv] at hB2 hat2 HRS2
        clear hu hv HRS
        have HU := hid hB1
        have HV := hid hB2
        have HO := hid hown
        have hgw : g < wr.heap.size := Nat.lt_of_lt_of_le hF hb.out.size
        have hgc : g < wc.heap.size := hF
        have HAT1 := hid (hat1.below hb.out hF)
        have HAT2 := hid (hat2.below hb.out hF)
        have HSL := hid (HLC.out.lift hb.out hb.out.size)
        obtain ⟨c0, c1, c2, c3, c4, c5, c6⟩ := HAT1.out.later hgw
        obtain ⟨d0, d1, d2, d3, d4, d5, d6⟩ := HAT2.out.later hgw
        clear hat1 hat2 hB1 hB2 hown
        have i2 : (↑k : Int) < ↑C.length := by omega
        have i3 : (↑k : Int) + 1 < ↑C.length := by omega
        cases hin : inB l u v with
        | true =>
          have HI := hid hin
          try rw [hin] at HRS2
          clear hin
          go_wp2
          (refine wp_region_later (by kernel_rfl) (by kernel_rfl) ?_; (repeat (go_big_quiet_step ((go_at_call 117; exact Calls.later (in_any _ l u v _ (HSL.out.lift (Later.below _) (Later.below _).size) HU.out HV.out) (congrArg Value.bool HI.out))))); refine wpQuiet_nil ?_; rintro _ ⟨⟨w1, hb1⟩, rfl⟩)
          go_wp2
          exact ⟨⟨k + 1, by omega, by go_num, by omega, hid (by rw [show _ = L from HRS2.out]; exact HO.out.below hb1 (Nat.le_refl _)), hid (bstep hb.out hb1)⟩, by simp [intOf]; omega⟩
        | false =>
          have HI := hid hin
          try rw [hin] at HRS2
          clear hin
          go_wp2
          (refine wp_region_later (by kernel_rfl) (by kernel_rfl) ?_; (repeat (go_big_quiet_step ((go_at_call 117; exact Calls.later (in_any _ l u v _ (HSL.out.lift (Later.below _) (Later.below _).size) HU.out HV.out) (congrArg Value.bool HI.out))))); refine wpQuiet_nil ?_; rintro _ ⟨e1, rfl⟩)
          obtain ⟨wx, hwx⟩ : ∃ wx : World, wx = e1.w := ⟨_, rfl⟩
          have HBX := hid (show Below wr.heap.size wr wx from hwx ▸ e1.below)
          rw [← hwx]
          clear hwx c0 c1 c2 c3 c4 c5 c6 d0 d1 d2 d3 d4 d5 d6
          have HOX := hid (HO.out.below HBX.out (Nat.le_refl _))
          have HX1 := hid (HAT1.out.below HBX.out hgw)
          have HX2 := hid (HAT2.out.below HBX.out hgw)
          obtain ⟨c0, c1, c2, c3, c4, c5, c6⟩ := HX1.out
          obtain ⟨d0, d1, d2, d3, d4, d5, d6⟩ := HX2.out
          have hgx : g < wx.heap.size := Nat.lt_of_lt_of_le hgw HBX.out.size
          have hwcx : wc.heap.size ≤ wx.heap.size := Nat.le_trans hb.out.size HBX.out.size
          go_wp2
          first
            | go_must (go_region_held3 (fun w' => w'.cell? ⟨g, o + k * 7, none⟩ = some (.int .i64 u.en) ∧ w'.cell? ⟨g, o + k * 7 + 1, none⟩ = some (.int .i64 u.v.major) ∧ w'.cell? ⟨g, o + k * 7 + 2, none⟩ = some (.int .i64 u.v.minor) ∧ w'.cell? ⟨g, o + k * 7 + 3, none⟩ = some (.int .i64 u.v.patch) ∧ w'.cell? ⟨g, o + k * 7 + 4, none⟩ = some (.string u.v.pre) ∧ w'.cell? ⟨g, o + k * 7 + 5, none⟩ = some (.string u.v.build) ∧ w'.cell? ⟨g, o + k * 7 + 6, none⟩ = some (.bool u.after) ∧ w'.cell? ⟨g, o + (k + 1) * 7, none⟩ = some (.int .i64 v.en) ∧ w'.cell? ⟨g, o + (k + 1) * 7 + 1, none⟩ = some (.int .i64 v.v.major) ∧ w'.cell? ⟨g, o + (k + 1) * 7 + 2, none⟩ = some (.int .i64 v.v.minor) ∧ w'.cell? ⟨g, o + (k + 1) * 7 + 3, none⟩ = some (.int .i64 v.v.patch) ∧ w'.cell? ⟨g, o + (k + 1) * 7 + 4, none⟩ = some (.string v.v.pre) ∧ w'.cell? ⟨g, o + (k + 1) * 7 + 5, none⟩ = some (.string v.v.build) ∧ w'.cell? ⟨g, o + (k + 1) * 7 + 6, none⟩ = some (.bool v.after)) (first | exact ⟨by assumption, by assumption, by assumption, by assumption, by assumption, by assumption, by assumption, by assumption, by assumption, by assumption, by assumption, by assumption, by assumption, by assumption⟩ | go_keep)
                ((go_at_call 118; go_must (refine (grow_any _ L u v wc.heap.size _ (HOX.out.below (b0 _).drew (Nat.le_refl _)) HU.out HV.out (by omega) hwcx).mono ?_; rintro e w3 ⟨v3, rfl, hown3, hb3⟩; replace hb3 : Below wc.heap.size wx w3 := ((Below.refl _ wx).drew).trans hb3; have HB3 := hid hb3; have HO3 := hid hown3; clear hb3 hown3; obtain ⟨e0, e1, e2, e3, e4, e5, e6⟩ := HX1.out.below HB3.out hgc; obtain ⟨f0, f1, f2, f3, f4, f5, f6⟩ := HX2.out.below HB3.out hgc))))
            | fail
          all_goals go_wp2
          all_goals exact ⟨⟨k + 1, by omega, by go_num, by omega, hid (by rw [show _ = growC L u v from HRS2.out]; exact HO3.out), hid ((hb.out.trans (HBX.out.mono hb.out.size)).trans HB3.out)⟩, by simp [intOf]; omega⟩
      · obtain ⟨A5, c5, rfl⟩ := hown.form
        have HO := hid hown
        clear hown
        go_wp2
        go_ret
        exact ⟨_, rfl, by rw [show notF l = notC l from if_pos HM.out]; unfold notC; rw [HCC.out, ← HRA.out (by omega)]; exact HO.out.mono HBW.out.size, HBW.out.trans (hb.out.mono HBW.out.size)⟩
set_option maxRecDepth 100000 in
set_option maxHeartbeats 2000000 in
theorem ror_any (lv mv : Value) (l m : List Span) (w : World) (h : SliceRd fSpan.ty w (Lt w.heap.size) lv l) (h' : SliceRd fSpan.ty w (Lt w.heap.size) mv m) (hl : l.length ≤ 4000) (hm : m.length ≤ 4000) :
    Calls Tryz.prog 98 #[lv, mv] w (RowPost (orF l m) w) := by
  obtain ⟨ii, hii⟩ := info_parts span_info
  have HII := hid hii
  obtain ⟨A, cap, rfl, hcap, hmax, -⟩ := h.flat
  obtain ⟨A', cap', rfl, hcap', hmax', -⟩ := h'.flat
  have HL := hid h
  have HM := hid h'
  clear h h' hii
  cases h1 : rowMayB l with
  | false =>
    have H1 := hid h1
    clear h1
    go_enter Tryz.func98, Tryz.ntmps98
    go_wp2_with (go_at_call 113; (refine (rmay4_any _ l _ HL.out).mono ?_); rintro e w1 ⟨rfl, hb1⟩; rw [H1.out])
    go_ret
    exact ⟨.slice none 0 0, rfl, by rw [show orF l m = [] from if_neg (by rw [H1.out]; simp)]; exact OwnSpans.nil _ _, hb1⟩
  | true =>
    have H1 := hid h1
    clear h1
    cases h2 : rowMayB m with
    | false =>
      have H2 := hid h2
      clear h2
      go_enter Tryz.func98, Tryz.ntmps98
      have tok := hid True.intro
      go_wp2_with (first
        | (go_at_call 113; clear tok; (refine (rmay4_any _ l _ HL.out).mono ?_); rintro e w1 ⟨rfl, hb1⟩; rw [H1.out]; have HB1 := hid hb1; have HM2 := hid (HM.out.lift hb1 hb1.size))
        | (go_at_call 113; (refine (rmay4_any _ m _ HM2.out).mono ?_); rintro e w2 ⟨rfl, hb2⟩; rw [H2.out]; have HB2 := hid (bstep HB1.out hb2)))
      go_ret
      exact ⟨.slice none 0 0, rfl, by rw [show orF l m = [] from if_neg (by rw [H2.out]; simp)]; exact OwnSpans.nil _ _, HB2.out⟩
    | true =>
      have H2 := hid h2
      clear h2
      go_enter Tryz.func98, Tryz.ntmps98
      have tok := hid True.intro
      have tok2 := hid True.intro
      go_wp2_with (first
        | (go_at_call 113; clear tok; (refine (rmay4_any _ l _ HL.out).mono ?_); rintro e w1 ⟨rfl, hb1⟩; rw [H1.out]; have HB1 := hid hb1; have HM2 := hid (HM.out.lift hb1 hb1.size))
        | (go_at_call 113; (refine (rmay4_any _ m _ HM2.out).mono ?_); rintro e w2 ⟨rfl, hb2⟩; rw [H2.out]; have HB2 := hid (bstep HB1.out hb2); have hz2 := HB2.out.size)
        | (at_builtin
           clear tok2
           go_must (refine wpList_append_src _ rfl (.const (.slice none 0 0)) (.tmp 16) _ rfl w.heap.size 106 ii _ 14 144 Tryz.underlying60 HII.out.1 HII.out.2.1 HII.out.2.2.1 HII.out.2.2.2 rfl (by omega) (.slice none 0 0) 0 [] (by rfl) ⟨rfl, .inl ⟨rfl, rfl⟩⟩ A l.length cap (fSpan.all l) (by rfl) (HL.out.below HB2.out).srcF.2.1 (fSpan.all_one _) (by unfold maxLen; omega) (by omega) hz2 ?_)
           intro v4 w4 hown4 hg4 _
           simp only [Nat.zero_add, List.nil_append] at hown4
           obtain ⟨A4, c4, rfl⟩ := own_form hown4
           have HB4 := hid (show Below w.heap.size w w4 from HB2.out.grown hg4 hz2 (fun k hk => by cases hk))
           have HO4 := hid hown4
           have hz4 := HB4.out.size
           clear hown4 hg4)
        | (at_builtin
           go_must (refine wpList_append_src _ rfl (.tmp 17) (.tmp 18) _ rfl w.heap.size 106 ii _ 14 144 Tryz.underlying60 HII.out.1 HII.out.2.1 HII.out.2.2.1 HII.out.2.2.2 rfl (by omega) (.slice A4 l.length c4) l.length (fSpan.all l) (by rfl) HO4.out A' m.length cap' (fSpan.all m) (by rfl) (HM.out.below HB4.out).srcF.2.1 (fSpan.all_one _) (by unfold maxLen; omega) (by omega) hz4 ?_)
           intro v5 w5 hown5 hg5 _
           obtain ⟨A5, c5, rfl⟩ := own_form hown5
           have HB5 := hid (show Below w.heap.size w w5 from HB4.out.grown hg5 hz4 (fun k hk => (HO4.out.lt k hk).1))
           have HO5 := hid hown5
           have HR5 : Hid (SliceRd fSpan.ty w5 (Lt w5.heap.size) (.slice A5 (l.length + m.length) c5) (l ++ m)) := hid (rd_of_ownF (f := fSpan) (by rw [fSpan.all_append, List.length_append]; exact hown5) (fun x hx => by rcases List.mem_append.1 hx with hx | hx; exact HL.out.srcF.2.2 x hx; exact HM.out.srcF.2.2 x hx) (fun g hg => (hown5.lt g hg).2))
           clear hown5 hg5)
        | (go_at_call 115; (refine (rmake_any _ (l ++ m) _ HR5.out (by rw [List.length_append]; omega)).mono ?_); rintro e w6 ⟨v6, ok, rfl, hown6, hb6⟩; have HO6 := hid hown6; have HB6 := hid hb6; clear hown6 hb6))
      go_ret
      exact ⟨v6, rfl, by rw [show orF l m = makeF (l ++ m) from if_pos ⟨H1.out, H2.out⟩]; exact HO6.out.mono HB5.out.size, bstep HB5.out HB6.out⟩
end
end Go.Proofs.YthneiolcljnbeaaGreatDoor
