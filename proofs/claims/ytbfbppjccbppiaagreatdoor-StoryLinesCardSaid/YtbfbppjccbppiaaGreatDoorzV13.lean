import Derived.Test.YtbfbppjccbppiaaGreatDoorV12
import Derived.Outline
namespace Go.Proofs.YtbfbppjccbppiaaGreatDoor
open Go Go.RowKit
section
def CutsPost (n : Nat) (w : World) (e : Ending) (w' : World) : Prop := ∃ A c l', e = .returned (.slice A l'.length c) ∧ SliceRd fCut.ty w' (Lt w'.heap.size) (.slice A l'.length c) l' ∧ 1 ≤ l'.length ∧ l'.length ≤ 2 + 2 * n ∧ Below w.heap.size w w'
def qh7 (n : Int) : Cut := ⟨n, ⟨0, 0, 0, ⟨#[]⟩, ⟨#[]⟩⟩, false⟩
theorem qu8 {n : Int} (h : n = -1 ∨ n = 1) : (qh7 n).B := by
 refine ⟨by simp only [qh7]; omega, ?_⟩
 exact qp4
theorem ends_rd (w : World) : SliceRd fCut.ty (w.alloc (.cells #[.int .i64 (-1), .int .i64 0, .int .i64 0, .int .i64 0, .string ⟨#[]⟩, .string ⟨#[]⟩, .bool false, .int .i64 1, .int .i64 0, .int .i64 0, .int .i64 0, .string ⟨#[]⟩, .string ⟨#[]⟩, .bool false] 116)) (Lt (w.heap.size + 1)) (.slice (some ⟨w.heap.size, 0, none⟩) 2 2) [qh7 (-1), qh7 1] := by
 have hown : (w.alloc (.cells #[.int .i64 (-1), .int .i64 0, .int .i64 0, .int .i64 0, .string ⟨#[]⟩, .string ⟨#[]⟩, .bool false, .int .i64 1, .int .i64 0, .int .i64 0, .int .i64 0, .string ⟨#[]⟩, .string ⟨#[]⟩, .bool false] 116)).ownsRow 0 116 7 (.slice (some ⟨w.heap.size, 0, none⟩) 2 2) 2 (fCut.all [qh7 (-1), qh7 1]) :=
  ⟨rfl, .inr ⟨w.heap.size, 2, _, rfl, by omega, heap_alloc_new w _, Nat.le_refl _, by unfold maxLen; omega, by decide, rfl⟩⟩
 refine qf8 (f := fCut) hown (fun x hx => ?_) (fun g hg => ?_)
 ·rcases List.mem_cons.1 hx with rfl | hx
  ·exact qu8 (.inl rfl)
  ·rcases List.mem_cons.1 hx with rfl | hx
   ·exact qu8 (.inr rfl)
   ·cases hx
 ·injection hg with hg
  have hg' : w.heap.size = g := hg
  show g < w.heap.size + 1
  omega
set_option maxRecDepth 100000 in
set_option maxHeartbeats 2000000 in
theorem cuts_any (lv : Value) (l : List Span) (w : World) (h : SliceRd qd6.ty w (Lt w.heap.size) lv l) (hl : l.length ≤ 10000) :
  Calls Tryz.prog 159 #[lv] w (CutsPost l.length w) := by
 obtain ⟨A, cap, rfl, hcap, hmax, hc⟩ := h.spans
 have HC := hid hc
 unfold maxLen at hmax
 clear h hc
 go_enter Tryz.func159, Tryz.ntmps159
 go_wp2_with (first
  | (go_at_call 102; refine (zh1 _).mono ?_; rintro e w1 ⟨rfl, hb1⟩)
  | (go_at_call 104; refine (zr4 _).mono ?_; rintro e w2 ⟨rfl, hb2⟩; have HB0 := hid (qa1 hb1 hb2)))
 have HE := hid (ends_rd w2)
 have HB3 := hid (qa0 HB0.out (.cells #[.int .i64 (-1), .int .i64 0, .int .i64 0, .int .i64 0, .string ⟨#[]⟩, .string ⟨#[]⟩, .bool false, .int .i64 1, .int .i64 0, .int .i64 0, .int .i64 0, .string ⟨#[]⟩, .string ⟨#[]⟩, .bool false] 116))
 go_loopw [3, 4] (fun ov iv wr => ∃ k : Nat, k ≤ l.length ∧ iv = .int .i64 k ∧ Hid (∃ l', SliceRd fCut.ty wr (Lt wr.heap.size) ov l' ∧ 1 ≤ l'.length ∧ l'.length ≤ 2 + 2 * k) ∧ Hid (Below w.heap.size w wr)) (fun _ iv _ => l.length - (intOf iv).toNat)
 case atStart => exact ⟨0, Nat.zero_le _, rfl, hid ⟨_, by simpa using HE.out, by decide, by decide⟩, HB3⟩
 case round =>
  obtain ⟨k, hk, rfl, hout, hb⟩ := hrel
  obtain ⟨l', hrd, hl1, hl2⟩ := hout.out
  by_cases hlt : k < l.length
  ·obtain ⟨g, o, hA, hF, hB, hat⟩ := HC.out k hlt
   cases hA
   obtain ⟨s, hs⟩ : ∃ s, s = l[k] := ⟨_, rfl⟩
   rw [← hs] at hB hat
   clear hs
   have HLO := hid hB.1
   have HHI := hid hB.2
   have HRD := hid hrd
   have hgw : g < wr.heap.size := Nat.lt_of_lt_of_le hF hb.out.size
   have HAT := hid (hat.below hb.out hF)
   obtain ⟨c0, c1, c2, c3, c4, c5, c6, c7, c8, c9, c10, c11, c12, c13⟩ := HAT.out
   clear hat hB hrd
   have i1 : (0 : Int) ≤ ↑k := by omega
   have i2 : (↑k : Int) < ↑l.length := by omega
   go_wp2
   first
    | go_must (go_region_held3 (fun w' => w'.cell? ⟨g, o + k * 14, none⟩ = some (.int .i64 s.lo.en) ∧ w'.cell? ⟨g, o + k * 14 + 1, none⟩ = some (.int .i64 s.lo.v.major) ∧ w'.cell? ⟨g, o + k * 14 + 2, none⟩ = some (.int .i64 s.lo.v.minor) ∧ w'.cell? ⟨g, o + k * 14 + 3, none⟩ = some (.int .i64 s.lo.v.patch) ∧ w'.cell? ⟨g, o + k * 14 + 4, none⟩ = some (.string s.lo.v.pre) ∧ w'.cell? ⟨g, o + k * 14 + 5, none⟩ = some (.string s.lo.v.build) ∧ w'.cell? ⟨g, o + k * 14 + 6, none⟩ = some (.bool s.lo.after) ∧ w'.cell? ⟨g, o + k * 14 + 7, none⟩ = some (.int .i64 s.hi.en) ∧ w'.cell? ⟨g, o + k * 14 + 8, none⟩ = some (.int .i64 s.hi.v.major) ∧ w'.cell? ⟨g, o + k * 14 + 9, none⟩ = some (.int .i64 s.hi.v.minor) ∧ w'.cell? ⟨g, o + k * 14 + 10, none⟩ = some (.int .i64 s.hi.v.patch) ∧ w'.cell? ⟨g, o + k * 14 + 11, none⟩ = some (.string s.hi.v.pre) ∧ w'.cell? ⟨g, o + k * 14 + 12, none⟩ = some (.string s.hi.v.build) ∧ w'.cell? ⟨g, o + k * 14 + 13, none⟩ = some (.bool s.hi.after)) (first | exact ⟨by assumption, by assumption, by assumption, by assumption, by assumption, by assumption, by assumption, by assumption, by assumption, by assumption, by assumption, by assumption, by assumption, by assumption⟩ | go_keep)
      ((first
       | (go_at_call_of 181 (s.lo.en); go_must (refine (put_any _ l' s.lo _ (HRD.out.lift (b0 _).drew (Nat.le_refl _)) HLO.out hl1 (by omega)).mono ?_; rintro e w3 ⟨v3, l3, rfl, hrd3, hl31, hl32, hb3⟩; replace hb3 : Below wr.heap.size wr w3 := ((b0 wr).drew).trans hb3; have HR3 := hid hrd3; have HB4 := hid hb3; clear hrd3 hb3; obtain ⟨d0, d1, d2, d3, d4, d5, d6, d7, d8, d9, d10, d11, d12, d13⟩ := HAT.out.below HB4.out hgw))
       | (go_at_call_of 181 (s.hi.en); go_must (refine (put_any _ l3 s.hi _ HR3.out HHI.out hl31 (by omega)).mono ?_; rintro e w4 ⟨v4, l4, rfl, hrd4, hl41, hl42, hb4⟩; have HR4 := hid hrd4; have HB5 := hid (qa1 HB4.out hb4); clear hrd4 hb4; obtain ⟨e0, e1, e2, e3, e4, e5, e6, e7, e8, e9, e10, e11, e12, e13⟩ := HAT.out.below HB5.out hgw)))))
    | fail
   all_goals go_wp2
   all_goals exact ⟨⟨k + 1, by omega, by go_num, hid ⟨l4, HR4.out, hl41, by omega⟩, hid (qa1 hb.out HB5.out)⟩, by simp [intOf]; omega⟩
  ·obtain ⟨A5, c5, rfl, -, -, -⟩ := hrd.cuts
   have HRD := hid hrd
   clear hrd
   go_wp2
   go_ret
   exact ⟨A5, c5, l', rfl, HRD.out, hl1, by omega, hb.out⟩
end
section
theorem span_info : (Tryz.prog.info? 119).map (fun i => (i.zero, i.size, i.bytes)) = some (some (.agg #[.int .i64 0, .int .i64 0, .int .i64 0, .int .i64 0, .string ⟨#[]⟩, .string ⟨#[]⟩, .bool false, .int .i64 0, .int .i64 0, .int .i64 0, .int .i64 0, .string ⟨#[]⟩, .string ⟨#[]⟩, .bool false]), 14, 144) := by kernel_rfl
def qa8 (B : Nat) (w : World) (v : Value) (l : List Span) : Prop := w.ownsRow B 119 14 v l.length (qd6.all l) ∧ ∀ s ∈ l, s.B
theorem qa8.form {B : Nat} {w : World} {v : Value} {l : List Span} (h : qa8 B w v l) : ∃ A c, v = .slice A l.length c := qb1 h.1
theorem qa8.below {B M : Nat} {w w' : World} {v : Value} {l : List Span} (h : qa8 B w v l) (hb : Below M w w') (hM : w.heap.size ≤ M) : qa8 B w' v l :=
  ⟨ownsRow_below h.1 hb fun g hg => Nat.lt_of_lt_of_le (h.1.lt g hg).2 hM, h.2⟩
theorem qa8.rd {B : Nat} {w : World} {v : Value} {l : List Span} (h : qa8 B w v l) : SliceRd qd6.ty w (Lt w.heap.size) v l := qf8 (f := qd6) h.1 h.2 (fun g hg => (h.1.lt g hg).2)
theorem qa8.nil (B : Nat) (w : World) : qa8 B w (.slice none 0 0) [] := ⟨⟨rfl, .inl ⟨rfl, rfl⟩⟩, fun s h => by cases h⟩
theorem qy0 {w : World} {B : Nat} {e : TypeId} {s n : Nat} {v : Value} {xs : List Value} (h : w.ownsRow B e s v n xs) {g : Nat} (hg : v.ownBlock = some g) {i : Nat} (_hi : i < n * s) (x : Value) : (w.setCell ⟨g, i, none⟩ x).ownsRow B e s v n (xs.set i x) := by
  refine ⟨by rw [List.length_set]; exact h.1, ?_⟩
  rcases h.2 with ⟨rfl, _⟩ | ⟨g', cap, cur, rfl, hb, hgg, h1, h2, h3, h4⟩
  · cases hg
  · obtain rfl : g' = g := Option.some.inj hg
    refine .inr ⟨g', cap, cur.setIfInBounds i x, rfl, hb, ?_, h1, h2, by rw [Array.size_setIfInBounds]; exact h3, ?_⟩
    · exact heap_setCell_same w g' i _ e _ hgg
    · rw [Array.toList_setIfInBounds, List.take_set, h4]
theorem zk1 {α : Type} (P Q : List α) {i j : Nat} (hi : i = P.length + j) (x : α) : (P ++ Q).set i x = P ++ Q.set j x := by
  subst hi
  rw [List.set_append_right _ _ (by omega)]
  congr 2
  omega
theorem qa8.turn {B : Nat} {w : World} {v : Value} {l : List Span} {s : Span} (h : qa8 B w v (l ++ [s])) {g : Nat} (hg : v.ownBlock = some g) (u : Cut) (hu : u.B) :
    qa8 B (((((((w.setCell ⟨g, l.length * 14 + 7, none⟩ (.int .i64 u.en)).setCell ⟨g, l.length * 14 + 7 + 1, none⟩ (.int .i64 u.v.major)).setCell ⟨g, l.length * 14 + 7 + 2, none⟩ (.int .i64 u.v.minor)).setCell ⟨g, l.length * 14 + 7 + 3, none⟩ (.int .i64 u.v.patch)).setCell ⟨g, l.length * 14 + 7 + 4, none⟩ (.string u.v.pre)).setCell ⟨g, l.length * 14 + 7 + 5, none⟩ (.string u.v.build)).setCell ⟨g, l.length * 14 + 7 + 6, none⟩ (.bool u.after)) v (l ++ [⟨s.lo, u⟩]) := by
  have hn : (l ++ [s]).length = l.length + 1 := by simp
  have hn2 : (l ++ [(⟨s.lo, u⟩ : Span)]).length = l.length + 1 := by simp
  refine ⟨?_, ?_⟩
  · have h0 := h.1
    rw [hn] at h0
    rw [hn2]
    have hi : ∀ j, j < 7 → l.length * 14 + 7 + j < (l.length + 1) * 14 := by intro j hj; omega
    have h1 := qy0 (qy0 (qy0 (qy0 (qy0 (qy0 (qy0 h0 hg (hi 0 (by omega)) (.int .i64 u.en)) hg (hi 1 (by omega)) (.int .i64 u.v.major)) hg (hi 2 (by omega)) (.int .i64 u.v.minor)) hg (hi 3 (by omega)) (.int .i64 u.v.patch)) hg (hi 4 (by omega)) (.string u.v.pre)) hg (hi 5 (by omega)) (.string u.v.build)) hg (hi 6 (by omega)) (.bool u.after)
    have e : (((((((qd6.all (l ++ [s])).set (l.length * 14 + 7 + 0) (.int .i64 u.en)).set (l.length * 14 + 7 + 1) (.int .i64 u.v.major)).set (l.length * 14 + 7 + 2) (.int .i64 u.v.minor)).set (l.length * 14 + 7 + 3) (.int .i64 u.v.patch)).set (l.length * 14 + 7 + 4) (.string u.v.pre)).set (l.length * 14 + 7 + 5) (.string u.v.build)).set (l.length * 14 + 7 + 6) (.bool u.after) = qd6.all (l ++ [⟨s.lo, u⟩]) := by
      have e0 : qd6.all (l ++ [s]) = (qd6.all l ++ qd3 s.lo) ++ qd3 s.hi := by rw [qd6.all_snoc, List.append_assoc]; rfl
      have e1 : qd6.all (l ++ [(⟨s.lo, u⟩ : Span)]) = (qd6.all l ++ qd3 s.lo) ++ qd3 u := by rw [qd6.all_snoc, List.append_assoc]; rfl
      have hP : (qd6.all l ++ qd3 s.lo).length = l.length * 14 + 7 := by rw [List.length_append, qd6.all_length]; rfl
      rw [e0, e1, zk1 _ _ (j := 0) (by rw [hP]), zk1 _ _ (j := 1) (by rw [hP]), zk1 _ _ (j := 2) (by rw [hP]), zk1 _ _ (j := 3) (by rw [hP]), zk1 _ _ (j := 4) (by rw [hP]), zk1 _ _ (j := 5) (by rw [hP]), zk1 _ _ (j := 6) (by rw [hP])]
      rfl
    rw [e] at h1
    exact h1
  · intro x hx
    rcases List.mem_append.1 hx with hx | hx
    · exact h.2 x (List.mem_append_left _ hx)
    · have : x = ⟨s.lo, u⟩ := by simpa using hx
      subst this
      exact ⟨(h.2 s (by simp)).1, hu⟩
theorem own_addr {w : World} {B : Nat} {e : TypeId} {s n : Nat} {v : Value} {xs : List Value} (h : w.ownsRow B e s v n xs) (hn : 0 < n) :
    ∃ g cap, v = .slice (some ⟨g, 0, none⟩) n cap ∧ v.ownBlock = some g ∧ B ≤ g ∧ g < w.heap.size ∧ n ≤ cap ∧ cap ≤ maxLen ∧ (∀ i, i < n * s → w.cell? ⟨g, i, none⟩ = xs[i]?) ∧ ∀ o, w.frozen? ⟨g, o, none⟩ = false := by
  have hlt := h.lt
  rcases h.2 with ⟨rfl, h0⟩ | ⟨g, cap, cur, rfl, hb, hg, h1, h2, h3, h4⟩
  · omega
  · refine ⟨g, cap, rfl, rfl, hb, (hlt g rfl).2, h1, h2, fun i hi => ?_, fun o => frozen_of_row w g o cur e hg⟩
    rw [cell_of_row w g i cur e (0, 0) hg, ← h4, List.getElem?_take_of_lt hi, Array.getElem?_toList]
def GrowPost (B n : Nat) (w : World) (e : Ending) (w' : World) : Prop := ∃ v' l', e = .returned v' ∧ qa8 B w' v' l' ∧ l'.length ≤ n + 1 ∧ Below B w w'
theorem grow_end {B : Nat} {w' : World} {v : Value} {l : List Span} {u t : Cut} {xs : List Value} {n : Nat} (h : w'.ownsRow B 119 14 v n xs) (hl : ∀ s ∈ l, s.B) (hu : u.B) (ht : t.B) (hn : n = l.length + 1) (hx : xs = qd6.all l ++ (qd3 u ++ qd3 t)) : qa8 B w' v (l ++ [⟨u, t⟩]) := by
  refine ⟨?_, ?_⟩
  · rw [qd6.all_snoc, List.length_append]
    subst hn; subst hx
    exact h
  · intro x hx
    rcases List.mem_append.1 hx with hx | hx
    · exact hl x hx
    · have : x = ⟨u, t⟩ := by simpa using hx
      subst this
      exact ⟨hu, ht⟩
set_option maxRecDepth 100000 in
set_option maxHeartbeats 2000000 in
theorem grow_any (lv : Value) (l : List Span) (u t : Cut) (B : Nat) (w : World) (h : qa8 B w lv l) (hu : u.B) (ht : t.B) (hl : l.length ≤ 100000) (hB : B ≤ w.heap.size) :
    Calls Tryz.prog 161 #[lv, .agg #[.int .i64 u.en, .int .i64 u.v.major, .int .i64 u.v.minor, .int .i64 u.v.patch, .string u.v.pre, .string u.v.build, .bool u.after], .agg #[.int .i64 t.en, .int .i64 t.v.major, .int .i64 t.v.minor, .int .i64 t.v.patch, .string t.v.pre, .string t.v.build, .bool t.after]] w (GrowPost B l.length w) := by
  obtain ⟨ii, hii⟩ := info_parts span_info
  have HII := hid hii
  have HU := hid hu
  have HT := hid ht
  clear hii hu ht
  obtain ⟨A, cap, rfl⟩ := h.form
  have HO := hid h
  have HLB := hid h.2
  have hcase : l = [] ∨ ∃ l0 s, l = l0 ++ [s] := by
    rcases List.eq_nil_or_concat l with h | ⟨l0, s, h⟩
    · exact .inl h
    · exact .inr ⟨l0, s, by rw [h, List.concat_eq_append]⟩
  rcases hcase with rfl | ⟨l0, s, rfl⟩
  · clear h
    go_enter Tryz.func161, Tryz.ntmps161
    go_wp2
    obtain ⟨w0, hw0⟩ : ∃ w0 : World, w0 = (w.alloc (.cells #[.int .i64 u.en, .int .i64 u.v.major, .int .i64 u.v.minor, .int .i64 u.v.patch, .string u.v.pre, .string u.v.build, .bool u.after] 116)).alloc (.cells #[.int .i64 t.en, .int .i64 t.v.major, .int .i64 t.v.minor, .int .i64 t.v.patch, .string t.v.pre, .string t.v.build, .bool t.after] 116) := ⟨_, rfl⟩
    have HB0 : Hid (Below w.heap.size w w0) := hid (by rw [hw0]; exact qa0 (qa0 (b0 w) _) _)
    have HX1 : Hid (BoxC w0 w.heap.size u) := hid (by rw [hw0]; exact (BoxC.new w u _).below (qa0 (b0 _) _) (by simp))
    have HX2 : Hid (BoxC w0 (w.heap.size + 1) t) := hid (by
      rw [hw0]
      have := BoxC.new (w.alloc (.cells #[.int .i64 u.en, .int .i64 u.v.major, .int .i64 u.v.minor, .int .i64 u.v.patch, .string u.v.pre, .string u.v.build, .bool u.after] 116)) t 116
      rwa [World.size_alloc] at this)
    have hz : w.heap.size + 1 < w0.heap.size := by rw [hw0]; simp
    rw [← hw0]
    clear hw0
    refine qa3 (by kernel_rfl) (by kernel_rfl) ?_
    repeat (go_big_quiet_step (fail))
    refine wpQuiet_nil ?_
    rintro _ ⟨e1, rfl⟩
    obtain ⟨wx, hwx⟩ : ∃ wx : World, wx = e1.w := ⟨_, rfl⟩
    have HBX := hid (show Below w0.heap.size w0 wx from hwx ▸ e1.below)
    rw [← hwx]
    clear hwx
    obtain ⟨d0, d1, d2, d3, d4, d5, d6⟩ := HX1.out.below HBX.out (by omega)
    obtain ⟨e0, e1, e2, e3, e4, e5, e6⟩ := HX2.out.below HBX.out hz
    have hzx : w.heap.size + 1 < wx.heap.size := Nat.lt_of_lt_of_le hz HBX.out.size
    have HOX := hid (ownsRow_below HO.out.1 (HB0.out.trans (HBX.out.mono HB0.out.size)) (fun g hg => (HO.out.1.lt g hg).2))
    go_wp2_with (first
      | (at_builtin
         go_must (refine qa5 _ rfl (.tmp 29) (.tmp 33) _ rfl B 119 ii _ 14 144 Tryz.underlying74 HII.out.1 HII.out.2.1 HII.out.2.2.1 HII.out.2.2.2 rfl (by omega) _ (0) ([]) (by rfl) (by exact (HOX.out).alloc _) (some ⟨wx.heap.size, 0, none⟩) 1 1 (qd3 u ++ qd3 t) (by rfl) (by exact qe1 _ _ rfl 14 _ rfl rfl) (by exact qd6.one ⟨u, t⟩) (by unfold maxLen; omega) (by omega) (by simp; omega) ?_)
         intro v4 w4 hown4 hg4 _
         have HB4 := hid (show Below B w w4 from Below.grown (((HB0.out.trans (HBX.out.mono HB0.out.size)).mono hB).alloc (by omega) _) hg4 (by simp; omega) (fun k hk => ((HOX.out).lt k hk).1))
         have HO4 := hid hown4
         clear hown4 hg4))
    go_ret
    exact ⟨v4, ([]) ++ [⟨u, t⟩], rfl, grow_end HO4.out HLB.out HU.out HT.out (by first | rfl | simp) (by first | rfl | simp [Flat.all]), by simp, HB4.out⟩
  · have hlen : (l0 ++ [s]).length = l0.length + 1 := by simp
    obtain ⟨g, cap', hv, hgb, hBg, hgl, hcap, hmax, hcel, hfz⟩ := own_addr h.1 (by rw [hlen]; omega)
    injection hv with e1 e2 e3
    subst e1
    rw [hlen] at hcel hcap ⊢
    have hat : CutAt w g (l0.length * 14 + 7) s.hi := by
      have hx : ∀ j, j < 7 → w.cell? ⟨g, l0.length * 14 + 7 + j, none⟩ = (qd3 s.hi)[j]? := by
        intro j hj
        rw [hcel _ (by omega), qd6.all_snoc]
        rw [List.getElem?_append_right (by rw [qd6.all_length]; show l0.length * 14 ≤ _; omega), qd6.all_length]
        have e : l0.length * 14 + 7 + j - l0.length * qd6.size = 7 + j := by show l0.length * 14 + 7 + j - l0.length * 14 = 7 + j; omega
        rw [e]
        show (qd3 s.lo ++ qd3 s.hi)[7 + j]? = _
        rw [List.getElem?_append_right (by show 7 ≤ _; omega)]
        congr 1
        show 7 + j - 7 = j
        omega
      exact ⟨hx 0 (by omega), hx 1 (by omega), hx 2 (by omega), hx 3 (by omega), hx 4 (by omega), hx 5 (by omega), hx 6 (by omega)⟩
    have HAT := hid hat
    have HSB := hid ((h.2 s (by simp)).2)
    rw [List.length_append] at hl
    simp only [List.length_cons, List.length_nil] at hl
    clear h hat hcel e2 e3
    have k1 : IntKind.i64.wrap (↑l0.length + 1 - 1) = (↑l0.length : Int) := by rw [show (↑l0.length : Int) + 1 - 1 = ↑l0.length by omega]; exact IntWalk.i64_in _ (by omega)
    unfold maxLen at hmax
    go_enter Tryz.func161, Tryz.ntmps161
    go_wp2
    obtain ⟨w0, hw0⟩ : ∃ w0 : World, w0 = (w.alloc (.cells #[.int .i64 u.en, .int .i64 u.v.major, .int .i64 u.v.minor, .int .i64 u.v.patch, .string u.v.pre, .string u.v.build, .bool u.after] 116)).alloc (.cells #[.int .i64 t.en, .int .i64 t.v.major, .int .i64 t.v.minor, .int .i64 t.v.patch, .string t.v.pre, .string t.v.build, .bool t.after] 116) := ⟨_, rfl⟩
    have HB0 : Hid (Below w.heap.size w w0) := hid (by rw [hw0]; exact qa0 (qa0 (b0 w) _) _)
    have HX1 : Hid (BoxC w0 w.heap.size u) := hid (by rw [hw0]; exact (BoxC.new w u _).below (qa0 (b0 _) _) (by simp))
    have HX2 : Hid (BoxC w0 (w.heap.size + 1) t) := hid (by
      rw [hw0]
      have := BoxC.new (w.alloc (.cells #[.int .i64 u.en, .int .i64 u.v.major, .int .i64 u.v.minor, .int .i64 u.v.patch, .string u.v.pre, .string u.v.build, .bool u.after] 116)) t 116
      rwa [World.size_alloc] at this)
    have hz : w.heap.size + 1 < w0.heap.size := by rw [hw0]; simp
    rw [← hw0]
    clear hw0
    have HLEN := hid hlen
    clear hlen
    have i1 : (0 : Int) ≤ ↑l0.length := by omega
    have i2 : (↑l0.length : Int) < ↑l0.length + 1 := by omega
    have z0 : decide ((0 : Int) ≤ ↑l0.length) = true := decide_eq_true i1
    have hgx : g < w0.heap.size := by have := HB0.out.size; omega
    obtain ⟨c0, c1, c2, c3, c4, c5, c6⟩ := (HAT.out.below HB0.out hgl).later hgx
    obtain ⟨d0, d1, d2, d3, d4, d5, d6⟩ := HX1.out.later (show w.heap.size < w0.heap.size by omega)
    by_cases q1 : cmpC s.hi u = 0
    · have z1 : (cmpC s.hi u == 0) = true := by rw [q1]; rfl
      clear q1
      refine qa3 (by kernel_rfl) (by kernel_rfl) ?_
      repeat (go_big_quiet_step ((go_at_call 180; (with_reducible exact Calls.later (qo5 s.hi u _ HSB.out HU.out) rfl))))
      refine wpQuiet_nil ?_
      rintro _ ⟨e1, rfl⟩
      obtain ⟨wx, hwx⟩ : ∃ wx : World, wx = e1.w := ⟨_, rfl⟩
      have HBX := hid (show Below w0.heap.size w0 wx from hwx ▸ e1.below)
      rw [← hwx]
      clear hwx c0 c1 c2 c3 c4 c5 c6 d0 d1 d2 d3 d4 d5 d6
      obtain ⟨d0, d1, d2, d3, d4, d5, d6⟩ := HX1.out.below HBX.out (by omega)
      obtain ⟨e0, e1, e2, e3, e4, e5, e6⟩ := HX2.out.below HBX.out hz
      have hzx : w.heap.size + 1 < wx.heap.size := Nat.lt_of_lt_of_le hz HBX.out.size
      have HBWX := hid (HB0.out.trans (HBX.out.mono HB0.out.size))
      have HATX := hid (HAT.out.below HBWX.out hgl)
      obtain ⟨c0, c1, c2, c3, c4, c5, c6⟩ := HATX.out
      have hfx : ∀ o, wx.frozen? ⟨g, o, none⟩ = false := fun o => (HBWX.out.frozen (p := ⟨g, o, none⟩) hgl).trans (hfz o)
      have HOX : Hid (qa8 B wx (.slice (some ⟨g, 0, none⟩) (l0.length + 1) cap) (l0 ++ [s])) := hid (HLEN.out ▸ HO.out.below HBWX.out (Nat.le_refl _))
      go_wp2
      go_ret
      refine ⟨.slice (some ⟨g, 0, none⟩) (l0.length + 1) cap, l0 ++ [⟨s.lo, t⟩], rfl, HOX.out.turn (g := g) rfl t HT.out, by simp, ?_⟩
      have hbm := HBWX.out.mono hB
      exact ((((((hbm.setCell (p := ⟨g, _, none⟩) hBg _).setCell (p := ⟨g, _, none⟩) hBg _).setCell (p := ⟨g, _, none⟩) hBg _).setCell (p := ⟨g, _, none⟩) hBg _).setCell (p := ⟨g, _, none⟩) hBg _).setCell (p := ⟨g, _, none⟩) hBg _).setCell (p := ⟨g, _, none⟩) hBg _
    · have z1 : (cmpC s.hi u == 0) = false := by rw [beq_eq_false_iff_ne]; exact q1
      clear q1
      refine qa3 (by kernel_rfl) (by kernel_rfl) ?_
      repeat (go_big_quiet_step ((go_at_call 180; (with_reducible exact Calls.later (qo5 s.hi u _ HSB.out HU.out) rfl))))
      refine wpQuiet_nil ?_
      rintro _ ⟨e1, rfl⟩
      obtain ⟨wx, hwx⟩ : ∃ wx : World, wx = e1.w := ⟨_, rfl⟩
      have HBX := hid (show Below w0.heap.size w0 wx from hwx ▸ e1.below)
      rw [← hwx]
      clear hwx c0 c1 c2 c3 c4 c5 c6 d0 d1 d2 d3 d4 d5 d6
      obtain ⟨d0, d1, d2, d3, d4, d5, d6⟩ := HX1.out.below HBX.out (by omega)
      obtain ⟨e0, e1, e2, e3, e4, e5, e6⟩ := HX2.out.below HBX.out hz
      have hzx : w.heap.size + 1 < wx.heap.size := Nat.lt_of_lt_of_le hz HBX.out.size
      have HBWX := hid (HB0.out.trans (HBX.out.mono HB0.out.size))
      have HOX := hid (ownsRow_below HO.out.1 HBWX.out (fun g hg => (HO.out.1.lt g hg).2))
      go_wp2_with (first
        | (at_builtin
           go_must (refine qa5 _ rfl (.tmp 29) (.tmp 33) _ rfl B 119 ii _ 14 144 Tryz.underlying74 HII.out.1 HII.out.2.1 HII.out.2.2.1 HII.out.2.2.2 rfl (by omega) _ (l0.length + 1) (qd6.all (l0 ++ [s])) (by rfl) (by exact (HLEN.out ▸ HOX.out).alloc _) (some ⟨wx.heap.size, 0, none⟩) 1 1 (qd3 u ++ qd3 t) (by rfl) (by exact qe1 _ _ rfl 14 _ rfl rfl) (by exact qd6.one ⟨u, t⟩) (by unfold maxLen; omega) (by omega) (by simp; omega) ?_)
           intro v4 w4 hown4 hg4 _
           have HB4 := hid (show Below B w w4 from Below.grown ((HBWX.out.mono hB).alloc (by omega) _) hg4 (by simp; omega) (fun k hk => ((HLEN.out ▸ HOX.out).lt k hk).1))
           have HO4 := hid hown4
           clear hown4 hg4))
      go_ret
      exact ⟨v4, (l0 ++ [s]) ++ [⟨u, t⟩], rfl, grow_end HO4.out HLB.out HU.out HT.out (by rw [HLEN.out]) rfl, by simp, HB4.out⟩
end
end Go.Proofs.YtbfbppjccbppiaaGreatDoor
