/- slices.SortFunc at terms: the closure of trim.Asked, and what lies in memory behind it. -/
import Derived.Test.YtmghlakedaigpaaDoorSoShelf
import Derived.Test.YtmghlakedaigpaaDoorShelf
import Derived.Test.YtmghlakedaigpaaDoorRAs
import Derived.Shelf.SlSortCmp.NoneTotal
namespace Go.Proofs.YtmghlakedaigpaaDoor
open Go Go.RowKit Go.Proofs Go.Sort
attribute [local go_sem ↓] Go.wp_at_zero Go.wp_at_succ

def cmpT (x y : Term) : Int := if Lib.compareInt x.unit y.unit ≠ 0 then Lib.compareInt x.unit y.unit else Lib.compareInt x.mask y.mask
theorem ltOf_cmpT (x y : Term) : ltOf cmpT x y = decide (ltT x y) := by
  unfold ltOf cmpT Lib.compareInt ltT
  by_cases h1 : x.unit < y.unit
  · simp [h1]
  · by_cases h2 : y.unit < x.unit
    · simp [h1, h2]; omega
    · by_cases h3 : x.mask < y.mask
      · simp [h1, h2, h3]; omega
      · by_cases h4 : y.mask < x.mask <;> simp [h1, h2, h3, h4] <;> omega
theorem swoT : SWO (ltOf cmpT) where
  irrefl x := by rw [ltOf_cmpT]; exact decide_eq_false (ltT_irr x)
  trans x y z h1 h2 := by
    rw [ltOf_cmpT] at *
    exact decide_eq_true (ltT_trans (of_decide_eq_true h1) (of_decide_eq_true h2))
  ntrans x y z h1 h2 := by
    rw [ltOf_cmpT] at *
    have h3 := of_decide_eq_false h1
    have h4 := of_decide_eq_false h2
    refine decide_eq_false ?_
    unfold ltT at *
    omega
def encT (t : Term) : List Value := [.int .i64 t.unit, .int .i64 t.mask]
theorem encT_all (l : List Term) : (flatK encT 2 l.toArray).toList = fTerm.all l := by
  apply List.ext_getElem?
  intro i
  by_cases hi : i < l.length * 2
  · have hk : i / 2 < l.length := by omega
    have h1 := fTerm.all_get hk (j := i % 2) (by show i % 2 < 2; omega)
    have h2 : i / 2 * fTerm.size + i % 2 = i := by show i / 2 * 2 + i % 2 = i; omega
    rw [h2] at h1
    rw [h1]
    have h3 := get_flatK encT 2 l.toArray i (by simpa using hi)
    rw [getElem!_pos _ i (by simpa using hi)] at h3
    rw [Array.getElem?_toList, Array.getElem?_eq_getElem (by simpa using hi), h3, getElem!_pos _ (i / 2) (by simpa using hk)]
    have h4 : i % 2 = 0 ∨ i % 2 = 1 := by omega
    rcases h4 with h4 | h4 <;> rw [h4] <;> rfl
  · rw [List.getElem?_eq_none (by simp; omega), List.getElem?_eq_none (by rw [fTerm.all_length]; show l.length * 2 ≤ i; omega)]
theorem own_holds {e : TypeId} {B : Nat} {w : World} {l : List Term} {g n c : Nat} (h : OwnF fTerm e B w (.slice (some ⟨g, 0, none⟩) n c) l) : HoldsK encT 2 w g 0 l.toArray := by
  intro j hj
  rcases h.1.2 with ⟨hv, _⟩ | ⟨g', cap, cur, hv, hb, hgg, h1, h2, h3, h4⟩
  · cases hv
  · injection hv with q1 _ q3
    injection q1 with q1
    injection q1 with q1
    subst q1
    refine ⟨?_, frozen_of_row w g _ _ e hgg⟩
    have hj' : j < l.length * 2 := by simpa using hj
    rw [cell_of_row w g _ _ e (0, 0) hgg, Nat.zero_add]
    have h5 : cur[j]? = (fTerm.all l)[j]? := by
      rw [← h4, List.getElem?_take_of_lt (by show j < l.length * 2; exact hj'), Array.getElem?_toList]
    rw [h5, ← encT_all, Array.getElem?_toList, Array.getElem?_eq_getElem hj, getElem!_pos _ j hj]
    rfl
theorem sorted_heap {w : World} {g m b : Nat} {d : Array Term} {os : Array Obj} (hb : b < w.heap.size) (hne : b ≠ g) : (sortWorldK encT 2 w g 0 m d os).heap[b]? = w.heap[b]? := by
  show (_ ++ os)[b]? = _
  rw [Array.getElem?_append_left (by simpa [putRowK, putRow, mapBlock, Sort.ahead] using hb)]
  show (w.heap.modify g _)[b]? = _
  rw [Array.getElem?_modify, if_neg (Ne.symm hne)]
theorem sorted_own {e : TypeId} {B : Nat} {w : World} {l : List Term} {g n c m : Nat} {d : Array Term} {os : Array Obj} (h : OwnF fTerm e B w (.slice (some ⟨g, 0, none⟩) n c) l) (hl : d.size = l.length) (hd : ∀ t ∈ d.toList, I64 t.unit ∧ I64 t.mask) :
    OwnF fTerm e B (sortWorldK encT 2 w g 0 m d os) (.slice (some ⟨g, 0, none⟩) n c) d.toList := by
  refine ⟨⟨by rw [fTerm.all_length], ?_⟩, hd⟩
  rcases h.1.2 with ⟨hv, _⟩ | ⟨g', cap, cur, hv, hb, hgg, h1, h2, h3, h4⟩
  · cases hv
  · injection hv with q1 q2 q3
    injection q1 with q1
    injection q1 with q1
    subst q1
    subst q3
    have hgs : g < w.heap.size := (Array.getElem?_eq_some_iff.1 hgg).1
    have hdl : d.toList.length = l.length := by simpa using hl
    refine .inr ⟨g, c, putCells id 0 (flatK encT 2 d) cur, by rw [hdl, q2], hb, ?_, by rw [hdl]; exact h1, h2, by rw [← h3]; simp [putCells], ?_⟩
    · show (_ ++ os)[g]? = _
      rw [Array.getElem?_append_left (by simpa [putRowK, putRow, mapBlock, Sort.ahead] using hgs)]
      show (w.heap.modify g _)[g]? = _
      rw [Array.getElem?_modify, if_pos rfl, hgg]
      rfl
    · rw [hdl]
      have hsz : (flatK encT 2 d).size = l.length * 2 := by rw [size_flatK, hl]
      have hcs : l.length * 2 ≤ cur.size := by rw [h3]; exact Nat.mul_le_mul_right 2 h1
      have e1 : fTerm.all d.toList = (flatK encT 2 d).toList := by rw [← encT_all]
      rw [e1]
      apply List.ext_getElem?
      intro i
      by_cases hi : i < l.length * 2
      · rw [List.getElem?_take_of_lt (by exact hi), Array.getElem?_toList, Array.getElem?_toList]
        have h5 : i < (putCells id 0 (flatK encT 2 d) cur).size := by simp [putCells]; omega
        rw [Array.getElem?_eq_getElem h5, Array.getElem?_eq_getElem (by rw [hsz]; exact hi)]
        simp only [putCells, Array.getElem_mapIdx]
        rw [if_pos ⟨Nat.zero_le _, by rw [hsz]; omega⟩, Nat.sub_zero, getElem!_pos _ i (by rw [hsz]; exact hi)]
        rfl
      · rw [List.getElem?_eq_none (by rw [List.length_take]; show min (l.length * 2) _ ≤ i; omega), List.getElem?_eq_none (by rw [Array.length_toList, hsz]; omega)]
theorem sorted_below {w : World} {B g m : Nat} {d : Array Term} {os : Array Obj} (hg : B ≤ g) (hB : B ≤ w.heap.size) : Below B w (sortWorldK encT 2 w g 0 m d os) :=
  ⟨rfl, rfl, rfl, by simp [sortWorldK, putRowK, putRow, mapBlock, Sort.ahead], fun k hk => sorted_heap (by omega) (by omega)⟩
theorem sorted_list {l : List Term} {d : Array Term} (hp : PermIn 0 l.toArray.size l.toArray d) (hs : SortedIn (ltOf cmpT) 0 l.toArray.size d) : d.size = l.length ∧ d.toList.Perm l ∧ d.toList.Pairwise (fun a b => ¬ ltT b a) := by
  obtain ⟨h1, _, h3⟩ := hp
  have hsz : d.size = l.length := by simpa using h1
  refine ⟨hsz, ?_, ?_⟩
  · have h4 : d.toList.Perm (l.take d.size) := by simpa [← hsz] using h3
    rwa [hsz, List.take_length] at h4
  · rw [List.pairwise_iff_getElem]
    intro i j hi hj hij
    have hj' : j < d.size := by simpa using hj
    have := hs i j (Nat.zero_le _) hij (by simp [← hsz]; exact hj')
    rw [ltOf_cmpT, getElem!_pos d j hj', getElem!_pos d i (by omega)] at this
    simpa using of_decide_eq_false this

set_option maxHeartbeats 1000000 in
theorem or_two (b : Nat) (x y : Int) (w : World) (hx : w.cell? ⟨b, 0, none⟩ = some (.int .i64 x)) (hy : w.cell? ⟨b, 1, none⟩ = some (.int .i64 y)) :
    Calls Tryd.prog 28 #[.slice (some ⟨b, 0, none⟩) 2 2] w fun e w' => e = .returned (.int .i64 (if x ≠ 0 then x else y)) ∧ w' = w := by
  go_enter Tryd.func28, Tryd.ntmps28
  by_cases h0 : x = 0
  · subst h0
    by_cases h1 : y = 0
    · subst h1
      go_wp2
      go_loopw [5, 8] (fun _ iv wr => wr = w ∧ (iv = .int .i64 0 ∨ iv = .int .i64 1 ∨ iv = .int .i64 2)) (fun _ iv _ => 2 - (intOf iv).toNat)
      case atStart => exact ⟨rfl, .inl rfl⟩
      case round =>
        obtain ⟨rfl, h⟩ := hrel
        rcases h with rfl | rfl | rfl
        · go_wp2
          exact ⟨⟨by trivial, .inr (.inl rfl)⟩, by decide⟩
        · go_wp2
          exact ⟨⟨by trivial, .inr (.inr rfl)⟩, by decide⟩
        · go_wp2
          go_ret
          exact ⟨rfl, rfl⟩
    · have hn : (y != 0) = true := by simpa using h1
      go_wp2
      go_loopw [5, 8] (fun _ iv wr => wr = w ∧ (iv = .int .i64 0 ∨ iv = .int .i64 1)) (fun _ iv _ => 2 - (intOf iv).toNat)
      case atStart => exact ⟨rfl, .inl rfl⟩
      case round =>
        obtain ⟨rfl, h⟩ := hrel
        rcases h with rfl | rfl
        · go_wp2
          exact ⟨⟨by trivial, .inr rfl⟩, by decide⟩
        · go_wp2
          go_ret
          exact ⟨rfl, rfl⟩
  · have hn : (x != 0) = true := by simpa using h0
    go_wp2
    go_loopw [5, 8] (fun _ iv wr => wr = w ∧ iv = .int .i64 0) (fun _ iv _ => 2 - (intOf iv).toNat)
    case atStart => exact ⟨rfl, rfl⟩
    case round =>
      obtain ⟨rfl, rfl⟩ := hrel
      go_wp2
      go_ret
      exact ⟨rfl, rfl⟩

set_option maxHeartbeats 1000000 in
theorem askcmp (x y : Term) (W : World) : Calls Tryd.prog 27 #[.agg #[.int .i64 x.unit, .int .i64 x.mask], .agg #[.int .i64 y.unit, .int .i64 y.mask]] W fun e w' => e = .returned (.int .i64 (cmpT x y)) ∧ ∃ q os', w' = grow (W.drewN q) os' := by
  unfold cmpT
  have hc1 := hid (fun W' => Tryd.cmp_Compare_int x.unit y.unit W')
  have hc2 := hid (fun W' => Tryd.cmp_Compare_int x.mask y.mask W')
  generalize Lib.compareInt x.unit y.unit = r1 at hc1 ⊢
  generalize Lib.compareInt x.mask y.mask = r2 at hc2 ⊢
  have HOR := hid (fun (bb : Nat) (W' : World) (h1 : W'.cell? ⟨bb, 0, none⟩ = some (.int .i64 r1)) (h2 : W'.cell? ⟨bb, 1, none⟩ = some (.int .i64 r2)) => or_two bb r1 r2 W' h1 h2)
  generalize (if r1 ≠ 0 then r1 else r2) = r at HOR ⊢
  obtain ⟨xu, xm⟩ := x
  obtain ⟨yu, ym⟩ := y
  go_enter Tryd.func27, Tryd.ntmps27
  go_wp2_with fail
  obtain ⟨W2, hW2⟩ : ∃ W2, W2 = (W.alloc (.cells #[.int .i64 xu, .int .i64 xm] 38)).alloc (.cells #[.int .i64 yu, .int .i64 ym] 38) := ⟨_, rfl⟩
  have hn1 : W2.heap[W.heap.size + 1]? = some (.cells #[.int .i64 yu, .int .i64 ym] 38 (0, 0)) := by
    have := heap_alloc_new (W.alloc (.cells #[.int .i64 xu, .int .i64 xm] 38)) (.cells #[.int .i64 yu, .int .i64 ym] 38)
    rw [hW2]
    simpa using this
  have hn0 : W2.heap[W.heap.size]? = some (.cells #[.int .i64 xu, .int .i64 xm] 38 (0, 0)) := by
    rw [hW2, Below.heap_alloc _ _ _ (by simp)]
    exact heap_alloc_new W _
  have c0 : W2.cell? ⟨W.heap.size, 0, none⟩ = some (.int .i64 xu) := by rw [cell_of_row _ _ _ _ _ _ hn0]; rfl
  have c1 : W2.cell? ⟨W.heap.size, 1, none⟩ = some (.int .i64 xm) := by rw [cell_of_row _ _ _ _ _ _ hn0]; rfl
  have c2 : W2.cell? ⟨W.heap.size + 1, 0, none⟩ = some (.int .i64 yu) := by rw [cell_of_row _ _ _ _ _ _ hn1]; rfl
  have c3 : W2.cell? ⟨W.heap.size + 1, 1, none⟩ = some (.int .i64 ym) := by rw [cell_of_row _ _ _ _ _ _ hn1]; rfl
  have hgrow : ∃ os, W2 = grow W os := ⟨_, by rw [hW2, alloc_eq_grow, alloc_eq_grow, grow_grow]⟩
  have HG := hid hgrow
  have hs0 : W.heap.size < W2.heap.size := by rw [hW2]; simp; omega
  have hs1 : W.heap.size + 1 < W2.heap.size := by rw [hW2]; simp
  rw [← hW2]
  clear hgrow hW2 hn0 hn1
  generalize W.heap.size = b at c0 c1 c2 c3 hs0 hs1 ⊢
  go_region_held3 (fun w' => w'.cell? ⟨b, 0, none⟩ = some (.int .i64 xu) ∧ w'.cell? ⟨b, 1, none⟩ = some (.int .i64 xm) ∧ w'.cell? ⟨b + 1, 0, none⟩ = some (.int .i64 yu) ∧ w'.cell? ⟨b + 1, 1, none⟩ = some (.int .i64 ym)) (first | exact ⟨by assumption, by assumption, by assumption, by assumption⟩ | go_keep) ((first
    | (go_at_call_of 29 xu; refine (hc1.out _).mono ?_; rintro e w1 ⟨rfl, rfl⟩)
    | (go_at_call_of 29 xm; refine (hc2.out _).mono ?_; rintro e w1 ⟨rfl, rfl⟩)
    | (go_at_call 28; refine (HOR.out _ _ ((drew_cell _ _).trans (by rw [cell_of_row _ _ _ _ _ _ (heap_alloc_new _ _)]; rfl)) ((drew_cell _ _).trans (by rw [cell_of_row _ _ _ _ _ _ (heap_alloc_new _ _)]; rfl))).mono ?_; rintro e w1 ⟨rfl, rfl⟩)))
  go_wp2
  go_ret
  refine ⟨rfl, ?_⟩
  obtain ⟨os, rfl⟩ := HG.out
  exact ⟨1, os ++ #[_], by rw [alloc_eq_grow, grow_grow, drew_grow]; rfl⟩

set_option maxHeartbeats 1000000 in
theorem sort_own {B : Nat} {w : World} {l : List Term} {g n c : Nat} (h : OwnF fTerm 38 B w (.slice (some ⟨g, 0, none⟩) n c) l) (hn : n = l.length) (hB : B ≤ w.heap.size) (hl : l.length ≤ 20000) :
    Calls Tryd.prog 26 #[.slice (some ⟨g, 0, none⟩) n c, .func (.func 27) #[] #[]] w fun e w' => e = .returned (.tuple #[]) ∧ ∃ s : List Term, s.Perm l ∧ s.Pairwise (fun a b => ¬ ltT b a) ∧ OwnF fTerm 38 B w' (.slice (some ⟨g, 0, none⟩) n c) s ∧ Below B w w' := by
  have eg : ∀ args w, (callFunc 27 args).run Tryd.prog w = .ok (.enter 27 args) w := enters_of Tryd.func27 (by kernel_rfl) rfl
  have hlt := h.lt g rfl
  have hcon := AnyQ.slices_SortFunc Tryd.sortT 2 Tryd.isAgg38 Tryd.sizeOf38 encT (fun _ => rfl) (fun x v hv => by simp [encT] at hv; rcases hv with rfl | rfl <;> rfl) cmpT swoT 27 #[] g 0 c l.toArray w eg (fun _ _ _ _ x y => askcmp x y _) (own_holds h) hlt.2 (by simp; omega)
  change Calls Tryd.prog 26 _ _ _ at hcon
  simp only [List.size_toArray] at hcon
  rw [hn]
  refine hcon.mono ?_
  rintro e w' ⟨rfl, d', m, os, hp, hs, rfl⟩
  obtain ⟨h1, h2, h3⟩ := sorted_list (l := l) (d := d') (by simpa using hp) (by simpa using hs)
  exact ⟨rfl, d'.toList, h2, h3, sorted_own (hn ▸ h) h1 (fun t ht => h.2 t (h2.mem_iff.1 ht)), sorted_below hlt.1 hB⟩
theorem sort_none (p : Option Addr) (c : Nat) (w : World) : Calls Tryd.prog 26 #[.slice p 0 c, .func (.func 27) #[] #[]] w fun e w' => e = .returned (.tuple #[]) ∧ w' = w :=
  AnyF.slices_SortFunc_none Tryd.sortT p c _ w
end Go.Proofs.YtmghlakedaigpaaDoor
