import Derived.Test.YthneiolcljnbeaaGreatDoorzZ7
import Derived.Test.YthneiolcljnbeaaGreatDoorzY10
import Derived.BigFrameIn
import Derived.Outline
namespace Go.Proofs.YthneiolcljnbeaaGreatDoor
open Go Go.RowKit
structure RBox (g cap0 n : Nat) (r : Row) (tv : Value) (B : Nat) (w : World) : Prop where
  lt : B + 2 < w.heap.size
  c : w.cell? ⟨B, 0, none⟩ = some (.slice (some ⟨g, 0, none⟩) n cap0)
  r0 : w.cell? ⟨B + 1, 0, none⟩ = some (.int .i64 r.kind)
  r1 : w.cell? ⟨B + 1, 1, none⟩ = some (.int .i64 r.unit)
  r2 : w.cell? ⟨B + 1, 2, none⟩ = some (.int .i64 r.a)
  r3 : w.cell? ⟨B + 1, 3, none⟩ = some (.int .i64 r.b)
  r4 : w.cell? ⟨B + 1, 4, none⟩ = some tv
  x : w.cell? ⟨B + 1 + 1, 0, none⟩ = some (.bool false)
  f : w.frozen? ⟨B + 1 + 1, 0, none⟩ = false
theorem RBox.new (g cap0 n : Nat) (r : Row) (tv : Value) (w : World) {t t' t'' : TypeId} : RBox g cap0 n r tv w.heap.size (((w.alloc (.cells #[.slice (some ⟨g, 0, none⟩) n cap0] t)).alloc (.cells #[.int .i64 r.kind, .int .i64 r.unit, .int .i64 r.a, .int .i64 r.b, tv] t')).alloc (.cells #[.bool false] t'')) :=
  ⟨by simp only [World.size_alloc]; omega, cell_below (balloc (b0 _) _) (by simp only [World.size_alloc]; omega) (alloc2_old rfl),
   cell_below (balloc (b0 _) _) (by simp only [World.size_alloc]; omega) (alloc2_new rfl), cell_below (balloc (b0 _) _) (by simp only [World.size_alloc]; omega) (alloc2_new rfl),
   cell_below (balloc (b0 _) _) (by simp only [World.size_alloc]; omega) (alloc2_new rfl), cell_below (balloc (b0 _) _) (by simp only [World.size_alloc]; omega) (alloc2_new rfl),
   cell_below (balloc (b0 _) _) (by simp only [World.size_alloc]; omega) (alloc2_new rfl), alloc3_new rfl, alloc3_frozen⟩
theorem RBox.later {g cap0 n : Nat} {r : Row} {tv : Value} {B : Nat} {w w' : World} (h : RBox g cap0 n r tv B w) (hb : Below w.heap.size w w') : RBox g cap0 n r tv B w' :=
  have l := h.lt
  ⟨Nat.lt_of_lt_of_le h.lt hb.size, cell_below hb (by omega) h.c, cell_below hb (by omega) h.r0, cell_below hb (by omega) h.r1, cell_below hb (by omega) h.r2, cell_below hb (by omega) h.r3, cell_below hb (by omega) h.r4, cell_below hb (by omega) h.x,
   (World.frozen?_of_block (a := ⟨B + 1 + 1, 0, none⟩) (hb.block (B + 1 + 1) (by omega))).trans h.f⟩
theorem places_mem {m n q : Nat} (hq : q < n) (h : m.testBit (q + 1) = true) : (⟨q, h⟩ : PlaceOf m) ∈ placesTo m n := by
  induction n with
  | zero => omega
  | succ n ih =>
    by_cases e : q = n
    · subst e
      rw [placesTo_yes h]
      exact List.mem_append.2 (.inr (List.mem_singleton_self _))
    · show _ ∈ placesTo m n ++ _
      exact List.mem_append.2 (.inl (ih (by omega)))
theorem places_lt {m n : Nat} {x : PlaceOf m} (h : x ∈ placesTo m n) : x.1 < n := by
  induction n with
  | zero => cases h
  | succ n ih =>
    rcases List.mem_append.1 (show x ∈ placesTo m n ++ _ from h) with h | h
    · have := ih h; omega
    · split at h
      · rw [List.mem_singleton.1 h]; show n < n + 1; omega
      · cases h
theorem keepB_set1 (n M : Nat) (W : World) (v : Value) : KeepB n M W (W.setCell ⟨M, 0, none⟩ v) := ⟨⟨rfl, rfl, rfl⟩, by simp, fun k _ hne => Below.heap_setCell W ⟨M, 0, none⟩ v k hne⟩
set_option maxRecDepth 100000 in
set_option maxHeartbeats 8000000 in
theorem prightA_any (v tv : Value) (us : List UnitW) (kk uu a b : Int) (ts : List Term) (w : World) (h : WorldRd w (Lt w.heap.size) v us) (ho : UnitsOk us) (hF : FirstIs w) (ht : SliceRd tTerm w (Lt w.heap.size) tv ts) (ha : a ≠ 0) :
    Calls Tryz.prog 6 #[v, .agg #[.int .i64 kk, .int .i64 uu, .int .i64 a, .int .i64 b, tv]] w fun e w' => e = .returned (.bool false) ∧ Below w.heap.size w w' := by
  have HW := hid h
  have HT := hid ht
  have HO := hid ho
  have HFI := hid hF
  have HMAY := hid (fun (W : World) (hb : Below w.heap.size w W) => incMayB_any v tv (nsOf us) ts W (h.lift hb hb.size).uni ho.ns (ht.lift hb hb.size))
  obtain ⟨At, ct, rfl, hct, hcm, htc⟩ := ht.terms
  obtain ⟨tn, htn⟩ : ∃ tn, ts.length = tn := ⟨_, rfl⟩
  obtain ⟨g, cap0, rfl, hg, -⟩ := h
  have HTN := hid htn
  have HTC := hid htc
  unfold maxLen at hcm
  rw [htn] at hct HMAY HT ⊢
  obtain ⟨w0, hw0⟩ : ∃ w0 : World, w0 = ((w.alloc (.cells #[.slice (some ⟨g, 0, none⟩) us.length cap0] 25)).alloc (.cells #[.int .i64 kk, .int .i64 uu, .int .i64 a, .int .i64 b, .slice At tn ct] 32)).alloc (.cells #[.bool false] 4) := ⟨_, rfl⟩
  have hb0 : Below w.heap.size w w0 := hw0 ▸ balloc (balloc (balloc (b0 w) _) _) _
  have hrb : RBox g cap0 us.length ⟨kk, uu, a, b, ts⟩ (.slice At tn ct) w.heap.size w0 := hw0 ▸ RBox.new g cap0 us.length ⟨kk, uu, a, b, ts⟩ (.slice At tn ct) w
  have HR0 := hid hrb
  have HB0 := hid hb0
  have HW0 := hid hw0
  obtain ⟨l0, c0, r0, r1, r2, r3, r4, x0, f0⟩ := hrb
  dsimp only at r0 r1 r2 r3
  clear ho hF htc htn hw0 hb0
  refine (callsIn_wide (n := 5)).1 ?_
  refine callsIn_of_wp_marks Tryz.func6 rfl trivial ?_ rfl
  simp only [Tryz.ntmps6, List.size_toArray, List.length_cons, List.length_nil, Nat.reduceAdd, Nat.reduceSub, Array.replicate_succ, Array.replicate_zero, List.push_toArray, List.append_toArray, List.nil_append, List.cons_append]
  have za : (a != 0) = true := bne_iff_ne.2 ha
  gi_wp2
  refine ⟨trivial, ?_⟩
  gi_wp2
  rw [← HW0.out]
  exact ⟨_, results_cell rfl rfl (by go_simp), rfl, by first | exact HB0.out | exact HB0.out.setCell (p := ⟨w.heap.size + 1 + 1, 0, none⟩) (by show w.heap.size ≤ w.heap.size + 1 + 1; omega) _⟩
set_option maxRecDepth 100000 in
set_option maxHeartbeats 8000000 in
theorem prightM_any (v tv : Value) (us : List UnitW) (kk uu : Int) (ts : List Term) (w : World) (h : WorldRd w (Lt w.heap.size) v us) (ho : UnitsOk us) (hF : FirstIs w) (ht : SliceRd tTerm w (Lt w.heap.size) tv ts) (hm : mayL (nsOf us) ts = false) :
    Calls Tryz.prog 6 #[v, .agg #[.int .i64 kk, .int .i64 uu, .int .i64 0, .int .i64 0, tv]] w fun e w' => e = .returned (.bool false) ∧ Below w.heap.size w w' := by
  have HW := hid h
  have HT := hid ht
  have HO := hid ho
  have HFI := hid hF
  have HMAY := hid (fun (W : World) (hb : Below w.heap.size w W) => incMayB_any v tv (nsOf us) ts W (h.lift hb hb.size).uni ho.ns (ht.lift hb hb.size))
  obtain ⟨At, ct, rfl, hct, hcm, htc⟩ := ht.terms
  obtain ⟨tn, htn⟩ : ∃ tn, ts.length = tn := ⟨_, rfl⟩
  obtain ⟨g, cap0, rfl, hg, -⟩ := h
  have HTN := hid htn
  have HTC := hid htc
  unfold maxLen at hcm
  rw [htn] at hct HMAY HT ⊢
  obtain ⟨w0, hw0⟩ : ∃ w0 : World, w0 = ((w.alloc (.cells #[.slice (some ⟨g, 0, none⟩) us.length cap0] 25)).alloc (.cells #[.int .i64 kk, .int .i64 uu, .int .i64 0, .int .i64 0, .slice At tn ct] 32)).alloc (.cells #[.bool false] 4) := ⟨_, rfl⟩
  have hb0 : Below w.heap.size w w0 := hw0 ▸ balloc (balloc (balloc (b0 w) _) _) _
  have hrb : RBox g cap0 us.length ⟨kk, uu, 0, 0, ts⟩ (.slice At tn ct) w.heap.size w0 := hw0 ▸ RBox.new g cap0 us.length ⟨kk, uu, 0, 0, ts⟩ (.slice At tn ct) w
  have HR0 := hid hrb
  have HB0 := hid hb0
  have HW0 := hid hw0
  obtain ⟨l0, c0, r0, r1, r2, r3, r4, x0, f0⟩ := hrb
  dsimp only at r0 r1 r2 r3
  clear ho hF htc htn hw0 hb0
  refine (callsIn_wide (n := 5)).1 ?_
  refine callsIn_of_wp_marks Tryz.func6 rfl trivial ?_ rfl
  simp only [Tryz.ntmps6, List.size_toArray, List.length_cons, List.length_nil, Nat.reduceAdd, Nat.reduceSub, Array.replicate_succ, Array.replicate_zero, List.push_toArray, List.append_toArray, List.nil_append, List.cons_append]
  rw [hm] at HMAY
  gi_wp2_with (refine ⟨trivial, ?_⟩; gi_at_call 22; rw [← HW0.out]; refine (callsIn_wide.2 (HMAY.out w0 HB0.out)).mono ?_; rintro e w1 ⟨rfl, hb1⟩; have hr1 := HR0.out.later (hb1.mono (by have := HB0.out.size; omega)); obtain ⟨m0, d0, s0, s1, s2, s3, s4, y0, g0⟩ := hr1; dsimp only at s0 s1 s2 s3; have HR1 := hid (HR0.out.later (hb1.mono (by have := HB0.out.size; omega))); have HB1 := hid (bstep HB0.out (hb1.mono (Nat.le_refl _))); clear hb1)
  exact ⟨_, results_cell rfl rfl (by go_simp), rfl, HB1.out.setCell (by show w.heap.size ≤ w.heap.size + 1 + 1; omega) _⟩
set_option maxRecDepth 100000 in
set_option maxHeartbeats 8000000 in
theorem prightB_any (v tv : Value) (us : List UnitW) (kk uu b : Int) (ts : List Term) (w : World) (h : WorldRd w (Lt w.heap.size) v us) (ho : UnitsOk us) (hF : FirstIs w) (ht : SliceRd tTerm w (Lt w.heap.size) tv ts) (hb : b ≠ 0) :
    Calls Tryz.prog 6 #[v, .agg #[.int .i64 kk, .int .i64 uu, .int .i64 0, .int .i64 b, tv]] w fun e w' => e = .returned (.bool false) ∧ Below w.heap.size w w' := by
  have HW := hid h
  have HT := hid ht
  have HO := hid ho
  have HFI := hid hF
  have HMAY := hid (fun (W : World) (hb : Below w.heap.size w W) => incMayB_any v tv (nsOf us) ts W (h.lift hb hb.size).uni ho.ns (ht.lift hb hb.size))
  obtain ⟨At, ct, rfl, hct, hcm, htc⟩ := ht.terms
  obtain ⟨tn, htn⟩ : ∃ tn, ts.length = tn := ⟨_, rfl⟩
  obtain ⟨g, cap0, rfl, hg, -⟩ := h
  have HTN := hid htn
  have HTC := hid htc
  unfold maxLen at hcm
  rw [htn] at hct HMAY HT ⊢
  obtain ⟨w0, hw0⟩ : ∃ w0 : World, w0 = ((w.alloc (.cells #[.slice (some ⟨g, 0, none⟩) us.length cap0] 25)).alloc (.cells #[.int .i64 kk, .int .i64 uu, .int .i64 0, .int .i64 b, .slice At tn ct] 32)).alloc (.cells #[.bool false] 4) := ⟨_, rfl⟩
  have hb0 : Below w.heap.size w w0 := hw0 ▸ balloc (balloc (balloc (b0 w) _) _) _
  have hrb : RBox g cap0 us.length ⟨kk, uu, 0, b, ts⟩ (.slice At tn ct) w.heap.size w0 := hw0 ▸ RBox.new g cap0 us.length ⟨kk, uu, 0, b, ts⟩ (.slice At tn ct) w
  have HR0 := hid hrb
  have HB0 := hid hb0
  have HW0 := hid hw0
  obtain ⟨l0, c0, r0, r1, r2, r3, r4, x0, f0⟩ := hrb
  dsimp only at r0 r1 r2 r3
  clear ho hF htc htn hw0 hb0
  refine (callsIn_wide (n := 5)).1 ?_
  refine callsIn_of_wp_marks Tryz.func6 rfl trivial ?_ rfl
  simp only [Tryz.ntmps6, List.size_toArray, List.length_cons, List.length_nil, Nat.reduceAdd, Nat.reduceSub, Array.replicate_succ, Array.replicate_zero, List.push_toArray, List.append_toArray, List.nil_append, List.cons_append]
  have zb : (b != 0) = true := bne_iff_ne.2 hb
  gi_wp2
  refine ⟨trivial, ?_⟩
  gi_wp2
  rw [← HW0.out]
  exact ⟨_, results_cell rfl rfl (by go_simp), rfl, by first | exact HB0.out | exact HB0.out.setCell (p := ⟨w.heap.size + 1 + 1, 0, none⟩) (by show w.heap.size ≤ w.heap.size + 1 + 1; omega) _⟩
set_option maxRecDepth 100000 in
set_option maxHeartbeats 8000000 in
theorem prightU_any (v tv : Value) (us : List UnitW) (kk uu : Int) (ts : List Term) (w : World) (h : WorldRd w (Lt w.heap.size) v us) (ho : UnitsOk us) (hF : FirstIs w) (ht : SliceRd tTerm w (Lt w.heap.size) tv ts) (hm : mayL (nsOf us) ts = true) (hk : kk = 1) (hu : uu ≠ 0) :
    Calls Tryz.prog 6 #[v, .agg #[.int .i64 kk, .int .i64 uu, .int .i64 0, .int .i64 0, tv]] w fun e w' => e = .returned (.bool false) ∧ Below w.heap.size w w' := by
  have HW := hid h
  have HT := hid ht
  have HO := hid ho
  have HFI := hid hF
  have HMAY := hid (fun (W : World) (hb : Below w.heap.size w W) => incMayB_any v tv (nsOf us) ts W (h.lift hb hb.size).uni ho.ns (ht.lift hb hb.size))
  obtain ⟨At, ct, rfl, hct, hcm, htc⟩ := ht.terms
  obtain ⟨tn, htn⟩ : ∃ tn, ts.length = tn := ⟨_, rfl⟩
  obtain ⟨g, cap0, rfl, hg, -⟩ := h
  have HTN := hid htn
  have HTC := hid htc
  unfold maxLen at hcm
  rw [htn] at hct HMAY HT ⊢
  obtain ⟨w0, hw0⟩ : ∃ w0 : World, w0 = ((w.alloc (.cells #[.slice (some ⟨g, 0, none⟩) us.length cap0] 25)).alloc (.cells #[.int .i64 kk, .int .i64 uu, .int .i64 0, .int .i64 0, .slice At tn ct] 32)).alloc (.cells #[.bool false] 4) := ⟨_, rfl⟩
  have hb0 : Below w.heap.size w w0 := hw0 ▸ balloc (balloc (balloc (b0 w) _) _) _
  have hrb : RBox g cap0 us.length ⟨kk, uu, 0, 0, ts⟩ (.slice At tn ct) w.heap.size w0 := hw0 ▸ RBox.new g cap0 us.length ⟨kk, uu, 0, 0, ts⟩ (.slice At tn ct) w
  have HR0 := hid hrb
  have HB0 := hid hb0
  have HW0 := hid hw0
  obtain ⟨l0, c0, r0, r1, r2, r3, r4, x0, f0⟩ := hrb
  dsimp only at r0 r1 r2 r3
  clear ho hF htc htn hw0 hb0
  refine (callsIn_wide (n := 5)).1 ?_
  refine callsIn_of_wp_marks Tryz.func6 rfl trivial ?_ rfl
  simp only [Tryz.ntmps6, List.size_toArray, List.length_cons, List.length_nil, Nat.reduceAdd, Nat.reduceSub, Array.replicate_succ, Array.replicate_zero, List.push_toArray, List.append_toArray, List.nil_append, List.cons_append]
  rw [hm] at HMAY
  subst hk
  have zu : (uu == 0) = false := beq_false_of_ne hu
  gi_wp2_with (refine ⟨trivial, ?_⟩; gi_at_call 22; rw [← HW0.out]; refine (callsIn_wide.2 (HMAY.out w0 HB0.out)).mono ?_; rintro e w1 ⟨rfl, hb1⟩; have hr1 := HR0.out.later (hb1.mono (by have := HB0.out.size; omega)); obtain ⟨m0, d0, s0, s1, s2, s3, s4, y0, g0⟩ := hr1; dsimp only at s0 s1 s2 s3; have HR1 := hid (HR0.out.later (hb1.mono (by have := HB0.out.size; omega))); have HB1 := hid (bstep HB0.out (hb1.mono (Nat.le_refl _))); clear hb1)
  refine ⟨trivial, ?_⟩
  gi_wp2
  exact ⟨_, results_cell rfl rfl (by go_simp), rfl, HB1.out.setCell (p := ⟨w.heap.size + 1 + 1, 0, none⟩) (by show w.heap.size ≤ w.heap.size + 1 + 1; omega) _⟩
set_option maxRecDepth 100000 in
set_option maxHeartbeats 8000000 in
theorem prightR_any (v tv : Value) (us : List UnitW) (kk uu : Int) (ts : List Term) (w : World) (h : WorldRd w (Lt w.heap.size) v us) (ho : UnitsOk us) (hF : FirstIs w) (ht : SliceRd tTerm w (Lt w.heap.size) tv ts) (hm : mayL (nsOf us) ts = true) (hk : kk = 1) (hu : uu = 0) :
    Calls Tryz.prog 6 #[v, .agg #[.int .i64 kk, .int .i64 uu, .int .i64 0, .int .i64 0, tv]] w fun e w' => e = .returned (.bool (decide (ts = [⟨0, 1⟩]))) ∧ Below w.heap.size w w' := by
  have HW := hid h
  have HT := hid ht
  have HO := hid ho
  have HFI := hid hF
  have HMAY := hid (fun (W : World) (hb : Below w.heap.size w W) => incMayB_any v tv (nsOf us) ts W (h.lift hb hb.size).uni ho.ns (ht.lift hb hb.size))
  obtain ⟨At, ct, rfl, hct, hcm, htc⟩ := ht.terms
  obtain ⟨tn, htn⟩ : ∃ tn, ts.length = tn := ⟨_, rfl⟩
  obtain ⟨g, cap0, rfl, hg, -⟩ := h
  have HTN := hid htn
  have HTC := hid htc
  unfold maxLen at hcm
  rw [htn] at hct HMAY HT ⊢
  obtain ⟨w0, hw0⟩ : ∃ w0 : World, w0 = ((w.alloc (.cells #[.slice (some ⟨g, 0, none⟩) us.length cap0] 25)).alloc (.cells #[.int .i64 kk, .int .i64 uu, .int .i64 0, .int .i64 0, .slice At tn ct] 32)).alloc (.cells #[.bool false] 4) := ⟨_, rfl⟩
  have hb0 : Below w.heap.size w w0 := hw0 ▸ balloc (balloc (balloc (b0 w) _) _) _
  have hrb : RBox g cap0 us.length ⟨kk, uu, 0, 0, ts⟩ (.slice At tn ct) w.heap.size w0 := hw0 ▸ RBox.new g cap0 us.length ⟨kk, uu, 0, 0, ts⟩ (.slice At tn ct) w
  have HR0 := hid hrb
  have HB0 := hid hb0
  have HW0 := hid hw0
  obtain ⟨l0, c0, r0, r1, r2, r3, r4, x0, f0⟩ := hrb
  dsimp only at r0 r1 r2 r3
  clear ho hF htc htn hw0 hb0
  refine (callsIn_wide (n := 5)).1 ?_
  refine callsIn_of_wp_marks Tryz.func6 rfl trivial ?_ rfl
  simp only [Tryz.ntmps6, List.size_toArray, List.length_cons, List.length_nil, Nat.reduceAdd, Nat.reduceSub, Array.replicate_succ, Array.replicate_zero, List.push_toArray, List.append_toArray, List.nil_append, List.cons_append]
  rw [hm] at HMAY
  subst hk hu
  gi_wp2_with (refine ⟨trivial, ?_⟩; gi_at_call 22; rw [← HW0.out]; refine (callsIn_wide.2 (HMAY.out w0 HB0.out)).mono ?_; rintro e w1 ⟨rfl, hb1⟩; have hr1 := HR0.out.later (hb1.mono (by have := HB0.out.size; omega)); obtain ⟨m0, d0, s0, s1, s2, s3, s4, y0, g0⟩ := hr1; dsimp only at s0 s1 s2 s3; have HR1 := hid (HR0.out.later (hb1.mono (by have := HB0.out.size; omega))); have HB1 := hid (bstep HB0.out (hb1.mono (Nat.le_refl _))); clear hb1)
  have HRDN := hid ((own_new (f := fTerm) (e := 69) (w := w1) (l := [⟨0, 1⟩]) (cs := #[.int .i64 0, .int .i64 1]) rfl (fun x hx => by rw [List.mem_singleton.1 hx]; exact ⟨⟨by decide, by decide⟩, ⟨by decide, by decide⟩⟩) (by simp [maxLen])).rd)
  have hba := balloc (b0 w1) (.cells #[.int .i64 0, .int .i64 1] 69)
  refine ⟨trivial, ?_⟩
  gi_at_call 23
  refine (callsIn_wide.2 (isame_any (.slice At tn ct) (.slice (some ⟨w1.heap.size, 0, none⟩) 1 1) ts [⟨0, 1⟩] _ (HT.out.lift (bstep HB1.out hba) (bstep HB1.out hba).size) HRDN.out)).mono ?_
  rintro e w2 ⟨rfl, hb2⟩
  have hb12 : Below w1.heap.size w1 w2 := bstep hba hb2
  obtain ⟨m2, d2, t0, t1, t2, t3, t4, y2, g2⟩ := HR1.out.later hb12
  have HB2 := hid (bstep HB1.out hb12)
  obtain ⟨bb, hbb⟩ : ∃ bb, decide (ts = [(⟨0, 1⟩ : Term)]) = bb := ⟨_, rfl⟩
  rw [hbb]
  have HBBB := hid hbb
  clear hb2 hb12 hba m0 d0 s0 s1 s2 s3 s4 y0 g0 hbb
  gi_wp2
  exact ⟨.bool bb, results_cell rfl rfl (by go_simp), by rw [HBBB.out], HB2.out.setCell (p := ⟨w.heap.size + 1 + 1, 0, none⟩) (by show w.heap.size ≤ w.heap.size + 1 + 1; omega) _⟩
theorem right_clos (l : List Term) (u : Int) (b : Nat) (w : World) (hb : b < w.heap.size) (hc : w.cell? ⟨b, 1, none⟩ = some (.int .i64 u)) : PredB Tryz.prog 25 #[.pointer (some ⟨b, 0, none⟩)] l (fun t => t.unit == u) w := fun W t _ hw => by
  have c0 := cell_below hw hb hc
  have hbW := Nat.lt_of_lt_of_le hb hw.size
  have hne : b ≠ W.heap.size := by omega
  show Calls Tryz.prog 25 #[.agg #[.int .i64 t.unit, .int .i64 t.mask], .pointer (some ⟨b, 0, none⟩)] W _
  go_enter Tryz.func25, Tryz.ntmps25
  go_wp2
  go_ret
  exact ⟨rfl, hw.alloc hw.size _⟩
set_option maxRecDepth 100000 in
set_option maxHeartbeats 8000000 in
theorem prightN_any (v tv : Value) (us : List UnitW) (kk uu : Int) (ts : List Term) (w : World) (h : WorldRd w (Lt w.heap.size) v us) (ho : UnitsOk us) (hF : FirstIs w) (ht : SliceRd tTerm w (Lt w.heap.size) tv ts) (hm : mayL (nsOf us) ts = true) (hk : kk ≠ 1) (hf : ts.find? (fun t => t.unit == uu) = none) :
    Calls Tryz.prog 6 #[v, .agg #[.int .i64 kk, .int .i64 uu, .int .i64 0, .int .i64 0, tv]] w fun e w' => e = .returned (.bool false) ∧ Below w.heap.size w w' := by
  have HW := hid h
  have HT := hid ht
  have HO := hid ho
  have HFI := hid hF
  have HMAY := hid (fun (W : World) (hb : Below w.heap.size w W) => incMayB_any v tv (nsOf us) ts W (h.lift hb hb.size).uni ho.ns (ht.lift hb hb.size))
  obtain ⟨At, ct, rfl, hct, hcm, htc⟩ := ht.terms
  obtain ⟨tn, htn⟩ : ∃ tn, ts.length = tn := ⟨_, rfl⟩
  obtain ⟨g, cap0, rfl, hg, -⟩ := h
  have HTN := hid htn
  have HTC := hid htc
  unfold maxLen at hcm
  rw [htn] at hct HMAY HT ⊢
  obtain ⟨w0, hw0⟩ : ∃ w0 : World, w0 = ((w.alloc (.cells #[.slice (some ⟨g, 0, none⟩) us.length cap0] 25)).alloc (.cells #[.int .i64 kk, .int .i64 uu, .int .i64 0, .int .i64 0, .slice At tn ct] 32)).alloc (.cells #[.bool false] 4) := ⟨_, rfl⟩
  have hb0 : Below w.heap.size w w0 := hw0 ▸ balloc (balloc (balloc (b0 w) _) _) _
  have hrb : RBox g cap0 us.length ⟨kk, uu, 0, 0, ts⟩ (.slice At tn ct) w.heap.size w0 := hw0 ▸ RBox.new g cap0 us.length ⟨kk, uu, 0, 0, ts⟩ (.slice At tn ct) w
  have HR0 := hid hrb
  have HB0 := hid hb0
  have HW0 := hid hw0
  obtain ⟨l0, c0, r0, r1, r2, r3, r4, x0, f0⟩ := hrb
  dsimp only at r0 r1 r2 r3
  clear ho hF htc htn hw0 hb0
  refine (callsIn_wide (n := 5)).1 ?_
  refine callsIn_of_wp_marks Tryz.func6 rfl trivial ?_ rfl
  simp only [Tryz.ntmps6, List.size_toArray, List.length_cons, List.length_nil, Nat.reduceAdd, Nat.reduceSub, Array.replicate_succ, Array.replicate_zero, List.push_toArray, List.append_toArray, List.nil_append, List.cons_append]
  rw [hm] at HMAY
  have HFD := hid hf
  have z1 : (kk == 1) = false := beq_false_of_ne hk
  have HIX := hid (fun (W : World) (hb : Below w.heap.size w W) (hR : RBox g cap0 us.length ⟨kk, uu, 0, 0, ts⟩ (.slice At tn ct) w.heap.size W) => index_any (.slice At tn ct) ts (fun t => t.unit == uu) 25 #[.pointer (some ⟨w.heap.size + 1, 0, none⟩)] (enters_of (P := Tryz.prog) Tryz.func25 (by kernel_rfl) rfl) W (HT.out.lift hb hb.size) (right_clos ts uu (w.heap.size + 1) W (by have := hR.lt; omega) hR.r1))
  clear hf hk
  gi_wp2_with (first
    | (refine ⟨trivial, ?_⟩; gi_at_call 22; rw [← HW0.out]; refine (callsIn_wide.2 (HMAY.out w0 HB0.out)).mono ?_; rintro e w1 ⟨rfl, hb1⟩; have hr1 := HR0.out.later (hb1.mono (by have := HB0.out.size; omega)); obtain ⟨m0, d0, s0, s1, s2, s3, s4, y0, g0⟩ := hr1; dsimp only at s0 s1 s2 s3; have HR1 := hid (HR0.out.later (hb1.mono (by have := HB0.out.size; omega))); have HB1 := hid (bstep HB0.out (hb1.mono (Nat.le_refl _))); clear hb1)
    | (refine ⟨trivial, ?_⟩; gi_at_call 24; refine (callsIn_wide.2 (HIX.out w1 HB1.out HR1.out)).mono ?_; rintro e w2 ⟨r, rfl, hr, hb2⟩; obtain rfl : r = -1 := (by rcases find_of_idx hr with ⟨h, _⟩ | ⟨k, _, _, h⟩; exact h; rw [HFD.out] at h; cases h); obtain ⟨m2, d2, t0, t1, t2, t3, t4, y2, g2⟩ := HR1.out.later hb2; dsimp only at t0 t1 t2 t3; have HR2 := hid (HR1.out.later hb2); have HB2 := hid (bstep HB1.out hb2); clear hb2 hr m0 d0 s0 s1 s2 s3 s4 y0 g0))
  exact ⟨_, results_cell rfl rfl (by go_simp), rfl, by first | exact HB2.out | exact HB2.out.setCell (p := ⟨w.heap.size + 1 + 1, 0, none⟩) (by show w.heap.size ≤ w.heap.size + 1 + 1; omega) _⟩
set_option maxRecDepth 100000 in
set_option maxHeartbeats 8000000 in
theorem prightK_any (v tv : Value) (us : List UnitW) (kk uu : Int) (ts : List Term) (w : World) (h : WorldRd w (Lt w.heap.size) v us) (ho : UnitsOk us) (hF : FirstIs w) (ht : SliceRd tTerm w (Lt w.heap.size) tv ts) (hm : mayL (nsOf us) ts = true) (hk : kk ≠ 1) (t : Term) (hf : ts.find? (fun t => t.unit == uu) = some t) (hbad : (masksF (nsOf us) ts uu.toNat).testBit 0 = true ∨ (kk ≠ 2 ∧ kk ≠ 3)) :
    Calls Tryz.prog 6 #[v, .agg #[.int .i64 kk, .int .i64 uu, .int .i64 0, .int .i64 0, tv]] w fun e w' => e = .returned (.bool false) ∧ Below w.heap.size w w' := by
  have HW := hid h
  have HT := hid ht
  have HO := hid ho
  have HFI := hid hF
  have HMAY := hid (fun (W : World) (hb : Below w.heap.size w W) => incMayB_any v tv (nsOf us) ts W (h.lift hb hb.size).uni ho.ns (ht.lift hb hb.size))
  obtain ⟨At, ct, rfl, hct, hcm, htc⟩ := ht.terms
  obtain ⟨tn, htn⟩ : ∃ tn, ts.length = tn := ⟨_, rfl⟩
  obtain ⟨g, cap0, rfl, hg, -⟩ := h
  have HTN := hid htn
  have HTC := hid htc
  unfold maxLen at hcm
  rw [htn] at hct HMAY HT ⊢
  obtain ⟨w0, hw0⟩ : ∃ w0 : World, w0 = ((w.alloc (.cells #[.slice (some ⟨g, 0, none⟩) us.length cap0] 25)).alloc (.cells #[.int .i64 kk, .int .i64 uu, .int .i64 0, .int .i64 0, .slice At tn ct] 32)).alloc (.cells #[.bool false] 4) := ⟨_, rfl⟩
  have hb0 : Below w.heap.size w w0 := hw0 ▸ balloc (balloc (balloc (b0 w) _) _) _
  have hrb : RBox g cap0 us.length ⟨kk, uu, 0, 0, ts⟩ (.slice At tn ct) w.heap.size w0 := hw0 ▸ RBox.new g cap0 us.length ⟨kk, uu, 0, 0, ts⟩ (.slice At tn ct) w
  have HR0 := hid hrb
  have HB0 := hid hb0
  have HW0 := hid hw0
  obtain ⟨l0, c0, r0, r1, r2, r3, r4, x0, f0⟩ := hrb
  dsimp only at r0 r1 r2 r3
  clear ho hF htc htn hw0 hb0
  refine (callsIn_wide (n := 5)).1 ?_
  refine callsIn_of_wp_marks Tryz.func6 rfl trivial ?_ rfl
  simp only [Tryz.ntmps6, List.size_toArray, List.length_cons, List.length_nil, Nat.reduceAdd, Nat.reduceSub, Array.replicate_succ, Array.replicate_zero, List.push_toArray, List.append_toArray, List.nil_append, List.cons_append]
  rw [hm] at HMAY
  have HFD := hid hf
  have htm := List.mem_of_find?_eq_some hf
  obtain ⟨hul, hu0, hmk⟩ := right_at (us := us) (r := ⟨kk, uu, 0, 0, ts⟩) hm htm (by have := List.find?_some hf; simpa using this)
  dsimp only at hul hu0 hmk
  have hinc := (may_masks hm).1
  have hM31 : masksF (nsOf us) ts uu.toNat ≤ 31 := hinc.le HO.out.ns _ (by simpa [nsOf] using hul)
  obtain ⟨m, hmm⟩ : ∃ m, masksF (nsOf us) ts uu.toNat = m := ⟨_, rfl⟩
  rw [hmm] at hmk hM31
  have hand : bits .and .i64 (m : Int) 1 = ((m &&& 1 : Nat) : Int) := and_pq (m := m) (q := 1) hM31 (by decide)
  have hbit := bit_zero (m := m) (k := 0)
  rw [show (2 ^ 0 : Nat) = 1 from rfl] at hbit
  have z1 : (kk == 1) = false := beq_false_of_ne hk
  have HIX := hid (fun (W : World) (hb : Below w.heap.size w W) (hR : RBox g cap0 us.length ⟨kk, uu, 0, 0, ts⟩ (.slice At tn ct) w.heap.size W) => index_any (.slice At tn ct) ts (fun t => t.unit == uu) 25 #[.pointer (some ⟨w.heap.size + 1, 0, none⟩)] (enters_of (P := Tryz.prog) Tryz.func25 (by kernel_rfl) rfl) W (HT.out.lift hb hb.size) (right_clos ts uu (w.heap.size + 1) W (by have := hR.lt; omega) hR.r1))
  clear hf hk htm
  cases hb0 : m.testBit 0 with
  | true =>
    rw [hb0] at hbit
    clear hb0 hbad hmm
    generalize m &&& 1 = mz at *
    gi_wp2_with (first
    | (refine ⟨trivial, ?_⟩; gi_at_call 22; rw [← HW0.out]; refine (callsIn_wide.2 (HMAY.out w0 HB0.out)).mono ?_; rintro e w1 ⟨rfl, hb1⟩; have hr1 := HR0.out.later (hb1.mono (by have := HB0.out.size; omega)); obtain ⟨m0, d0, s0, s1, s2, s3, s4, y0, g0⟩ := hr1; dsimp only at s0 s1 s2 s3; have HR1 := hid (HR0.out.later (hb1.mono (by have := HB0.out.size; omega))); have HB1 := hid (bstep HB0.out (hb1.mono (Nat.le_refl _))); clear hb1)
    | (refine ⟨trivial, ?_⟩; gi_at_call 24; refine (callsIn_wide.2 (HIX.out w1 HB1.out HR1.out)).mono ?_; rintro e w2 ⟨r, rfl, hr, hb2⟩; obtain ⟨k, hkl, rfl, hkt⟩ : ∃ k, ∃ hk : k < ts.length, r = k ∧ ts[k] = t := (by
      rcases find_of_idx hr with ⟨_, h⟩ | ⟨k, hk, e, h⟩
      · rw [HFD.out] at h; cases h
      · rw [HFD.out] at h; exact ⟨k, hk, e, (Option.some.inj h).symm⟩); obtain ⟨gg, o, hA, hF2, g0', g1', -, -⟩ := HTC.out k hkl; subst hA; rw [hkt, hmk] at g1'; have HKT := hid hkt; have q1 := cell_below hb2 (Nat.lt_of_lt_of_le (Nat.lt_of_lt_of_le hF2 HB1.out.size) (Nat.le_refl _)) (cell_below HB1.out hF2 g1'); have hktn : k < tn := (by rw [← HTN.out]; exact hkl); have i1 : (0 : Int) ≤ ↑k := Int.natCast_nonneg k; have i2 : (↑k : Int) < ↑tn := Int.ofNat_lt.2 hktn; have i3 : ¬ ((↑k : Int) < 0) := (by omega); have i4 : decide ((↑k : Int) < 0) = false := decide_eq_false i3; have hggl : gg < w2.heap.size := Nat.lt_of_lt_of_le (Nat.lt_of_lt_of_le hF2 HB1.out.size) hb2.size; clear g0' g1' hkt; obtain ⟨m2, d2, t0, t1, t2, t3, t4, y2, g2⟩ := HR1.out.later hb2; dsimp only at t0 t1 t2 t3; have HR2 := hid (HR1.out.later hb2); have HB2 := hid (bstep HB1.out hb2); clear hb2 hr m0 d0 s0 s1 s2 s3 s4 y0 g0))
    exact ⟨_, results_cell rfl rfl (by go_simp), rfl, by first | exact HB2.out | exact HB2.out.setCell (p := ⟨w.heap.size + 1 + 1, 0, none⟩) (by show w.heap.size ≤ w.heap.size + 1 + 1; omega) _⟩
  | false =>
    rw [hb0] at hbit
    obtain ⟨h2, h3⟩ := hbad.resolve_left (by rw [hmm, hb0]; decide)
    have z2 : (kk != 2) = true := bne_iff_ne.2 h2
    have z3 : (kk != 3) = true := bne_iff_ne.2 h3
    clear hb0 hbad hmm h2 h3
    generalize m &&& 1 = mz at *
    gi_wp2_with (first
    | (refine ⟨trivial, ?_⟩; gi_at_call 22; rw [← HW0.out]; refine (callsIn_wide.2 (HMAY.out w0 HB0.out)).mono ?_; rintro e w1 ⟨rfl, hb1⟩; have hr1 := HR0.out.later (hb1.mono (by have := HB0.out.size; omega)); obtain ⟨m0, d0, s0, s1, s2, s3, s4, y0, g0⟩ := hr1; dsimp only at s0 s1 s2 s3; have HR1 := hid (HR0.out.later (hb1.mono (by have := HB0.out.size; omega))); have HB1 := hid (bstep HB0.out (hb1.mono (Nat.le_refl _))); clear hb1)
    | (refine ⟨trivial, ?_⟩; gi_at_call 24; refine (callsIn_wide.2 (HIX.out w1 HB1.out HR1.out)).mono ?_; rintro e w2 ⟨r, rfl, hr, hb2⟩; obtain ⟨k, hkl, rfl, hkt⟩ : ∃ k, ∃ hk : k < ts.length, r = k ∧ ts[k] = t := (by
      rcases find_of_idx hr with ⟨_, h⟩ | ⟨k, hk, e, h⟩
      · rw [HFD.out] at h; cases h
      · rw [HFD.out] at h; exact ⟨k, hk, e, (Option.some.inj h).symm⟩); obtain ⟨gg, o, hA, hF2, g0', g1', -, -⟩ := HTC.out k hkl; subst hA; rw [hkt, hmk] at g1'; have HKT := hid hkt; have q1 := cell_below hb2 (Nat.lt_of_lt_of_le (Nat.lt_of_lt_of_le hF2 HB1.out.size) (Nat.le_refl _)) (cell_below HB1.out hF2 g1'); have hktn : k < tn := (by rw [← HTN.out]; exact hkl); have i1 : (0 : Int) ≤ ↑k := Int.natCast_nonneg k; have i2 : (↑k : Int) < ↑tn := Int.ofNat_lt.2 hktn; have i3 : ¬ ((↑k : Int) < 0) := (by omega); have i4 : decide ((↑k : Int) < 0) = false := decide_eq_false i3; have hggl : gg < w2.heap.size := Nat.lt_of_lt_of_le (Nat.lt_of_lt_of_le hF2 HB1.out.size) hb2.size; clear g0' g1' hkt; obtain ⟨m2, d2, t0, t1, t2, t3, t4, y2, g2⟩ := HR1.out.later hb2; dsimp only at t0 t1 t2 t3; have HR2 := hid (HR1.out.later hb2); have HB2 := hid (bstep HB1.out hb2); clear hb2 hr m0 d0 s0 s1 s2 s3 s4 y0 g0))
    exact ⟨_, results_cell rfl rfl (by go_simp), rfl, by first | exact HB2.out | exact HB2.out.setCell (p := ⟨w.heap.size + 1 + 1, 0, none⟩) (by show w.heap.size ≤ w.heap.size + 1 + 1; omega) _⟩
set_option maxRecDepth 100000 in
set_option maxHeartbeats 8000000 in
theorem prightL2_any (v tv : Value) (us : List UnitW) (kk uu : Int) (ts : List Term) (w : World) (h : WorldRd w (Lt w.heap.size) v us) (ho : UnitsOk us) (hF : FirstIs w) (ht : SliceRd tTerm w (Lt w.heap.size) tv ts) (hm : mayL (nsOf us) ts = true) (hk : kk = 2) (t : Term) (hf : ts.find? (fun t => t.unit == uu) = some t) (hz : (masksF (nsOf us) ts uu.toNat).testBit 0 = false) :
    Calls Tryz.prog 6 #[v, .agg #[.int .i64 kk, .int .i64 uu, .int .i64 0, .int .i64 0, tv]] w fun e w' => e = .returned (.bool (saysN us false (masksF (nsOf us) ts) uu.toNat)) ∧ Below w.heap.size w w' := by
  have HW := hid h
  have HT := hid ht
  have HO := hid ho
  have HFI := hid hF
  have HMAY := hid (fun (W : World) (hb : Below w.heap.size w W) => incMayB_any v tv (nsOf us) ts W (h.lift hb hb.size).uni ho.ns (ht.lift hb hb.size))
  obtain ⟨At, ct, rfl, hct, hcm, htc⟩ := ht.terms
  obtain ⟨tn, htn⟩ : ∃ tn, ts.length = tn := ⟨_, rfl⟩
  obtain ⟨g, cap0, rfl, hg, -⟩ := h
  have HTN := hid htn
  have HTC := hid htc
  unfold maxLen at hcm
  rw [htn] at hct HMAY HT ⊢
  obtain ⟨w0, hw0⟩ : ∃ w0 : World, w0 = ((w.alloc (.cells #[.slice (some ⟨g, 0, none⟩) us.length cap0] 25)).alloc (.cells #[.int .i64 kk, .int .i64 uu, .int .i64 0, .int .i64 0, .slice At tn ct] 32)).alloc (.cells #[.bool false] 4) := ⟨_, rfl⟩
  have hb0 : Below w.heap.size w w0 := hw0 ▸ balloc (balloc (balloc (b0 w) _) _) _
  have hrb : RBox g cap0 us.length ⟨kk, uu, 0, 0, ts⟩ (.slice At tn ct) w.heap.size w0 := hw0 ▸ RBox.new g cap0 us.length ⟨kk, uu, 0, 0, ts⟩ (.slice At tn ct) w
  have HR0 := hid hrb
  have HB0 := hid hb0
  have HW0 := hid hw0
  obtain ⟨l0, c0, r0, r1, r2, r3, r4, x0, f0⟩ := hrb
  dsimp only at r0 r1 r2 r3
  clear ho hF htc htn hw0 hb0
  refine (callsIn_wide (n := 5)).1 ?_
  refine callsIn_of_wp_marks Tryz.func6 rfl trivial ?_ rfl
  simp only [Tryz.ntmps6, List.size_toArray, List.length_cons, List.length_nil, Nat.reduceAdd, Nat.reduceSub, Array.replicate_succ, Array.replicate_zero, List.push_toArray, List.append_toArray, List.nil_append, List.cons_append]
  have hk1 : kk ≠ 1 := by omega
  rw [hm] at HMAY
  have HFD := hid hf
  have htm := List.mem_of_find?_eq_some hf
  obtain ⟨hul, hu0, hmk⟩ := right_at (us := us) (r := ⟨kk, uu, 0, 0, ts⟩) hm htm (by have := List.find?_some hf; simpa using this)
  dsimp only at hul hu0 hmk
  have hinc := (may_masks hm).1
  have hM31 : masksF (nsOf us) ts uu.toNat ≤ 31 := hinc.le HO.out.ns _ (by simpa [nsOf] using hul)
  obtain ⟨m, hmm⟩ : ∃ m, masksF (nsOf us) ts uu.toNat = m := ⟨_, rfl⟩
  rw [hmm] at hmk hM31
  have hand : bits .and .i64 (m : Int) 1 = ((m &&& 1 : Nat) : Int) := and_pq (m := m) (q := 1) hM31 (by decide)
  have hbit := bit_zero (m := m) (k := 0)
  rw [show (2 ^ 0 : Nat) = 1 from rfl] at hbit
  have z1 : (kk == 1) = false := beq_false_of_ne hk1
  have HIX := hid (fun (W : World) (hb : Below w.heap.size w W) (hR : RBox g cap0 us.length ⟨kk, uu, 0, 0, ts⟩ (.slice At tn ct) w.heap.size W) => index_any (.slice At tn ct) ts (fun t => t.unit == uu) 25 #[.pointer (some ⟨w.heap.size + 1, 0, none⟩)] (enters_of (P := Tryz.prog) Tryz.func25 (by kernel_rfl) rfl) W (HT.out.lift hb hb.size) (right_clos ts uu (w.heap.size + 1) W (by have := hR.lt; omega) hR.r1))
  have z2 : (kk != 2) = false := by rw [hk]; rfl
  rw [hmm] at hz
  rw [hz] at hbit
  have HINC := hid hinc
  have HMS := hid (may_masks hm).2
  have HMM := hid hmm
  have HZ := hid hz
  obtain ⟨u, huu⟩ : ∃ u : Nat, uu = (u : Int) := ⟨uu.toNat, by omega⟩
  subst huu
  rw [Int.toNat_natCast] at HMM hul ⊢
  have HKK := hid hk
  have HUL := hid hul
  have HM31 := hid hM31
  have HW1' := hid (fun (W : World) (hb : Below w.heap.size w W) => HW.out.lift hb hb.size)
  clear hf htm hmm hz hk1 hinc hk
  generalize m &&& 1 = mz at *
  gi_wp2_with (first | (first
    | (refine ⟨trivial, ?_⟩; gi_at_call 22; rw [← HW0.out]; refine (callsIn_wide.2 (HMAY.out w0 HB0.out)).mono ?_; rintro e w1 ⟨rfl, hb1⟩; have hr1 := HR0.out.later (hb1.mono (by have := HB0.out.size; omega)); obtain ⟨m0, d0, s0, s1, s2, s3, s4, y0, g0⟩ := hr1; dsimp only at s0 s1 s2 s3; have HR1 := hid (HR0.out.later (hb1.mono (by have := HB0.out.size; omega))); have HB1 := hid (bstep HB0.out (hb1.mono (Nat.le_refl _))); clear hb1)
    | (refine ⟨trivial, ?_⟩; gi_at_call 24; refine (callsIn_wide.2 (HIX.out w1 HB1.out HR1.out)).mono ?_; rintro e w2 ⟨r, rfl, hr, hb2⟩; obtain ⟨k, hkl, rfl, hkt⟩ : ∃ k, ∃ hk : k < ts.length, r = k ∧ ts[k] = t := (by
      rcases find_of_idx hr with ⟨_, h⟩ | ⟨k, hk, e, h⟩
      · rw [HFD.out] at h; cases h
      · rw [HFD.out] at h; exact ⟨k, hk, e, (Option.some.inj h).symm⟩); obtain ⟨gg, o, hA, hF2, g0', g1', -, -⟩ := HTC.out k hkl; subst hA; rw [hkt, hmk] at g1'; have HKT := hid hkt; have q1 := cell_below hb2 (Nat.lt_of_lt_of_le (Nat.lt_of_lt_of_le hF2 HB1.out.size) (Nat.le_refl _)) (cell_below HB1.out hF2 g1'); have hktn : k < tn := (by rw [← HTN.out]; exact hkl); have i1 : (0 : Int) ≤ ↑k := Int.natCast_nonneg k; have i2 : (↑k : Int) < ↑tn := Int.ofNat_lt.2 hktn; have i3 : ¬ ((↑k : Int) < 0) := (by omega); have i4 : decide ((↑k : Int) < 0) = false := decide_eq_false i3; have hggl : gg < w2.heap.size := Nat.lt_of_lt_of_le (Nat.lt_of_lt_of_le hF2 HB1.out.size) hb2.size; clear g0' g1' hkt; obtain ⟨m2, d2, t0, t1, t2, t3, t4, y2, g2⟩ := HR1.out.later hb2; dsimp only at t0 t1 t2 t3; have HR2 := hid (HR1.out.later hb2); have HB2 := hid (bstep HB1.out hb2); clear hb2 hr m0 d0 s0 s1 s2 s3 s4 y0 g0)) | (refine ⟨trivial, ?_⟩; gi_at_call 26; refine (callsIn_wide.2 (each_any _ _)).mono ?_; rintro e w3 ⟨rfl, rfl⟩))
  obtain ⟨w3, hw3⟩ : ∃ w3 : World, w3 = w2.alloc (.cells #[.int .i64 m] 3) := ⟨_, rfl⟩
  have hb3 : Below w2.heap.size w2 w3 := hw3 ▸ balloc (b0 _) _
  have hz3 : w3.heap.size = w2.heap.size + 1 := by rw [hw3]; simp
  have HR3 := hid (HR2.out.later hb3)
  have HB3 := hid (bstep HB2.out hb3)
  have t6 : w3.cell? ⟨w2.heap.size, 0, none⟩ = some (.int .i64 m) := by rw [hw3, alloc_cell]; rfl
  have hl2 := HR2.out.lt
  have hl3 := HR3.out.lt
  rw [← hw3]
  have HK : ∀ W, KeepB w3.heap.size (w.heap.size + 1 + 1) w3 W → Below w.heap.size w W := fun W hk => HB3.out.trans (hk.below (by omega) (by omega))
  clear hw3 d2 t0 t1 t2 t3 t4 y2 g2 q1
  refine wpIn_rangeFunc_ownF rfl (by omega) (gf := 53) (lb := #[.pointer (some ⟨w2.heap.size, 0, none⟩)]) rfl trivial (enters_of Tryz.func53 (by kernel_rfl) rfl)
    (each_stops _ (by omega) w2.heap.size w3.heap.size (w.heap.size + 1 + 1) m HM31.out HZ.out (by omega) (by omega) w3 (by omega) t6)
    KeepB.trans (fun W l o o' hl _ _ _ => KeepB.put (Nat.le_refl _) W l o' hl) (Below.refl _ _) (fun _ => rfl)
    (fun (pre : List (PlaceOf m)) W => (∀ x ∈ pre, brokenAt us false (masksF (nsOf us) ts) u x.1 = true) ∧ W.cell? ⟨w.heap.size + 1 + 1, 0, none⟩ = some (.bool false) ∧ W.frozen? ⟨w.heap.size + 1 + 1, 0, none⟩ = false ∧ KeepB w3.heap.size (w.heap.size + 1 + 1) w3 W)
    (fun c (pre : List (PlaceOf m)) W => c = .ret ∧ (∃ x ∈ pre, brokenAt us false (masksF (nsOf us) ts) u x.1 = false) ∧ W.cell? ⟨w.heap.size + 1 + 1, 0, none⟩ = some (.bool false) ∧ KeepB w3.heap.size (w.heap.size + 1 + 1) w3 W) ?own ?ownx ⟨fun _ h => by (cases h), HR3.out.x, HR3.out.f, KeepB.refl _ _ _⟩ ?a1 ?assign ?body ?done ?stop
  case own =>
    rintro pre A B row ⟨h0, h1, h2, h3⟩ hgr hr
    have hbl := hgr.block (w.heap.size + 1 + 1) (by have := h3.2.1; omega) (fun e => by have := (hr _ e.symm).1; omega)
    exact ⟨h0, (World.cell?_of_block hbl).trans h1, (World.frozen?_of_block hbl).trans h2, h3.grown h3.2.1 hgr (fun r e => (hr r e).1)⟩
  case ownx =>
    rintro c pre A B row ⟨hc, h0, h1, h3⟩ hgr hr
    have hbl := hgr.block (w.heap.size + 1 + 1) (by have := h3.2.1; omega) (fun e => by have := (hr _ e.symm).1; omega)
    exact ⟨hc, h0, (World.cell?_of_block hbl).trans h1, h3.grown h3.2.1 hgr (fun r e => (hr r e).1)⟩
  case assign =>
    intro l y W K hK
    first | (gi_wp2; exact hK) | (gi_wp2; rw [Oper.semAt_eq _ _ _ (fun c h => by cases h)]; go_simp; gi_wp2; exact hK)
  case body =>
    rintro l pre ⟨p, hp⟩ W ⟨hall, hc, hf, hk⟩ _
    have hbw := HK W hk
    have hpc : p < us[u].cands.length := by
      have h1 : u < (nsOf us).length := by simpa [nsOf] using HUL.out
      have h2 := HINC.out.bit h1 (k := p + 1) (by rw [HMM.out]; exact hp)
      rw [full_bit h1] at h2
      have h3 := of_decide_eq_true h2
      simp only [nsOf, List.getElem_map] at h3
      omega
    have hp3 : p ≤ 3 := by
      have h1 := HO.out.ns.le u (by simpa [nsOf] using HUL.out)
      simp only [nsOf, List.getElem_map] at h1
      omega
    have htl := HT.out.lift hbw hbw.size
    rw [HMS.out] at htl
    obtain ⟨bb, hbb⟩ : ∃ bb, brokenN us false (masksF (nsOf us) ts) u p (us[u]'HUL.out).cands[p] = bb := ⟨_, rfl⟩
    have HBR := hid ((show Calls Tryz.prog 27 #[.agg #[.slice (some ⟨g, 0, none⟩) us.length cap0], .agg #[.int .i64 kk, .int .i64 u, .int .i64 0, .int .i64 0, .slice (some ⟨gg, o, none⟩) tn ct], .int .i64 p] W _ from HKK.out ▸ broken2_any us (masksF (nsOf us) ts) u p g cap0 (some ⟨gg, o, none⟩) tn ct W ⟨HW1'.out W hbw, HO.out, HINC.out, htl, HFI.out.below hbw, hp3⟩ HUL.out hpc).mono (fun e w' h => (⟨h.1.trans (congrArg (fun b => Ending.returned (Value.bool b)) hbb), h.2⟩ : e = .returned (.bool bb) ∧ Below W.heap.size W w')))
    have HBA := hid ((broken_at (bar := false) (M := masksF (nsOf us) ts) HUL.out hpc).trans hbb)
    have v0 := hk.cell (by omega) (by omega) HR3.out.c
    have v1 := hk.cell (by omega) (by omega) HR3.out.r0
    have v2 := hk.cell (by omega) (by omega) HR3.out.r1
    have v3 := hk.cell (by omega) (by omega) HR3.out.r2
    have v4 := hk.cell (by omega) (by omega) HR3.out.r3
    have v5 := hk.cell (by omega) (by omega) HR3.out.r4
    dsimp only at v1 v2 v3 v4
    have hzW : w.heap.size + 1 + 1 < W.heap.size := by have := hk.2.1; omega
    have HKP := hid hk
    have HALL := hid hall
    clear hbb htl hp3 hall
    gi_wp2
    repeat (rw [Oper.semAt_eq _ _ _ (fun c h => by cases h)]; go_simp; gi_wp2)
    refine ⟨trivial, ?_⟩
    refine (CallsIn.inRound l (callsIn_wide.2 HBR.out)).mono ?_
    rintro e W1 ⟨rfl, hb3⟩
    have y3 := cell_below hb3 hzW hc
    have g3 := (World.frozen?_of_block (a := ⟨w.heap.size + 1 + 1, 0, none⟩) (hb3.block _ hzW)).trans hf
    have hb3' := hid hb3
    clear hb3
    cases bb with
    | true =>
      gi_wp2
      repeat (rw [Oper.semAt_eq _ _ _ (fun c h => by cases h)]; go_simp; gi_wp2)
      exact ⟨keepsOthers_of_below hb3'.out, KeepB.of_below (hb3'.out.mono HKP.out.2.1), ⟨fun x hx => (List.mem_append.1 hx).elim (HALL.out x) (fun h => by rw [List.mem_singleton.1 h]; exact HBA.out), y3, g3, HKP.out.trans (KeepB.of_below (hb3'.out.mono HKP.out.2.1))⟩⟩
    | false =>
      gi_wp2
      repeat (rw [Oper.semAt_eq _ _ _ (fun c h => by cases h)]; go_simp; gi_wp2)
      first
        | exact ⟨keepsOthers_of_below hb3'.out, rfl, ⟨⟨p, hp⟩, List.mem_append.2 (.inr (List.mem_singleton_self _)), HBA.out⟩, y3, HKP.out.trans (KeepB.of_below (hb3'.out.mono HKP.out.2.1))⟩
        | exact ⟨(keepsOthers_of_below hb3'.out).trans (KeepsOthers.setCell _ _ _), rfl, ⟨⟨p, hp⟩, List.mem_append.2 (.inr (List.mem_singleton_self _)), HBA.out⟩, World.cell?_setCell_same _ _ _ y3, HKP.out.trans ((KeepB.of_below (hb3'.out.mono HKP.out.2.1)).trans (keepB_set1 _ _ _ _))⟩
  case done =>
    rintro D xs W hD rfl ⟨hall, hc, hf, hk⟩ hK
    have hzW : w.heap.size + 1 + 1 < W.heap.size := by have := hk.2.1; omega
    have HS : saysN us false (masksF (nsOf us) ts) u = true := says_true (by rw [HMM.out]; exact HZ.out) fun q hq hb => hall ⟨q, by rw [← HMM.out]; exact hb⟩ (places_mem hq _)
    have hne : D ≠ w.heap.size + 1 + 1 := by omega
    have hK' : (W.setCell ⟨w.heap.size + 1 + 1, 0, none⟩ (.bool true)).heap[D]? = some (.deferred (some [])) := (heap_setCell_other _ _ _ _ hne).trans hK
    have hpo : ∀ ob, ((W.setCell ⟨w.heap.size + 1 + 1, 0, none⟩ (.bool true)).putObj D ob).cell? ⟨w.heap.size + 1 + 1, 0, none⟩ = some (.bool true) := fun ob => (World.cell?_of_block (a := ⟨w.heap.size + 1 + 1, 0, none⟩) (World.putObj_heap_other (by show w.heap.size + 1 + 1 ≠ D; omega))).trans (World.cell?_setCell_same _ _ _ hc)
    have hBF := ((HK W hk).setCell (p := ⟨w.heap.size + 1 + 1, 0, none⟩) (by show w.heap.size ≤ w.heap.size + 1 + 1; omega) (.bool true))
    gi_wp2
    refine ⟨by simp, .inl ⟨_, _, rfl, run_takeDeferred hK', ?_⟩⟩
    refine ⟨.bool true, results_cell rfl rfl (by first | go_simp | (simp [loadVar, go_sem, hpo])), by first | rfl | rw [HS] | (rw [show decide ((2 : Int) = 3) = false from rfl, HS]), hBF.trans ⟨rfl, rfl, rfl, by simp, fun k hk => World.putObj_heap_other (by omega)⟩⟩
  case stop =>
    rintro D c pre W hD ⟨kk9, hk9, rfl⟩ ⟨rfl, ⟨x, hx, hbx⟩, hc, hk⟩ hK
    have HS : saysN us false (masksF (nsOf us) ts) u = false := says_false (p := x.1) (by have := places_lt hx; omega) (by rw [HMM.out]; exact x.2) hbx
    have hpo : ∀ ob, (W.putObj D ob).cell? ⟨w.heap.size + 1 + 1, 0, none⟩ = some (.bool false) := fun ob => (World.cell?_of_block (a := ⟨w.heap.size + 1 + 1, 0, none⟩) (World.putObj_heap_other (by show w.heap.size + 1 + 1 ≠ D; omega))).trans hc
    gi_wp2
    refine ⟨by simp, .inl ⟨_, _, rfl, run_takeDeferred hK, ?_⟩⟩
    refine ⟨.bool false, results_cell rfl rfl (by first | go_simp | (simp [loadVar, go_sem, hpo])), by first | rfl | rw [HS] | (rw [show decide ((2 : Int) = 3) = false from rfl, HS]), (HK W hk).trans ⟨rfl, rfl, rfl, by simp, fun k hk => World.putObj_heap_other (by omega)⟩⟩
set_option maxRecDepth 100000 in
set_option maxHeartbeats 8000000 in
theorem prightL3_any (v tv : Value) (us : List UnitW) (kk uu : Int) (ts : List Term) (w : World) (h : WorldRd w (Lt w.heap.size) v us) (ho : UnitsOk us) (hF : FirstIs w) (ht : SliceRd tTerm w (Lt w.heap.size) tv ts) (hm : mayL (nsOf us) ts = true) (hk : kk = 3) (t : Term) (hf : ts.find? (fun t => t.unit == uu) = some t) (hz : (masksF (nsOf us) ts uu.toNat).testBit 0 = false) :
    Calls Tryz.prog 6 #[v, .agg #[.int .i64 kk, .int .i64 uu, .int .i64 0, .int .i64 0, tv]] w fun e w' => e = .returned (.bool (saysN us true (masksF (nsOf us) ts) uu.toNat)) ∧ Below w.heap.size w w' := by
  have HW := hid h
  have HT := hid ht
  have HO := hid ho
  have HFI := hid hF
  have HMAY := hid (fun (W : World) (hb : Below w.heap.size w W) => incMayB_any v tv (nsOf us) ts W (h.lift hb hb.size).uni ho.ns (ht.lift hb hb.size))
  obtain ⟨At, ct, rfl, hct, hcm, htc⟩ := ht.terms
  obtain ⟨tn, htn⟩ : ∃ tn, ts.length = tn := ⟨_, rfl⟩
  obtain ⟨g, cap0, rfl, hg, -⟩ := h
  have HTN := hid htn
  have HTC := hid htc
  unfold maxLen at hcm
  rw [htn] at hct HMAY HT ⊢
  obtain ⟨w0, hw0⟩ : ∃ w0 : World, w0 = ((w.alloc (.cells #[.slice (some ⟨g, 0, none⟩) us.length cap0] 25)).alloc (.cells #[.int .i64 kk, .int .i64 uu, .int .i64 0, .int .i64 0, .slice At tn ct] 32)).alloc (.cells #[.bool false] 4) := ⟨_, rfl⟩
  have hb0 : Below w.heap.size w w0 := hw0 ▸ balloc (balloc (balloc (b0 w) _) _) _
  have hrb : RBox g cap0 us.length ⟨kk, uu, 0, 0, ts⟩ (.slice At tn ct) w.heap.size w0 := hw0 ▸ RBox.new g cap0 us.length ⟨kk, uu, 0, 0, ts⟩ (.slice At tn ct) w
  have HR0 := hid hrb
  have HB0 := hid hb0
  have HW0 := hid hw0
  obtain ⟨l0, c0, r0, r1, r2, r3, r4, x0, f0⟩ := hrb
  dsimp only at r0 r1 r2 r3
  clear ho hF htc htn hw0 hb0
  refine (callsIn_wide (n := 5)).1 ?_
  refine callsIn_of_wp_marks Tryz.func6 rfl trivial ?_ rfl
  simp only [Tryz.ntmps6, List.size_toArray, List.length_cons, List.length_nil, Nat.reduceAdd, Nat.reduceSub, Array.replicate_succ, Array.replicate_zero, List.push_toArray, List.append_toArray, List.nil_append, List.cons_append]
  have hk1 : kk ≠ 1 := by omega
  rw [hm] at HMAY
  have HFD := hid hf
  have htm := List.mem_of_find?_eq_some hf
  obtain ⟨hul, hu0, hmk⟩ := right_at (us := us) (r := ⟨kk, uu, 0, 0, ts⟩) hm htm (by have := List.find?_some hf; simpa using this)
  dsimp only at hul hu0 hmk
  have hinc := (may_masks hm).1
  have hM31 : masksF (nsOf us) ts uu.toNat ≤ 31 := hinc.le HO.out.ns _ (by simpa [nsOf] using hul)
  obtain ⟨m, hmm⟩ : ∃ m, masksF (nsOf us) ts uu.toNat = m := ⟨_, rfl⟩
  rw [hmm] at hmk hM31
  have hand : bits .and .i64 (m : Int) 1 = ((m &&& 1 : Nat) : Int) := and_pq (m := m) (q := 1) hM31 (by decide)
  have hbit := bit_zero (m := m) (k := 0)
  rw [show (2 ^ 0 : Nat) = 1 from rfl] at hbit
  have z1 : (kk == 1) = false := beq_false_of_ne hk1
  have HIX := hid (fun (W : World) (hb : Below w.heap.size w W) (hR : RBox g cap0 us.length ⟨kk, uu, 0, 0, ts⟩ (.slice At tn ct) w.heap.size W) => index_any (.slice At tn ct) ts (fun t => t.unit == uu) 25 #[.pointer (some ⟨w.heap.size + 1, 0, none⟩)] (enters_of (P := Tryz.prog) Tryz.func25 (by kernel_rfl) rfl) W (HT.out.lift hb hb.size) (right_clos ts uu (w.heap.size + 1) W (by have := hR.lt; omega) hR.r1))
  have z2 : (kk != 2) = true := by rw [hk]; rfl
  have z3 : (kk != 3) = false := by rw [hk]; rfl
  rw [hmm] at hz
  rw [hz] at hbit
  have HINC := hid hinc
  have HMS := hid (may_masks hm).2
  have HMM := hid hmm
  have HZ := hid hz
  obtain ⟨u, huu⟩ : ∃ u : Nat, uu = (u : Int) := ⟨uu.toNat, by omega⟩
  subst huu
  rw [Int.toNat_natCast] at HMM hul ⊢
  have HKK := hid hk
  have HUL := hid hul
  have HM31 := hid hM31
  have HW1' := hid (fun (W : World) (hb : Below w.heap.size w W) => HW.out.lift hb hb.size)
  clear hf htm hmm hz hk1 hinc hk
  generalize m &&& 1 = mz at *
  gi_wp2_with (first | (first
    | (refine ⟨trivial, ?_⟩; gi_at_call 22; rw [← HW0.out]; refine (callsIn_wide.2 (HMAY.out w0 HB0.out)).mono ?_; rintro e w1 ⟨rfl, hb1⟩; have hr1 := HR0.out.later (hb1.mono (by have := HB0.out.size; omega)); obtain ⟨m0, d0, s0, s1, s2, s3, s4, y0, g0⟩ := hr1; dsimp only at s0 s1 s2 s3; have HR1 := hid (HR0.out.later (hb1.mono (by have := HB0.out.size; omega))); have HB1 := hid (bstep HB0.out (hb1.mono (Nat.le_refl _))); clear hb1)
    | (refine ⟨trivial, ?_⟩; gi_at_call 24; refine (callsIn_wide.2 (HIX.out w1 HB1.out HR1.out)).mono ?_; rintro e w2 ⟨r, rfl, hr, hb2⟩; obtain ⟨k, hkl, rfl, hkt⟩ : ∃ k, ∃ hk : k < ts.length, r = k ∧ ts[k] = t := (by
      rcases find_of_idx hr with ⟨_, h⟩ | ⟨k, hk, e, h⟩
      · rw [HFD.out] at h; cases h
      · rw [HFD.out] at h; exact ⟨k, hk, e, (Option.some.inj h).symm⟩); obtain ⟨gg, o, hA, hF2, g0', g1', -, -⟩ := HTC.out k hkl; subst hA; rw [hkt, hmk] at g1'; have HKT := hid hkt; have q1 := cell_below hb2 (Nat.lt_of_lt_of_le (Nat.lt_of_lt_of_le hF2 HB1.out.size) (Nat.le_refl _)) (cell_below HB1.out hF2 g1'); have hktn : k < tn := (by rw [← HTN.out]; exact hkl); have i1 : (0 : Int) ≤ ↑k := Int.natCast_nonneg k; have i2 : (↑k : Int) < ↑tn := Int.ofNat_lt.2 hktn; have i3 : ¬ ((↑k : Int) < 0) := (by omega); have i4 : decide ((↑k : Int) < 0) = false := decide_eq_false i3; have hggl : gg < w2.heap.size := Nat.lt_of_lt_of_le (Nat.lt_of_lt_of_le hF2 HB1.out.size) hb2.size; clear g0' g1' hkt; obtain ⟨m2, d2, t0, t1, t2, t3, t4, y2, g2⟩ := HR1.out.later hb2; dsimp only at t0 t1 t2 t3; have HR2 := hid (HR1.out.later hb2); have HB2 := hid (bstep HB1.out hb2); clear hb2 hr m0 d0 s0 s1 s2 s3 s4 y0 g0)) | (refine ⟨trivial, ?_⟩; gi_at_call 26; refine (callsIn_wide.2 (each_any _ _)).mono ?_; rintro e w3 ⟨rfl, rfl⟩))
  obtain ⟨w3, hw3⟩ : ∃ w3 : World, w3 = w2.alloc (.cells #[.int .i64 m] 3) := ⟨_, rfl⟩
  have hb3 : Below w2.heap.size w2 w3 := hw3 ▸ balloc (b0 _) _
  have hz3 : w3.heap.size = w2.heap.size + 1 := by rw [hw3]; simp
  have HR3 := hid (HR2.out.later hb3)
  have HB3 := hid (bstep HB2.out hb3)
  have t6 : w3.cell? ⟨w2.heap.size, 0, none⟩ = some (.int .i64 m) := by rw [hw3, alloc_cell]; rfl
  have hl2 := HR2.out.lt
  have hl3 := HR3.out.lt
  rw [← hw3]
  have HK : ∀ W, KeepB w3.heap.size (w.heap.size + 1 + 1) w3 W → Below w.heap.size w W := fun W hk => HB3.out.trans (hk.below (by omega) (by omega))
  clear hw3 d2 t0 t1 t2 t3 t4 y2 g2 q1
  refine wpIn_rangeFunc_ownF rfl (by omega) (gf := 53) (lb := #[.pointer (some ⟨w2.heap.size, 0, none⟩)]) rfl trivial (enters_of Tryz.func53 (by kernel_rfl) rfl)
    (each_stops _ (by omega) w2.heap.size w3.heap.size (w.heap.size + 1 + 1) m HM31.out HZ.out (by omega) (by omega) w3 (by omega) t6)
    KeepB.trans (fun W l o o' hl _ _ _ => KeepB.put (Nat.le_refl _) W l o' hl) (Below.refl _ _) (fun _ => rfl)
    (fun (pre : List (PlaceOf m)) W => (∀ x ∈ pre, brokenAt us true (masksF (nsOf us) ts) u x.1 = true) ∧ W.cell? ⟨w.heap.size + 1 + 1, 0, none⟩ = some (.bool false) ∧ W.frozen? ⟨w.heap.size + 1 + 1, 0, none⟩ = false ∧ KeepB w3.heap.size (w.heap.size + 1 + 1) w3 W)
    (fun c (pre : List (PlaceOf m)) W => c = .ret ∧ (∃ x ∈ pre, brokenAt us true (masksF (nsOf us) ts) u x.1 = false) ∧ W.cell? ⟨w.heap.size + 1 + 1, 0, none⟩ = some (.bool false) ∧ KeepB w3.heap.size (w.heap.size + 1 + 1) w3 W) ?own ?ownx ⟨fun _ h => by (cases h), HR3.out.x, HR3.out.f, KeepB.refl _ _ _⟩ ?a1 ?assign ?body ?done ?stop
  case own =>
    rintro pre A B row ⟨h0, h1, h2, h3⟩ hgr hr
    have hbl := hgr.block (w.heap.size + 1 + 1) (by have := h3.2.1; omega) (fun e => by have := (hr _ e.symm).1; omega)
    exact ⟨h0, (World.cell?_of_block hbl).trans h1, (World.frozen?_of_block hbl).trans h2, h3.grown h3.2.1 hgr (fun r e => (hr r e).1)⟩
  case ownx =>
    rintro c pre A B row ⟨hc, h0, h1, h3⟩ hgr hr
    have hbl := hgr.block (w.heap.size + 1 + 1) (by have := h3.2.1; omega) (fun e => by have := (hr _ e.symm).1; omega)
    exact ⟨hc, h0, (World.cell?_of_block hbl).trans h1, h3.grown h3.2.1 hgr (fun r e => (hr r e).1)⟩
  case assign =>
    intro l y W K hK
    first | (gi_wp2; exact hK) | (gi_wp2; rw [Oper.semAt_eq _ _ _ (fun c h => by cases h)]; go_simp; gi_wp2; exact hK)
  case body =>
    rintro l pre ⟨p, hp⟩ W ⟨hall, hc, hf, hk⟩ _
    have hbw := HK W hk
    have hpc : p < us[u].cands.length := by
      have h1 : u < (nsOf us).length := by simpa [nsOf] using HUL.out
      have h2 := HINC.out.bit h1 (k := p + 1) (by rw [HMM.out]; exact hp)
      rw [full_bit h1] at h2
      have h3 := of_decide_eq_true h2
      simp only [nsOf, List.getElem_map] at h3
      omega
    have hp3 : p ≤ 3 := by
      have h1 := HO.out.ns.le u (by simpa [nsOf] using HUL.out)
      simp only [nsOf, List.getElem_map] at h1
      omega
    have htl := HT.out.lift hbw hbw.size
    rw [HMS.out] at htl
    obtain ⟨bb, hbb⟩ : ∃ bb, brokenN us true (masksF (nsOf us) ts) u p (us[u]'HUL.out).cands[p] = bb := ⟨_, rfl⟩
    have HBR := hid ((show Calls Tryz.prog 27 #[.agg #[.slice (some ⟨g, 0, none⟩) us.length cap0], .agg #[.int .i64 kk, .int .i64 u, .int .i64 0, .int .i64 0, .slice (some ⟨gg, o, none⟩) tn ct], .int .i64 p] W _ from HKK.out ▸ broken3_any us (masksF (nsOf us) ts) u p g cap0 (some ⟨gg, o, none⟩) tn ct W ⟨HW1'.out W hbw, HO.out, HINC.out, htl, HFI.out.below hbw, hp3⟩ HUL.out hpc).mono (fun e w' h => (⟨h.1.trans (congrArg (fun b => Ending.returned (Value.bool b)) hbb), h.2⟩ : e = .returned (.bool bb) ∧ Below W.heap.size W w')))
    have HBA := hid ((broken_at (bar := true) (M := masksF (nsOf us) ts) HUL.out hpc).trans hbb)
    have v0 := hk.cell (by omega) (by omega) HR3.out.c
    have v1 := hk.cell (by omega) (by omega) HR3.out.r0
    have v2 := hk.cell (by omega) (by omega) HR3.out.r1
    have v3 := hk.cell (by omega) (by omega) HR3.out.r2
    have v4 := hk.cell (by omega) (by omega) HR3.out.r3
    have v5 := hk.cell (by omega) (by omega) HR3.out.r4
    dsimp only at v1 v2 v3 v4
    have hzW : w.heap.size + 1 + 1 < W.heap.size := by have := hk.2.1; omega
    have HKP := hid hk
    have HALL := hid hall
    clear hbb htl hp3 hall
    gi_wp2
    repeat (rw [Oper.semAt_eq _ _ _ (fun c h => by cases h)]; go_simp; gi_wp2)
    refine ⟨trivial, ?_⟩
    refine (CallsIn.inRound l (callsIn_wide.2 HBR.out)).mono ?_
    rintro e W1 ⟨rfl, hb3⟩
    have y3 := cell_below hb3 hzW hc
    have g3 := (World.frozen?_of_block (a := ⟨w.heap.size + 1 + 1, 0, none⟩) (hb3.block _ hzW)).trans hf
    have hb3' := hid hb3
    clear hb3
    cases bb with
    | true =>
      gi_wp2
      repeat (rw [Oper.semAt_eq _ _ _ (fun c h => by cases h)]; go_simp; gi_wp2)
      exact ⟨keepsOthers_of_below hb3'.out, KeepB.of_below (hb3'.out.mono HKP.out.2.1), ⟨fun x hx => (List.mem_append.1 hx).elim (HALL.out x) (fun h => by rw [List.mem_singleton.1 h]; exact HBA.out), y3, g3, HKP.out.trans (KeepB.of_below (hb3'.out.mono HKP.out.2.1))⟩⟩
    | false =>
      gi_wp2
      repeat (rw [Oper.semAt_eq _ _ _ (fun c h => by cases h)]; go_simp; gi_wp2)
      first
        | exact ⟨keepsOthers_of_below hb3'.out, rfl, ⟨⟨p, hp⟩, List.mem_append.2 (.inr (List.mem_singleton_self _)), HBA.out⟩, y3, HKP.out.trans (KeepB.of_below (hb3'.out.mono HKP.out.2.1))⟩
        | exact ⟨(keepsOthers_of_below hb3'.out).trans (KeepsOthers.setCell _ _ _), rfl, ⟨⟨p, hp⟩, List.mem_append.2 (.inr (List.mem_singleton_self _)), HBA.out⟩, World.cell?_setCell_same _ _ _ y3, HKP.out.trans ((KeepB.of_below (hb3'.out.mono HKP.out.2.1)).trans (keepB_set1 _ _ _ _))⟩
  case done =>
    rintro D xs W hD rfl ⟨hall, hc, hf, hk⟩ hK
    have hzW : w.heap.size + 1 + 1 < W.heap.size := by have := hk.2.1; omega
    have HS : saysN us true (masksF (nsOf us) ts) u = true := says_true (by rw [HMM.out]; exact HZ.out) fun q hq hb => hall ⟨q, by rw [← HMM.out]; exact hb⟩ (places_mem hq _)
    have hne : D ≠ w.heap.size + 1 + 1 := by omega
    have hK' : (W.setCell ⟨w.heap.size + 1 + 1, 0, none⟩ (.bool true)).heap[D]? = some (.deferred (some [])) := (heap_setCell_other _ _ _ _ hne).trans hK
    have hpo : ∀ ob, ((W.setCell ⟨w.heap.size + 1 + 1, 0, none⟩ (.bool true)).putObj D ob).cell? ⟨w.heap.size + 1 + 1, 0, none⟩ = some (.bool true) := fun ob => (World.cell?_of_block (a := ⟨w.heap.size + 1 + 1, 0, none⟩) (World.putObj_heap_other (by show w.heap.size + 1 + 1 ≠ D; omega))).trans (World.cell?_setCell_same _ _ _ hc)
    have hBF := ((HK W hk).setCell (p := ⟨w.heap.size + 1 + 1, 0, none⟩) (by show w.heap.size ≤ w.heap.size + 1 + 1; omega) (.bool true))
    gi_wp2
    refine ⟨by simp, .inl ⟨_, _, rfl, run_takeDeferred hK', ?_⟩⟩
    refine ⟨.bool true, results_cell rfl rfl (by first | go_simp | (simp [loadVar, go_sem, hpo])), by first | rfl | rw [HS] | (rw [show decide ((2 : Int) = 3) = false from rfl, HS]), hBF.trans ⟨rfl, rfl, rfl, by simp, fun k hk => World.putObj_heap_other (by omega)⟩⟩
  case stop =>
    rintro D c pre W hD ⟨kk9, hk9, rfl⟩ ⟨rfl, ⟨x, hx, hbx⟩, hc, hk⟩ hK
    have HS : saysN us true (masksF (nsOf us) ts) u = false := says_false (p := x.1) (by have := places_lt hx; omega) (by rw [HMM.out]; exact x.2) hbx
    have hpo : ∀ ob, (W.putObj D ob).cell? ⟨w.heap.size + 1 + 1, 0, none⟩ = some (.bool false) := fun ob => (World.cell?_of_block (a := ⟨w.heap.size + 1 + 1, 0, none⟩) (World.putObj_heap_other (by show w.heap.size + 1 + 1 ≠ D; omega))).trans hc
    gi_wp2
    refine ⟨by simp, .inl ⟨_, _, rfl, run_takeDeferred hK, ?_⟩⟩
    refine ⟨.bool false, results_cell rfl rfl (by first | go_simp | (simp [loadVar, go_sem, hpo])), by first | rfl | rw [HS] | (rw [show decide ((2 : Int) = 3) = false from rfl, HS]), (HK W hk).trans ⟨rfl, rfl, rfl, by simp, fun k hk => World.putObj_heap_other (by omega)⟩⟩
theorem pright_any (v tv : Value) (us : List UnitW) (r : Row) (w : World) (h : WorldRd w (Lt w.heap.size) v us) (ho : UnitsOk us) (hF : FirstIs w) (ht : SliceRd tTerm w (Lt w.heap.size) tv r.terms) :
    Calls Tryz.prog 6 #[v, .agg #[.int .i64 r.kind, .int .i64 r.unit, .int .i64 r.a, .int .i64 r.b, tv]] w fun e w' => e = .returned (.bool (rightR us r)) ∧ Below w.heap.size w w' := by
  obtain ⟨kk, uu, a, b, ts⟩ := r
  dsimp only at ht ⊢
  by_cases ha : a = 0
  · subst ha
    by_cases hb : b = 0
    · subst hb
      cases hm : mayL (nsOf us) ts with
      | false =>
        rw [right_may (us := us) (r := ⟨kk, uu, 0, 0, ts⟩) hm]
        exact prightM_any v tv us kk uu ts w h ho hF ht hm
      | true =>
        by_cases hk : kk = 1
        · rw [right_root (us := us) (r := ⟨kk, uu, 0, 0, ts⟩) rfl rfl hm hk]
          dsimp only
          by_cases hu : uu = 0
          · rw [decide_eq_true hu, Bool.true_and]
            exact prightR_any v tv us kk uu ts w h ho hF ht hm hk hu
          · rw [decide_eq_false hu, Bool.false_and]
            exact prightU_any v tv us kk uu ts w h ho hF ht hm hk hu
        · cases hf : ts.find? (fun t => t.unit == uu) with
          | none =>
            rw [right_none (us := us) (r := ⟨kk, uu, 0, 0, ts⟩) hk (fun t ht e => by have := List.find?_eq_none.1 hf t ht; simp [e] at this)]
            exact prightN_any v tv us kk uu ts w h ho hF ht hm hk hf
          | some t =>
            have htm := List.mem_of_find?_eq_some hf
            obtain ⟨hul, hu0, -⟩ := right_at (us := us) (r := ⟨kk, uu, 0, 0, ts⟩) hm htm (by have := List.find?_some hf; simpa using this)
            dsimp only at hul hu0
            have hin : decide (0 ≤ uu ∧ uu < (us.length : Int)) = true := decide_eq_true (by omega)
            rw [right_says (us := us) (r := ⟨kk, uu, 0, 0, ts⟩) rfl rfl hm hk]
            dsimp only
            rw [hin, Bool.true_and]
            by_cases hbad : (masksF (nsOf us) ts uu.toNat).testBit 0 = true ∨ (kk ≠ 2 ∧ kk ≠ 3)
            · have e : (decide (kk = 2 ∨ kk = 3) && saysN us (decide (kk = 3)) (masksF (nsOf us) ts) uu.toNat) = false := by
                rcases hbad with h1 | ⟨h1, h2⟩
                · rw [says_bit0 h1, Bool.and_false]
                · rw [decide_eq_false (p := kk = 2 ∨ kk = 3) (by omega), Bool.false_and]
              rw [e]
              exact prightK_any v tv us kk uu ts w h ho hF ht hm hk t hf hbad
            · have hz : (masksF (nsOf us) ts uu.toNat).testBit 0 = false := by
                cases e : (masksF (nsOf us) ts uu.toNat).testBit 0 with
                | false => rfl
                | true => exact absurd (.inl e) hbad
              have hk23 : kk = 2 ∨ kk = 3 := by omega
              rw [decide_eq_true hk23, Bool.true_and]
              rcases hk23 with h2 | h3
              · rw [show decide (kk = 3) = false from decide_eq_false (by omega)]
                exact prightL2_any v tv us kk uu ts w h ho hF ht hm h2 t hf hz
              · rw [decide_eq_true h3]
                exact prightL3_any v tv us kk uu ts w h ho hF ht hm h3 t hf hz
    · rw [right_b (us := us) (r := ⟨kk, uu, 0, b, ts⟩) hb]
      exact prightB_any v tv us kk uu b ts w h ho hF ht hb
  · rw [right_a (us := us) (r := ⟨kk, uu, a, b, ts⟩) ha]
    exact prightA_any v tv us kk uu a b ts w h ho hF ht ha
end Go.Proofs.YthneiolcljnbeaaGreatDoor
