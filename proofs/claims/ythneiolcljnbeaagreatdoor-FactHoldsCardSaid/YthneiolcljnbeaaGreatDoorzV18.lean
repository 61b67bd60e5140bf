import Derived.Test.YthneiolcljnbeaaGreatDoorzV16
import Derived.Test.YthneiolcljnbeaaGreatDoorzLater
import Derived.Outline
import Derived.Test.YthneiolcljnbeaaGreatDoorzFlat
namespace Go.Proofs.YthneiolcljnbeaaGreatDoor
open Go Go.RowKit
section
def Box2 (w : World) (g : Nat) (u v : Value) : Prop := w.cell? ⟨g, 0, none⟩ = some u ∧ w.cell? ⟨g, 1, none⟩ = some v
theorem Box2.below {B : Nat} {w w' : World} (hb : Below B w w') {g : Nat} (hg : g < B) {u v : Value} (h : Box2 w g u v) : Box2 w' g u v := ⟨cell_below hb hg h.1, cell_below hb hg h.2⟩
theorem Box2.new (w : World) (u v : Value) (T : TypeId) : Box2 (w.alloc (.cells #[u, v] T)) w.heap.size u v := by
 have h := heap_alloc_new w (.cells #[u, v] T)
 refine ⟨?_, ?_⟩ <;> (rw [cell_of_row _ _ _ _ T (0, 0) h]; rfl)
set_option maxRecDepth 100000 in
set_option maxHeartbeats 2000000 in
theorem or5_any (lv mv lv' mv' : Value) (l m l' m' : List Span) (n : Nat) (w : World) (hl : SliceRd fSpan.ty w (Lt w.heap.size) lv l) (hm : SliceRd fSpan.ty w (Lt w.heap.size) mv m)
  (hl' : SliceRd fSpan.ty w (Lt w.heap.size) lv' l') (hm' : SliceRd fSpan.ty w (Lt w.heap.size) mv' m') (n1 : l.length ≤ n) (n2 : m.length ≤ n) (n3 : l'.length ≤ n) (n4 : m'.length ≤ n) (hn : n ≤ 2000) :
  Calls Tryz.prog 76 #[.agg #[lv, mv], .agg #[lv', mv']] w (SetPost (2 + 4 * n) w) := by
 have HL := hid hl
 have HM := hid hm
 have HL' := hid hl'
 have HM' := hid hm'
 obtain ⟨A1, c1, rfl, -⟩ := hl.flat
 obtain ⟨A2, c2, rfl, -⟩ := hm.flat
 obtain ⟨A3, c3, rfl, -⟩ := hl'.flat
 obtain ⟨A4, c4, rfl, -⟩ := hm'.flat
 clear hl hm hl' hm'
 cases hx : setMayB l m with
 | false =>
  have HX := hid hx
  clear hx
  go_enter Tryz.func76, Tryz.ntmps76
  go_wp2_with (first
   | (go_at_call 97; refine (setMay_any _ _ l m _ (HL.out.lift (balloc (balloc (balloc (b0 w) _) _) _) (by simp; omega)) (HM.out.lift (balloc (balloc (balloc (b0 w) _) _) _) (by simp; omega))).mono ?_; rintro e w1 ⟨rfl, hb1⟩; rw [HX.out]; obtain ⟨hbc, hbf⟩ := bcell hb1; have hz : w.heap.size + 2 < w1.heap.size := Nat.lt_of_lt_of_le (by simp) hb1.size; have HB1 := hid (bstep (balloc (balloc (balloc (b0 w) _) _) _) hb1))
   | (go_at_call 37; refine (none5_any _).mono ?_; rintro e w2 ⟨rfl, hb2⟩; obtain ⟨hbc2, hbf2⟩ := bcell hb2; have HB2 := hid (bstep HB1.out hb2); have hy : w.heap.size + 2 < w2.heap.size := Nat.lt_of_lt_of_le hz hb2.size))
  exact bodyPost_ret (v := .agg #[.slice none 0 0, .slice none 0 0]) (by simp [results, Tryz.results76, go_sem, hbc, hz, hbc2]) rfl ⟨.slice none 0 0, .slice none 0 0, [], [], rfl, OwnSpans.nil _ _, OwnSpans.nil _ _, by simp, by simp, none_may, by repeat (first | (with_reducible exact HB2.out) | (with_reducible exact b0 _) | (with_reducible refine bset ?_ (by first | exact Nat.le_refl _ | (simp; done) | omega | (simp; omega)) _) | (with_reducible refine balloc ?_ _) | (with_reducible refine bdrew ?_))⟩
 | true =>
  have HX := hid hx
  clear hx
  go_enter Tryz.func76, Tryz.ntmps76
  go_wp2_with fail
  obtain ⟨w0, hw0⟩ : ∃ w0 : World, w0 = ((w.alloc (.cells #[.slice A1 l.length c1, .slice A2 m.length c2] 62)).alloc (.cells #[.slice A3 l'.length c3, .slice A4 m'.length c4] 62)).alloc (.cells #[.slice none 0 0, .slice none 0 0] 62) := ⟨_, rfl⟩
  have HB0 : Hid (Below w.heap.size w w0) := hid (by rw [hw0]; exact balloc (balloc (balloc (b0 w) _) _) _)
  have HX1 : Hid (Box2 w0 w.heap.size (.slice A1 l.length c1) (.slice A2 m.length c2)) := hid (by rw [hw0]; exact ((Box2.new w _ _ _).below (balloc (b0 _) _) (by simp)).below (balloc (b0 _) _) (by simp; omega))
  have HX2 : Hid (Box2 w0 (w.heap.size + 1) (.slice A3 l'.length c3) (.slice A4 m'.length c4)) := hid (by
   rw [hw0]
   have := (Box2.new (w.alloc (.cells #[.slice A1 l.length c1, .slice A2 m.length c2] 62)) (.slice A3 l'.length c3) (.slice A4 m'.length c4) 62).below (balloc (b0 _) (.cells #[.slice none 0 0, .slice none 0 0] 62)) (by simp)
   rwa [World.size_alloc] at this)
  have HX3 : Hid (Box2 w0 (w.heap.size + 2) (.slice none 0 0) (.slice none 0 0)) := hid (by
   rw [hw0]
   have := Box2.new ((w.alloc (.cells #[.slice A1 l.length c1, .slice A2 m.length c2] 62)).alloc (.cells #[.slice A3 l'.length c3, .slice A4 m'.length c4] 62)) (.slice none 0 0) (.slice none 0 0) 62
   rwa [World.size_alloc, World.size_alloc] at this)
  have HF3 : Hid (∀ o, w0.frozen? ⟨w.heap.size + 2, o, none⟩ = false) := hid (by
   intro o
   rw [hw0]
   have := frozen_of_row _ (w.heap.size + 2) o _ _ (by
    have h := heap_alloc_new ((w.alloc (.cells #[.slice A1 l.length c1, .slice A2 m.length c2] 62)).alloc (.cells #[.slice A3 l'.length c3, .slice A4 m'.length c4] 62)) (.cells #[.slice none 0 0, .slice none 0 0] 62)
    rwa [World.size_alloc, World.size_alloc] at h)
   exact this)
  have hz : w.heap.size + 2 < w0.heap.size := by rw [hw0]; simp
  rw [← hw0]
  clear hw0
  refine (setMay_any _ _ l m _ (HL.out.lift HB0.out HB0.out.size) (HM.out.lift HB0.out HB0.out.size)).mono ?_
  rintro e w1 ⟨rfl, hb1⟩
  rw [HX.out]
  have HB1 := hid (bstep HB0.out hb1)
  have HY1 := hid (HX1.out.below hb1 (by omega))
  have HY2 := hid (HX2.out.below hb1 (by omega))
  have HY3 := hid (HX3.out.below hb1 (by omega))
  have HF := hid (fun o => (hb1.frozen (p := ⟨w.heap.size + 2, o, none⟩) hz).trans (HF3.out o))
  have hz1 : w.heap.size + 2 < w1.heap.size := Nat.lt_of_lt_of_le hz hb1.size
  obtain ⟨x0, x1⟩ := HY1.out
  obtain ⟨x2, x3⟩ := HY2.out
  obtain ⟨x4, x5⟩ := HY3.out
  have xf := HF.out
  clear hb1
  cases hx : setMayB l' m' with
  | false =>
   have HXX := hid hx
   clear hx
   go_wp2_with (first
    | (go_at_call 97; refine (setMay_any _ _ l' m' _ (HL'.out.lift HB1.out HB1.out.size) (HM'.out.lift HB1.out HB1.out.size)).mono ?_; rintro e w2 ⟨rfl, hb2⟩; rw [HXX.out]; have HB2 := hid (bstep HB1.out hb2); obtain ⟨y4, y5⟩ := HY3.out.below hb2 hz1; have yf := fun o => (hb2.frozen (p := ⟨w.heap.size + 2, o, none⟩) hz1).trans (HF.out o); have hz2 : w.heap.size + 2 < w2.heap.size := Nat.lt_of_lt_of_le hz1 hb2.size)
    | (go_at_call 37; refine (none5_any _).mono ?_; rintro e w3 ⟨rfl, hb3⟩; have HB3 := hid (bstep HB2.out hb3); have z4 := cell_below hb3 hz2 y4; have z5 := cell_below hb3 hz2 y5; have zf := fun o => (hb3.frozen (p := ⟨w.heap.size + 2, o, none⟩) hz2).trans (yf o)))
   exact bodyPost_ret (v := .agg #[.slice none 0 0, .slice none 0 0]) (by simp [results, Tryz.results76, go_sem, z4, z5]) rfl ⟨.slice none 0 0, .slice none 0 0, [], [], rfl, OwnSpans.nil _ _, OwnSpans.nil _ _, by simp, by simp, none_may, by repeat (first | (with_reducible exact HB3.out) | (with_reducible exact b0 _) | (with_reducible refine bset ?_ (by first | exact Nat.le_refl _ | (simp; done) | omega | (simp; omega)) _) | (with_reducible refine balloc ?_ _) | (with_reducible refine bdrew ?_))⟩
  | true =>
   have HXX := hid hx
   clear hx
   go_wp2_with (first
    | (go_at_call 97; refine (setMay_any _ _ l' m' _ (HL'.out.lift HB1.out HB1.out.size) (HM'.out.lift HB1.out HB1.out.size)).mono ?_; rintro e w2 ⟨rfl, hb2⟩; rw [HXX.out]; have HB2 := hid (bstep HB1.out hb2); have HZ1 := hid (HY1.out.below hb2 (by omega)); have HZ2 := hid (HY2.out.below hb2 (by omega)); have HZ3 := hid (HY3.out.below hb2 hz1); have HF2 := hid (fun o => (hb2.frozen (p := ⟨w.heap.size + 2, o, none⟩) hz1).trans (HF.out o)); have hz2 : w.heap.size + 2 < w2.heap.size := Nat.lt_of_lt_of_le hz1 hb2.size; clear hb2))
   obtain ⟨y0, y1⟩ := HZ1.out
   obtain ⟨y2, y3⟩ := HZ2.out
   clear x0 x1 x2 x3 x4 x5 xf
   have hne : w.heap.size + 1 + 1 ≠ w.heap.size := by omega
   first
    | go_must (go_region_held3 (fun w' => w'.cell? ⟨w.heap.size, 0, none⟩ = some (.slice A1 l.length c1) ∧ w'.cell? ⟨w.heap.size, 1, none⟩ = some (.slice A2 m.length c2) ∧ w'.cell? ⟨w.heap.size + 1, 0, none⟩ = some (.slice A3 l'.length c3) ∧ w'.cell? ⟨w.heap.size + 1, 1, none⟩ = some (.slice A4 m'.length c4)) (first | exact ⟨by assumption, by assumption, by assumption, by assumption⟩ | go_keep)
      ((first
       | (go_at_call_of 98 A1; go_must (refine (ror_any _ _ l l' _ (HL.out.lift (HB2.out.trans ((b0 w2).drew.mono HB2.out.size)) HB2.out.size) (HL'.out.lift (HB2.out.trans ((b0 w2).drew.mono HB2.out.size)) HB2.out.size) (by omega) (by omega)).mono ?_; rintro e wa ⟨va, rfl, hoa, hba⟩; have hla := orF_len l l'; obtain ⟨La, hLa⟩ : ∃ La, orF l l' = La := ⟨_, rfl⟩; rw [hLa] at hoa hla; have HLA := hid hLa; clear hLa; replace hba : Below w2.heap.size w2 wa := (b0 w2).drew.trans hba; obtain ⟨Aa, ca, rfl⟩ := hoa.form; have HOA := hid hoa; have HBA := hid hba; have HBWA := hid (bstep HB2.out hba); obtain ⟨u0, u1⟩ := HZ1.out.below hba (by omega); obtain ⟨u2, u3⟩ := HZ2.out.below hba (by omega); clear hoa hba))
       | (go_at_call_of 98 A2; go_must (refine (ror_any _ _ m m' _ (HM.out.lift HBWA.out HBWA.out.size) (HM'.out.lift HBWA.out HBWA.out.size) (by omega) (by omega)).mono ?_; rintro e wb ⟨vb, rfl, hob, hbb⟩; have hlb := orF_len m m'; obtain ⟨Lb, hLb⟩ : ∃ Lb, orF m m' = Lb := ⟨_, rfl⟩; rw [hLb] at hob hlb; have HLB := hid hLb; clear hLb; obtain ⟨Ab, cb, rfl⟩ := hob.form; have HOB := hid hob; have HBB := hid (bstep HBA.out hbb); have HOA2 := hid (HOA.out.below hbb (Nat.le_refl _)); have HBWB := hid (bstep HBWA.out hbb); obtain ⟨v0, v1⟩ := HZ1.out.below HBB.out (by omega); obtain ⟨v2, v3⟩ := HZ2.out.below HBB.out (by omega); obtain ⟨z4, z5⟩ := HZ3.out.below HBB.out hz2; have zf := fun o => (HBB.out.frozen (p := ⟨w.heap.size + 2, o, none⟩) hz2).trans (HF2.out o); clear hob hbb)))))
    | fail
   have hwa : w2.heap.size ≤ wa.heap.size := HBA.out.size
   go_wp2
   exact bodyPost_ret (v := .agg #[.slice Aa La.length ca, .slice Ab Lb.length cb]) (by simp [results, Tryz.results76, go_sem, z4, z5]) rfl ⟨.slice Aa La.length ca, .slice Ab Lb.length cb, La, Lb, rfl, ((HOA2.out.set (p := ⟨w.heap.size + 2, 0, none⟩) hz2 _).set (p := ⟨w.heap.size + 2, 1, none⟩) hz2 _).mono (show w.heap.size ≤ w2.heap.size by omega), ((HOB.out.set (p := ⟨w.heap.size + 2, 0, none⟩) (Nat.lt_of_lt_of_le hz2 hwa) _).set (p := ⟨w.heap.size + 2, 1, none⟩) (Nat.lt_of_lt_of_le hz2 hwa) _).mono (show w.heap.size ≤ wa.heap.size by omega), by omega, by omega, (by rw [← HLA.out, ← HLB.out]; exact or_may HX.out HXX.out), by repeat (first | (with_reducible exact HBWB.out) | (with_reducible exact b0 _) | (with_reducible refine bset ?_ (by first | exact Nat.le_refl _ | (simp; done) | omega | (simp; omega)) _) | (with_reducible refine balloc ?_ _) | (with_reducible refine bdrew ?_))⟩
set_option maxRecDepth 100000 in
set_option maxHeartbeats 2000000 in
theorem not5_any (lv mv : Value) (l m : List Span) (n : Nat) (w : World) (hl : SliceRd fSpan.ty w (Lt w.heap.size) lv l) (hm : SliceRd fSpan.ty w (Lt w.heap.size) mv m) (n1 : l.length ≤ n) (n2 : m.length ≤ n) (hn : n ≤ 2000) :
  Calls Tryz.prog 77 #[.agg #[lv, mv]] w (SetPost (2 + 2 * n) w) := by
 have HL := hid hl
 have HM := hid hm
 obtain ⟨A1, c1, rfl, -⟩ := hl.flat
 obtain ⟨A2, c2, rfl, -⟩ := hm.flat
 clear hl hm
 go_enter Tryz.func77, Tryz.ntmps77
 go_wp2_with fail
 obtain ⟨w0, hw0⟩ : ∃ w0 : World, w0 = (w.alloc (.cells #[.slice A1 l.length c1, .slice A2 m.length c2] 62)).alloc (.cells #[.slice none 0 0, .slice none 0 0] 62) := ⟨_, rfl⟩
 have HB0 : Hid (Below w.heap.size w w0) := hid (by rw [hw0]; exact balloc (balloc (b0 w) _) _)
 have HX1 : Hid (Box2 w0 w.heap.size (.slice A1 l.length c1) (.slice A2 m.length c2)) := hid (by rw [hw0]; exact (Box2.new w _ _ _).below (balloc (b0 _) _) (by simp))
 have HX3 : Hid (Box2 w0 (w.heap.size + 1) (.slice none 0 0) (.slice none 0 0)) := hid (by
  rw [hw0]
  have := Box2.new (w.alloc (.cells #[.slice A1 l.length c1, .slice A2 m.length c2] 62)) (.slice none 0 0) (.slice none 0 0) 62
  rwa [World.size_alloc] at this)
 have HF3 : Hid (∀ o, w0.frozen? ⟨w.heap.size + 1, o, none⟩ = false) := hid (by
  intro o
  rw [hw0]
  have := frozen_of_row _ (w.heap.size + 1) o _ _ (by
   have h := heap_alloc_new (w.alloc (.cells #[.slice A1 l.length c1, .slice A2 m.length c2] 62)) (.cells #[.slice none 0 0, .slice none 0 0] 62)
   rwa [World.size_alloc] at h)
  exact this)
 have hz : w.heap.size + 1 < w0.heap.size := by rw [hw0]; simp
 rw [← hw0]
 clear hw0
 refine (setMay_any _ _ l m _ (HL.out.lift HB0.out HB0.out.size) (HM.out.lift HB0.out HB0.out.size)).mono ?_
 rintro e w1 ⟨rfl, hb1⟩
 have HB1 := hid (bstep HB0.out hb1)
 have HY1 := hid (HX1.out.below hb1 (by omega))
 have HY3 := hid (HX3.out.below hb1 (by omega))
 have HF := hid (fun o => (hb1.frozen (p := ⟨w.heap.size + 1, o, none⟩) hz).trans (HF3.out o))
 have hz1 : w.heap.size + 1 < w1.heap.size := Nat.lt_of_lt_of_le hz hb1.size
 clear hb1
 cases hx : setMayB l m with
 | false =>
  obtain ⟨x4, x5⟩ := HY3.out
  have xf := HF.out
  go_wp2_with (first
   | (go_at_call 37; refine (none5_any _).mono ?_; rintro e w3 ⟨rfl, hb3⟩; have HB3 := hid (bstep HB1.out hb3); have z4 := cell_below hb3 hz1 x4; have z5 := cell_below hb3 hz1 x5; have zf := fun o => (hb3.frozen (p := ⟨w.heap.size + 1, o, none⟩) hz1).trans (xf o)))
  exact bodyPost_ret (v := .agg #[.slice none 0 0, .slice none 0 0]) (by simp [results, Tryz.results77, go_sem, z4, z5]) rfl ⟨.slice none 0 0, .slice none 0 0, [], [], rfl, OwnSpans.nil _ _, OwnSpans.nil _ _, by simp, by simp, none_may, by repeat (first | (with_reducible exact HB3.out) | (with_reducible exact b0 _) | (with_reducible refine bset ?_ (by first | exact Nat.le_refl _ | (simp; done) | omega | (simp; omega)) _) | (with_reducible refine balloc ?_ _) | (with_reducible refine bdrew ?_))⟩
 | true =>
  have HXX := hid hx
  go_wp2
  obtain ⟨y0, y1⟩ := HY1.out
  first
   | go_must (go_region_held3 (fun w' => w'.cell? ⟨w.heap.size, 0, none⟩ = some (.slice A1 l.length c1) ∧ w'.cell? ⟨w.heap.size, 1, none⟩ = some (.slice A2 m.length c2)) (first | exact ⟨by assumption, by assumption⟩ | go_keep)
     ((first
      | (go_at_call_of 99 A1; go_must (refine (rnot_any _ l _ (HL.out.lift (HB1.out.trans ((b0 w1).drew.mono HB1.out.size)) HB1.out.size) (by omega)).mono ?_; rintro e wa ⟨va, rfl, hoa, hba⟩; have hla := notF_len l; obtain ⟨La, hLa⟩ : ∃ La, notF l = La := ⟨_, rfl⟩; rw [hLa] at hoa hla; have HLA := hid hLa; clear hLa; replace hba : Below w1.heap.size w1 wa := (b0 w1).drew.trans hba; obtain ⟨Aa, ca, rfl⟩ := hoa.form; have HOA := hid hoa; have HBA := hid hba; have HBWA := hid (bstep HB1.out hba); obtain ⟨u0, u1⟩ := HY1.out.below hba (by omega); clear hoa hba))
      | (go_at_call_of 99 A2; go_must (refine (rnot_any _ m _ (HM.out.lift HBWA.out HBWA.out.size) (by omega)).mono ?_; rintro e wb ⟨vb, rfl, hob, hbb⟩; have hlb := notF_len m; obtain ⟨Lb, hLb⟩ : ∃ Lb, notF m = Lb := ⟨_, rfl⟩; rw [hLb] at hob hlb; have HLB := hid hLb; clear hLb; obtain ⟨Ab, cb, rfl⟩ := hob.form; have HOB := hid hob; have HBB := hid (bstep HBA.out hbb); have HOA2 := hid (HOA.out.below hbb (Nat.le_refl _)); have HBWB := hid (bstep HBWA.out hbb); obtain ⟨v0, v1⟩ := HY1.out.below HBB.out (by omega); obtain ⟨z4, z5⟩ := HY3.out.below HBB.out hz1; have zf := fun o => (HBB.out.frozen (p := ⟨w.heap.size + 1, o, none⟩) hz1).trans (HF.out o); clear hob hbb)))))
   | fail
  have hwa : w1.heap.size ≤ wa.heap.size := HBA.out.size
  go_wp2
  exact bodyPost_ret (v := .agg #[.slice Aa La.length ca, .slice Ab Lb.length cb]) (by simp [results, Tryz.results77, go_sem, z4, z5]) rfl ⟨.slice Aa La.length ca, .slice Ab Lb.length cb, La, Lb, rfl, ((HOA2.out.set (p := ⟨w.heap.size + 1, 0, none⟩) hz1 _).set (p := ⟨w.heap.size + 1, 1, none⟩) hz1 _).mono (show w.heap.size ≤ w1.heap.size by omega), ((HOB.out.set (p := ⟨w.heap.size + 1, 0, none⟩) (Nat.lt_of_lt_of_le hz1 hwa) _).set (p := ⟨w.heap.size + 1, 1, none⟩) (Nat.lt_of_lt_of_le hz1 hwa) _).mono (show w.heap.size ≤ wa.heap.size by omega), by omega, by omega, (by rw [← HLA.out, ← HLB.out]; exact not_may HXX.out), by repeat (first | (with_reducible exact HBWB.out) | (with_reducible exact b0 _) | (with_reducible refine bset ?_ (by first | exact Nat.le_refl _ | (simp; done) | omega | (simp; omega)) _) | (with_reducible refine balloc ?_ _) | (with_reducible refine bdrew ?_))⟩
end
section
structure GAt (w : World) (bG : Nat) (lv : Value) (xs : List Int) (i : Int) : Prop where
 blk : w.heap[bG]? = some (.cells #[lv, .int .i64 i] 47 (0, 0))
 rd : SliceRd tInt w (Lt bG) lv xs
 bd : 0 ≤ i ∧ i ≤ 1000000
theorem GAt.lt {w : World} {bG : Nat} {lv : Value} {xs : List Int} {i : Int} (h : GAt w bG lv xs i) : bG < w.heap.size := (Array.getElem?_eq_some_iff.1 h.blk).1
theorem GAt.keep {w w' : World} {bG : Nat} {lv : Value} {xs : List Int} {i : Int} (h : GAt w bG lv xs i) (hk : ∀ k, k ≤ bG → w'.heap[k]? = w.heap[k]?) : GAt w' bG lv xs i :=
 ⟨(hk _ (Nat.le_refl _)).trans h.blk, h.rd.keep fun k hl => hk k (Nat.le_of_lt hl), h.bd⟩
theorem GAt.below {w w' : World} {bG B : Nat} {lv : Value} {xs : List Int} {i : Int} (h : GAt w bG lv xs i) (hb : Below B w w') (hB : bG < B) : GAt w' bG lv xs i := h.keep fun k hk => hb.block k (by omega)
def NextPost (bG : Nat) (lv : Value) (xs : List Int) (i : Int) (n : Int) (w : World) (e : Ending) (w' : World) : Prop :=
 ∃ r : Int, e = .returned (.int .i64 r) ∧ 0 ≤ r ∧ (1 ≤ n → r < n) ∧ (n < 1 → r = 0) ∧ GAt w' bG lv xs (i + 1) ∧ w.grownBy w' (some bG)
theorem placeF_nonpos {v n : Int} (h : n < 1) : placeF v n = 0 := by unfold placeF; rw [if_pos h]
theorem grownBy_set {w : World} {b o : Nat} {v : Value} : w.grownBy (w.setCell ⟨b, o, none⟩ v) (some b) :=
 ⟨rfl, rfl, rfl, by simp, fun k _ hne => heap_setCell_other _ _ _ _ (fun e => hne (by rw [e]))⟩
theorem grownBy_drewN {w w' : World} {b : Option Nat} (h : w.grownBy w' b) (n : Nat) : w.grownBy (w'.drewN n) b := ⟨h.os, h.tape, h.output, h.size, h.block⟩
theorem ints_i64 {w : World} {F : Nat → Prop} {v : Value} {l : List Int} (h : SliceRd tInt w F v l) : ∀ x ∈ l, I64 x := by
 obtain ⟨A, cap, rfl, -, -, hc⟩ := h.ints
 intro x hx
 obtain ⟨k, hk, rfl⟩ := List.getElem_of_mem hx
 obtain ⟨_, _, _, _, _, hi⟩ := hc k hk
 exact hi
theorem rd_drewN {α : Type} {t : Ty α} {w : World} {F : Nat → Prop} {v : Value} {l : List α} (h : SliceRd t w F v l) (n : Nat) : SliceRd t (w.drewN n) F v l := SliceRd.keep (w := w) (w' := w.drewN n) (fun _ _ => rfl) h
theorem at_same (v : Value) (l : List Int) (i : Int) (w : World) (n : Nat) (F : Nat → Prop) (h : SliceRd tInt w F v l) (hi : I64 i) :
  Calls Tryz.prog 43 #[v, .int .i64 i] (w.drewN n) fun e w' => e = .returned (.int .i64 (atF l i)) ∧ w' = w.drewN n :=
 (at_any v l i (w.drewN n) F (rd_drewN h n) hi).mono fun _ _ h => ⟨h.1, h.2.symm⟩
theorem place_same (v n : Int) (w : World) (hv : I64 v) (hn : I64 n) :
  Calls Tryz.prog 42 #[.int .i64 v, .int .i64 n] w fun e w' => e = .returned (.int .i64 (placeF v n)) ∧ w' = w :=
 (place_any v n w hv hn).mono fun _ _ h => ⟨h.1, h.2.symm⟩
set_option maxRecDepth 100000 in
set_option maxHeartbeats 1000000 in
theorem next_g (bG : Nat) (lv : Value) (xs : List Int) (i : Int) (n : Int) (w : World) (h : GAt w bG lv xs i) (hi : i < 1000000) (hn : I64 n) :
  Calls Tryz.prog 17 #[.pointer (some ⟨bG, 0, none⟩), .int .i64 n] w (NextPost bG lv xs i n w) := by
 have HG := hid h
 have HN := hid hn
 obtain ⟨hb0, hb1⟩ := h.bd
 obtain ⟨A, cap, rfl, -⟩ := h.rd.ints
 have c0 : w.cell? ⟨bG, 0, none⟩ = some (.slice A xs.length cap) := by rw [cell_of_row _ _ _ _ _ _ h.blk]; rfl
 have c1 : w.cell? ⟨bG, 1, none⟩ = some (.int .i64 i) := by rw [cell_of_row _ _ _ _ _ _ h.blk]; rfl
 have cf : ∀ o, w.frozen? ⟨bG, o, none⟩ = false := fun o => frozen_of_row w bG o _ _ h.blk
 have HR := hid (h.rd)
 have HAI := hid (atF_i64 (l := xs) (i := i) (ints_i64 h.rd) ⟨by omega, by omega⟩)
 have HII : Hid (I64 i) := hid ⟨by omega, by omega⟩
 have HB : Hid (GAt (w.setCell ⟨bG, 1, none⟩ (.int .i64 (i + 1))) bG (.slice A xs.length cap) xs (i + 1)) := hid (by
  refine ⟨?_, h.rd.keep fun k hk => heap_setCell_other _ _ _ _ (by show k ≠ bG; exact Nat.ne_of_lt hk), by omega⟩
  rw [heap_setCell_same w bG 1 _ _ _ h.blk]
  rfl)
 clear h hn
 have k0 : IntKind.i64.wrap (i + 1 - 1) = i := by rw [show i + 1 - 1 = i by omega]; exact IntWalk.i64_in _ (by omega)
 go_enter Tryz.func17, Tryz.ntmps17
 go_wp2
 obtain ⟨w1, hw1⟩ : ∃ w1 : World, w1 = w.setCell ⟨bG, 1, none⟩ (.int .i64 (i + 1)) := ⟨_, rfl⟩
 have HW1 := hid (show GAt w1 bG (.slice A xs.length cap) xs (i + 1) by rw [hw1]; exact HB.out)
 have HGR := hid (show w.grownBy w1 (some bG) by rw [hw1]; exact grownBy_set)
 rw [← hw1]
 clear hw1 c0 c1 cf
 have d0 : w1.cell? ⟨bG, 0, none⟩ = some (.slice A xs.length cap) := by rw [cell_of_row _ _ _ _ _ _ HW1.out.blk]; rfl
 have d1 : w1.cell? ⟨bG, 1, none⟩ = some (.int .i64 (i + 1)) := by rw [cell_of_row _ _ _ _ _ _ HW1.out.blk]; rfl
 go_quiet ((first
  | (go_at_call 43; exact Calls.quiet_of_same (at_same _ xs i w1 _ (Lt bG) HW1.out.rd HII.out))
  | (go_at_call 42; exact Calls.quiet_of_same (place_same (atF xs i) n _ HAI.out HN.out))))
 go_wp2
 go_ret
 exact ⟨placeF (atF xs i) n, rfl, placeF_lo _ _, placeF_hi _ _, placeF_nonpos, ⟨HW1.out.blk, rd_drewN HW1.out.rd _, HW1.out.bd⟩, grownBy_drewN HGR.out _⟩
def versL : List Ver := [⟨1, 0, 0, ⟨#[]⟩, ⟨#[]⟩⟩, ⟨1, 2, 0, ⟨#[]⟩, ⟨#[]⟩⟩, ⟨2, 0, 0, ⟨#[97, 46, 49]⟩, ⟨#[]⟩⟩, ⟨2, 0, 0, ⟨#[]⟩, ⟨#[]⟩⟩]
def VersPost (w : World) (e : Ending) (w' : World) : Prop := ∃ b, e = .returned (.slice (some ⟨b, 0, none⟩) 4 4) ∧ w.heap.size ≤ b ∧ w'.heap[b]? = some (.cells (fVer.all versL).toArray 52 (0, 0)) ∧ Below w.heap.size w w'
set_option maxHeartbeats 1000000 in
theorem versions_any (w : World) : Calls Tryz.prog 35 #[] w (VersPost w) := by
 go_enter Tryz.func35, Tryz.ntmps35
 go_wp2
 go_ret
 exact ⟨w.heap.size, rfl, Nat.le_refl _, heap_alloc_new w _, balloc (b0 w) _⟩
end
section
section
variable {α : Type} {f : Flat α} {e : TypeId} {B : Nat} {w w' : World} {v v' : Value} {l : List α}
def OwnF (f : Flat α) (e : TypeId) (B : Nat) (w : World) (v : Value) (l : List α) : Prop := w.ownsRow B e f.size v l.length (f.all l) ∧ ∀ x ∈ l, f.ok x
theorem OwnF.form (h : OwnF f e B w v l) : ∃ A c, v = .slice A l.length c := own_form h.1
theorem OwnF.below {M : Nat} (h : OwnF f e B w v l) (hb : Below M w w') (hM : w.heap.size ≤ M) : OwnF f e B w' v l :=
 ⟨ownsRow_below h.1 hb fun g hg => Nat.lt_of_lt_of_le (h.1.lt g hg).2 hM, h.2⟩
theorem OwnF.rd (h : OwnF f e B w v l) : SliceRd f.ty w (Lt w.heap.size) v l := rd_of_ownF h.1 h.2 (fun g hg => (h.1.lt g hg).2)
theorem OwnF.nil (f : Flat α) (e : TypeId) (B : Nat) (w : World) : OwnF f e B w (.slice none 0 0) [] := ⟨⟨by simp [Flat.all_nil], .inl ⟨rfl, rfl⟩⟩, fun s h => by cases h⟩
theorem OwnF.mono {B' : Nat} (h : OwnF f e B w v l) (hB : B' ≤ B) : OwnF f e B' w v l := by
 refine ⟨⟨h.1.1, ?_⟩, h.2⟩
 rcases h.1.2 with h1 | ⟨g, cap, cur, h1, h2, h3⟩
 ·exact .inl h1
 ·exact .inr ⟨g, cap, cur, h1, Nat.le_trans hB h2, h3⟩
theorem OwnF.snoc {x : α} (h : OwnF f e B w v l) (hx : f.ok x) (hown : w'.ownsRow B e f.size v' (l.length + 1) (f.all l ++ f.cells x)) : OwnF f e B w' v' (l ++ [x]) := by
 refine ⟨?_, fun y hy => ?_⟩
 ·rw [f.all_snoc, List.length_append]
  exact hown
 ·rcases List.mem_append.1 hy with hy | hy
  ·exact h.2 y hy
  ·have : y = x := by simpa using hy
   subst this; exact hx
theorem OwnF.lt (h : OwnF f e B w v l) : ∀ g, v.ownBlock = some g → B ≤ g ∧ g < w.heap.size := h.1.lt
theorem own_put {n s : Nat} {xs : List Value} (h : w.ownsRow B e s v n xs) {g : Nat} (hg : v.ownBlock = some g) {i : Nat} (hi : i < n * s) (x : Value) : (w.setCell ⟨g, i, none⟩ x).ownsRow B e s v n (xs.set i x) := by
 have _ := hi
 refine ⟨by rw [List.length_set]; exact h.1, ?_⟩
 rcases h.2 with ⟨rfl, _⟩ | ⟨g', cap, cur, rfl, hb, hgg, h1, h2, h3, h4⟩
 ·cases hg
 ·obtain rfl : g' = g := Option.some.inj hg
  refine .inr ⟨g', cap, cur.setIfInBounds i x, rfl, hb, ?_, h1, h2, by rw [Array.size_setIfInBounds]; exact h3, ?_⟩
  ·exact heap_setCell_same w g' i _ e _ hgg
  ·rw [Array.toList_setIfInBounds, List.take_set, h4]
theorem OwnF.block (h : OwnF f e B w v l) (hl : 0 < l.length) : ∃ g c, v = .slice (some ⟨g, 0, none⟩) l.length c ∧ B ≤ g ∧ g < w.heap.size ∧ (∀ o, w.frozen? ⟨g, o, none⟩ = false) := by
 rcases h.1.2 with ⟨_, h0⟩ | ⟨g, cap, cur, h1, hb, hg, h3⟩
 ·omega
 ·exact ⟨g, cap, h1, hb, (Array.getElem?_eq_some_iff.1 hg).1, fun o => frozen_of_row w g o _ e hg⟩
theorem own_app {B : Nat} {w0 wa w2 : World} {v v2 : Value} {f : Flat α} {e : TypeId} {l : List α} (hb : Below B w0 wa) (ho : OwnF f e B wa v l) (hs : B ≤ wa.heap.size) (hg : wa.grownBy w2 v.ownBlock) (_ : v2 = v2) : Below B w0 w2 :=
 hb.grown hg hs fun k hk => (ho.lt k hk).1
theorem OwnF.alloc (h : OwnF f e B w v l) (o : Obj) : OwnF f e B (w.alloc o) v l := ⟨h.1.alloc o, h.2⟩
theorem OwnF.drew (h : OwnF f e B w v l) : OwnF f e B w.drew v l := ⟨h.1, h.2⟩
theorem src_one {x : α} {cs : Array Value} (hc : cs.toList = f.cells x) : Src (w.alloc (.cells cs e)) (some ⟨w.heap.size, 0, none⟩) 1 f.size (f.cells x) := src_new cs e rfl f.size _ (f.len x) hc
end
theorem ints_all (l : List Int) : fInt.all l = l.map fun n => Value.int .i64 n := by
 induction l with
 | nil => rfl
 | cons x l ih => rw [fInt.all_cons, ih]; rfl
theorem own_new {α : Type} {f : Flat α} {e : TypeId} {w : World} {l : List α} {cs : Array Value} (hc : cs.toList = f.all l) (hok : ∀ x ∈ l, f.ok x) (hl : l.length ≤ maxLen) : OwnF f e w.heap.size (w.alloc (.cells cs e)) (.slice (some ⟨w.heap.size, 0, none⟩) l.length l.length) l := by
 refine ⟨⟨f.all_length l, .inr ⟨w.heap.size, l.length, cs, rfl, Nat.le_refl _, heap_alloc_new w _, Nat.le_refl _, hl, ?_, ?_⟩⟩, hok⟩
 ·rw [← Array.length_toList, hc, f.all_length]
 ·rw [hc]
  exact List.take_of_length_le (by rw [f.all_length]; exact Nat.le_refl _)
end
section
structure OwnT {α : Type} (t : Ty α) (e : TypeId) (w : World) (B : Nat) (v : Value) (l : List α) (xs : List Value) : Prop where
 own : w.ownsRow B e t.size v l.length xs
 el : ∀ k, (hk : k < l.length) → ∃ cs, cs.length = t.size ∧ (∀ j, j < t.size → xs[k * t.size + j]? = cs[j]?) ∧ t.rd w (fun b => B ≤ b ∧ b < w.heap.size ∧ v.ownBlock ≠ some b) cs l[k]
section
variable {α : Type} {t : Ty α} {e : TypeId} {w w' : World} {B : Nat} {v v' : Value} {l : List α} {xs cs : List Value} {x : α}
theorem OwnT.nil (t : Ty α) (e : TypeId) (w : World) (B : Nat) : OwnT t e w B (.slice none 0 0) [] [] := ⟨⟨by simp, .inl ⟨rfl, rfl⟩⟩, fun k hk => absurd hk (by simp)⟩
theorem OwnT.later (h : OwnT t e w B v l xs) (hb : Below w.heap.size w w') : OwnT t e w' B v l xs :=
 ⟨ownsRow_keep h.own fun g hg => hb.block g (h.own.lt g hg).2, fun k hk => by
  obtain ⟨cs, h1, h2, h3⟩ := h.el k hk
  exact ⟨cs, h1, h2, t.more (fun b hb' => ⟨hb'.1, Nat.lt_of_lt_of_le hb'.2.1 hb.size, hb'.2.2⟩) (t.keep (fun b hb' => hb.block b hb'.2.1) h3)⟩⟩
theorem OwnT.setOut (h : OwnT t e w B v l xs) {p : Addr} (hp : p.block < B) (u : Value) : OwnT t e (w.setCell p u) B v l xs :=
 ⟨ownsRow_keep h.own fun g hg => heap_setCell_other _ _ _ _ (by have := (h.own.lt g hg).1; show g ≠ p.block; omega), fun k hk => by
  obtain ⟨cs, h1, h2, h3⟩ := h.el k hk
  exact ⟨cs, h1, h2, t.more (fun b hb' => ⟨hb'.1, by have := hb'.2.1; simpa using this, hb'.2.2⟩) (t.keep (fun b hb' => heap_setCell_other _ _ _ _ (by have := hb'.1; omega)) h3)⟩⟩
theorem OwnT.snoc (h : OwnT t e w B v l xs) (hl : cs.length = t.size) (hx : t.rd w (fun b => B ≤ b ∧ b < w.heap.size ∧ v.ownBlock ≠ some b) cs x)
  (ho : w'.ownsRow B e t.size v' (l.length + 1) (xs ++ cs)) (hg : w.grownBy w' v.ownBlock) (hnew : v'.ownBlock = v.ownBlock ∨ v'.ownBlock = some w.heap.size) : OwnT t e w' B v' (l ++ [x]) (xs ++ cs) := by
 have hk : ∀ {cs : List Value} {y : α}, t.rd w (fun b => B ≤ b ∧ b < w.heap.size ∧ v.ownBlock ≠ some b) cs y → t.rd w' (fun b => B ≤ b ∧ b < w'.heap.size ∧ v'.ownBlock ≠ some b) cs y := fun {cs y} hs =>
  t.more (fun b hb => ⟨hb.1, Nat.lt_of_lt_of_le hb.2.1 hg.size, fun e => by
   rcases hnew with e2 | e2
   ·exact hb.2.2 (e2.symm.trans e)
   ·rw [e2] at e; injection e with e; have := hb.2.1; omega⟩) (t.keep (fun b hb => hg.block b hb.2.1 (fun e => hb.2.2 e.symm)) hs)
 have hlen : xs.length = l.length * t.size := h.own.1
 refine ⟨by rw [List.length_append]; exact ho, fun k hk' => ?_⟩
 rw [List.length_append, List.length_singleton] at hk'
 by_cases hlt : k < l.length
 ·obtain ⟨c, h1, h2, h3⟩ := h.el k hlt
  rw [List.getElem_append_left hlt]
  refine ⟨c, h1, fun j hj => ?_, hk h3⟩
  have : (k + 1) * t.size ≤ l.length * t.size := Nat.mul_le_mul_right _ hlt
  rw [Nat.add_mul, Nat.one_mul] at this
  rw [List.getElem?_append_left (by omega)]
  exact h2 j hj
 ·have hk2 : k = l.length := by omega
  subst hk2
  rw [List.getElem_append_right (Nat.le_refl _)]
  simp only [Nat.sub_self, List.getElem_cons_zero]
  refine ⟨cs, hl, fun j hj => ?_, hk hx⟩
  rw [List.getElem?_append_right (by omega), hlen]
  congr 1
  omega
theorem OwnT.rd (h : OwnT t e w B v l xs) : SliceRd t w (Lt w.heap.size) v l := by
 rcases h.own.2 with ⟨rfl, h0⟩ | ⟨g, cap, cur, rfl, hbase, hg, q1, q2, q3, q4⟩
 ·have : l = [] := List.length_eq_zero_iff.1 h0
  subst this
  exact SliceRd.nil _ _ _
 ·refine ⟨_, cap, rfl, q1, q2, fun k hk => ?_⟩
  obtain ⟨cs, h1, h2, h3⟩ := h.el k hk
  refine ⟨g, 0, cs, rfl, (Array.getElem?_eq_some_iff.1 hg).1, h1, fun j hj => ?_, t.more (fun b hb => hb.2.1) h3⟩
  rw [cell_of_row _ _ _ _ _ _ hg, ← h2 j hj]
  show cur[0 + k * t.size + j]? = _
  have : (k + 1) * t.size ≤ l.length * t.size := Nat.mul_le_mul_right _ hk
  rw [Nat.add_mul, Nat.one_mul] at this
  rw [Nat.zero_add, ← Array.getElem?_toList, ← q4, List.getElem?_take_of_lt (by omega)]
end
section
variable {α : Type} {t : Ty α} {e : TypeId} {w w' : World} {B : Nat} {v v' : Value} {l m : List α} {xs ys cs : List Value} {x : α}
theorem OwnT.keepB (h : OwnT t e w B v l xs) (hk : ∀ k, B ≤ k → k < w.heap.size → w'.heap[k]? = w.heap[k]?) (hs : w.heap.size ≤ w'.heap.size) : OwnT t e w' B v l xs :=
 ⟨ownsRow_keep h.own fun g hg => hk g (h.own.lt g hg).1 (h.own.lt g hg).2, fun k hk' => by
  obtain ⟨cs, h1, h2, h3⟩ := h.el k hk'
  exact ⟨cs, h1, h2, t.more (fun b hb' => ⟨hb'.1, Nat.lt_of_lt_of_le hb'.2.1 hs, hb'.2.2⟩) (t.keep (fun b hb' => hk b hb'.1 hb'.2.1) h3)⟩⟩
theorem OwnT.mono {B' : Nat} (h : OwnT t e w B v l xs) (hB : B' ≤ B) : OwnT t e w B' v l xs := by
 refine ⟨⟨h.own.1, ?_⟩, fun k hk => ?_⟩
 ·rcases h.own.2 with h1 | ⟨g, cap, cur, h1, h2, h3⟩
  ·exact .inl h1
  ·exact .inr ⟨g, cap, cur, h1, Nat.le_trans hB h2, h3⟩
 ·obtain ⟨cs, h1, h2, h3⟩ := h.el k hk
  exact ⟨cs, h1, h2, t.more (fun b hb => ⟨Nat.le_trans hB hb.1, hb.2⟩) h3⟩
theorem OwnT.rdF (h : OwnT t e w B v l xs) : SliceRd t w (fun b => B ≤ b ∧ b < w.heap.size) v l := by
 rcases h.own.2 with ⟨rfl, h0⟩ | ⟨g, cap, cur, rfl, hbase, hg, q1, q2, q3, q4⟩
 ·have : l = [] := List.length_eq_zero_iff.1 h0
  subst this
  exact SliceRd.nil _ _ _
 ·refine ⟨_, cap, rfl, q1, q2, fun k hk => ?_⟩
  obtain ⟨cs, h1, h2, h3⟩ := h.el k hk
  refine ⟨g, 0, cs, rfl, ⟨hbase, (Array.getElem?_eq_some_iff.1 hg).1⟩, h1, fun j hj => ?_, t.more (fun b hb => ⟨hb.1, hb.2.1⟩) h3⟩
  rw [cell_of_row _ _ _ _ _ _ hg, ← h2 j hj]
  show cur[0 + k * t.size + j]? = _
  have : (k + 1) * t.size ≤ l.length * t.size := Nat.mul_le_mul_right _ hk
  rw [Nat.add_mul, Nat.one_mul] at this
  rw [Nat.zero_add, ← Array.getElem?_toList, ← q4, List.getElem?_take_of_lt (by omega)]
theorem OwnT.one (hx : t.rd w (fun b => B ≤ b ∧ b < w.heap.size) cs x) (hB : B ≤ w.heap.size) {ca : Array Value} (hc : ca.toList = cs) : OwnT t e (w.alloc (.cells ca e)) B (.slice (some ⟨w.heap.size, 0, none⟩) 1 1) [x] cs := by
 have hl := t.len hx
 refine ⟨⟨by rw [hl]; simp, .inr ⟨w.heap.size, 1, ca, rfl, hB, heap_alloc_new w _, Nat.le_refl _, by unfold maxLen; omega, ?_, ?_⟩⟩, fun k hk => ?_⟩
 ·rw [← Array.length_toList, hc, hl]; simp
 ·rw [hc]
  exact List.take_of_length_le (by rw [hl]; simp)
 ·have hk0 : k = 0 := by simp at hk; exact hk
  subst hk0
  refine ⟨cs, hl, fun j _ => by simp, ?_⟩
  refine t.more (fun b hb => ⟨hb.1, by simp; omega, fun e => ?_⟩) (t.keep (fun b hb => Below.heap_alloc _ _ _ hb.2) hx)
  have e2 : w.heap.size = b := Option.some.inj e
  omega
theorem OwnT.append (h : OwnT t e w B v l xs)
  (hm2 : ∀ k, (hk : k < m.length) → ∃ cs, cs.length = t.size ∧ (∀ j, j < t.size → ys[k * t.size + j]? = cs[j]?) ∧ t.rd w (fun b => B ≤ b ∧ b < w.heap.size ∧ v.ownBlock ≠ some b) cs m[k])
  (ho : w'.ownsRow B e t.size v' (l.length + m.length) (xs ++ ys)) (hg : w.grownBy w' v.ownBlock) (hnew : v'.ownBlock = v.ownBlock ∨ v'.ownBlock = some w.heap.size) : OwnT t e w' B v' (l ++ m) (xs ++ ys) := by
 have hk : ∀ {cs : List Value} {y : α}, t.rd w (fun b => B ≤ b ∧ b < w.heap.size ∧ v.ownBlock ≠ some b) cs y → t.rd w' (fun b => B ≤ b ∧ b < w'.heap.size ∧ v'.ownBlock ≠ some b) cs y := fun {cs y} hs =>
  t.more (fun b hb => ⟨hb.1, Nat.lt_of_lt_of_le hb.2.1 hg.size, fun e => by
   rcases hnew with e2 | e2
   ·exact hb.2.2 (e2.symm.trans e)
   ·rw [e2] at e; injection e with e; have := hb.2.1; omega⟩) (t.keep (fun b hb => hg.block b hb.2.1 (fun e => hb.2.2 e.symm)) hs)
 have hlen : xs.length = l.length * t.size := h.own.1
 refine ⟨by rw [List.length_append]; exact ho, fun k hk' => ?_⟩
 rw [List.length_append] at hk'
 by_cases hlt : k < l.length
 ·obtain ⟨c, h1, h2, h3⟩ := h.el k hlt
  rw [List.getElem_append_left hlt]
  refine ⟨c, h1, fun j hj => ?_, hk h3⟩
  have : (k + 1) * t.size ≤ l.length * t.size := Nat.mul_le_mul_right _ hlt
  rw [Nat.add_mul, Nat.one_mul] at this
  rw [List.getElem?_append_left (by omega)]
  exact h2 j hj
 ·obtain ⟨i, rfl⟩ : ∃ i, k = l.length + i := ⟨k - l.length, by omega⟩
  obtain ⟨c, h1, h2, h3⟩ := hm2 i (by omega)
  rw [List.getElem_append_right (by omega)]
  simp only [Nat.add_sub_cancel_left]
  refine ⟨c, h1, fun j hj => ?_, hk h3⟩
  rw [List.getElem?_append_right (by rw [Nat.add_mul]; omega), ← h2 j hj]
  congr 1
  rw [Nat.add_mul]
  omega
end
structure SetD where
 rel : List Span
 pre : List Span
def SetD.ok (s : SetD) : Prop := s.rel.length ≤ 4000 ∧ s.pre.length ≤ 4000 ∧ setMayB s.rel s.pre = true
structure WantD where
 u : Int
 s : SetD
def WantD.ok (m : Nat) (x : WantD) : Prop := 0 ≤ x.u ∧ x.u < m ∧ x.s.ok
def tSet : Ty SetD where
 size := 2
 rd w F cs s := ∃ a b, cs = [a, b] ∧ SliceRd fSpan.ty w F a s.rel ∧ SliceRd fSpan.ty w F b s.pre
 len h := by obtain ⟨a, b, rfl, _⟩ := h; rfl
 keep hk h := by obtain ⟨a, b, h0, h1, h2⟩ := h; exact ⟨a, b, h0, h1.keep hk, h2.keep hk⟩
 more hF h := by obtain ⟨a, b, h0, h1, h2⟩ := h; exact ⟨a, b, h0, h1.more hF, h2.more hF⟩
def tWant : Ty WantD where
 size := 3
 rd w F cs x := ∃ a b, cs = [.int .i64 x.u, a, b] ∧ I64 x.u ∧ tSet.rd w F [a, b] x.s
 len h := by obtain ⟨a, b, rfl, _⟩ := h; rfl
 keep hk h := by obtain ⟨a, b, h0, h1, h2⟩ := h; exact ⟨a, b, h0, h1, tSet.keep hk h2⟩
 more hF h := by obtain ⟨a, b, h0, h1, h2⟩ := h; exact ⟨a, b, h0, h1, tSet.more hF h2⟩
def RowsOk (m : Nat) (l : List (List WantD)) : Prop := l.length ≤ 4 ∧ ∀ r ∈ l, r.length ≤ 2 ∧ ∀ x ∈ r, x.ok m
end
end Go.Proofs.YthneiolcljnbeaaGreatDoor
