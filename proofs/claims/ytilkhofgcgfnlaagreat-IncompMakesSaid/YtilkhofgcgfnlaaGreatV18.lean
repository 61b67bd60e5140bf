/- Contracts: linchpinref5.Or, Not. -/
import Derived.Test.YtilkhofgcgfnlaaGreatV17
namespace Go.Proofs.YtilkhofgcgfnlaaGreat
open Go Go.RowKit

/-- A variable of two cells. -/
def Box2 (w : World) (g : Nat) (u v : Value) : Prop := w.cell? ⟨g, 0, none⟩ = some u ∧ w.cell? ⟨g, 1, none⟩ = some v
theorem Box2.below {B : Nat} {w w' : World} (hb : Below B w w') {g : Nat} (hg : g < B) {u v : Value} (h : Box2 w g u v) : Box2 w' g u v := ⟨cell_below hb hg h.1, cell_below hb hg h.2⟩
theorem Box2.new (w : World) (u v : Value) (T : TypeId) : Box2 (w.alloc (.cells #[u, v] T)) w.heap.size u v := by
  have h := heap_alloc_new w (.cells #[u, v] T)
  refine ⟨?_, ?_⟩ <;> (rw [cell_of_row _ _ _ _ T (0, 0) h]; rfl)

set_option maxRecDepth 100000 in
set_option maxHeartbeats 2000000 in
theorem or5_any (lv mv lv' mv' : Value) (l m l' m' : List Span) (n : Nat) (w : World) (hl : SliceRd fSpan.ty w (Lt w.heap.size) lv l) (hm : SliceRd fSpan.ty w (Lt w.heap.size) mv m)
    (hl' : SliceRd fSpan.ty w (Lt w.heap.size) lv' l') (hm' : SliceRd fSpan.ty w (Lt w.heap.size) mv' m') (n1 : l.length ≤ n) (n2 : m.length ≤ n) (n3 : l'.length ≤ n) (n4 : m'.length ≤ n) (hn : n ≤ 2000) :
    Calls Tryz.prog 77 #[.agg #[lv, mv], .agg #[lv', mv']] w (SetPost (2 + 4 * n) w) := by
  have HL := hid hl
  have HM := hid hm
  have HL' := hid hl'
  have HM' := hid hm'
  obtain ⟨A1, c1, rfl, -⟩ := hl.flat
  obtain ⟨A2, c2, rfl, -⟩ := hm.flat
  obtain ⟨A3, c3, rfl, -⟩ := hl'.flat
  obtain ⟨A4, c4, rfl, -⟩ := hm'.flat
  clear hl hm hl' hm'
  cases hx : setMayB l m with
  | false =>
    have HX := hid hx
    clear hx
    go_enter Tryz.func77, Tryz.ntmps77
    go_wp2_with (first
      | (go_at_call 88; refine (setMay_any _ _ l m _ (HL.out.lift (balloc (balloc (balloc (b0 w) _) _) _) (by simp; omega)) (HM.out.lift (balloc (balloc (balloc (b0 w) _) _) _) (by simp; omega))).mono ?_; rintro e w1 ⟨rfl, hb1⟩; rw [HX.out]; obtain ⟨hbc, hbf⟩ := bcell hb1; have hz : w.heap.size + 2 < w1.heap.size := Nat.lt_of_lt_of_le (by simp) hb1.size; have HB1 := hid (bstep (balloc (balloc (balloc (b0 w) _) _) _) hb1))
      | (go_at_call 53; refine (none5_any _).mono ?_; rintro e w2 ⟨rfl, hb2⟩; obtain ⟨hbc2, hbf2⟩ := bcell hb2; have HB2 := hid (bstep HB1.out hb2); have hy : w.heap.size + 2 < w2.heap.size := Nat.lt_of_lt_of_le hz hb2.size))
    exact bodyPost_ret (v := .agg #[.slice none 0 0, .slice none 0 0]) (by simp [results, Tryz.results77, go_sem, hbc, hz, hbc2]) rfl ⟨.slice none 0 0, .slice none 0 0, [], [], rfl, OwnSpans.nil _ _, OwnSpans.nil _ _, by simp, by simp, by repeat (first | (with_reducible exact HB2.out) | (with_reducible exact b0 _) | (with_reducible refine bset ?_ (by first | exact Nat.le_refl _ | (simp; done) | omega | (simp; omega)) _) | (with_reducible refine balloc ?_ _) | (with_reducible refine bdrew ?_))⟩
  | true =>
    have HX := hid hx
    clear hx
    go_enter Tryz.func77, Tryz.ntmps77
    go_wp2_with fail
    obtain ⟨w0, hw0⟩ : ∃ w0 : World, w0 = ((w.alloc (.cells #[.slice A1 l.length c1, .slice A2 m.length c2] 66)).alloc (.cells #[.slice A3 l'.length c3, .slice A4 m'.length c4] 66)).alloc (.cells #[.slice none 0 0, .slice none 0 0] 66) := ⟨_, rfl⟩
    have HB0 : Hid (Below w.heap.size w w0) := hid (by rw [hw0]; exact balloc (balloc (balloc (b0 w) _) _) _)
    have HX1 : Hid (Box2 w0 w.heap.size (.slice A1 l.length c1) (.slice A2 m.length c2)) := hid (by rw [hw0]; exact ((Box2.new w _ _ _).below (balloc (b0 _) _) (by simp)).below (balloc (b0 _) _) (by simp; omega))
    have HX2 : Hid (Box2 w0 (w.heap.size + 1) (.slice A3 l'.length c3) (.slice A4 m'.length c4)) := hid (by
      rw [hw0]
      have := (Box2.new (w.alloc (.cells #[.slice A1 l.length c1, .slice A2 m.length c2] 66)) (.slice A3 l'.length c3) (.slice A4 m'.length c4) 66).below (balloc (b0 _) (.cells #[.slice none 0 0, .slice none 0 0] 66)) (by simp)
      rwa [World.size_alloc] at this)
    have HX3 : Hid (Box2 w0 (w.heap.size + 2) (.slice none 0 0) (.slice none 0 0)) := hid (by
      rw [hw0]
      have := Box2.new ((w.alloc (.cells #[.slice A1 l.length c1, .slice A2 m.length c2] 66)).alloc (.cells #[.slice A3 l'.length c3, .slice A4 m'.length c4] 66)) (.slice none 0 0) (.slice none 0 0) 66
      rwa [World.size_alloc, World.size_alloc] at this)
    have HF3 : Hid (∀ o, w0.frozen? ⟨w.heap.size + 2, o, none⟩ = false) := hid (by
      intro o
      rw [hw0]
      have := frozen_of_row _ (w.heap.size + 2) o _ _ (by
        have h := heap_alloc_new ((w.alloc (.cells #[.slice A1 l.length c1, .slice A2 m.length c2] 66)).alloc (.cells #[.slice A3 l'.length c3, .slice A4 m'.length c4] 66)) (.cells #[.slice none 0 0, .slice none 0 0] 66)
        rwa [World.size_alloc, World.size_alloc] at h)
      exact this)
    have hz : w.heap.size + 2 < w0.heap.size := by rw [hw0]; simp
    rw [← hw0]
    clear hw0
    refine (setMay_any _ _ l m _ (HL.out.lift HB0.out HB0.out.size) (HM.out.lift HB0.out HB0.out.size)).mono ?_
    rintro e w1 ⟨rfl, hb1⟩
    rw [HX.out]
    have HB1 := hid (bstep HB0.out hb1)
    have HY1 := hid (HX1.out.below hb1 (by omega))
    have HY2 := hid (HX2.out.below hb1 (by omega))
    have HY3 := hid (HX3.out.below hb1 (by omega))
    have HF := hid (fun o => (hb1.frozen (p := ⟨w.heap.size + 2, o, none⟩) hz).trans (HF3.out o))
    have hz1 : w.heap.size + 2 < w1.heap.size := Nat.lt_of_lt_of_le hz hb1.size
    obtain ⟨x0, x1⟩ := HY1.out
    obtain ⟨x2, x3⟩ := HY2.out
    obtain ⟨x4, x5⟩ := HY3.out
    have xf := HF.out
    clear hb1
    cases hx : setMayB l' m' with
    | false =>
      have HXX := hid hx
      clear hx
      go_wp2_with (first
        | (go_at_call 88; refine (setMay_any _ _ l' m' _ (HL'.out.lift HB1.out HB1.out.size) (HM'.out.lift HB1.out HB1.out.size)).mono ?_; rintro e w2 ⟨rfl, hb2⟩; rw [HXX.out]; have HB2 := hid (bstep HB1.out hb2); obtain ⟨y4, y5⟩ := HY3.out.below hb2 hz1; have yf := fun o => (hb2.frozen (p := ⟨w.heap.size + 2, o, none⟩) hz1).trans (HF.out o); have hz2 : w.heap.size + 2 < w2.heap.size := Nat.lt_of_lt_of_le hz1 hb2.size)
        | (go_at_call 53; refine (none5_any _).mono ?_; rintro e w3 ⟨rfl, hb3⟩; have HB3 := hid (bstep HB2.out hb3); have z4 := cell_below hb3 hz2 y4; have z5 := cell_below hb3 hz2 y5; have zf := fun o => (hb3.frozen (p := ⟨w.heap.size + 2, o, none⟩) hz2).trans (yf o)))
      exact bodyPost_ret (v := .agg #[.slice none 0 0, .slice none 0 0]) (by simp [results, Tryz.results77, go_sem, z4, z5]) rfl ⟨.slice none 0 0, .slice none 0 0, [], [], rfl, OwnSpans.nil _ _, OwnSpans.nil _ _, by simp, by simp, by repeat (first | (with_reducible exact HB3.out) | (with_reducible exact b0 _) | (with_reducible refine bset ?_ (by first | exact Nat.le_refl _ | (simp; done) | omega | (simp; omega)) _) | (with_reducible refine balloc ?_ _) | (with_reducible refine bdrew ?_))⟩
    | true =>
      have HXX := hid hx
      clear hx
      go_wp2_with (first
        | (go_at_call 88; refine (setMay_any _ _ l' m' _ (HL'.out.lift HB1.out HB1.out.size) (HM'.out.lift HB1.out HB1.out.size)).mono ?_; rintro e w2 ⟨rfl, hb2⟩; rw [HXX.out]; have HB2 := hid (bstep HB1.out hb2); have HZ1 := hid (HY1.out.below hb2 (by omega)); have HZ2 := hid (HY2.out.below hb2 (by omega)); have HZ3 := hid (HY3.out.below hb2 hz1); have HF2 := hid (fun o => (hb2.frozen (p := ⟨w.heap.size + 2, o, none⟩) hz1).trans (HF.out o)); have hz2 : w.heap.size + 2 < w2.heap.size := Nat.lt_of_lt_of_le hz1 hb2.size; clear hb2))
      obtain ⟨y0, y1⟩ := HZ1.out
      obtain ⟨y2, y3⟩ := HZ2.out
      clear x0 x1 x2 x3 x4 x5 xf
      have hne : w.heap.size + 1 + 1 ≠ w.heap.size := by omega
      first
        | go_must (go_region_held3 (fun w' => w'.cell? ⟨w.heap.size, 0, none⟩ = some (.slice A1 l.length c1) ∧ w'.cell? ⟨w.heap.size, 1, none⟩ = some (.slice A2 m.length c2) ∧ w'.cell? ⟨w.heap.size + 1, 0, none⟩ = some (.slice A3 l'.length c3) ∧ w'.cell? ⟨w.heap.size + 1, 1, none⟩ = some (.slice A4 m'.length c4)) (first | exact ⟨by assumption, by assumption, by assumption, by assumption⟩ | go_keep)
            ((first
              | (go_at_call_of 89 A1; go_must (refine (ror_any _ _ l l' _ (HL.out.lift (HB2.out.trans ((b0 w2).drew.mono HB2.out.size)) HB2.out.size) (HL'.out.lift (HB2.out.trans ((b0 w2).drew.mono HB2.out.size)) HB2.out.size) (by omega) (by omega)).mono ?_; rintro e wa ⟨va, La, rfl, hoa, hla, hba⟩; replace hba : Below w2.heap.size w2 wa := (b0 w2).drew.trans hba; obtain ⟨Aa, ca, rfl⟩ := hoa.form; have HOA := hid hoa; have HBA := hid hba; have HBWA := hid (bstep HB2.out hba); obtain ⟨u0, u1⟩ := HZ1.out.below hba (by omega); obtain ⟨u2, u3⟩ := HZ2.out.below hba (by omega); clear hoa hba))
              | (go_at_call_of 89 A2; go_must (refine (ror_any _ _ m m' _ (HM.out.lift HBWA.out HBWA.out.size) (HM'.out.lift HBWA.out HBWA.out.size) (by omega) (by omega)).mono ?_; rintro e wb ⟨vb, Lb, rfl, hob, hlb, hbb⟩; obtain ⟨Ab, cb, rfl⟩ := hob.form; have HOB := hid hob; have HBB := hid (bstep HBA.out hbb); have HOA2 := hid (HOA.out.below hbb (Nat.le_refl _)); have HBWB := hid (bstep HBWA.out hbb); obtain ⟨v0, v1⟩ := HZ1.out.below HBB.out (by omega); obtain ⟨v2, v3⟩ := HZ2.out.below HBB.out (by omega); obtain ⟨z4, z5⟩ := HZ3.out.below HBB.out hz2; have zf := fun o => (HBB.out.frozen (p := ⟨w.heap.size + 2, o, none⟩) hz2).trans (HF2.out o); clear hob hbb)))))
        | fail
      have hwa : w2.heap.size ≤ wa.heap.size := HBA.out.size
      go_wp2
      exact bodyPost_ret (v := .agg #[.slice Aa La.length ca, .slice Ab Lb.length cb]) (by simp [results, Tryz.results77, go_sem, z4, z5]) rfl ⟨.slice Aa La.length ca, .slice Ab Lb.length cb, La, Lb, rfl, ((HOA2.out.set (p := ⟨w.heap.size + 2, 0, none⟩) hz2 _).set (p := ⟨w.heap.size + 2, 1, none⟩) hz2 _).mono (show w.heap.size ≤ w2.heap.size by omega), ((HOB.out.set (p := ⟨w.heap.size + 2, 0, none⟩) (Nat.lt_of_lt_of_le hz2 hwa) _).set (p := ⟨w.heap.size + 2, 1, none⟩) (Nat.lt_of_lt_of_le hz2 hwa) _).mono (show w.heap.size ≤ wa.heap.size by omega), by omega, by omega, by repeat (first | (with_reducible exact HBWB.out) | (with_reducible exact b0 _) | (with_reducible refine bset ?_ (by first | exact Nat.le_refl _ | (simp; done) | omega | (simp; omega)) _) | (with_reducible refine balloc ?_ _) | (with_reducible refine bdrew ?_))⟩

set_option maxRecDepth 100000 in
set_option maxHeartbeats 2000000 in
theorem not5_any (lv mv : Value) (l m : List Span) (n : Nat) (w : World) (hl : SliceRd fSpan.ty w (Lt w.heap.size) lv l) (hm : SliceRd fSpan.ty w (Lt w.heap.size) mv m) (n1 : l.length ≤ n) (n2 : m.length ≤ n) (hn : n ≤ 2000) :
    Calls Tryz.prog 79 #[.agg #[lv, mv]] w (SetPost (2 + 2 * n) w) := by
  have HL := hid hl
  have HM := hid hm
  obtain ⟨A1, c1, rfl, -⟩ := hl.flat
  obtain ⟨A2, c2, rfl, -⟩ := hm.flat
  clear hl hm
  go_enter Tryz.func79, Tryz.ntmps79
  go_wp2_with fail
  obtain ⟨w0, hw0⟩ : ∃ w0 : World, w0 = (w.alloc (.cells #[.slice A1 l.length c1, .slice A2 m.length c2] 66)).alloc (.cells #[.slice none 0 0, .slice none 0 0] 66) := ⟨_, rfl⟩
  have HB0 : Hid (Below w.heap.size w w0) := hid (by rw [hw0]; exact balloc (balloc (b0 w) _) _)
  have HX1 : Hid (Box2 w0 w.heap.size (.slice A1 l.length c1) (.slice A2 m.length c2)) := hid (by rw [hw0]; exact (Box2.new w _ _ _).below (balloc (b0 _) _) (by simp))
  have HX3 : Hid (Box2 w0 (w.heap.size + 1) (.slice none 0 0) (.slice none 0 0)) := hid (by
    rw [hw0]
    have := Box2.new (w.alloc (.cells #[.slice A1 l.length c1, .slice A2 m.length c2] 66)) (.slice none 0 0) (.slice none 0 0) 66
    rwa [World.size_alloc] at this)
  have HF3 : Hid (∀ o, w0.frozen? ⟨w.heap.size + 1, o, none⟩ = false) := hid (by
    intro o
    rw [hw0]
    have := frozen_of_row _ (w.heap.size + 1) o _ _ (by
      have h := heap_alloc_new (w.alloc (.cells #[.slice A1 l.length c1, .slice A2 m.length c2] 66)) (.cells #[.slice none 0 0, .slice none 0 0] 66)
      rwa [World.size_alloc] at h)
    exact this)
  have hz : w.heap.size + 1 < w0.heap.size := by rw [hw0]; simp
  rw [← hw0]
  clear hw0
  refine (setMay_any _ _ l m _ (HL.out.lift HB0.out HB0.out.size) (HM.out.lift HB0.out HB0.out.size)).mono ?_
  rintro e w1 ⟨rfl, hb1⟩
  have HB1 := hid (bstep HB0.out hb1)
  have HY1 := hid (HX1.out.below hb1 (by omega))
  have HY3 := hid (HX3.out.below hb1 (by omega))
  have HF := hid (fun o => (hb1.frozen (p := ⟨w.heap.size + 1, o, none⟩) hz).trans (HF3.out o))
  have hz1 : w.heap.size + 1 < w1.heap.size := Nat.lt_of_lt_of_le hz hb1.size
  clear hb1
  cases hx : setMayB l m with
  | false =>
    obtain ⟨x4, x5⟩ := HY3.out
    have xf := HF.out
    go_wp2_with (first
      | (go_at_call 53; refine (none5_any _).mono ?_; rintro e w3 ⟨rfl, hb3⟩; have HB3 := hid (bstep HB1.out hb3); have z4 := cell_below hb3 hz1 x4; have z5 := cell_below hb3 hz1 x5; have zf := fun o => (hb3.frozen (p := ⟨w.heap.size + 1, o, none⟩) hz1).trans (xf o)))
    exact bodyPost_ret (v := .agg #[.slice none 0 0, .slice none 0 0]) (by simp [results, Tryz.results79, go_sem, z4, z5]) rfl ⟨.slice none 0 0, .slice none 0 0, [], [], rfl, OwnSpans.nil _ _, OwnSpans.nil _ _, by simp, by simp, by repeat (first | (with_reducible exact HB3.out) | (with_reducible exact b0 _) | (with_reducible refine bset ?_ (by first | exact Nat.le_refl _ | (simp; done) | omega | (simp; omega)) _) | (with_reducible refine balloc ?_ _) | (with_reducible refine bdrew ?_))⟩
  | true =>
    go_wp2
    obtain ⟨y0, y1⟩ := HY1.out
    first
      | go_must (go_region_held3 (fun w' => w'.cell? ⟨w.heap.size, 0, none⟩ = some (.slice A1 l.length c1) ∧ w'.cell? ⟨w.heap.size, 1, none⟩ = some (.slice A2 m.length c2)) (first | exact ⟨by assumption, by assumption⟩ | go_keep)
          ((first
            | (go_at_call_of 91 A1; go_must (refine (rnot_any _ l _ (HL.out.lift (HB1.out.trans ((b0 w1).drew.mono HB1.out.size)) HB1.out.size) (by omega)).mono ?_; rintro e wa ⟨va, La, rfl, hoa, hla, hba⟩; replace hba : Below w1.heap.size w1 wa := (b0 w1).drew.trans hba; obtain ⟨Aa, ca, rfl⟩ := hoa.form; have HOA := hid hoa; have HBA := hid hba; have HBWA := hid (bstep HB1.out hba); obtain ⟨u0, u1⟩ := HY1.out.below hba (by omega); clear hoa hba))
            | (go_at_call_of 91 A2; go_must (refine (rnot_any _ m _ (HM.out.lift HBWA.out HBWA.out.size) (by omega)).mono ?_; rintro e wb ⟨vb, Lb, rfl, hob, hlb, hbb⟩; obtain ⟨Ab, cb, rfl⟩ := hob.form; have HOB := hid hob; have HBB := hid (bstep HBA.out hbb); have HOA2 := hid (HOA.out.below hbb (Nat.le_refl _)); have HBWB := hid (bstep HBWA.out hbb); obtain ⟨v0, v1⟩ := HY1.out.below HBB.out (by omega); obtain ⟨z4, z5⟩ := HY3.out.below HBB.out hz1; have zf := fun o => (HBB.out.frozen (p := ⟨w.heap.size + 1, o, none⟩) hz1).trans (HF.out o); clear hob hbb)))))
      | fail
    have hwa : w1.heap.size ≤ wa.heap.size := HBA.out.size
    go_wp2
    exact bodyPost_ret (v := .agg #[.slice Aa La.length ca, .slice Ab Lb.length cb]) (by simp [results, Tryz.results79, go_sem, z4, z5]) rfl ⟨.slice Aa La.length ca, .slice Ab Lb.length cb, La, Lb, rfl, ((HOA2.out.set (p := ⟨w.heap.size + 1, 0, none⟩) hz1 _).set (p := ⟨w.heap.size + 1, 1, none⟩) hz1 _).mono (show w.heap.size ≤ w1.heap.size by omega), ((HOB.out.set (p := ⟨w.heap.size + 1, 0, none⟩) (Nat.lt_of_lt_of_le hz1 hwa) _).set (p := ⟨w.heap.size + 1, 1, none⟩) (Nat.lt_of_lt_of_le hz1 hwa) _).mono (show w.heap.size ≤ wa.heap.size by omega), by omega, by omega, by repeat (first | (with_reducible exact HBWB.out) | (with_reducible exact b0 _) | (with_reducible refine bset ?_ (by first | exact Nat.le_refl _ | (simp; done) | omega | (simp; omega)) _) | (with_reducible refine balloc ?_ _) | (with_reducible refine bdrew ?_))⟩
end Go.Proofs.YtilkhofgcgfnlaaGreat
