/- Contracts: linchpinref5.ahead, behind, Exact. -/
import Derived.Test.YtilkhofgcgfnlaaGreatV16
import Derived.Deep.RegionHeld3
import Derived.Deep.DeepMust
namespace Go.Proofs.YtilkhofgcgfnlaaGreat
open Go Go.RowKit

/-- A variable that holds a version. -/
def BoxV (w : World) (g : Nat) (a b c : Int) (p q : ByteArray) : Prop := w.cell? ⟨g, 0, none⟩ = some (.int .i64 a) ∧ w.cell? ⟨g, 1, none⟩ = some (.int .i64 b) ∧ w.cell? ⟨g, 2, none⟩ = some (.int .i64 c) ∧ w.cell? ⟨g, 3, none⟩ = some (.string p) ∧ w.cell? ⟨g, 4, none⟩ = some (.string q)
theorem BoxV.below {B : Nat} {w w' : World} (hb : Below B w w') {g : Nat} (hg : g < B) {a b c : Int} {p q : ByteArray} (h : BoxV w g a b c p q) : BoxV w' g a b c p q := by
  obtain ⟨h0, h1, h2, h3, h4⟩ := h
  exact ⟨cell_below hb hg h0, cell_below hb hg h1, cell_below hb hg h2, cell_below hb hg h3, cell_below hb hg h4⟩
theorem BoxV.new (w : World) (a b c : Int) (p q : ByteArray) (T : TypeId) : BoxV (w.alloc (.cells #[.int .i64 a, .int .i64 b, .int .i64 c, .string p, .string q] T)) w.heap.size a b c p q := by
  have h := heap_alloc_new w (.cells #[.int .i64 a, .int .i64 b, .int .i64 c, .string p, .string q] T)
  refine ⟨?_, ?_, ?_, ?_, ?_⟩ <;> (rw [cell_of_row _ _ _ _ T (0, 0) h]; rfl)
theorem cut0 {v : Ver} {f : Bool} (hv : v.B) : (⟨0, v, f⟩ : Cut).B := ⟨by show -100000 ≤ (0 : Int) ∧ (0 : Int) ≤ 100000; omega, hv⟩
def CutPost (w : World) (e : Ending) (w' : World) : Prop := ∃ u : Cut, e = .returned (.agg #[.int .i64 u.en, .int .i64 u.v.major, .int .i64 u.v.minor, .int .i64 u.v.patch, .string u.v.pre, .string u.v.build, .bool u.after]) ∧ u.B ∧ Below w.heap.size w w'
theorem vb_num {a b c : Int} {p q : ByteArray} (h : VB a b c p q) : VB a b c ⟨#[]⟩ ⟨#[]⟩ := ⟨h.1, h.2.1, h.2.2.1, by decide, by decide⟩

set_option maxRecDepth 100000 in
set_option maxHeartbeats 1000000 in
theorem ahead_any (a b c : Int) (p q : ByteArray) (w : World) (h : VB a b c p q) :
    Calls Tryz.prog 56 #[.agg #[.int .i64 a, .int .i64 b, .int .i64 c, .string p, .string q]] w (CutPost w) := by
  have HV := hid (vb_num h)
  clear h
  cases hl : leastB a b c with
  | true =>
    have HL := hid hl
    clear hl
    go_enter Tryz.func56, Tryz.ntmps56
    go_wp2_with (first
      | (go_at_call 73; (with_reducible refine (least_any a b c p q _).mono ?_); rintro e w1 ⟨rfl, hb1⟩; rw [HL.out]; obtain ⟨hbc, hbf⟩ := bcell hb1; have hz : w.heap.size + 1 < w1.heap.size := Nat.lt_of_lt_of_le (by simp) hb1.size; have hz0 : w.heap.size < w1.heap.size := Nat.lt_of_succ_lt hz; have HB1 := hid (bstep (balloc (balloc (b0 w) _) _) hb1))
      | (go_at_call 74; refine (first_any _).mono ?_; rintro e w2 ⟨rfl, hb2⟩; obtain ⟨hbc2, hbf2⟩ := bcell hb2; have HB2 := hid (bstep HB1.out hb2); have hy : w.heap.size + 1 < w2.heap.size := Nat.lt_of_lt_of_le hz hb2.size))
    exact bodyPost_ret (v := .agg #[.int .i64 (endCut (-1)).en, .int .i64 (endCut (-1)).v.major, .int .i64 (endCut (-1)).v.minor, .int .i64 (endCut (-1)).v.patch, .string (endCut (-1)).v.pre, .string (endCut (-1)).v.build, .bool (endCut (-1)).after]) (by simp [results, Tryz.results56, go_sem, hbc, hz, hbc2, endCut]) rfl ⟨endCut (-1), rfl, endCut_B (.inl rfl), by repeat (first | (with_reducible exact HB2.out) | (with_reducible exact b0 _) | (with_reducible refine bset ?_ (by first | exact Nat.le_refl _ | (simp; done) | omega | (simp; omega)) _) | (with_reducible refine balloc ?_ _) | (with_reducible refine bdrew ?_))⟩
  | false =>
    have HL := hid hl
    clear hl
    go_enter Tryz.func56, Tryz.ntmps56
    go_wp2_with (first
      | (go_at_call 73; (with_reducible refine (least_any a b c p q _).mono ?_); rintro e w1 ⟨rfl, hb1⟩; rw [HL.out]; obtain ⟨hbc, hbf⟩ := bcell hb1; have hz : w.heap.size + 1 < w1.heap.size := Nat.lt_of_lt_of_le (by simp) hb1.size; have hz0 : w.heap.size < w1.heap.size := Nat.lt_of_succ_lt hz; have HB1 := hid (bstep (balloc (balloc (b0 w) _) _) hb1))
      | (go_at_call 54; refine (before_any a b c _ _ _).mono ?_; rintro e w2 ⟨rfl, hb2⟩; obtain ⟨hbc2, hbf2⟩ := bcell hb2; have HB2 := hid (bstep HB1.out hb2); have hy : w.heap.size + 1 < w2.heap.size := Nat.lt_of_lt_of_le hz hb2.size))
    exact bodyPost_ret (v := .agg #[.int .i64 0, .int .i64 a, .int .i64 b, .int .i64 c, .string ⟨#[]⟩, .string ⟨#[]⟩, .bool false]) (by simp [results, Tryz.results56, go_sem, hbc, hz, hbc2]) rfl ⟨⟨0, ⟨a, b, c, ⟨#[]⟩, ⟨#[]⟩⟩, false⟩, rfl, cut0 HV.out, by repeat (first | (with_reducible exact HB2.out) | (with_reducible exact b0 _) | (with_reducible refine bset ?_ (by first | exact Nat.le_refl _ | (simp; done) | omega | (simp; omega)) _) | (with_reducible refine balloc ?_ _) | (with_reducible refine bdrew ?_))⟩

set_option maxRecDepth 100000 in
set_option maxHeartbeats 1000000 in
theorem behind_any (a b c : Int) (p q : ByteArray) (w : World) (h : VB a b c p q) :
    Calls Tryz.prog 57 #[.agg #[.int .i64 a, .int .i64 b, .int .i64 c, .string p, .string q]] w (CutPost w) := by
  have HV := hid (vb_num h)
  clear h
  go_enter Tryz.func57, Tryz.ntmps57
  go_wp2_with (first
    | (go_at_call 75; refine (next_any a b c _ _ _ HV.out).mono ?_; rintro e w1 ⟨a2, b2, c2, p2, q2, ok, rfl, hvb, hb1⟩; have HVB := hid hvb; obtain ⟨hbc, hbf⟩ := bcell hb1; have hz : w.heap.size + 1 < w1.heap.size := Nat.lt_of_lt_of_le (by simp) hb1.size; have hz0 : w.heap.size < w1.heap.size := Nat.lt_of_succ_lt hz; have HB1 := hid (bstep (balloc (balloc (b0 w) _) _) hb1); clear hvb)
    | (go_at_call 76; refine (last_any _).mono ?_; rintro e w2 ⟨rfl, hb2⟩; obtain ⟨hbc2, hbf2⟩ := bcell hb2; have HB2 := hid (bstep (balloc HB1.out _) hb2); have hy : w.heap.size + 1 < w2.heap.size := Nat.lt_of_lt_of_le (by simp; omega) hb2.size)
    | (go_at_call 54; refine (before_any a2 b2 c2 p2 q2 _).mono ?_; rintro e w2 ⟨rfl, hb2⟩; obtain ⟨hbc2, hbf2⟩ := bcell hb2; have HB2 := hid (bstep (balloc HB1.out _) hb2); have hy : w.heap.size + 1 < w2.heap.size := Nat.lt_of_lt_of_le (by simp; omega) hb2.size))
  · exact bodyPost_ret (v := .agg #[.int .i64 (endCut 1).en, .int .i64 (endCut 1).v.major, .int .i64 (endCut 1).v.minor, .int .i64 (endCut 1).v.patch, .string (endCut 1).v.pre, .string (endCut 1).v.build, .bool (endCut 1).after]) (by simp [results, Tryz.results57, go_sem, hbc, hz, hz0, hbc2, endCut]) rfl ⟨endCut 1, rfl, endCut_B (.inr rfl), by repeat (first | (with_reducible exact HB2.out) | (with_reducible exact b0 _) | (with_reducible refine bset ?_ (by first | exact Nat.le_refl _ | (simp; done) | omega | (simp; omega)) _) | (with_reducible refine balloc ?_ _) | (with_reducible refine bdrew ?_))⟩
  · exact bodyPost_ret (v := .agg #[.int .i64 0, .int .i64 a2, .int .i64 b2, .int .i64 c2, .string p2, .string ⟨#[]⟩, .bool false]) (by simp [results, Tryz.results57, go_sem, hbc, hz, hz0, hbc2]) rfl ⟨⟨0, ⟨a2, b2, c2, p2, ⟨#[]⟩⟩, false⟩, rfl, cut0 (show VB a2 b2 c2 p2 ⟨#[]⟩ from ⟨HVB.out.1, HVB.out.2.1, HVB.out.2.2.1, HVB.out.2.2.2.1, by decide⟩), by repeat (first | (with_reducible exact HB2.out) | (with_reducible exact b0 _) | (with_reducible refine bset ?_ (by first | exact Nat.le_refl _ | (simp; done) | omega | (simp; omega)) _) | (with_reducible refine balloc ?_ _) | (with_reducible refine bdrew ?_))⟩

theorem OwnSpans.one {B : Nat} {w : World} {s : Span} {cs : Array Value} (hs : s.B) (hB : B ≤ w.heap.size) (hc : cs.toList = spanCells s) : OwnSpans B (w.alloc (.cells cs 96)) (.slice (some ⟨w.heap.size, 0, none⟩) 1 1) [s] := by
  refine ⟨⟨rfl, .inr ⟨w.heap.size, 1, cs, rfl, hB, heap_alloc_new w _, Nat.le_refl _, by unfold maxLen; omega, ?_, ?_⟩⟩, fun x hx => ?_⟩
  · rw [← Array.length_toList, hc]; rfl
  · rw [hc]; rfl
  · have : x = s := by simpa using hx
    subst this; exact hs

theorem OwnSpans.oneAt {B n : Nat} {w : World} {s : Span} {cs : Array Value} (hn : w.heap.size = n) (hs : s.B) (hB : B ≤ n) (hc : cs.toList = spanCells s) : OwnSpans B (w.alloc (.cells cs 96)) (.slice (some ⟨n, 0, none⟩) 1 1) [s] := by
  subst hn
  exact OwnSpans.one hs hB hc

set_option maxRecDepth 100000 in
set_option maxHeartbeats 2000000 in
theorem exact_any (a b c : Int) (p q : ByteArray) (w : World) (h : VB a b c p q) :
    Calls Tryz.prog 31 #[.agg #[.int .i64 a, .int .i64 b, .int .i64 c, .string p, .string q]] w (SetPost 1 w) := by
  have HV := hid h
  have HVE := hid (show VB a b c p ⟨#[]⟩ from ⟨h.1, h.2.1, h.2.2.1, h.2.2.2.1, by decide⟩)
  clear h
  cases hm : mayV ⟨a, b, c, p, q⟩ with
  | false =>
    have HM := hid hm
    clear hm
    go_enter Tryz.func31, Tryz.ntmps31
    go_wp2_with (first
      | (go_at_call 52; (with_reducible refine (vmay_any a b c p q _ HV.out).mono ?_); rintro e w1 ⟨rfl, hb1⟩; rw [HM.out]; obtain ⟨hbc, hbf⟩ := bcell hb1; have hz : w.heap.size + 1 < w1.heap.size := Nat.lt_of_lt_of_le (by simp) hb1.size; have hz0 : w.heap.size < w1.heap.size := Nat.lt_of_succ_lt hz; have HB1 := hid (bstep (balloc (balloc (b0 w) _) _) hb1))
      | (go_at_call 53; refine (none5_any _).mono ?_; rintro e w2 ⟨rfl, hb2⟩; obtain ⟨hbc2, hbf2⟩ := bcell hb2; have HB2 := hid (bstep HB1.out hb2); have hy : w.heap.size + 1 < w2.heap.size := Nat.lt_of_lt_of_le hz hb2.size))
    exact bodyPost_ret (v := .agg #[.slice none 0 0, .slice none 0 0]) (by simp [results, Tryz.results31, go_sem, hbc, hz, hbc2]) rfl ⟨.slice none 0 0, .slice none 0 0, [], [], rfl, OwnSpans.nil _ _, OwnSpans.nil _ _, by decide, by decide, by repeat (first | (with_reducible exact HB2.out) | (with_reducible exact b0 _) | (with_reducible refine bset ?_ (by first | exact Nat.le_refl _ | (simp; done) | omega | (simp; omega)) _) | (with_reducible refine balloc ?_ _) | (with_reducible refine bdrew ?_))⟩
  | true =>
    have HM := hid hm
    clear hm
    by_cases hp : p.size = 0
    · have e0 : p.toList.isEmpty = true := by rw [empty_toList hp]; rfl
      have e1 : (!p.toList.isEmpty) = false := by rw [e0]; rfl
      clear hp
      go_enter Tryz.func31, Tryz.ntmps31
      go_wp2_with (first
        | (go_at_call 52; (with_reducible refine (vmay_any a b c p q _ HV.out).mono ?_); rintro e w1 ⟨rfl, hb1⟩; rw [HM.out]; obtain ⟨hbc, hbf⟩ := bcell hb1; have hz : w.heap.size + 1 < w1.heap.size := Nat.lt_of_lt_of_le (by simp) hb1.size; have hz0 : w.heap.size < w1.heap.size := Nat.lt_of_succ_lt hz; have HB1 := hid (bstep (balloc (balloc (b0 w) _) _) hb1)))
      have HX := hid (((BoxV.new w a b c p q 56).below (balloc (b0 _) (.cells #[.slice none 0 0, .slice none 0 0] 66)) (by simp)).below hb1 (by simp; omega))
      obtain ⟨x0, x1, x2, x3, x4⟩ := HX.out
      first
        | go_must (go_region_held3 (fun w' => w'.cell? ⟨w.heap.size, 0, none⟩ = some (.int .i64 a) ∧ w'.cell? ⟨w.heap.size, 1, none⟩ = some (.int .i64 b) ∧ w'.cell? ⟨w.heap.size, 2, none⟩ = some (.int .i64 c) ∧ w'.cell? ⟨w.heap.size, 3, none⟩ = some (.string p) ∧ w'.cell? ⟨w.heap.size, 4, none⟩ = some (.string q)) (first | exact ⟨by assumption, by assumption, by assumption, by assumption, by assumption⟩ | go_keep)
            ((first
              | (go_at_call 56; go_must (refine (ahead_any a b c p q _ HV.out).mono ?_; rintro e wa ⟨ua, rfl, hua, hba⟩; (first | replace hba : Below w1.heap.size w1 wa := (b0 w1).drew.trans hba | skip); have HUA := hid hua; have HBA := hid (by first | exact bstep HBB.out hba | exact bstep HB1.out hba); obtain ⟨hbca, hbfa⟩ := bcell hba; have hza := Nat.lt_of_lt_of_le (show w.heap.size + 1 < _ by first | exact hzb | exact hz) hba.size; have hza0 := Nat.lt_of_succ_lt hza; have HXA := hid (show BoxV wa w.heap.size a b c p q by first | exact HXB.out.below hba hzb0 | exact HX.out.below hba hz0); obtain ⟨y0, y1, y2, y3, y4⟩ := HXA.out; clear hua))
              | (go_at_call 57; go_must (refine (behind_any a b c p q _ HV.out).mono ?_; rintro e wb ⟨ub, rfl, hub, hbb⟩; (first | replace hbb : Below w1.heap.size w1 wb := (b0 w1).drew.trans hbb | skip); have HUB := hid hub; have HBB := hid (by first | exact bstep HBA.out hbb | exact bstep HB1.out hbb); obtain ⟨hbcb, hbfb⟩ := bcell hbb; have hzb := Nat.lt_of_lt_of_le (show w.heap.size + 1 < _ by first | exact hza | exact hz) hbb.size; have hzb0 := Nat.lt_of_succ_lt hzb; have HXB := hid (show BoxV wb w.heap.size a b c p q by first | exact HXA.out.below hbb hza0 | exact HX.out.below hbb hz0); obtain ⟨u0, u1, u2, u3, u4⟩ := HXB.out; clear hub)))))
        | fail
      · go_wp2
        exact bodyPost_ret (v := .agg #[.slice (some ⟨wb.heap.size, 0, none⟩) 1 1, .slice none 0 0]) (by simp [results, Tryz.results31, go_sem, hbc, hz, hbca, hza, hbcb, hzb]) rfl ⟨.slice (some ⟨wb.heap.size, 0, none⟩) 1 1, .slice none 0 0, [⟨ua, ub⟩], [], rfl, OwnSpans.oneAt (s := ⟨ua, ub⟩) (by simp) ⟨HUA.out, HUB.out⟩ (by omega) rfl, OwnSpans.nil _ _, by simp, by simp, by repeat (first | (with_reducible exact HBB.out) | (with_reducible exact b0 _) | (with_reducible refine bset ?_ (by first | exact Nat.le_refl _ | (simp; done) | omega | (simp; omega)) _) | (with_reducible refine balloc ?_ _) | (with_reducible refine bdrew ?_))⟩
    · have e0 := nonempty_toList (s := p) (by omega)
      have e1 : (!p.toList.isEmpty) = true := by rw [e0]; rfl
      clear hp
      go_enter Tryz.func31, Tryz.ntmps31
      go_wp2_with (first
        | (go_at_call 52; (with_reducible refine (vmay_any a b c p q _ HV.out).mono ?_); rintro e w1 ⟨rfl, hb1⟩; rw [HM.out]; obtain ⟨hbc, hbf⟩ := bcell hb1; have hz : w.heap.size + 1 < w1.heap.size := Nat.lt_of_lt_of_le (by simp) hb1.size; have hz0 : w.heap.size < w1.heap.size := Nat.lt_of_succ_lt hz; have HB1 := hid (bstep (balloc (balloc (b0 w) _) _) hb1)))
      have HX := hid (((BoxV.new w a b c p q 56).below (balloc (b0 _) (.cells #[.slice none 0 0, .slice none 0 0] 66)) (by simp)).below hb1 (by simp; omega))
      obtain ⟨x0, x1, x2, x3, x4⟩ := HX.out
      first
        | go_must (go_region_held3 (fun w' => w'.cell? ⟨w.heap.size, 0, none⟩ = some (.int .i64 a) ∧ w'.cell? ⟨w.heap.size, 1, none⟩ = some (.int .i64 b) ∧ w'.cell? ⟨w.heap.size, 2, none⟩ = some (.int .i64 c) ∧ w'.cell? ⟨w.heap.size, 3, none⟩ = some (.string p) ∧ w'.cell? ⟨w.heap.size, 4, none⟩ = some (.string q)) (first | exact ⟨by assumption, by assumption, by assumption, by assumption, by assumption⟩ | go_keep)
            ((first
              | (go_at_call 54; go_must (refine (before_any a b c p q _).mono ?_; rintro e wa ⟨rfl, hba⟩; (first | replace hba : Below w1.heap.size w1 wa := (b0 w1).drew.trans hba | skip); have HBA := hid (by first | exact bstep HBB.out hba | exact bstep HB1.out hba); obtain ⟨hbca, hbfa⟩ := bcell hba; have hza := Nat.lt_of_lt_of_le (show w.heap.size + 1 < _ by first | exact hzb | exact hz) hba.size; have hza0 := Nat.lt_of_succ_lt hza; have HXA := hid (show BoxV wa w.heap.size a b c p q by first | exact HXB.out.below hba hzb0 | exact HX.out.below hba hz0); obtain ⟨y0, y1, y2, y3, y4⟩ := HXA.out))
              | (go_at_call 55; go_must (refine (behind3_any a b c p q _).mono ?_; rintro e wb ⟨rfl, hbb⟩; (first | replace hbb : Below w1.heap.size w1 wb := (b0 w1).drew.trans hbb | skip); have HBB := hid (by first | exact bstep HBA.out hbb | exact bstep HB1.out hbb); obtain ⟨hbcb, hbfb⟩ := bcell hbb; have hzb := Nat.lt_of_lt_of_le (show w.heap.size + 1 < _ by first | exact hza | exact hz) hbb.size; have hzb0 := Nat.lt_of_succ_lt hzb; have HXB := hid (show BoxV wb w.heap.size a b c p q by first | exact HXA.out.below hbb hza0 | exact HX.out.below hbb hz0); obtain ⟨u0, u1, u2, u3, u4⟩ := HXB.out)))))
        | fail
      · go_wp2
        exact bodyPost_ret (v := .agg #[.slice none 0 0, .slice (some ⟨wb.heap.size, 0, none⟩) 1 1]) (by simp [results, Tryz.results31, go_sem, hbc, hz, hbca, hza, hbcb, hzb]) rfl ⟨.slice none 0 0, .slice (some ⟨wb.heap.size, 0, none⟩) 1 1, [], [⟨⟨0, ⟨a, b, c, p, ⟨#[]⟩⟩, false⟩, ⟨0, ⟨a, b, c, p, ⟨#[]⟩⟩, true⟩⟩], rfl, OwnSpans.nil _ _, OwnSpans.oneAt (s := ⟨⟨0, ⟨a, b, c, p, ⟨#[]⟩⟩, false⟩, ⟨0, ⟨a, b, c, p, ⟨#[]⟩⟩, true⟩⟩) (by simp) ⟨cut0 (show Ver.B ⟨a, b, c, p, ⟨#[]⟩⟩ from HVE.out), cut0 (show Ver.B ⟨a, b, c, p, ⟨#[]⟩⟩ from HVE.out)⟩ (by omega) rfl, by simp, by simp, by repeat (first | (with_reducible exact HBB.out) | (with_reducible exact b0 _) | (with_reducible refine bset ?_ (by first | exact Nat.le_refl _ | (simp; done) | omega | (simp; omega)) _) | (with_reducible refine balloc ?_ _) | (with_reducible refine bdrew ?_))⟩
end Go.Proofs.YtilkhofgcgfnlaaGreat
