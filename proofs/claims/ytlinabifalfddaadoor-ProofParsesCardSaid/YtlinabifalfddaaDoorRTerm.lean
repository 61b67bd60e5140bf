/- Contract: linchpinref29.term. -/
import Derived.Test.YtlinabifalfddaaDoorRSplit
import Derived.Test.YtlinabifalfddaaDoorRNum
import Derived.Test.YtlinabifalfddaaDoorRow
namespace Go.Proofs.YtlinabifalfddaaDoor
open Go Go.RowKit

theorem split_has {c : UInt8} {b : List UInt8} (h : (splitC c b).length ≠ 1) : c ∈ b := by
  refine Decidable.byContradiction fun hn => h ?_
  rw [split_no hn]; rfl
theorem term_not_two {s : List UInt8} (h : (splitC 58 s).length ≠ 2) : termR s = none := by
  rw [split_cut] at h
  unfold termR
  by_cases hf : (cutC 58 s).2.2 = true
  · rw [if_pos hf] at h
    have h1 : (58 : UInt8) ∈ (cutC 58 s).2.1 := split_has (fun e => h (by rw [List.length_cons, e]))
    rw [number_no (s := (cutC 58 s).2.1) ⟨58, h1, by decide⟩]
    split
    · rename_i e1 e2; cases e2
    · rfl
  · have hb : (cutC 58 s).2.1 = [] := by
      rcases (cut_spec 58 s).2 with ⟨e, _⟩ | ⟨_, _, e⟩
      · exact absurd e hf
      · exact e
    have hn : numberF ([] : List UInt8) = none := by rw [numberF, if_neg]; rintro ⟨h, _⟩; simp at h
    rw [hb, hn]
    split
    · rename_i e1 e2; cases e2
    · rfl
theorem term_two {s x y : List UInt8} (h : splitC 58 s = [x, y]) : termR s = match numberF x, numberF y with
    | some u, some m => some ⟨u, m⟩
    | _, _ => none := by
  rw [split_cut] at h
  by_cases hf : (cutC 58 s).2.2 = true
  · rw [if_pos hf] at h
    injection h with h1 h2
    have h3 : splitC 58 (cutC 58 s).2.1 = [(cutC 58 s).2.1] := by
      rw [split_cut]
      rw [split_cut] at h2
      by_cases hg : (cutC 58 (cutC 58 s).2.1).2.2 = true
      · rw [if_pos hg] at h2
        injection h2 with _ h2
        exact absurd h2 (split_ne _ _)
      · rw [if_neg hg]
        rcases (cut_spec 58 (cutC 58 s).2.1).2 with ⟨e, _⟩ | ⟨_, e, _⟩
        · exact absurd e hg
        · rw [← e]
    rw [h3] at h2
    injection h2 with h2 _
    unfold termR
    rw [h1, h2]
    rfl
  · rw [if_neg hf] at h
    injection h with _ h
    cases h
/-- What the reference's term answers. -/
def RTermPost (s : List UInt8) (w : World) (e : Ending) (w' : World) : Prop :=
  ∃ (u m : Int) (ok : Bool), e = .returned (.tuple #[.agg #[.int .i64 u, .int .i64 m], .bool ok]) ∧ (match termR s with | some t => ok = true ∧ u = t.unit ∧ m = t.mask | none => ok = false) ∧ Below w.heap.size w w'
theorem term_result {wx : World} {b : Nat} {u m : Int} {ok : Bool} {tmps : Array Value} (h : Arr 52 wx b [.int .i64 u, .int .i64 m]) (h2 : tmps.getD 2 undef = .pointer (some ⟨b, 0, none⟩)) (h3 : tmps.getD 3 undef = .bool ok) :
    (results Tryd.f58 tmps).run Tryd.prog wx = .ok (.tuple #[.agg #[.int .i64 u, .int .i64 m], .bool ok]) wx := by
  rw [results_cell_tmp rfl, h2, h3]
  have := run_loadVar_row (P := Tryd.prog) wx b 52 52 _ (0, 0) _ h Tryd.underlying52 rfl (by kernel_rfl)
  simp [asAddr, Result.andThen, this]

set_option maxRecDepth 100000 in
set_option maxHeartbeats 1000000 in
theorem rterm_any (s : ByteArray) (w : World) (hs : s.size ≤ 2000000) :
    Calls Tryd.prog 58 #[.string s] w (RTermPost s.data.toList w) := by
  go_enter Tryd.func58, Tryd.ntmps58
  go_upto_region 2 with (first
    | (go_at_call 42
       refine (rsplit_any s 58 _ hs).mono ?_
       rintro e w1 ⟨WB, A, cap, rfl, hown, hsp, hb1⟩
       have HOWN := hid hown
       have HSP := hid hsp
       have HRES := hid ((Arr.new 52 w [.int .i64 0, .int .i64 0]).below hb1 (by simp))
       have HB1 := hid (((Below.refl w.heap.size w).alloc (Nat.le_refl _) _).trans (hb1.mono (by simp)))
       clear hown hsp hb1))
  by_cases hl : WB.length = 2
  · obtain ⟨x, y, rfl⟩ : ∃ x y, WB = [x, y] := by
      match WB, hl with
      | [x, y], _ => exact ⟨x, y, rfl⟩
    clear hl
    have hxy := HSP.out
    simp only [List.map_cons, List.map_nil] at hxy
    have HT := hid (term_two hxy.symm)
    have hlen := (split_small 58 _ s.data.toList (Nat.lt_succ_self _)).2
    rw [← hxy] at hlen
    have hx1 := hlen x.data.toList (by simp)
    have hy1 := hlen y.data.toList (by simp)
    have z1 : s.data.toList.length = s.size := by simp
    have z2 : x.data.toList.length = x.size := by simp
    have z3 : y.data.toList.length = y.size := by simp
    have hx2 : x.size ≤ 2000000 := by omega
    have hy2 : y.size ≤ 2000000 := by omega
    clear hxy hlen hx1 hy1 z1 z2 z3
    obtain ⟨v1, k1, hq1, hk1⟩ := num_any_res x.data.toList
    obtain ⟨v2, k2, hq2, hk2⟩ := num_any_res y.data.toList
    have hq1' := hid hq1
    have hq2' := hid hq2
    have HOK : Hid (match termR s.data.toList with | some t => (k1 && k2) = true ∧ v1 = t.unit ∧ v2 = t.mask | none => (k1 && k2) = false) := hid (by
      rw [HT.out]
      rcases hk1 with ⟨rfl, n1, e1, rfl⟩ | ⟨rfl, e1⟩
      · rcases hk2 with ⟨rfl, n2, e2, rfl⟩ | ⟨rfl, e2⟩
        · rw [e1, e2]; exact ⟨rfl, rfl, rfl⟩
        · rw [e1, e2]; rfl
      · rw [e1]; rfl)
    have tok := hid True.intro
    clear hq1 hq2 hk1 hk2
    obtain ⟨g, cap', hv, _, hgl, hgz, _, _, hcell, _⟩ := own_addr HOWN.out (by simp)
    injection hv with hv1 _ _
    subst hv1
    have c0 : w1.cell? ⟨g, 0, none⟩ = some (.string x) := hcell 0 (by simp)
    have c1 : w1.cell? ⟨g, 1, none⟩ = some (.string y) := hcell 1 (by simp)
    have r0 := HRES.out.cell (i := 0) (by simp)
    have r1 := HRES.out.cell (i := 1) (by simp)
    have rf := HRES.out.free
    clear hcell hgl hgz
    cases k1 with
    | false =>
      go_wp2_with (first
        | (go_at_call 57
           clear tok
           refine (rnumber_any x _ hx2).mono ?_
           rintro e w2 ⟨rfl, hw2⟩
           rw [hq1'.out, hw2]
           clear hw2)
        | (go_at_call 57
           refine (rnumber_any y _ hy2).mono ?_
           rintro e w3 ⟨rfl, hw3⟩
           rw [hq2'.out, hw3]
           clear hw3))
      exact bodyPost_ret (term_result ((HRES.out.set 0 _).set 1 _) rfl rfl) rfl ⟨_, _, _, rfl, HOK.out, (HB1.out.setCell (p := ⟨w.heap.size, 0, none⟩) (Nat.le_refl _) _).setCell (p := ⟨w.heap.size, 1, none⟩) (Nat.le_refl _) _⟩
    | true =>
      go_wp2_with (first
        | (go_at_call 57
           clear tok
           refine (rnumber_any x _ hx2).mono ?_
           rintro e w2 ⟨rfl, hw2⟩
           rw [hq1'.out, hw2]
           clear hw2)
        | (go_at_call 57
           refine (rnumber_any y _ hy2).mono ?_
           rintro e w3 ⟨rfl, hw3⟩
           rw [hq2'.out, hw3]
           clear hw3))
      exact bodyPost_ret (term_result ((HRES.out.set 0 _).set 1 _) rfl rfl) rfl ⟨_, _, _, rfl, HOK.out, (HB1.out.setCell (p := ⟨w.heap.size, 0, none⟩) (Nat.le_refl _) _).setCell (p := ⟨w.heap.size, 1, none⟩) (Nat.le_refl _) _⟩
  · have hq : ((WB.length : Int) == 2) = false := by rw [beq_eq_false_iff_ne]; omega
    have HN := hid (term_not_two (s := s.data.toList) (by rw [← HSP.out, List.length_map]; exact hl))
    clear hl
    have r0 := HRES.out.cell (i := 0) (by simp)
    have r1 := HRES.out.cell (i := 1) (by simp)
    have rf := HRES.out.free
    go_wp2_with fail
    exact bodyPost_ret (term_result ((HRES.out.set 0 _).set 1 _) rfl rfl) rfl ⟨_, _, _, rfl, by rw [HN.out], (HB1.out.setCell (p := ⟨w.heap.size, 0, none⟩) (Nat.le_refl _) _).setCell (p := ⟨w.heap.size, 1, none⟩) (Nat.le_refl _) _⟩
end Go.Proofs.YtlinabifalfddaaDoor
