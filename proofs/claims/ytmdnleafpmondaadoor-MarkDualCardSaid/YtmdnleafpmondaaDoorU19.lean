/- Contract: mark.Parse. -/
import Derived.Test.YtmdnleafpmondaaDoorzN
import Derived.Test.YtmdnleafpmondaaDoorU9
import Derived.Test.YtmdnleafpmondaaDoorzP
namespace Go.Proofs.YtmdnleafpmondaaDoor
open Go Go.RowKit

/-- The variable internal/bytealg.MaxLen holds some number. -/
def MaxOk (w : World) : Prop := 0 < w.heap.size ∧ ∃ m, w.cell? ⟨0, 0, none⟩ = some (.int .i64 m)
theorem MaxOk.later {w w' : World} (h : MaxOk w) (hb : Below w.heap.size w w') : MaxOk w' := by
  obtain ⟨h0, m, hm⟩ := h
  exact ⟨Nat.lt_of_lt_of_le h0 hb.size, m, cell_below hb h0 hm⟩
def wordsOf (s : ByteArray) : List ByteArray := (splitC 32 s.data.toList).map fun x => ⟨x.toArray⟩
theorem words_eq {s : ByteArray} {WB : List ByteArray} (h : WB.map (fun x => x.data.toList) = splitC 32 s.data.toList) : WB = wordsOf s := by
  unfold wordsOf
  rw [← h, List.map_map]
  conv => lhs; rw [← List.map_id WB]
  refine List.map_congr_left fun x _ => ?_
  exact str_self x
theorem words_small {s : ByteArray} (hs : s.size ≤ 96) : (wordsOf s).length < 98 ∧ ∀ x ∈ wordsOf s, x.size ≤ 1000 := by
  obtain ⟨h1, h2⟩ := split_small 32 (s.data.toList.length + 1) s.data.toList (by omega)
  have hz : s.data.toList.length = s.size := by simp
  refine ⟨by unfold wordsOf; rw [List.length_map]; omega, fun x hx => ?_⟩
  unfold wordsOf at hx
  obtain ⟨y, hy, rfl⟩ := List.mem_map.1 hx
  have := h2 y hy
  rw [strV_size]
  omega
/-- What Parse answers: nodes, and the fault's number. -/
def parseF (s : ByteArray) : List Node × Int :=
  if 96 < s.size then ([], 3)
  else if s = ByteArray.empty then ([], 0)
  else match oneF 98 (wordsOf s) with
    | some (f, []) => if mayB (f.post 0) = true then (f.post 0, 0) else ([], 7)
    | _ => ([], 7)
def ParsePost (s : ByteArray) (w : World) (e : Ending) (w' : World) : Prop :=
  ∃ v, e = .returned (.tuple #[.agg #[v], .int .i64 (parseF s).2]) ∧ SliceRd tNode w' (Lt w'.heap.size) v (parseF s).1 ∧ Below w.heap.size w w'
theorem parse_result {wx : World} {b : Nat} {v : Value} {n : Int} {tmps : Array Value} (h : Arr 25 wx b [v]) (h2 : tmps.getD 2 undef = .pointer (some ⟨b, 0, none⟩)) (h3 : tmps.getD 3 undef = .int .i64 n) :
    (results Tryd.f11 tmps).run Tryd.prog wx = .ok (.tuple #[.agg #[v], .int .i64 n]) wx := by
  rw [results_cell_tmp rfl, h2, h3]
  have := run_loadVar_row (P := Tryd.prog) wx b 25 25 _ (0, 0) _ h Tryd.underlying25 rfl (by kernel_rfl)
  simp [asAddr, Result.andThen, this]

set_option maxRecDepth 100000 in
set_option maxHeartbeats 4000000 in
theorem parse_any (s : ByteArray) (w : World) (hm : MaxOk w) : Calls Tryd.prog 11 #[.string s] w (ParsePost s w) := by
  have HM := hid hm
  clear hm
  have ha0 : Arr 25 (w.alloc (.cells #[.slice none 0 0] 25)) w.heap.size [.slice none 0 0] := Arr.new 25 w [.slice none 0 0]
  have HA0 := hid ha0
  clear ha0
  by_cases h96 : (96 : Int) < s.size
  · have HF : Hid (parseF s = ([], 3)) := hid (by unfold parseF; rw [if_pos (by omega)])
    go_enter Tryd.func11, Tryd.ntmps11
    go_wp2
    refine bodyPost_ret (parse_result HA0.out rfl rfl) rfl ⟨_, by rw [HF.out], ?_, ?_⟩
    · rw [HF.out]; exact SliceRd.nil _ _ _
    · exact balloc (b0 w) _
  rcases empty_eq s with ⟨he, pe⟩ | ⟨he, pe⟩
  · have HF : Hid (parseF s = ([], 0)) := hid (by unfold parseF; rw [if_neg (by omega), if_pos pe])
    replace pe := hid pe
    go_enter Tryd.func11, Tryd.ntmps11
    go_wp2
    refine bodyPost_ret (parse_result HA0.out rfl rfl) rfl ⟨_, by rw [HF.out], ?_, ?_⟩
    · rw [HF.out]; exact SliceRd.nil _ _ _
    · exact balloc (b0 w) _
  · have hs96 : s.size ≤ 96 := by omega
    have HF : Hid (parseF s = match oneF 98 (wordsOf s) with
      | some (f, []) => if mayB (f.post 0) = true then (f.post 0, 0) else ([], 7)
      | _ => ([], 7)) := hid (by unfold parseF; rw [if_neg (by omega), if_neg pe])
    replace pe := hid pe
    have HWS := hid (words_small hs96)
    have HSP := hid (split_any s 32 (w.alloc (.cells #[.slice none 0 0] 25)) (by omega) (HM.out.later (balloc (b0 w) _)).2)
    go_enter Tryd.func11, Tryd.ntmps11
    go_wp2_with fail
    refine HSP.out.mono ?_
    rintro e w1 ⟨WB, rfl, hw1, hWB⟩
    have hWBe := words_eq hWB
    subst hWBe
    replace hw1 := hid hw1
    clear hWB
    obtain ⟨w00, hw00⟩ : ∃ w00, w00 = w.alloc (.cells #[.slice none 0 0] 25) := ⟨_, rfl⟩
    have hz00 : w00.heap.size = w.heap.size + 1 := by rw [hw00]; simp
    rw [← hw00] at HA0 hw1
    have HB00 := hid (show Below w.heap.size w w00 by rw [hw00]; exact balloc (b0 w) _)
    rw [← hw00]
    obtain ⟨n, hn⟩ : ∃ n, n = (wordsOf s).length := ⟨_, rfl⟩
    have HS1 : Hid (SliceRd tStr w1 (Lt w1.heap.size) (.slice (some ⟨w00.heap.size, 0, none⟩) n n) (wordsOf s)) := hid (by
      have h1 := own_new (f := fStr) (e := 9) (w := w00) (l := wordsOf s) (cs := ((wordsOf s).map Value.string).toArray) (by rw [strs_all]) (fun x hx => by have := HWS.out.2 x hx; show x.size ≤ maxLen; unfold maxLen; omega) (by have := HWS.out.1; unfold maxLen; omega)
      rw [hw1.out, hn]
      exact h1.rd)
    have HB1 := hid (show Below w00.heap.size w00 w1 by rw [hw1.out]; exact balloc (b0 w00) _)
    rw [← hn]
    have hnl : n ≤ 97 := by have := HWS.out.1; omega
    replace hn := hid hn
    clear hw00 hw1 HSP
    have hs1 := HB1.out.size
    obtain ⟨sb, hsb⟩ : ∃ sb, sb = w00.heap.size := ⟨_, rfl⟩
    rw [← hsb] at HS1
    rw [← hsb]
    clear hsb
    obtain ⟨pb, hpb⟩ : ∃ pb, pb = w1.heap.size := ⟨_, rfl⟩
    have HPA : Hid (PAt (w1.alloc (.cells #[.slice (some ⟨sb, 0, none⟩) n n, .slice none 0 0, .bool false] 54)) pb (.slice (some ⟨sb, 0, none⟩) n n) (.slice none 0 0) (wordsOf s) [] false) := hid (by
      rw [hpb]
      exact ⟨Arr.new 54 w1 [_, _, _], HS1.out.below (balloc (b0 w1) _), OwnF.nil _ _ _ _⟩)
    have HARB : Hid (Arr 25 (w1.alloc (.cells #[.slice (some ⟨sb, 0, none⟩) n n, .slice none 0 0, .bool false] 54)) w.heap.size [.slice none 0 0]) := hid ((HA0.out.below HB1.out (by omega)).alloc _)
    have HB2 := hid (show Below w.heap.size w (w1.alloc (.cells #[.slice (some ⟨sb, 0, none⟩) n n, .slice none 0 0, .bool false] 54)) from (HB00.out.trans (HB1.out.mono (by omega))).alloc (by have := HB00.out.size; omega) _)
    have HONE := hid (one_any 98 _ pb _ _ (wordsOf s) [] HPA.out HWS.out.1 (by have := HWS.out.1; simp; omega) HWS.out.2)
    have hszp : (w1.alloc (.cells #[.slice (some ⟨sb, 0, none⟩) n n, .slice none 0 0, .bool false] 54)).heap.size = pb + 1 := by rw [hpb]; simp
    have hpw : w.heap.size + 1 ≤ pb := by omega
    go_wp2_with fail
    rw [← hpb]
    generalize w1.alloc (.cells #[.slice (some ⟨sb, 0, none⟩) n n, .slice none 0 0, .bool false] 54) = w2 at *
    refine HONE.out.mono ?_
    rintro e w3 ⟨i, rfl, wv', nv', ws', ns', bad', q1, q2, q3, q4, q5, q6, q7⟩
    have HAR3 : Hid (Arr 25 w3 w.heap.size [.slice none 0 0]) := hid (HARB.out.keep (q2.kept _ (by omega) (by omega) (by simp [Value.ownBlock])))
    have HB3 : Hid (Below w.heap.size w w3) := hid (HB2.out.trans (q2.below.mono (by omega)))
    have HQ1 := hid q1
    have HQ7 := hid q7
    have hlen3 := q2.size
    have x0 := q1.box.cell (i := 0) (by simp)
    have x1 := q1.box.cell (i := 1) (by simp)
    have x2 := q1.box.cell (i := 2) (by simp)
    simp only [List.getElem_cons_zero, List.getElem_cons_succ] at x0 x1 x2
    obtain ⟨A0, c0, rfl, -⟩ := q1.words.shape
    obtain ⟨A1, c1, rfl⟩ := q1.nodes.form
    have hp3 := q1.lt
    have HRD := hid q1.nodes.rd
    have HRDF : Hid (SliceRd tNode w3 (fun g => pb + 1 ≤ g ∧ g < w3.heap.size) (.slice A1 ns'.length c1) ns') := hid (rd_of_ownF q1.nodes.1 q1.nodes.2 fun g hg => q1.nodes.lt g hg)
    clear q1 q2 q3 q4 q7 HONE HPA HARB HB2 HB00 HB1 HS1 HA0 hszp hpb
    have u1 := HAR3.out.cell (i := 0) (by simp)
    have u2 := HAR3.out.free
    simp only [List.getElem_cons_zero] at u1
    have hrb : w.heap.size < w3.heap.size := by omega
    have HB4 := hid (HB3.out.alloc (by omega) (.cells #[.slice A1 ns'.length c1] 25))
    have HRD4 : Hid (SliceRd tNode (w3.alloc (.cells #[.slice A1 ns'.length c1] 25)) (Lt (w3.alloc (.cells #[.slice A1 ns'.length c1] 25)).heap.size) (.slice A1 ns'.length c1) ns') := hid (HRD.out.lift (balloc (b0 w3) _) (balloc (b0 w3) _).size)
    have FIN0 := fun (e1 : parseF s = ([], 7)) (wx : World) (hA : Arr 25 wx w.heap.size [.slice none 0 0]) (hB : Below w.heap.size w wx) => show ParsePost s w (.returned (.tuple #[.agg #[.slice none 0 0], .int .i64 7])) wx from ⟨_, by rw [e1], by rw [e1]; exact SliceRd.nil _ _ _, hB⟩
    have HFIN := hid FIN0
    clear FIN0
    cases hx : oneF 98 (wordsOf s) with
    | none =>
      have h7 := HQ7.out
      rw [hx] at h7
      have h7' : bad' = true := h7
      subst h7'
      have HPF : Hid (parseF s = ([], 7)) := hid (by rw [HF.out, hx])
      clear h7 HF HQ7 HQ1
      go_wp2
      exact bodyPost_ret (parse_result (((HAR3.out.set 0 (.slice none 0 0)).alloc _).congr rfl) rfl rfl) rfl (HFIN.out HPF.out _ (((HAR3.out.set 0 (.slice none 0 0)).alloc _).congr rfl) ((HB3.out.setCell (p := ⟨w.heap.size, 0, none⟩) (Nat.le_refl _) _).alloc (by simp; omega) _))
    | some x =>
      obtain ⟨f, q⟩ := x
      have h7 := HQ7.out
      rw [hx] at h7
      obtain ⟨k1, k2, k3, k4⟩ := h7
      subst k1
      cases q with
      | cons z q' =>
        have HPF : Hid (parseF s = ([], 7)) := hid (by rw [HF.out, hx])
        obtain ⟨m, hm⟩ : ∃ m, m = ws'.length := ⟨_, rfl⟩
        have g0 : (0 : Int) < m := by rw [hm, k2]; simp only [List.length_cons]; omega
        rw [← hm] at x0
        replace hm := hid hm
        clear k2 k3 k4 HF HQ7 HQ1
        go_wp2
        exact bodyPost_ret (parse_result (((HAR3.out.set 0 (.slice none 0 0)).alloc _).congr rfl) rfl rfl) rfl (HFIN.out HPF.out _ (((HAR3.out.set 0 (.slice none 0 0)).alloc _).congr rfl) ((HB3.out.setCell (p := ⟨w.heap.size, 0, none⟩) (Nat.le_refl _) _).alloc (by simp; omega) _))
      | nil =>
        have hm0 : ws'.length = 0 := by rw [k2]; rfl
        rw [hm0] at x0
        have HK3 := hid (show ns' = f.post 0 by rw [k3]; rfl)
        clear hm0 k2 k3 k4 HQ7 HQ1
        rcases Bool.eq_false_or_eq_true (mayB ns') with hmay | hmay
        · have HPF : Hid (parseF s = (ns', 0)) := hid (by rw [HF.out, hx]; simp only; rw [← HK3.out, if_pos hmay])
          clear HF
          go_wp2_with (first | (go_at_call 15; refine (may_any _ ns' _ HRD4.out).mono ?_; rintro e w5 ⟨rfl, hb5⟩; rw [hmay]; have HAR5 := hid ((HAR3.out.alloc (.cells #[.slice A1 ns'.length c1] 25)).below hb5 (by simp; omega)); have HB5 := hid (HB4.out.trans (hb5.mono HB4.out.size)); have HRD5 := hid (HRD4.out.lift hb5 hb5.size); have v1 := HAR5.out.cell (i := 0) (by simp); have v2 := HAR5.out.free; have v3 : w5.cell? ⟨w3.heap.size, 0, none⟩ = some (.slice A1 ns'.length c1) := cell_below hb5 (by simp) (World.cell?_alloc_new ..); simp only [List.getElem_cons_zero] at v1))
          refine bodyPost_ret (parse_result ((HAR5.out.set 0 _).congr rfl) rfl rfl) rfl ⟨_, by rw [HPF.out], ?_, HB5.out.setCell (p := ⟨w.heap.size, 0, none⟩) (Nat.le_refl _) _⟩
          rw [HPF.out]
          have hk : ∀ g, g < w3.heap.size → g ≠ w.heap.size → (w5.setCell ⟨w.heap.size, 0, none⟩ (.slice A1 ns'.length c1)).heap[g]? = w3.heap[g]? := fun g hg hne => (heap_setCell_other _ _ _ _ hne).trans (((balloc (b0 w3) (.cells #[.slice A1 ns'.length c1] 25)).trans (hb5.mono (by simp))).block g hg)
          exact (HRDF.out.keep fun g hg => hk g hg.2 (by have := hg.1; omega)).more fun g hg => by
            have h1 := HB5.out.size
            have h2 := hb5.size
            have h3 := hg.2
            show g < (w5.setCell _ _).heap.size
            simp only [World.size_setCell] at *
            simp at h2
            omega
        · have HPF : Hid (parseF s = ([], 7)) := hid (by rw [HF.out, hx]; simp only; rw [← HK3.out, if_neg (by rw [hmay]; simp)])
          clear HF
          go_wp2_with (first | (go_at_call 15; refine (may_any _ ns' _ HRD4.out).mono ?_; rintro e w5 ⟨rfl, hb5⟩; rw [hmay]; have HAR5 := hid ((HAR3.out.alloc (.cells #[.slice A1 ns'.length c1] 25)).below hb5 (by simp; omega)); have HB5 := hid (HB4.out.trans (hb5.mono HB4.out.size)); have HRD5 := hid (HRD4.out.lift hb5 hb5.size); have v1 := HAR5.out.cell (i := 0) (by simp); have v2 := HAR5.out.free; have v3 : w5.cell? ⟨w3.heap.size, 0, none⟩ = some (.slice A1 ns'.length c1) := cell_below hb5 (by simp) (World.cell?_alloc_new ..); simp only [List.getElem_cons_zero] at v1))
          exact bodyPost_ret (parse_result ((HAR5.out.set 0 _).congr rfl) rfl rfl) rfl (HFIN.out HPF.out _ ((HAR5.out.set 0 _).congr rfl) (HB5.out.setCell (p := ⟨w.heap.size, 0, none⟩) (Nat.le_refl _) _))
end Go.Proofs.YtmdnleafpmondaaDoor
