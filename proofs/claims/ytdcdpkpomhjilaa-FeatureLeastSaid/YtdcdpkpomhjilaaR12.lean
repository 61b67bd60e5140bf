/- Contracts: linchpinlaw11.within, named. -/
import Derived.Test.YtdcdpkpomhjilaaR11
namespace Go.Proofs.Ytdcdpkpomhjilaa
open Go Go.RowKit

def withinB (A B : List ByteArray) : Bool := A.all (memB B)
theorem withinB_iff {A B : List ByteArray} : withinB A B = true ↔ ∀ u ∈ A, u ∈ B := by
  unfold withinB
  rw [List.all_eq_true]
  exact ⟨fun h u hu => memB_iff.1 (h u hu), fun h u hu => memB_iff.2 (h u hu)⟩
theorem memB_take {B : List ByteArray} {k : Nat} (hk : k < B.length) (x : ByteArray) : memB (B.take (k + 1)) x = (memB (B.take k) x || decide (B[k] = x)) := by
  unfold memB
  rw [List.take_succ_eq_append_getElem hk, List.any_append]
  simp
theorem withinB_one (B : List ByteArray) (x : ByteArray) : withinB [x] B = memB B x := by simp [withinB]

set_option maxRecDepth 100000 in
set_option maxHeartbeats 1000000 in
theorem within_any (v v' : Value) (A B : List ByteArray) (w : World) (h : SliceRd tStr w (Lt w.heap.size) v A) (h' : SliceRd tStr w (Lt w.heap.size) v' B) :
    Calls Try.prog 23 #[v, v'] w fun e w' => e = .returned (.bool (withinB A B)) ∧ Below w.heap.size w w' := by
  obtain ⟨P, cap, rfl, hm1, hm2, HC⟩ := rd_cells h
  obtain ⟨P', cap', rfl, hm1', hm2', HC'⟩ := rd_cells h'
  clear h h'
  go_enter Try.func23, Try.ntmps23
  go_wp2
  go_loopw [5] (fun iv wr => ∃ i : Nat, i ≤ A.length ∧ iv = .int .i64 i ∧ Hid (∀ j, (hj : j < A.length) → j < i → memB B A[j] = true) ∧ Hid (Below w.heap.size w wr)) (fun iv _ => A.length - (intOf iv).toNat)
  case atStart => exact ⟨0, Nat.zero_le _, rfl, hid (fun j hj h => by omega), hid (b0 w)⟩
  case round =>
    obtain ⟨i, hi, rfl, hall, hb⟩ := hrel
    have i1 : (0 : Int) ≤ ↑i := by omega
    by_cases hlt : i < A.length
    · obtain ⟨g, o, hA, hF, g0, -⟩ := HC.out i hlt
      subst hA
      have i2 : (↑i : Int) < ↑A.length := by omega
      have HN := hid (fun (hq : memB B A[i] = true) => show ∀ j, (hj : j < A.length) → j < i + 1 → memB B A[j] = true from fun j hj hk => by
        by_cases e : j = i
        · subst e; exact hq
        · exact hall.out j hj (by omega))
      have HBAD := hid (fun (hq : memB B A[i] = false) => show withinB A B = false from all_bad (p := memB B) hlt hq)
      generalize A[i] = x at *
      go_wp2
      go_loopw [6, 7] (fun inv kv wr => ∃ k : Nat, k ≤ B.length ∧ kv = .int .i64 k ∧ inv = .bool (memB (B.take k) x) ∧ Hid (Below w.heap.size w wr)) (fun _ kv _ => B.length - (intOf kv).toNat)
      case atStart => exact ⟨0, Nat.zero_le _, rfl, rfl, hb⟩
      case round =>
        obtain ⟨k, hk, rfl, rfl, hbk⟩ := hrel
        have j1 : (0 : Int) ≤ ↑k := by omega
        have c0 := cell_below hbk.out hF g0
        by_cases hlk : k < B.length
        · obtain ⟨g', o', hA', hF', g0', -⟩ := HC'.out k hlk
          subst hA'
          have c1 := cell_below hbk.out hF' g0'
          clear g0'
          have j2 : (↑k : Int) < ↑B.length := by omega
          have HT := hid (memB_take hlk x)
          have HQ := hid (eqS_iff x B[k])
          generalize B[k] = y at *
          rcases bc (memB (B.take k) x) with ⟨hq, HM⟩ | ⟨hq, HM⟩
          · rw [hq]
            clear hq
            go_wp2
            go_quiet (fail)
            go_wp2
            exact ⟨⟨k + 1, by omega, by go_num, by rw [HT.out, HM.out]; rfl, hid (below_drewN hbk.out _)⟩, by simp [intOf]; omega⟩
          · rw [hq]
            clear hq
            rcases bc (decide (x = y)) with ⟨he, HE⟩ | ⟨he, HE⟩
            · have hq1 : (x.toList == y.toList) = true := by rw [HQ.out]; exact he
              clear he
              go_wp2
              go_quiet (fail)
              go_wp2
              exact ⟨⟨k + 1, by omega, by go_num, by rw [HT.out, HM.out, decide_eq_true (of_decide_eq_true HE.out).symm]; rfl, hid (below_drewN hbk.out _)⟩, by simp [intOf]; omega⟩
            · have hq1 : (x.toList == y.toList) = false := by rw [HQ.out]; exact he
              clear he
              go_wp2
              go_quiet (fail)
              go_wp2
              exact ⟨⟨k + 1, by omega, by go_num, by rw [HT.out, HM.out, decide_eq_false (fun e => of_decide_eq_false HE.out e.symm)]; rfl, hid (below_drewN hbk.out _)⟩, by simp [intOf]; omega⟩
        · have j2 : ¬ (↑k : Int) < ↑B.length := by omega
          have hkl : B.take k = B := List.take_of_length_le (by omega)
          rw [hkl]
          clear hkl
          rcases bc (memB B x) with ⟨hq, HM⟩ | ⟨hq, HM⟩
          · have HN1 := hid (HN.out hq)
            rw [hq]
            clear hq
            go_wp2
            exact ⟨⟨i + 1, by omega, by go_num, HN1, hbk⟩, by simp [intOf]; omega⟩
          · have HB1 := hid (HBAD.out hq)
            rw [hq]
            clear hq
            go_wp2
            go_ret
            exact ⟨rbool HB1.out.symm, hbk.out⟩
    · have i2 : ¬ (↑i : Int) < ↑A.length := by omega
      have HG := hid (show withinB A B = true from all_upto (p := memB B) fun j hj => hall.out j hj (by omega))
      go_wp2
      go_ret
      exact ⟨rbool HG.out.symm, hb.out⟩

/-- Is a text an item of some feature that is among others? -/
def namedB (l : List Feat) (on : List ByteArray) (s : ByteArray) : Bool := l.any fun f => memB on f.name && memB f.of s
theorem namedB_hit {l : List Feat} {on : List ByteArray} {s : ByteArray} {i : Nat} (hi : i < l.length) (h1 : memB on l[i].name = true) (h2 : memB l[i].of s = true) : namedB l on s = true := by
  unfold namedB
  rw [List.any_eq_true]
  exact ⟨l[i], List.getElem_mem hi, by rw [h1, h2]; rfl⟩
theorem namedB_miss {l : List Feat} {on : List ByteArray} {s : ByteArray} (h : ∀ i, (hi : i < l.length) → (memB on l[i].name && memB l[i].of s) = false) : namedB l on s = false := by
  unfold namedB
  rw [List.any_eq_false]
  intro f hf
  obtain ⟨i, hi, rfl⟩ := List.getElem_of_mem hf
  rw [h i hi]
  simp
set_option maxRecDepth 100000 in
set_option maxHeartbeats 1000000 in
theorem named_any (v v' : Value) (l : List Feat) (on : List ByteArray) (s : ByteArray) (w : World) (h : SliceRd tFeat w (Lt w.heap.size) v l) (h' : SliceRd tStr w (Lt w.heap.size) v' on) (hs : s.size ≤ maxLen) :
    Calls Try.prog 24 #[v, v', .string s] w fun e w' => e = .returned (.bool (namedB l on s)) ∧ Below w.heap.size w w' := by
  obtain ⟨P, cap, rfl, hcap, hmax, hc⟩ := h.feats
  unfold maxLen at hmax
  have HC := hid hc
  have HON := hid h'
  clear h h' hc
  go_enter Try.func24, Try.ntmps24
  go_wp2
  go_loopw [7] (fun iv wr => ∃ i : Nat, i ≤ l.length ∧ iv = .int .i64 i ∧ Hid (∀ j, (hj : j < l.length) → j < i → (memB on l[j].name && memB l[j].of s) = false) ∧ Hid (Below w.heap.size w wr)) (fun iv _ => l.length - (intOf iv).toNat)
  case atStart => exact ⟨0, Nat.zero_le _, rfl, hid (fun j hj h => by omega), hid (b0 w)⟩
  case round =>
    obtain ⟨i, hi, rfl, hall, hb⟩ := hrel
    have i1 : (0 : Int) ≤ ↑i := by omega
    by_cases hlt : i < l.length
    · obtain ⟨g, o, tA, tn, tc, hA, hF, g0, g1, htn, hns, hrd⟩ := HC.out i hlt
      subst hA
      have HG1 := hid g1
      have c0 := cell_below hb.out hF g0
      clear g0 g1
      have i2 : (↑i : Int) < ↑l.length := by omega
      have HN := hid (fun (hq : (memB on l[i].name && memB l[i].of s) = false) => show ∀ j, (hj : j < l.length) → j < i + 1 → (memB on l[j].name && memB l[j].of s) = false from fun j hj hk => by
        by_cases e : j = i
        · subst e; exact hq
        · exact hall.out j hj (by omega))
      have HIT := hid (fun (h1 : memB on l[i].name = true) (h2 : memB l[i].of s = true) => namedB_hit hlt h1 h2)
      generalize l[i].name = nm at *
      generalize hof : l[i].of = of at *
      subst htn
      have HRD := hid hrd
      clear hrd hof
      have HR1 := hid (strs_new (w := wr) 9 [nm] #[.string nm] rfl (fun x hx => by rw [List.mem_singleton.1 hx]; exact hns) (by show 1 ≤ maxLen; unfold maxLen; decide))
      have HWI := hid (within_any _ _ [nm] on _ HR1.out (HON.out.lift (hb.out.alloc hb.out.size (.cells #[.string nm] 9)) (by have := hb.out.size; simp; omega)))
      rw [withinB_one] at HWI
      have tok := hid True.intro
      rcases bc (memB on nm) with ⟨hq, HM⟩ | ⟨hq, HM⟩
      · rw [hq] at HWI
        clear hq
        go_wp2_with (first
          | (go_at_call 23; clear tok; refine HWI.out.mono ?_; rintro e w2 ⟨rfl, hb2⟩; have HB2 := hid ((hb.out.alloc hb.out.size (.cells #[.string nm] 9)).trans (hb2.mono (by have := hb.out.size; simp; omega))); have c1 := cell_below HB2.out hF HG1.out; have hgw : g < w2.heap.size := Nat.lt_of_lt_of_le hF HB2.out.size; clear hb2)
          | fail)
        have HR2 := hid (strs_new (w := w2) 9 [s] #[.string s] rfl (fun x hx => by rw [List.mem_singleton.1 hx]; exact hs) (by show 1 ≤ maxLen; unfold maxLen; decide))
        have HWO := hid (within_any _ _ [s] of _ HR2.out (HRD.out.lift (HB2.out.alloc HB2.out.size (.cells #[.string s] 9)) (by have := HB2.out.size; simp; omega)))
        rw [withinB_one] at HWO
        rcases bc (memB of s) with ⟨hq, HM2⟩ | ⟨hq, HM2⟩
        · have HH := hid (HIT.out HM.out hq)
          rw [hq] at HWO
          clear hq
          go_wp2_with (first
            | (go_at_call 23; refine HWO.out.mono ?_; rintro e w3 ⟨rfl, hb3⟩; have HB3 := hid ((HB2.out.alloc HB2.out.size (.cells #[.string s] 9)).trans (hb3.mono (by have := HB2.out.size; simp; omega))); clear hb3)
            | fail)
          go_ret
          exact ⟨rbool HH.out.symm, HB3.out⟩
        · have HN1 := hid (HN.out (by rw [hq, Bool.and_false]))
          rw [hq] at HWO
          clear hq
          go_wp2_with (first
            | (go_at_call 23; refine HWO.out.mono ?_; rintro e w3 ⟨rfl, hb3⟩; have HB3 := hid ((HB2.out.alloc HB2.out.size (.cells #[.string s] 9)).trans (hb3.mono (by have := HB2.out.size; simp; omega))); clear hb3)
            | fail)
          exact ⟨⟨i + 1, by omega, by go_num, HN1, HB3⟩, by simp [intOf]; omega⟩
      · have HN1 := hid (HN.out (by rw [hq, Bool.false_and]))
        rw [hq] at HWI
        clear hq
        go_wp2_with (first
          | (go_at_call 23; clear tok; refine HWI.out.mono ?_; rintro e w2 ⟨rfl, hb2⟩; have HB2 := hid ((hb.out.alloc hb.out.size (.cells #[.string nm] 9)).trans (hb2.mono (by have := hb.out.size; simp; omega))); clear hb2)
          | fail)
        exact ⟨⟨i + 1, by omega, by go_num, HN1, HB2⟩, by simp [intOf]; omega⟩
    · have i2 : ¬ (↑i : Int) < ↑l.length := by omega
      have HG := hid (namedB_miss fun j hj => hall.out j hj (by omega))
      go_wp2
      go_ret
      exact ⟨rbool HG.out.symm, hb.out⟩
end Go.Proofs.Ytdcdpkpomhjilaa
