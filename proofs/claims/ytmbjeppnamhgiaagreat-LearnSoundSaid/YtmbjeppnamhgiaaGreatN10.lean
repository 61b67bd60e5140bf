/- Contract: ref21.Make. -/
import Derived.Test.YtmbjeppnamhgiaaGreatzT7
import Derived.Outline
namespace Go.Proofs.YtmbjeppnamhgiaaGreat
open Go Go.RowKit

theorem int_cell {e : TypeId} {B : Nat} {w : World} {l : List Int} {g c : Nat} (h : OwnF fInt e B w (.slice (some ⟨g, 0, none⟩) l.length c) l) {u : Nat} (hu : u < l.length) : w.cell? ⟨g, u, none⟩ = some (.int .i64 l[u]) := by
  obtain ⟨A, cap, hv, _, _, hc⟩ := SliceRd.ints h.rd
  injection hv with e1 _ _
  obtain ⟨g', o, hA, _, hcell, _⟩ := hc u hu
  rw [← e1] at hA
  injection hA with hA
  injection hA with h1 h2
  subst h1; subst h2
  simpa using hcell
theorem masks_set (M : Nat → Nat) {n u : Nat} (x : Nat) : (masksL M n).set u (x : Int) = masksL (fun v => if v = u then x else M v) n := by
  apply List.ext_getElem
  · simp [masksL]
  · intro i h1 h2
    have h3 : i < (masksL M n).length := by rw [List.length_set] at h1; exact h1
    rw [List.getElem_set, masksL_get (fun v => if v = u then x else M v) h2]
    by_cases e : u = i
    · subst e; simp
    · have e' : ¬ i = u := fun h => e h.symm
      rw [if_neg e, masksL_get M h3]
      simp only [if_neg e']
theorem meet_take (ns : List Nat) (l : List Term) {k : Nat} (hk : k < l.length) (v : Nat) : meetN ns (l.take (k + 1)) v = if l[k].unit = (v : Int) then meetN ns (l.take k) v &&& nm l[k].mask else meetN ns (l.take k) v := by
  rw [List.take_succ_eq_append_getElem hk, meetN_snoc]
theorem inR_take {ns : List Nat} {l : List Term} (h : ∀ j, (hj : j < l.length) → 0 ≤ l[j].unit ∧ l[j].unit < ns.length) : inR ns l = true := by
  unfold inR
  rw [List.all_eq_true]
  intro t ht
  obtain ⟨j, hj, rfl⟩ := List.getElem_of_mem ht
  have := h j hj
  simp [this]
theorem inR_bad {ns : List Nat} {l : List Term} {k : Nat} (hk : k < l.length) (h : ¬ (0 ≤ l[k].unit ∧ l[k].unit < ns.length)) : inR ns l = false := by
  unfold inR
  rw [List.all_eq_false]
  refine ⟨_, List.getElem_mem hk, ?_⟩
  simp
  omega
theorem makeN_bad {ns : List Nat} {l : List Term} (h : inR ns l = false) : makeN ns l = none := by unfold makeN; rw [h]; rfl
theorem makeN_in {ns : List Nat} {l : List Term} (h : inR ns l = true) : makeN ns l = madeN ns (meetN ns l) := by unfold makeN; rw [h]; rfl
theorem and_fact (mu : Nat) (m : Int) (h : mu ≤ 31) : bits .and .i64 (mu : Int) m = ((mu &&& nm m : Nat) : Int) := by
  have h1 : nm (mu : Int) = mu := nm_nat (by omega)
  have h2 : mu &&& nm m ≤ mu := Nat.and_le_left
  rw [band _ _ (by rw [h1]; omega), h1]
set_option maxRecDepth 100000 in
set_option maxHeartbeats 2000000 in
theorem rmake22_new (v lv : Value) (ns : List Nat) (l : List Term) (w : World) (h : UniRd w (Lt w.heap.size) v ns) (ho : NsOk ns) (hl : SliceRd tTerm w (Lt w.heap.size) lv l) :
    Calls Tryz.prog 39 #[v, lv] w (TermsNew (makeN ns l) w) := by
  have HH := hid h
  have HO := hid ho
  obtain ⟨g, cap0, rfl, hg, -⟩ := h
  have h11 := ho.hi
  have h2 := ho.lo
  obtain ⟨A, cap, rfl, hcap, hmax, hc⟩ := hl.terms
  unfold maxLen at hmax
  have HC := hid hc
  clear ho hc hl
  go_enter Tryz.func39, Tryz.ntmps39
  go_wp2_with fail
  obtain ⟨w0, hw0⟩ : ∃ w0 : World, w0 = w.alloc (.cells #[.slice (some ⟨g, 0, none⟩) ns.length cap0] 26) := ⟨_, rfl⟩
  have hb0 : Below w.heap.size w w0 := hw0 ▸ balloc (b0 w) _
  have hl0 : w.heap.size < w0.heap.size := by rw [hw0]; simp
  have q0 : w0.cell? ⟨w.heap.size, 0, none⟩ = some (.slice (some ⟨g, 0, none⟩) ns.length cap0) := by rw [hw0, alloc_cell]; rfl
  have HB0 := hid hb0
  have HQ := hid q0
  have HU0 := hid (uni_later HH.out hb0)
  rw [← hw0]
  clear hw0 hb0 q0
  refine (fulls_any _ ns _ HU0.out HO.out).mono ?_
  rintro e w1 ⟨mv, rfl, hown1, hb1⟩
  obtain ⟨gb, cb, hmv, hgb, hgl, hfz⟩ := hown1.block (by rw [masksL_len]; omega)
  have hml := masksL_len (fullN ns) ns.length
  rw [hml] at hmv
  subst hmv
  have HOWN1 := hid hown1
  have HB1 := hid hb1
  clear hown1 hb1 hfz hml
  go_wp2_with fail
  go_loopw [7] (fun iv wr => ∃ k : Nat, k ≤ l.length ∧ iv = .int .i64 k ∧ Hid (OwnF fInt 3 w0.heap.size wr (.slice (some ⟨gb, 0, none⟩) ns.length cb) (masksL (meetN ns (l.take k)) ns.length)) ∧ Hid (Below w0.heap.size w0 wr) ∧ Hid (∀ j, (hj : j < l.length) → j < k → 0 ≤ l[j].unit ∧ l[j].unit < ns.length)) (fun iv _ => l.length - (intOf iv).toNat)
  case atStart => exact ⟨0, Nat.zero_le _, rfl, hid (by rw [List.take_zero]; exact HOWN1.out), HB1, hid (fun j _ hj => absurd hj (by omega))⟩
  case round =>
    obtain ⟨k, hk, rfl, hown, hb, hin⟩ := hrel
    by_cases hlt : k < l.length
    · obtain ⟨gg, o, hA, hF, g0, g1, -, -⟩ := HC.out k hlt
      subst hA
      have c0 := cell_below hb.out (Nat.lt_of_lt_of_le hF HB0.out.size) (cell_below HB0.out hF g0)
      have c1 := cell_below hb.out (Nat.lt_of_lt_of_le hF HB0.out.size) (cell_below HB0.out hF g1)
      have i1 : (0 : Int) ≤ ↑k := by omega
      have i2 : (↑k : Int) < ↑l.length := by omega
      clear g0 g1
      by_cases hr : 0 ≤ l[k].unit ∧ l[k].unit < ns.length
      · obtain ⟨u, hu⟩ : ∃ u : Nat, l[k].unit = u := ⟨l[k].unit.toNat, by omega⟩
        have hun : u < ns.length := by omega
        obtain ⟨m, hm⟩ : ∃ m, l[k].mask = m := ⟨_, rfl⟩
        have hmu := Nat.le_trans (meetN_le (ns := ns) (l.take k) u) (fullN_le HO.out u)
        have hbits := and_fact (meetN ns (l.take k) u) m hmu
        have x0 : wr.cell? ⟨gb, u, none⟩ = some (.int .i64 ((meetN ns (l.take k) u : Nat) : Int)) := by
          have h3 := masksL_len (meetN ns (l.take k)) ns.length
          have h4 := int_cell (c := cb) (by rw [h3]; exact hown.out) (u := u) (by rw [h3]; exact hun)
          rw [masksL_get] at h4
          exact h4
        have xf : ∀ o, wr.frozen? ⟨gb, o, none⟩ = false := by
          obtain ⟨g', c', e1, -, -, e2⟩ := hown.out.block (by rw [masksL_len]; omega)
          injection e1 with e1
          injection e1 with e1
          injection e1 with e1
          subst e1
          exact e2
        have hset := ints_set hown.out (g := gb) rfl (i := u) (by rw [masksL_len]; exact hun) ((meetN ns (l.take k) u &&& nm m : Nat) : Int) (i64_small (Nat.le_trans Nat.and_le_left hmu))
        rw [masks_set, masksL_congr (M' := meetN ns (l.take (k + 1))) (fun v hv => by
          rw [meet_take ns l hlt, hu, hm]
          by_cases e : v = u
          · subst e; simp
          · rw [if_neg e, if_neg (by omega)])] at hset
        have HSET := hid hset
        have HIN : Hid (∀ j, (hj : j < l.length) → j < k + 1 → 0 ≤ l[j].unit ∧ l[j].unit < ns.length) := hid (fun j hj hjk => if e : j = k then by subst e; exact hr else hin.out j hj (by omega))
        have hgb0 : w0.heap.size ≤ gb := hgb
        have j1 : (0 : Int) ≤ ↑u := by omega
        have j2 : (↑u : Int) < ↑ns.length := by omega
        rw [hu] at c0
        rw [hm] at c1
        generalize meetN ns (l.take k) u &&& nm m = nw at hbits HSET hset
        generalize meetN ns (l.take k) u = mu at hbits x0 hmu
        clear hset hr hu hm hmu
        go_wp2_with fail
        go_region_law (fail)
        all_goals
          go_wp2_with fail
          exact ⟨⟨k + 1, by omega, by go_num, hid HSET.out.drew, hid ((hb.out.setCell (p := ⟨gb, u, none⟩) hgb0 _).drew), HIN⟩, by simp [intOf]; omega⟩
      · have HN := hid (makeN_bad (inR_bad hlt hr))
        obtain ⟨a, ha⟩ : ∃ a, l[k].unit = a := ⟨_, rfl⟩
        rw [ha] at c0 hr
        clear ha
        by_cases hneg : a < 0
        · clear hr
          go_wp2_with fail
          go_ret2
          exact ⟨_, by rw [HN.out]; rfl, by rw [HN.out]; exact SliceRd.nil _ _ _, bstep HB0.out hb.out⟩
        · have hbig : (ns.length : Int) ≤ a := by omega
          clear hr
          go_wp2_with fail
          go_ret2
          exact ⟨_, by rw [HN.out]; rfl, by rw [HN.out]; exact SliceRd.nil _ _ _, bstep HB0.out hb.out⟩
    · have hk2 : k = l.length := by omega
      have HN := hid (makeN_in (inR_take (ns := ns) (l := l) (fun j hj => hin.out j hj (by omega))))
      have hown' : OwnF fInt 3 w0.heap.size wr (.slice (some ⟨gb, 0, none⟩) ns.length cb) (masksL (meetN ns l) ns.length) := by
        have := hown.out
        rwa [List.take_of_length_le (by omega)] at this
      have hd := cell_below hb.out hl0 HQ.out
      have HRD := hid hown'.rd
      clear hown' hk2
      go_wp2_with (go_at_call 55; refine (made_new _ _ ns (meetN ns l) _ (uni_later HU0.out hb.out) HO.out HRD.out (fun u _ => Nat.le_trans (meetN_le l u) (fullN_le HO.out u))).mono ?_; rintro e w2 ⟨sv, rfl, hrd, hb2⟩)
      go_ret2
      exact ⟨_, by rw [HN.out]; rfl, by rw [HN.out]; exact hrd.more fun _ h => ⟨Nat.le_trans (bstep HB0.out hb.out).size h.1, h.2⟩, bstep HB0.out (bstep hb.out hb2)⟩
theorem rmake22_any (v lv : Value) (ns : List Nat) (l : List Term) (w : World) (h : UniRd w (Lt w.heap.size) v ns) (ho : NsOk ns) (hl : SliceRd tTerm w (Lt w.heap.size) lv l) :
    Calls Tryz.prog 39 #[v, lv] w (TermsPost (makeN ns l) w) :=
  (rmake22_new v lv ns l w h ho hl).mono fun _ _ h => h.post
end Go.Proofs.YtmbjeppnamhgiaaGreat
