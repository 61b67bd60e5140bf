/- Contract: mark.tree. -/
import Derived.Test.YtmdnleafpmondaaDoorzW
import Derived.Test.YtmdnleafpmondaaDoorzA
import Derived.Test.YtmdnleafpmondaaDoorzS
import Derived.Deep.DeepMust
namespace Go.Proofs.YtmdnleafpmondaaDoor
open Go Go.RowKit

def iv (l : List Int) : List Value := l.map (Value.int .i64)
theorem iv_len (l : List Int) : (iv l).length = l.length := by simp [iv]
theorem iv_cell {e : TypeId} {w : World} {b : Nat} {l : List Int} (h : Arr e w b (iv l)) {k : Nat} {x : Int} (hk : l[k]? = some x) : w.cell? ⟨b, k, none⟩ = some (.int .i64 x) := by
  obtain ⟨hl, hx⟩ := List.getElem?_eq_some_iff.1 hk
  rw [h.cell (by rw [iv_len]; exact hl)]
  simp [iv, hx]
theorem iv_set {e : TypeId} {w : World} {b : Nat} {l : List Int} (h : Arr e w b (iv l)) (k : Nat) (x : Int) : Arr e (w.setCell ⟨b, k, none⟩ (.int .i64 x)) b (iv (l.set k x)) := by
  have := h.set k (.int .i64 x)
  unfold iv at this ⊢
  rwa [List.map_set]
theorem iv_zeros (n : Nat) : List.replicate n (Value.int .i64 0) = iv (List.replicate n 0) := by simp [iv]
theorem int_info : (Tryd.prog.info? 3).map (fun i => (i.zero, i.size, i.bytes)) = some (some (.int .i64 0), 1, 8) := by kernel_rfl
theorem bne_t {x y : Int} (h : (x == y) = true) : (x != y) = false := by rw [bne, h]; rfl
theorem bne_f {x y : Int} (h : (x == y) = false) : (x != y) = true := by rw [bne, h]; rfl
theorem not_lt {x : Int} (h : (decide (x < 1)) = false) : 1 ≤ x := by have := of_decide_eq_false h; omega
theorem empty_eq (s : ByteArray) : (s.toList.isEmpty = true ∧ s = ByteArray.empty) ∨ (s.toList.isEmpty = false ∧ s ≠ ByteArray.empty) := by
  by_cases h : s.size < 1
  · exact .inl ⟨(empty_iff s).1.2 h, by apply ByteArray.ext; exact Array.eq_empty_of_size_eq_zero (by have : s.data.size = s.size := rfl; omega)⟩
  · exact .inr ⟨(empty_iff s).2.2 (by omega), fun e => h (by rw [e]; decide)⟩

set_option maxRecDepth 100000 in
set_option maxHeartbeats 8000000 in
theorem tree_any (v : Value) (l : List Node) (w : World) (h : SliceRd tNode w (Lt w.heap.size) v l) :
    Calls Tryd.prog 35 #[v] w fun e w' => e = .returned (.bool (decide (l.length ≤ 15) && treeB l)) ∧ Below w.heap.size w w' := by
  obtain ⟨A, cap, rfl, hcap, hmax, hc⟩ := h.nodes
  have HC := hid hc
  unfold maxLen at hmax
  clear h hc
  by_cases h15 : (15 : Int) < l.length
  · have HN : Hid ((decide (l.length ≤ 15) && treeB l) = false) := hid (by rw [decide_eq_false (by omega)]; rfl)
    go_enter Tryd.func35, Tryd.ntmps35
    go_wp2
    go_ret
    exact ⟨rbool HN.out.symm, Below.refl _ _⟩
  have HN : Hid ((decide (l.length ≤ 15) && treeB l) = treeB l) := hid (by rw [decide_eq_true (by omega)]; rfl)
  obtain ⟨ii, hii⟩ := info_parts int_info
  have hmk := run_make_arr (P := Tryd.prog) Tryd.underlying31 hii.1 hii.2.1 hii.2.2.1 hii.2.2.2 rfl l.length (by omega) (by omega)
  clear hii
  go_enter Tryd.func35, Tryd.ntmps35
  go_wp2
  clear hmk
  have ha0 := hid ((Arr.zeros 3 w l.length (.int .i64 0)).congr (iv_zeros l.length))
  have hbm : Below w.heap.size w (w.alloc (.cells (zeros l.length (.int .i64 0)) 3)) := balloc (b0 w) _
  obtain ⟨b, hb⟩ : ∃ b, b = w.heap.size := ⟨_, rfl⟩
  have hge : w.heap.size ≤ b := by omega
  rw [← hb] at ha0
  rw [← hb]
  clear hb
  go_loopw [14] (fun iv' wr => ∃ (k : Nat) (st : List Int) (S : List Frm), k ≤ l.length ∧ iv' = .int .i64 k ∧ Hid (st.length = l.length) ∧ Hid (Arr 3 wr b (iv st)) ∧ Hid (treeS 0 [] (l.take k) = some S ∧ StackOk st S k) ∧ Hid (Below w.heap.size w wr)) (fun iv _ => l.length - (intOf iv).toNat)
  case atStart => exact ⟨0, List.replicate l.length 0, [], Nat.zero_le _, rfl, hid (by simp), ha0, hid ⟨rfl, rfl⟩, hid hbm⟩
  case round =>
    clear ha0 hbm
    obtain ⟨k, st, S, hk, rfl, hst, har, hS, hb⟩ := hrel
    by_cases hlt : k < l.length
    · obtain ⟨g, o, hA, hF, g0, g1, g2, g3, g4, -⟩ := HC.out k hlt
      subst hA
      obtain ⟨c0, c1, c2, c3, c4⟩ := cells5 hb.out hF ⟨g0, g1, g2, g3, g4⟩
      clear g0 g1 g2 g3 g4
      have hbl := har.out.lt
      have hfr := har.out.free
      have hne : b ≠ wr.heap.size := by omega
      have hck := har.out.cell (i := k) (by rw [iv_len, hst.out]; exact hlt)
      have i1 : (0 : Int) ≤ ↑k := by omega
      have i2 : (↑k : Int) < ↑l.length := by omega
      go_upto_if 25 with (fail)
      obtain ⟨wt, hwt⟩ : ∃ wt : World, wt = (wr.setCell ⟨b, k, none⟩ (.int .i64 k)).alloc (.cells #[.int .i64 l[k].op, .int .i64 l[k].a, .int .i64 l[k].b, .int .i64 l[k].key, .string l[k].text] 49) := ⟨_, rfl⟩
      have HAR : Hid (Arr 3 wt b (iv (st.set k k))) := hid (by rw [hwt]; exact (iv_set har.out k _).alloc _)
      have hz : (wr.setCell ⟨b, k, none⟩ (.int .i64 k)).heap.size = wr.heap.size := by simp
      have HBT : Hid (Below w.heap.size w wt) := hid (by rw [hwt]; exact (hb.out.setCell (p := ⟨b, k, none⟩) hge _).alloc (by rw [hz]; exact hb.out.size) _)
      have hbx : wr.heap.size < wt.heap.size := by rw [hwt]; simp
      have d0 : wt.cell? ⟨wr.heap.size, 0, none⟩ = some (.int .i64 l[k].op) := by rw [hwt, ← hz]; exact World.cell?_alloc_new ..
      have d1 : wt.cell? ⟨wr.heap.size, 1, none⟩ = some (.int .i64 l[k].a) := by rw [hwt, ← hz]; exact World.cell?_alloc_new ..
      have d2 : wt.cell? ⟨wr.heap.size, 2, none⟩ = some (.int .i64 l[k].b) := by rw [hwt, ← hz]; exact World.cell?_alloc_new ..
      have d3 : wt.cell? ⟨wr.heap.size, 3, none⟩ = some (.int .i64 l[k].key) := by rw [hwt, ← hz]; exact World.cell?_alloc_new ..
      have d4 : wt.cell? ⟨wr.heap.size, 4, none⟩ = some (.string l[k].text) := by rw [hwt, ← hz]; exact World.cell?_alloc_new ..
      have hbl2 := HAR.out.lt
      have hfr2 := HAR.out.free
      have hk2 := iv_cell HAR.out (List.getElem?_set_self (show k < st.length by rw [hst.out]; exact hlt))
      rw [← hwt]
      clear hwt hz c0 c1 c2 c3 c4 hck hfr hbl
      have HBAD := hid (fun hs : stepS k S l[k] = none => HN.out.trans (tree_none hlt hS.out.1 hs))
      rcases eqI l[k].op 1 with ⟨e1, pe1⟩ | ⟨e1, pe1⟩
      · replace pe1 := hid pe1
        have ne1 := bne_t e1
        by_cases cn : l[k].key < 0
        · go_wp2
          go_ret
          exact ⟨rbool (HBAD.out (by unfold Hid at *; exact step_is_bad pe1 (by rintro ⟨q1, q2, q3, q4, q5⟩; first | omega | (rw [hw] at q3; cases q3)))).symm, HBT.out⟩
        · by_cases c3 : (3 : Int) ≤ l[k].key
          · go_wp2
            go_ret
            exact ⟨rbool (HBAD.out (by unfold Hid at *; exact step_is_bad pe1 (by rintro ⟨q1, q2, q3, q4, q5⟩; first | omega | (rw [hw] at q3; cases q3)))).symm, HBT.out⟩
          · rcases Bool.eq_false_or_eq_true (wordB l[k].text.data.toList) with hw | hw
            · rcases eqI l[k].a 0 with ⟨ea, pea⟩ | ⟨ea, pea⟩
              · replace pea := hid pea
                have nea := bne_t ea
                rcases eqI l[k].b 0 with ⟨eb, peb⟩ | ⟨eb, peb⟩
                · replace peb := hid peb
                  have neb := bne_t eb
                  go_wp2_with (first
                    | (go_at_call 51; refine (iword_any _ _).mono ?_; rintro e w2 ⟨rfl, hbw⟩; rw [hw]; have x1 := cell_below hbw hbx d1; have x2 := cell_below hbw hbx d2; have x3 := cell_below hbw hbx d3; have x4 := cell_below hbw hbx d4))
                  have HS2 := hid (step_is (k := k) (S := S) pe1.out (by omega) (by omega) hw pea.out peb.out)
                  exact ⟨⟨k + 1, st.set k k, .is l[k].key.toNat l[k].text :: S, by omega, by go_num, hid (by simp [hst.out]), hid (HAR.out.keep (hbw.block _ (HAR.out.lt))), hid ⟨tree_some hlt hS.out.1 HS2.out, hS.out.2.push (f := .is l[k].key.toNat l[k].text) rfl (by rw [hst.out]; exact hlt)⟩, hid (HBT.out.trans (hbw.mono HBT.out.size))⟩, by simp [intOf]; omega⟩
                · replace peb := hid peb
                  have neb := bne_f eb
                  go_wp2_with (first
                    | (go_at_call 51; refine (iword_any _ _).mono ?_; rintro e w2 ⟨rfl, hbw⟩; rw [hw]; have x1 := cell_below hbw hbx d1; have x2 := cell_below hbw hbx d2; have x3 := cell_below hbw hbx d3; have x4 := cell_below hbw hbx d4))
                  go_ret
                  exact ⟨rbool (HBAD.out (by unfold Hid at *; exact step_is_bad pe1 (by rintro ⟨q1, q2, q3, q4, q5⟩; first | omega | (rw [hw] at q3; cases q3)))).symm, HBT.out.trans (hbw.mono HBT.out.size)⟩
              · replace pea := hid pea
                have nea := bne_f ea
                go_wp2_with (first
                  | (go_at_call 51; refine (iword_any _ _).mono ?_; rintro e w2 ⟨rfl, hbw⟩; rw [hw]; have x1 := cell_below hbw hbx d1; have x2 := cell_below hbw hbx d2; have x3 := cell_below hbw hbx d3; have x4 := cell_below hbw hbx d4))
                go_ret
                exact ⟨rbool (HBAD.out (by unfold Hid at *; exact step_is_bad pe1 (by rintro ⟨q1, q2, q3, q4, q5⟩; first | omega | (rw [hw] at q3; cases q3)))).symm, HBT.out.trans (hbw.mono HBT.out.size)⟩
            · go_wp2_with (first
                | (go_at_call 51; refine (iword_any _ _).mono ?_; rintro e w2 ⟨rfl, hbw⟩; rw [hw]; have x1 := cell_below hbw hbx d1; have x2 := cell_below hbw hbx d2; have x3 := cell_below hbw hbx d3; have x4 := cell_below hbw hbx d4))
              go_ret
              exact ⟨rbool (HBAD.out (by unfold Hid at *; exact step_is_bad pe1 (by rintro ⟨q1, q2, q3, q4, q5⟩; first | omega | (rw [hw] at q3; cases q3)))).symm, HBT.out.trans (hbw.mono HBT.out.size)⟩
      · replace pe1 := hid pe1
        have ne1 := bne_f e1
        rcases eqI l[k].op 2 with ⟨e2, pe2⟩ | ⟨e2, pe2⟩
        · replace pe2 := hid pe2
          have ne2 := bne_t e2
          by_cases k1 : (k : Int) < 1
          · have S0 : S = [] := by
              cases S with
              | nil => rfl
              | cons f r => have := hS.out.2.1; have := Frm.size_pos f; omega
            go_wp2
            go_ret
            exact ⟨rbool (HBAD.out (by unfold Hid at *; exact step_no_bad pe2 (.inl S0))).symm, HBT.out⟩
          · obtain ⟨fa, r, rfl⟩ : ∃ fa r, S = fa :: r := by
              cases S with
              | nil => have := hS.out.2; simp only [StackOk] at this; omega
              | cons f r => exact ⟨f, r, rfl⟩
            obtain ⟨z1, z2, -⟩ := hS.out.2
            have zp := Frm.size_pos fa
            obtain ⟨v1, hv1⟩ : ∃ v1 : Int, Hid (v1 = ((k - fa.size : Nat) : Int)) := ⟨_, rfl⟩
            have y1 : wt.cell? ⟨b, k - 1, none⟩ = some (.int .i64 v1) := iv_cell HAR.out (by rw [List.getElem?_set_ne (by omega), z2, hv1.out])
            have j1 : (0 : Int) ≤ ↑k - 1 := by omega
            have j2 : (↑k : Int) - 1 < ↑l.length := by omega
            rcases eqI l[k].a ((k : Int) - 1) with ⟨ea, pea⟩ | ⟨ea, pea⟩
            · replace pea := hid pea
              have nea := bne_t ea
              rcases eqI l[k].b 0 with ⟨eb, peb⟩ | ⟨eb, peb⟩
              · replace peb := hid peb
                have neb := bne_t eb
                rcases eqI l[k].key 0 with ⟨ky, pky⟩ | ⟨ky, pky⟩
                · replace pky := hid pky
                  have nky := bne_t ky
                  rcases empty_eq l[k].text with ⟨tx, ptx⟩ | ⟨tx, ptx⟩
                  · go_wp2
                    have HS2 := hid (step_no (k := k) (a := fa) (r := r) pe2.out pea.out peb.out pky.out ptx)
                    exact ⟨⟨k + 1, (st.set k k).set k v1, .no fa :: r, by omega, by go_num, hid (by simp [hst.out]), hid (iv_set HAR.out k v1), hid ⟨tree_some hlt hS.out.1 HS2.out, by rw [List.set_set, hv1.out]; exact hS.out.2.2.2.push (f := .no fa) (by simp only [Frm.size]; omega) (by rw [hst.out]; exact hlt)⟩, hid (HBT.out.setCell (p := ⟨b, k, none⟩) hge _)⟩, by simp [intOf]; omega⟩
                  · go_wp2
                    go_ret
                    exact ⟨rbool (HBAD.out (by unfold Hid at *; exact step_no_bad pe2 (.inr (by rintro ⟨q1, q2, q3, q4⟩; first | omega | exact ptx q4)))).symm, HBT.out.setCell (p := ⟨b, k, none⟩) hge _⟩
                · replace pky := hid pky
                  have nky := bne_f ky
                  go_wp2
                  go_ret
                  exact ⟨rbool (HBAD.out (by unfold Hid at *; exact step_no_bad pe2 (.inr (by rintro ⟨q1, q2, q3, q4⟩; first | omega | exact ptx q4)))).symm, HBT.out.setCell (p := ⟨b, k, none⟩) hge _⟩
              · replace peb := hid peb
                have neb := bne_f eb
                go_wp2
                go_ret
                exact ⟨rbool (HBAD.out (by unfold Hid at *; exact step_no_bad pe2 (.inr (by rintro ⟨q1, q2, q3, q4⟩; first | omega | exact ptx q4)))).symm, HBT.out⟩
            · replace pea := hid pea
              have nea := bne_f ea
              go_wp2
              go_ret
              exact ⟨rbool (HBAD.out (by unfold Hid at *; exact step_no_bad pe2 (.inr (by rintro ⟨q1, q2, q3, q4⟩; first | omega | exact ptx q4)))).symm, HBT.out⟩
        · replace pe2 := hid pe2
          have ne2 := bne_f e2
          rcases eqI l[k].op 3 with ⟨e3, pe3⟩ | ⟨e3, pe3⟩
          · replace pe3 := hid pe3
            have ne3 := bne_t e3
            by_cases k1 : (k : Int) < 2
            · have k2 := decide_eq_true k1
              go_wp2_with fail
              go_quiet (fail)
              go_wp2
              go_ret
              exact ⟨rbool (HBAD.out (by unfold Hid at *; exact step_two_bad (by first | exact .inl pe3 | exact .inr pe3) (by intro b' a' r' e; rintro ⟨q1, q2, q3, q4⟩; have z := hS.2; rw [e] at z; have := z.1; have := z.2.2.1; have := Frm.size_pos b'; have := Frm.size_pos a'; omega))).symm, below_drewN HBT.out _⟩
            · have k2 := decide_eq_false k1
              obtain ⟨fb, r, rfl⟩ : ∃ fa r, S = fa :: r := by
                cases S with
                | nil => have := hS.out.2; simp only [StackOk] at this; omega
                | cons f r => exact ⟨f, r, rfl⟩
              obtain ⟨z1, z2, z3⟩ := hS.out.2
              have zp := Frm.size_pos fb
              obtain ⟨v1, hv1⟩ : ∃ v1 : Int, Hid (v1 = ((k - fb.size : Nat) : Int)) := ⟨_, rfl⟩
              have vb1 : (0 : Int) ≤ v1 := by have := hv1.out; omega
              have vb2 : v1 ≤ 15 := by have := hv1.out; omega
              have y1 : wt.cell? ⟨b, k - 1, none⟩ = some (.int .i64 v1) := iv_cell HAR.out (by rw [List.getElem?_set_ne (by omega), z2, hv1.out])
              have j1 : (0 : Int) ≤ ↑k - 1 := by omega
              have j2 : (↑k : Int) - 1 < ↑l.length := by omega
              rcases eqI l[k].b ((k : Int) - 1) with ⟨eb, peb⟩ | ⟨eb, peb⟩
              · replace peb := hid peb
                have neb := bne_t eb
                by_cases cv : v1 < 1
                · have cw := decide_eq_true cv
                  go_wp2_with fail
                  go_quiet (fail)
                  go_wp2
                  go_ret
                  exact ⟨rbool (HBAD.out (by unfold Hid at *; exact step_two_bad (by first | exact .inl pe3 | exact .inr pe3) (by intro b' a' r' e; injection e with e1 e; subst e1; subst e; have := z3.1; have := Frm.size_pos a'; omega))).symm, below_drewN HBT.out _⟩
                · have cw := decide_eq_false cv
                  obtain ⟨fa, r, rfl⟩ : ∃ fa r', r = fa :: r' := by
                    cases r with
                    | nil => have := hv1.out; simp only [StackOk] at z3; omega
                    | cons f r => exact ⟨f, r, rfl⟩
                  obtain ⟨z4, z5, z6⟩ := z3
                  have zq := Frm.size_pos fa
                  obtain ⟨v2, hv2⟩ : ∃ v2 : Int, Hid (v2 = ((k - fb.size - fa.size : Nat) : Int)) := ⟨_, rfl⟩
                  rcases eqI l[k].a (v1 - 1) with ⟨ea, pea⟩ | ⟨ea, pea⟩
                  · replace pea := hid pea
                    have nea := bne_t ea
                    have y2 : wt.cell? ⟨b, (l[k].a).toNat, none⟩ = some (.int .i64 v2) := iv_cell HAR.out (by rw [show (l[k].a).toNat = (k - fb.size) - 1 by have := pea.out; have := hv1.out; omega, List.getElem?_set_ne (by omega), z5, hv2.out])
                    have j3 : (0 : Int) ≤ l[k].a := by have := pea.out; omega
                    have j4 : l[k].a < ↑l.length := by have := pea.out; have := hv1.out; omega
                    rcases eqI l[k].key 0 with ⟨ky, pky⟩ | ⟨ky, pky⟩
                    · replace pky := hid pky
                      have nky := bne_t ky
                      rcases empty_eq l[k].text with ⟨tx, ptx⟩ | ⟨tx, ptx⟩
                      · go_wp2_with fail
                        go_quiet (fail)
                        obtain ⟨wq, hwq⟩ : ∃ wq : World, wq = wt.drewN nq := ⟨_, rfl⟩
                        have HARq : Hid (Arr 3 wq b (iv (st.set k k))) := hid (by rw [hwq]; exact HAR.out)
                        have HBTq : Hid (Below w.heap.size w wq) := hid (by rw [hwq]; exact below_drewN HBT.out _)
                        have q1 : wq.cell? ⟨wr.heap.size, 1, none⟩ = some (.int .i64 l[k].a) := by rw [hwq]; exact d1
                        have q3 : wq.cell? ⟨wr.heap.size, 3, none⟩ = some (.int .i64 l[k].key) := by rw [hwq]; exact d3
                        have q4 : wq.cell? ⟨wr.heap.size, 4, none⟩ = some (.string l[k].text) := by rw [hwq]; exact d4
                        have q5 : wq.cell? ⟨b, (l[k].a).toNat, none⟩ = some (.int .i64 v2) := by rw [hwq]; exact y2
                        have q6 : wq.cell? ⟨b, k, none⟩ = some (.int .i64 k) := by rw [hwq]; exact hk2
                        have q7 := HARq.out.free
                        have q8 := HARq.out.lt
                        rw [← hwq]
                        clear hwq d1 d2 d3 d4 y1 y2 hk2 hfr2 hbl2
                        go_wp2
                        have HS2 := hid (step_two (k := k) (b := fb) (a := fa) (r := r) (by unfold Hid at *; exact (by first | exact .inl pe3 | exact .inr pe3)) peb.out (by have := pea.out; have := hv1.out; omega) pky.out ptx)
                        exact ⟨⟨k + 1, (st.set k k).set k v2, _, by omega, by go_num, hid (by simp [hst.out]), hid (iv_set HARq.out k v2), hid ⟨tree_some hlt hS.out.1 HS2.out, by rw [List.set_set, hv2.out]; exact StackOk.push z6 (by simp only [Frm.size]; omega) (by rw [hst.out]; exact hlt)⟩, hid (HBTq.out.setCell (p := ⟨b, k, none⟩) hge _)⟩, by simp [intOf]; omega⟩
                      · go_wp2_with fail
                        go_quiet (fail)
                        obtain ⟨wq, hwq⟩ : ∃ wq : World, wq = wt.drewN nq := ⟨_, rfl⟩
                        have HARq : Hid (Arr 3 wq b (iv (st.set k k))) := hid (by rw [hwq]; exact HAR.out)
                        have HBTq : Hid (Below w.heap.size w wq) := hid (by rw [hwq]; exact below_drewN HBT.out _)
                        have q1 : wq.cell? ⟨wr.heap.size, 1, none⟩ = some (.int .i64 l[k].a) := by rw [hwq]; exact d1
                        have q3 : wq.cell? ⟨wr.heap.size, 3, none⟩ = some (.int .i64 l[k].key) := by rw [hwq]; exact d3
                        have q4 : wq.cell? ⟨wr.heap.size, 4, none⟩ = some (.string l[k].text) := by rw [hwq]; exact d4
                        have q5 : wq.cell? ⟨b, (l[k].a).toNat, none⟩ = some (.int .i64 v2) := by rw [hwq]; exact y2
                        have q6 : wq.cell? ⟨b, k, none⟩ = some (.int .i64 k) := by rw [hwq]; exact hk2
                        have q7 := HARq.out.free
                        have q8 := HARq.out.lt
                        rw [← hwq]
                        clear hwq d1 d2 d3 d4 y1 y2 hk2 hfr2 hbl2
                        go_wp2
                        go_ret
                        exact ⟨rbool (HBAD.out (by unfold Hid at *; exact step_two_bad (by first | exact .inl pe3 | exact .inr pe3) (by intro b' a' r' e; injection e with e1 e; subst e1; rintro ⟨q1, q2, q3, q4⟩; first | omega | exact ptx q4))).symm, HBTq.out.setCell (p := ⟨b, k, none⟩) hge _⟩
                    · replace pky := hid pky
                      have nky := bne_f ky
                      go_wp2_with fail
                      go_quiet (fail)
                      obtain ⟨wq, hwq⟩ : ∃ wq : World, wq = wt.drewN nq := ⟨_, rfl⟩
                      have HARq : Hid (Arr 3 wq b (iv (st.set k k))) := hid (by rw [hwq]; exact HAR.out)
                      have HBTq : Hid (Below w.heap.size w wq) := hid (by rw [hwq]; exact below_drewN HBT.out _)
                      have q1 : wq.cell? ⟨wr.heap.size, 1, none⟩ = some (.int .i64 l[k].a) := by rw [hwq]; exact d1
                      have q3 : wq.cell? ⟨wr.heap.size, 3, none⟩ = some (.int .i64 l[k].key) := by rw [hwq]; exact d3
                      have q4 : wq.cell? ⟨wr.heap.size, 4, none⟩ = some (.string l[k].text) := by rw [hwq]; exact d4
                      have q5 : wq.cell? ⟨b, (l[k].a).toNat, none⟩ = some (.int .i64 v2) := by rw [hwq]; exact y2
                      have q6 : wq.cell? ⟨b, k, none⟩ = some (.int .i64 k) := by rw [hwq]; exact hk2
                      have q7 := HARq.out.free
                      have q8 := HARq.out.lt
                      rw [← hwq]
                      clear hwq d1 d2 d3 d4 y1 y2 hk2 hfr2 hbl2
                      go_wp2
                      go_ret
                      exact ⟨rbool (HBAD.out (by unfold Hid at *; exact step_two_bad (by first | exact .inl pe3 | exact .inr pe3) (by intro b' a' r' e; injection e with e1 e; subst e1; rintro ⟨q1, q2, q3, q4⟩; first | omega | exact ptx q4))).symm, HBTq.out.setCell (p := ⟨b, k, none⟩) hge _⟩
                  · replace pea := hid pea
                    have nea := bne_f ea
                    go_wp2_with fail
                    go_quiet (fail)
                    go_wp2
                    go_ret
                    exact ⟨rbool (HBAD.out (by unfold Hid at *; exact step_two_bad (by first | exact .inl pe3 | exact .inr pe3) (by intro b' a' r' e; injection e with e1 e; subst e1; rintro ⟨q1, q2, q3, q4⟩; first | omega | exact ptx q4))).symm, below_drewN HBT.out _⟩
              · replace peb := hid peb
                have neb := bne_f eb
                go_wp2_with fail
                go_quiet (fail)
                go_wp2
                go_ret
                exact ⟨rbool (HBAD.out (by unfold Hid at *; exact step_two_bad (by first | exact .inl pe3 | exact .inr pe3) (by intro b' a' r' e; injection e with e1 e; subst e1; rintro ⟨q1, q2, q3, q4⟩; first | omega | exact ptx q4))).symm, below_drewN HBT.out _⟩
          · replace pe3 := hid pe3
            have ne3 := bne_f e3
            rcases eqI l[k].op 4 with ⟨e4, pe4⟩ | ⟨e4, pe4⟩
            · replace pe4 := hid pe4
              have ne4 := bne_t e4
              by_cases k1 : (k : Int) < 2
              · have k2 := decide_eq_true k1
                go_wp2_with fail
                go_quiet (fail)
                go_wp2
                go_ret
                exact ⟨rbool (HBAD.out (by unfold Hid at *; exact step_two_bad (by first | exact .inl pe4 | exact .inr pe4) (by intro b' a' r' e; rintro ⟨q1, q2, q3, q4⟩; have z := hS.2; rw [e] at z; have := z.1; have := z.2.2.1; have := Frm.size_pos b'; have := Frm.size_pos a'; omega))).symm, below_drewN HBT.out _⟩
              · have k2 := decide_eq_false k1
                obtain ⟨fb, r, rfl⟩ : ∃ fa r, S = fa :: r := by
                  cases S with
                  | nil => have := hS.out.2; simp only [StackOk] at this; omega
                  | cons f r => exact ⟨f, r, rfl⟩
                obtain ⟨z1, z2, z3⟩ := hS.out.2
                have zp := Frm.size_pos fb
                obtain ⟨v1, hv1⟩ : ∃ v1 : Int, Hid (v1 = ((k - fb.size : Nat) : Int)) := ⟨_, rfl⟩
                have vb1 : (0 : Int) ≤ v1 := by have := hv1.out; omega
                have vb2 : v1 ≤ 15 := by have := hv1.out; omega
                have y1 : wt.cell? ⟨b, k - 1, none⟩ = some (.int .i64 v1) := iv_cell HAR.out (by rw [List.getElem?_set_ne (by omega), z2, hv1.out])
                have j1 : (0 : Int) ≤ ↑k - 1 := by omega
                have j2 : (↑k : Int) - 1 < ↑l.length := by omega
                rcases eqI l[k].b ((k : Int) - 1) with ⟨eb, peb⟩ | ⟨eb, peb⟩
                · replace peb := hid peb
                  have neb := bne_t eb
                  by_cases cv : v1 < 1
                  · have cw := decide_eq_true cv
                    go_wp2_with fail
                    go_quiet (fail)
                    go_wp2
                    go_ret
                    exact ⟨rbool (HBAD.out (by unfold Hid at *; exact step_two_bad (by first | exact .inl pe4 | exact .inr pe4) (by intro b' a' r' e; injection e with e1 e; subst e1; subst e; have := z3.1; have := Frm.size_pos a'; omega))).symm, below_drewN HBT.out _⟩
                  · have cw := decide_eq_false cv
                    obtain ⟨fa, r, rfl⟩ : ∃ fa r', r = fa :: r' := by
                      cases r with
                      | nil => have := hv1.out; simp only [StackOk] at z3; omega
                      | cons f r => exact ⟨f, r, rfl⟩
                    obtain ⟨z4, z5, z6⟩ := z3
                    have zq := Frm.size_pos fa
                    obtain ⟨v2, hv2⟩ : ∃ v2 : Int, Hid (v2 = ((k - fb.size - fa.size : Nat) : Int)) := ⟨_, rfl⟩
                    rcases eqI l[k].a (v1 - 1) with ⟨ea, pea⟩ | ⟨ea, pea⟩
                    · replace pea := hid pea
                      have nea := bne_t ea
                      have y2 : wt.cell? ⟨b, (l[k].a).toNat, none⟩ = some (.int .i64 v2) := iv_cell HAR.out (by rw [show (l[k].a).toNat = (k - fb.size) - 1 by have := pea.out; have := hv1.out; omega, List.getElem?_set_ne (by omega), z5, hv2.out])
                      have j3 : (0 : Int) ≤ l[k].a := by have := pea.out; omega
                      have j4 : l[k].a < ↑l.length := by have := pea.out; have := hv1.out; omega
                      rcases eqI l[k].key 0 with ⟨ky, pky⟩ | ⟨ky, pky⟩
                      · replace pky := hid pky
                        have nky := bne_t ky
                        rcases empty_eq l[k].text with ⟨tx, ptx⟩ | ⟨tx, ptx⟩
                        · go_wp2_with fail
                          go_quiet (fail)
                          obtain ⟨wq, hwq⟩ : ∃ wq : World, wq = wt.drewN nq := ⟨_, rfl⟩
                          have HARq : Hid (Arr 3 wq b (iv (st.set k k))) := hid (by rw [hwq]; exact HAR.out)
                          have HBTq : Hid (Below w.heap.size w wq) := hid (by rw [hwq]; exact below_drewN HBT.out _)
                          have q1 : wq.cell? ⟨wr.heap.size, 1, none⟩ = some (.int .i64 l[k].a) := by rw [hwq]; exact d1
                          have q3 : wq.cell? ⟨wr.heap.size, 3, none⟩ = some (.int .i64 l[k].key) := by rw [hwq]; exact d3
                          have q4 : wq.cell? ⟨wr.heap.size, 4, none⟩ = some (.string l[k].text) := by rw [hwq]; exact d4
                          have q5 : wq.cell? ⟨b, (l[k].a).toNat, none⟩ = some (.int .i64 v2) := by rw [hwq]; exact y2
                          have q6 : wq.cell? ⟨b, k, none⟩ = some (.int .i64 k) := by rw [hwq]; exact hk2
                          have q7 := HARq.out.free
                          have q8 := HARq.out.lt
                          rw [← hwq]
                          clear hwq d1 d2 d3 d4 y1 y2 hk2 hfr2 hbl2
                          go_wp2
                          have HS2 := hid (step_two (k := k) (b := fb) (a := fa) (r := r) (by unfold Hid at *; exact (by first | exact .inl pe4 | exact .inr pe4)) peb.out (by have := pea.out; have := hv1.out; omega) pky.out ptx)
                          exact ⟨⟨k + 1, (st.set k k).set k v2, _, by omega, by go_num, hid (by simp [hst.out]), hid (iv_set HARq.out k v2), hid ⟨tree_some hlt hS.out.1 HS2.out, by rw [List.set_set, hv2.out]; exact StackOk.push z6 (by simp only [Frm.size]; omega) (by rw [hst.out]; exact hlt)⟩, hid (HBTq.out.setCell (p := ⟨b, k, none⟩) hge _)⟩, by simp [intOf]; omega⟩
                        · go_wp2_with fail
                          go_quiet (fail)
                          obtain ⟨wq, hwq⟩ : ∃ wq : World, wq = wt.drewN nq := ⟨_, rfl⟩
                          have HARq : Hid (Arr 3 wq b (iv (st.set k k))) := hid (by rw [hwq]; exact HAR.out)
                          have HBTq : Hid (Below w.heap.size w wq) := hid (by rw [hwq]; exact below_drewN HBT.out _)
                          have q1 : wq.cell? ⟨wr.heap.size, 1, none⟩ = some (.int .i64 l[k].a) := by rw [hwq]; exact d1
                          have q3 : wq.cell? ⟨wr.heap.size, 3, none⟩ = some (.int .i64 l[k].key) := by rw [hwq]; exact d3
                          have q4 : wq.cell? ⟨wr.heap.size, 4, none⟩ = some (.string l[k].text) := by rw [hwq]; exact d4
                          have q5 : wq.cell? ⟨b, (l[k].a).toNat, none⟩ = some (.int .i64 v2) := by rw [hwq]; exact y2
                          have q6 : wq.cell? ⟨b, k, none⟩ = some (.int .i64 k) := by rw [hwq]; exact hk2
                          have q7 := HARq.out.free
                          have q8 := HARq.out.lt
                          rw [← hwq]
                          clear hwq d1 d2 d3 d4 y1 y2 hk2 hfr2 hbl2
                          go_wp2
                          go_ret
                          exact ⟨rbool (HBAD.out (by unfold Hid at *; exact step_two_bad (by first | exact .inl pe4 | exact .inr pe4) (by intro b' a' r' e; injection e with e1 e; subst e1; rintro ⟨q1, q2, q3, q4⟩; first | omega | exact ptx q4))).symm, HBTq.out.setCell (p := ⟨b, k, none⟩) hge _⟩
                      · replace pky := hid pky
                        have nky := bne_f ky
                        go_wp2_with fail
                        go_quiet (fail)
                        obtain ⟨wq, hwq⟩ : ∃ wq : World, wq = wt.drewN nq := ⟨_, rfl⟩
                        have HARq : Hid (Arr 3 wq b (iv (st.set k k))) := hid (by rw [hwq]; exact HAR.out)
                        have HBTq : Hid (Below w.heap.size w wq) := hid (by rw [hwq]; exact below_drewN HBT.out _)
                        have q1 : wq.cell? ⟨wr.heap.size, 1, none⟩ = some (.int .i64 l[k].a) := by rw [hwq]; exact d1
                        have q3 : wq.cell? ⟨wr.heap.size, 3, none⟩ = some (.int .i64 l[k].key) := by rw [hwq]; exact d3
                        have q4 : wq.cell? ⟨wr.heap.size, 4, none⟩ = some (.string l[k].text) := by rw [hwq]; exact d4
                        have q5 : wq.cell? ⟨b, (l[k].a).toNat, none⟩ = some (.int .i64 v2) := by rw [hwq]; exact y2
                        have q6 : wq.cell? ⟨b, k, none⟩ = some (.int .i64 k) := by rw [hwq]; exact hk2
                        have q7 := HARq.out.free
                        have q8 := HARq.out.lt
                        rw [← hwq]
                        clear hwq d1 d2 d3 d4 y1 y2 hk2 hfr2 hbl2
                        go_wp2
                        go_ret
                        exact ⟨rbool (HBAD.out (by unfold Hid at *; exact step_two_bad (by first | exact .inl pe4 | exact .inr pe4) (by intro b' a' r' e; injection e with e1 e; subst e1; rintro ⟨q1, q2, q3, q4⟩; first | omega | exact ptx q4))).symm, HBTq.out.setCell (p := ⟨b, k, none⟩) hge _⟩
                    · replace pea := hid pea
                      have nea := bne_f ea
                      go_wp2_with fail
                      go_quiet (fail)
                      go_wp2
                      go_ret
                      exact ⟨rbool (HBAD.out (by unfold Hid at *; exact step_two_bad (by first | exact .inl pe4 | exact .inr pe4) (by intro b' a' r' e; injection e with e1 e; subst e1; rintro ⟨q1, q2, q3, q4⟩; first | omega | exact ptx q4))).symm, below_drewN HBT.out _⟩
                · replace peb := hid peb
                  have neb := bne_f eb
                  go_wp2_with fail
                  go_quiet (fail)
                  go_wp2
                  go_ret
                  exact ⟨rbool (HBAD.out (by unfold Hid at *; exact step_two_bad (by first | exact .inl pe4 | exact .inr pe4) (by intro b' a' r' e; injection e with e1 e; subst e1; rintro ⟨q1, q2, q3, q4⟩; first | omega | exact ptx q4))).symm, below_drewN HBT.out _⟩
            · replace pe4 := hid pe4
              have ne4 := bne_f e4
              go_wp2
              go_ret
              exact ⟨rbool (HBAD.out (by unfold Hid at *; exact step_else pe1 pe2 pe3 pe4)).symm, HBT.out⟩
    · have hk' : k = l.length := by omega
      subst hk'
      have hfr := har.out.free
      have hT := hS.out.1
      rw [List.take_length] at hT
      have i2 : ¬ (↑l.length : Int) < ↑l.length := by omega
      by_cases h0 : l.length = 0
      · have hn : l = [] := List.eq_nil_of_length_eq_zero h0
        subst hn
        have HG : Hid ((decide (([] : List Node).length ≤ 15) && treeB []) = true) := hid rfl
        go_wp2
        go_ret
        exact ⟨rbool HG.out.symm, hb.out⟩
      · obtain ⟨fa, r, rfl⟩ : ∃ fa r, S = fa :: r := by
          cases S with
          | nil => have := hS.out.2; simp only [StackOk] at this; omega
          | cons f r => exact ⟨f, r, rfl⟩
        obtain ⟨z1, z2, -⟩ := hS.out.2
        have zp := Frm.size_pos fa
        obtain ⟨v1, hv1⟩ : ∃ v1 : Int, v1 = ((l.length - fa.size : Nat) : Int) := ⟨_, rfl⟩
        have y1 : wr.cell? ⟨b, l.length - 1, none⟩ = some (.int .i64 v1) := iv_cell har.out (by rw [z2, hv1])
        have j0 : ((l.length : Int) == 0) = false := by rw [beq_eq_false_iff_ne]; omega
        have j1 : (0 : Int) ≤ ↑l.length - 1 := by omega
        have j2 : (↑l.length : Int) - 1 < ↑l.length := by omega
        have HG := hid (HN.out.trans (tree_end (fun e => h0 (by rw [e]; rfl)) hT))
        have HV := hid (stack_one hS.out.2)
        have HV1 := hid hv1
        clear hv1 z1 z2 zp hT h0
        rcases eqI v1 0 with ⟨ev, pv⟩ | ⟨ev, pv⟩
        · go_wp2
          go_ret
          exact ⟨rbool (HG.out.trans (decide_eq_true (HV.out.2 (by have := HV1.out; omega)))).symm, hb.out⟩
        · go_wp2
          go_ret
          exact ⟨rbool (HG.out.trans (decide_eq_false (fun h => by have := HV.out.1 h; have := HV1.out; omega))).symm, hb.out⟩
end Go.Proofs.YtmdnleafpmondaaDoor
