/- Contract: linchpinref10.tree. -/
import Derived.Test.YtmdnleafpmondaaDoorU7
namespace Go.Proofs.YtmdnleafpmondaaDoor
open Go Go.RowKit

/-- Where trees end. -/
def openL : List Frm → Nat → List Int
  | [], _ => []
  | f :: r, i => openL r (i - f.size) ++ [(i : Int) - 1]
theorem openL_len (S : List Frm) : ∀ i, (openL S i).length = S.length := by
  induction S with
  | nil => intro i; rfl
  | cons f r ih => intro i; simp [openL, ih]
theorem openL_ok {S : List Frm} : ∀ {i : Nat}, i ≤ 100000 → ∀ x ∈ openL S i, I64 x := by
  induction S with
  | nil => intro i _ x hx; cases hx
  | cons f r ih =>
    intro i hi x hx
    rcases List.mem_append.1 hx with h | h
    · exact ih (by omega) x h
    · have : x = (i : Int) - 1 := by simpa using h
      subst this
      exact ⟨by omega, by omega⟩
theorem openL_last (f : Frm) (r : List Frm) (i : Nat) : (openL (f :: r) i)[r.length]? = some ((i : Int) - 1) := by
  simp only [openL]
  rw [List.getElem?_append_right (by rw [openL_len]; exact Nat.le_refl _), openL_len]
  simp
theorem openL_second (b a : Frm) (r : List Frm) (i : Nat) : (openL (b :: a :: r) i)[r.length]? = some (((i - b.size : Nat) : Int) - 1) := by
  have h := openL_last a r (i - b.size)
  rw [show openL (b :: a :: r) i = openL (a :: r) (i - b.size) ++ [(i : Int) - 1] from rfl, List.getElem?_append_left (by rw [openL_len]; simp)]
  exact h
theorem openL_take (f : Frm) (r : List Frm) (i : Nat) : (openL (f :: r) i).take r.length = openL r (i - f.size) := by
  simp only [openL]
  rw [List.take_append_of_le_length (by rw [openL_len]; exact Nat.le_refl _), List.take_of_length_le (by rw [openL_len]; exact Nat.le_refl _)]
theorem openL_take2 (b a : Frm) (r : List Frm) (i : Nat) : (openL (b :: a :: r) i).take r.length = openL r (i - b.size - a.size) := by
  have h := openL_take a r (i - b.size)
  rw [show openL (b :: a :: r) i = openL (a :: r) (i - b.size) ++ [(i : Int) - 1] from rfl, List.take_append_of_le_length (by rw [openL_len]; simp)]
  exact h
theorem sizes_of {l : List Node} {k : Nat} {S : List Frm} (hk : k ≤ l.length) (h : treeS 0 [] (l.take k) = some S) : sizes S = k := by
  have := (treeS_at h).len
  rw [gs_length, List.length_take] at this
  omega
theorem own_cell {α : Type} {f : Flat α} {e : TypeId} {B : Nat} {w : World} {v : Value} {l : List α} {g : Nat} {n c : Nat} (h : OwnF f e B w v l) (hv : v = .slice (some ⟨g, 0, none⟩) n c) {k j : Nat} (hk : k < l.length) (hj : j < f.size) : w.cell? ⟨g, k * f.size + j, none⟩ = (f.cells l[k])[j]? := by
  subst hv
  rcases h.1.2 with ⟨h1, _⟩ | ⟨g', cap, cur, h1, hb, hg, h3, h4, h5, h6⟩
  · cases h1
  · injection h1 with e1 e2 e3
    injection e1 with e1
    injection e1 with e1
    subst e1
    rw [cell_of_row w g _ cur e (0, 0) hg]
    have hlt : k * f.size + j < l.length * f.size := by
      have : (k + 1) * f.size ≤ l.length * f.size := Nat.mul_le_mul_right _ hk
      rw [Nat.add_mul, Nat.one_mul] at this
      omega
    show cur[k * f.size + j]? = _
    rw [← Array.getElem?_toList]
    have h7 := congrArg (fun x => x[k * f.size + j]?) h6
    simp only [List.getElem?_take_of_lt hlt] at h7
    rw [h7]
    exact f.all_get hk hj
theorem ints_cell {e : TypeId} {B : Nat} {w : World} {l : List Int} {g n c : Nat} (h : OwnF fInt e B w (.slice (some ⟨g, 0, none⟩) n c) l) {k : Nat} {x : Int} (hk : l[k]? = some x) : w.cell? ⟨g, k, none⟩ = some (.int .i64 x) := by
  obtain ⟨hl, hx⟩ := List.getElem?_eq_some_iff.1 hk
  have := own_cell h rfl hl (j := 0) (by decide)
  rw [show k * fInt.size + 0 = k from by show k * 1 + 0 = k; omega, hx] at this
  exact this
/-- The head of an own row. -/
theorem OwnF.cut {α : Type} {f : Flat α} {e : TypeId} {B : Nat} {w : World} {l : List α} {g n c : Nat} (h : OwnF f e B w (.slice (some ⟨g, 0, none⟩) n c) l) (m : Nat) (hm : m ≤ l.length) : OwnF f e B w (.slice (some ⟨g, 0, none⟩) m c) (l.take m) := by
  refine ⟨⟨by rw [f.all_length], ?_⟩, fun x hx => h.2 x (List.mem_of_mem_take hx)⟩
  rcases h.1.2 with ⟨h1, _⟩ | ⟨g', cap, cur, h1, hb, hg, h3, h4, h5, h6⟩
  · cases h1
  · injection h1 with e1 e2 e3
    injection e1 with e1
    injection e1 with e1
    subst e1; subst e3
    have hl : (l.take m).length = m := by rw [List.length_take]; omega
    refine .inr ⟨g, c, cur, by rw [hl], hb, hg, by rw [hl]; omega, h4, h5, ?_⟩
    rw [hl]
    have h7 := congrArg (List.take (m * f.size)) h6
    rw [List.take_take, Nat.min_eq_left (Nat.mul_le_mul_right _ hm)] at h7
    rw [h7]
    have : f.all l = f.all (l.take m) ++ f.all (l.drop m) := by rw [← f.all_append, List.take_append_drop]
    rw [this, List.take_append_of_le_length (by rw [f.all_length, hl]; exact Nat.le_refl _), List.take_of_length_le (by rw [f.all_length, hl]; exact Nat.le_refl _)]
theorem OwnF.cap {α : Type} {f : Flat α} {e : TypeId} {B : Nat} {w : World} {l : List α} {A : Option Addr} {n c : Nat} (h : OwnF f e B w (.slice A n c) l) : n = l.length ∧ l.length ≤ c ∧ c ≤ maxLen := by
  rcases h.1.2 with ⟨h1, h0⟩ | ⟨g', cap, cur, h1, hb, hg, h3, h4, h5, h6⟩
  · injection h1 with e1 e2 e3
    subst e2; subst e3
    exact ⟨h0.symm, by omega, by unfold maxLen; omega⟩
  · injection h1 with e1 e2 e3
    subst e3
    exact ⟨e2, h3, h4⟩

theorem bel_push {B n s : Nat} {w0 wx w4 : World} {o : Obj} {v : Value} {xs : List Value} {e : TypeId} (hb : Below B w0 wx) (hB : B ≤ wx.heap.size) (ho : wx.ownsRow B e s v n xs) (hg : (wx.alloc o).grownBy w4 v.ownBlock) : Below B w0 w4 :=
  (hb.alloc hB o).grown hg (hb.alloc hB o |>.size |> fun _ => by simp; omega) fun q hq => ((ho.alloc o).lt q hq).1
theorem open_push {w4 : World} {v4 : Value} {B n : Nat} {e : TypeId} {L L' : List Int} {k : Int} (hL : L.length = n) (hok : ∀ x ∈ L', I64 x) (hown4 : w4.ownsRow B e 1 v4 (n + 1) (fInt.all L ++ [.int .i64 k])) (he : L' = L ++ [k]) : OwnF fInt e B w4 v4 L' := by
  subst he; subst hL
  refine ⟨?_, hok⟩
  rw [fInt.all_snoc, List.length_append]
  exact hown4

set_option maxRecDepth 100000 in
set_option maxHeartbeats 8000000 in
theorem rtree_any (v : Value) (l : List Node) (w : World) (h : SliceRd tNode w (Lt w.heap.size) v l) (h15 : l.length ≤ 15) :
    Calls Tryd.prog 49 #[v] w fun e w' => e = .returned (.bool (treeB l)) ∧ Below w.heap.size w w' := by
  obtain ⟨A, cap, rfl, hcap, hmax, hc⟩ := h.nodes
  have HC := hid hc
  unfold maxLen at hmax
  clear h hc
  obtain ⟨ii, hii⟩ := info_parts int_info
  have HII := hid hii
  clear hii
  go_enter Tryd.func49, Tryd.ntmps49
  go_wp2
  go_loopw [3, 4] (fun ov iv' wr => ∃ (k : Nat) (S : List Frm), k ≤ l.length ∧ iv' = .int .i64 k ∧ Hid (OwnF fInt 3 w.heap.size wr ov (openL S k)) ∧ Hid (treeS 0 [] (l.take k) = some S) ∧ Hid (Below w.heap.size w wr)) (fun _ iv _ => l.length - (intOf iv).toNat)
  case atStart => exact ⟨0, [], Nat.zero_le _, rfl, hid (OwnF.nil _ _ _ _), hid rfl, hid (b0 w)⟩
  case round =>
    obtain ⟨k, S, hk, rfl, hown, hS, hb⟩ := hrel
    obtain ⟨Ao, co, rfl⟩ := hown.out.form
    obtain ⟨-, hco, hco2⟩ := hown.out.cap
    have hno := openL_len S k
    obtain ⟨n, hn⟩ : ∃ n, n = (openL S k).length := ⟨_, rfl⟩
    rw [← hn] at hco hno
    rw [← hn] at hown
    rw [← hn]
    unfold maxLen at hco2
    have hsz := hid (sizes_of hk hS.out)
    replace hn := hid hn
    replace hno := hid hno
    by_cases hlt : k < l.length
    · obtain ⟨g, o, hA, hF, g0, g1, g2, g3, g4, -⟩ := HC.out k hlt
      subst hA
      obtain ⟨c0, c1, c2, c3, c4⟩ := cells5 hb.out hF ⟨g0, g1, g2, g3, g4⟩
      clear g0 g1 g2 g3 g4
      have i1 : (0 : Int) ≤ ↑k := by omega
      have i2 : (↑k : Int) < ↑l.length := by omega
      have HBAD := hid (fun hs : stepS k S l[k] = none => tree_none hlt hS.out hs)
      have HNEXT := hid (fun (S' : List Frm) (hs : stepS k S l[k] = some S') => tree_some hlt hS.out hs)
      have hsn : S.length ≤ k := by
        have : ∀ S : List Frm, S.length ≤ sizes S := fun S => by
          induction S with
          | nil => exact Nat.le_refl _
          | cons f r ih => have := Frm.size_pos f; simp only [sizes, List.length_cons]; omega
        have := this S
        have := hsz.out
        omega
      have hn15 : n ≤ 15 := by have := hno.out; omega
      rcases Bool.eq_false_or_eq_true (leafB l[k]) with hleaf | hleaf
      · rcases eqI l[k].key 0 with ⟨ky, pky⟩ | ⟨ky, pky⟩
        · replace pky := hid pky
          have nky := bne_t ky
          rcases empty_eq l[k].text with ⟨tx, ptx⟩ | ⟨tx, ptx⟩
          · replace ptx := hid ptx
            have HOX : Hid (wr.ownsRow w.heap.size 3 1 (.slice Ao n co) n (fInt.all (openL S k))) := hid (by have := hown.out.1; rw [← hn.out] at this; exact this)
            go_wp2_with (first
              | (go_at_call 63; refine (leaf_any l[k] _).mono ?_; rintro e w2 ⟨rfl, hbw⟩; rw [hleaf]
                 have HB2 := hid (bstep (balloc (b0 wr) (.cells #[.int .i64 l[k].op, .int .i64 l[k].a, .int .i64 l[k].b, .int .i64 l[k].key, .string l[k].text] 49)) hbw)
                 have HBT := hid (hb.out.trans (HB2.out.mono hb.out.size))
                 have hbx : wr.heap.size < (wr.alloc (.cells #[.int .i64 l[k].op, .int .i64 l[k].a, .int .i64 l[k].b, .int .i64 l[k].key, .string l[k].text] 49)).heap.size := by simp
                 have HO2 := hid (hown.out.below HB2.out (Nat.le_refl _))
                 have d0 : w2.cell? ⟨wr.heap.size, 0, none⟩ = some (.int .i64 l[k].op) := cell_below hbw hbx (World.cell?_alloc_new ..)
                 have d1 : w2.cell? ⟨wr.heap.size, 1, none⟩ = some (.int .i64 l[k].a) := cell_below hbw hbx (World.cell?_alloc_new ..)
                 have d2 : w2.cell? ⟨wr.heap.size, 2, none⟩ = some (.int .i64 l[k].b) := cell_below hbw hbx (World.cell?_alloc_new ..)
                 have HOY := hid (ownsRow_below HOX.out HB2.out (fun q hq => (HOX.out.lt q hq).2)))
              | (at_builtin
                 refine wpList_append_src _ rfl (.tmp 101) (.tmp 103) _ rfl w.heap.size 3 ii _ 1 8 Tryd.underlying31 HII.out.1 HII.out.2.1 HII.out.2.2.1 HII.out.2.2.2 rfl (by omega) (.slice Ao (n) co) (n) (fInt.all (openL S k)) rfl (by exact HOY.out.alloc _) (some ⟨w2.heap.size, 0, none⟩) 1 1 [.int .i64 k] rfl (by exact src_new _ _ rfl 1 _ rfl rfl) (by simp [Value.oneCell']) (by unfold maxLen; omega) (by omega) (by exact (HBT.out.alloc HBT.out.size _).size) ?_
                 intro v4 w4 hown4 hg4 _))
            exact ⟨⟨k + 1, Frm.is l[k].key.toNat l[k].text :: S, by omega, by go_num, hid (open_push (hn.out.symm) (openL_ok (by omega)) hown4 (by simp [openL, Frm.size])), hid (HNEXT.out _ (by unfold Hid at *; exact step_is (of_decide_eq_true hleaf).1 (of_decide_eq_true hleaf).2.1 (of_decide_eq_true hleaf).2.2.1 (of_decide_eq_true hleaf).2.2.2.1 (of_decide_eq_true hleaf).2.2.2.2.1 (of_decide_eq_true hleaf).2.2.2.2.2)), hid (bel_push HBT.out HBT.out.size HOY.out hg4)⟩, by simp [intOf]; omega⟩
          · replace ptx := hid ptx
            have HOX : Hid (wr.ownsRow w.heap.size 3 1 (.slice Ao n co) n (fInt.all (openL S k))) := hid (by have := hown.out.1; rw [← hn.out] at this; exact this)
            go_wp2_with (first
              | (go_at_call 63; refine (leaf_any l[k] _).mono ?_; rintro e w2 ⟨rfl, hbw⟩; rw [hleaf]
                 have HB2 := hid (bstep (balloc (b0 wr) (.cells #[.int .i64 l[k].op, .int .i64 l[k].a, .int .i64 l[k].b, .int .i64 l[k].key, .string l[k].text] 49)) hbw)
                 have HBT := hid (hb.out.trans (HB2.out.mono hb.out.size))
                 have hbx : wr.heap.size < (wr.alloc (.cells #[.int .i64 l[k].op, .int .i64 l[k].a, .int .i64 l[k].b, .int .i64 l[k].key, .string l[k].text] 49)).heap.size := by simp
                 have HO2 := hid (hown.out.below HB2.out (Nat.le_refl _))
                 have d0 : w2.cell? ⟨wr.heap.size, 0, none⟩ = some (.int .i64 l[k].op) := cell_below hbw hbx (World.cell?_alloc_new ..)
                 have d1 : w2.cell? ⟨wr.heap.size, 1, none⟩ = some (.int .i64 l[k].a) := cell_below hbw hbx (World.cell?_alloc_new ..)
                 have d2 : w2.cell? ⟨wr.heap.size, 2, none⟩ = some (.int .i64 l[k].b) := cell_below hbw hbx (World.cell?_alloc_new ..)
                 have HOY := hid (ownsRow_below HOX.out HB2.out (fun q hq => (HOX.out.lt q hq).2)))
              | (at_builtin
                 refine wpList_append_src _ rfl (.tmp 101) (.tmp 103) _ rfl w.heap.size 3 ii _ 1 8 Tryd.underlying31 HII.out.1 HII.out.2.1 HII.out.2.2.1 HII.out.2.2.2 rfl (by omega) (.slice Ao (n) co) (n) (fInt.all (openL S k)) rfl (by exact HOY.out.alloc _) (some ⟨w2.heap.size, 0, none⟩) 1 1 [.int .i64 k] rfl (by exact src_new _ _ rfl 1 _ rfl rfl) (by simp [Value.oneCell']) (by unfold maxLen; omega) (by omega) (by exact (HBT.out.alloc HBT.out.size _).size) ?_
                 intro v4 w4 hown4 hg4 _))
            exact ⟨⟨k + 1, Frm.is l[k].key.toNat l[k].text :: S, by omega, by go_num, hid (open_push (hn.out.symm) (openL_ok (by omega)) hown4 (by simp [openL, Frm.size])), hid (HNEXT.out _ (by unfold Hid at *; exact step_is (of_decide_eq_true hleaf).1 (of_decide_eq_true hleaf).2.1 (of_decide_eq_true hleaf).2.2.1 (of_decide_eq_true hleaf).2.2.2.1 (of_decide_eq_true hleaf).2.2.2.2.1 (of_decide_eq_true hleaf).2.2.2.2.2)), hid (bel_push HBT.out HBT.out.size HOY.out hg4)⟩, by simp [intOf]; omega⟩
        · replace pky := hid pky
          have nky := bne_f ky
          have HOX : Hid (wr.ownsRow w.heap.size 3 1 (.slice Ao n co) n (fInt.all (openL S k))) := hid (by have := hown.out.1; rw [← hn.out] at this; exact this)
          go_wp2_with (first
            | (go_at_call 63; refine (leaf_any l[k] _).mono ?_; rintro e w2 ⟨rfl, hbw⟩; rw [hleaf]
               have HB2 := hid (bstep (balloc (b0 wr) (.cells #[.int .i64 l[k].op, .int .i64 l[k].a, .int .i64 l[k].b, .int .i64 l[k].key, .string l[k].text] 49)) hbw)
               have HBT := hid (hb.out.trans (HB2.out.mono hb.out.size))
               have hbx : wr.heap.size < (wr.alloc (.cells #[.int .i64 l[k].op, .int .i64 l[k].a, .int .i64 l[k].b, .int .i64 l[k].key, .string l[k].text] 49)).heap.size := by simp
               have HO2 := hid (hown.out.below HB2.out (Nat.le_refl _))
               have d0 : w2.cell? ⟨wr.heap.size, 0, none⟩ = some (.int .i64 l[k].op) := cell_below hbw hbx (World.cell?_alloc_new ..)
               have d1 : w2.cell? ⟨wr.heap.size, 1, none⟩ = some (.int .i64 l[k].a) := cell_below hbw hbx (World.cell?_alloc_new ..)
               have d2 : w2.cell? ⟨wr.heap.size, 2, none⟩ = some (.int .i64 l[k].b) := cell_below hbw hbx (World.cell?_alloc_new ..)
               have HOY := hid (ownsRow_below HOX.out HB2.out (fun q hq => (HOX.out.lt q hq).2)))
            | (at_builtin
               refine wpList_append_src _ rfl (.tmp 101) (.tmp 103) _ rfl w.heap.size 3 ii _ 1 8 Tryd.underlying31 HII.out.1 HII.out.2.1 HII.out.2.2.1 HII.out.2.2.2 rfl (by omega) (.slice Ao (n) co) (n) (fInt.all (openL S k)) rfl (by exact HOY.out.alloc _) (some ⟨w2.heap.size, 0, none⟩) 1 1 [.int .i64 k] rfl (by exact src_new _ _ rfl 1 _ rfl rfl) (by simp [Value.oneCell']) (by unfold maxLen; omega) (by omega) (by exact (HBT.out.alloc HBT.out.size _).size) ?_
               intro v4 w4 hown4 hg4 _))
          exact ⟨⟨k + 1, Frm.is l[k].key.toNat l[k].text :: S, by omega, by go_num, hid (open_push (hn.out.symm) (openL_ok (by omega)) hown4 (by simp [openL, Frm.size])), hid (HNEXT.out _ (by unfold Hid at *; exact step_is (of_decide_eq_true hleaf).1 (of_decide_eq_true hleaf).2.1 (of_decide_eq_true hleaf).2.2.1 (of_decide_eq_true hleaf).2.2.2.1 (of_decide_eq_true hleaf).2.2.2.2.1 (of_decide_eq_true hleaf).2.2.2.2.2)), hid (bel_push HBT.out HBT.out.size HOY.out hg4)⟩, by simp [intOf]; omega⟩
      · rcases eqI l[k].key 0 with ⟨ky, pky⟩ | ⟨ky, pky⟩
        · replace pky := hid pky
          have nky := bne_t ky
          rcases empty_eq l[k].text with ⟨tx, ptx⟩ | ⟨tx, ptx⟩
          · replace ptx := hid ptx
            rcases eqI l[k].op 2 with ⟨e2, pe2⟩ | ⟨e2, pe2⟩
            · replace pe2 := hid pe2
              have ne2 := bne_t e2
              have e3 : (l[k].op == 3) = false := by rw [beq_eq_false_iff_ne]; have := pe2.out; omega
              have e4 : (l[k].op == 4) = false := by rw [beq_eq_false_iff_ne]; have := pe2.out; omega
              by_cases k1 : n = 0
              · have k2 : decide ((0 : Int) < ↑n) = false := decide_eq_false (by omega)
                have k3 : decide (0 < n) = false := decide_eq_false (by omega)
                have S0 : S = [] := List.eq_nil_of_length_eq_zero (by have := hno.out; omega)
                go_wp2_with (first
                  | (go_at_call 63; refine (leaf_any l[k] _).mono ?_; rintro e w2 ⟨rfl, hbw⟩; rw [hleaf]
                     have HB2 := hid (bstep (balloc (b0 wr) (.cells #[.int .i64 l[k].op, .int .i64 l[k].a, .int .i64 l[k].b, .int .i64 l[k].key, .string l[k].text] 49)) hbw)
                     have HBT := hid (hb.out.trans (HB2.out.mono hb.out.size))
                     have hbx : wr.heap.size < (wr.alloc (.cells #[.int .i64 l[k].op, .int .i64 l[k].a, .int .i64 l[k].b, .int .i64 l[k].key, .string l[k].text] 49)).heap.size := by simp
                     have HO2 := hid (hown.out.below HB2.out (Nat.le_refl _))
                     have d0 : w2.cell? ⟨wr.heap.size, 0, none⟩ = some (.int .i64 l[k].op) := cell_below hbw hbx (World.cell?_alloc_new ..)
                     have d1 : w2.cell? ⟨wr.heap.size, 1, none⟩ = some (.int .i64 l[k].a) := cell_below hbw hbx (World.cell?_alloc_new ..)
                     have d2 : w2.cell? ⟨wr.heap.size, 2, none⟩ = some (.int .i64 l[k].b) := cell_below hbw hbx (World.cell?_alloc_new ..)
                     skip))
                go_quiet (fail)
                go_wp2_with fail
                go_quiet (fail)
                go_wp2
                go_ret
                exact ⟨rbool (HBAD.out (by unfold Hid at *; exact step_no_bad pe2 (.inl S0))).symm, below_drewN (below_drewN HBT.out _) _⟩
              · obtain ⟨fa, r, rfl⟩ : ∃ fa r, S = fa :: r := by
                  cases S with
                  | nil => have := hno.out; simp at this; omega
                  | cons f r => exact ⟨f, r, rfl⟩
                obtain ⟨gq, cq, hvq, -⟩ := hown.out.block (by rw [openL_len]; simp)
                injection hvq with e1 e2 e3
                subst e1; subst e3
                clear e2
                obtain ⟨rl, hrl⟩ : ∃ rl, rl = r.length := ⟨_, rfl⟩
                have hnr : Hid (n = rl + 1) := hid (by have := hno.out; rw [List.length_cons] at this; omega)
                replace hrl := hid hrl
                have hn1 : 1 ≤ n := by have := hnr.out; omega
                have zp := Frm.size_pos fa
                have k2 := decide_eq_true (show (0 : Int) < ↑n by omega)
                have k3 := decide_eq_true (show 0 < n by omega)
                have j1 : (0 : Int) ≤ ↑n - 1 := by omega
                have j2 : (↑n : Int) - 1 < ↑n := by omega
                have j3 : (↑n : Int) - 1 ≤ ↑co := by omega
                have y1 : wr.cell? ⟨gq, n - 1, none⟩ = some (.int .i64 ((k : Int) - 1)) := ints_cell hown.out (by rw [hnr.out, Nat.add_sub_cancel, hrl.out]; exact openL_last fa r k)
                have hgq : gq < wr.heap.size := (hown.out.1.lt gq rfl).2
                rcases eqI l[k].a ((k : Int) - 1) with ⟨ea, pea⟩ | ⟨ea, pea⟩
                · replace pea := hid pea
                  have nea := bne_t ea
                  rcases eqI l[k].b 0 with ⟨eb, peb⟩ | ⟨eb, peb⟩
                  · replace peb := hid peb
                    have neb := bne_t eb
                    go_wp2_with (first
                      | (go_at_call 63; refine (leaf_any l[k] _).mono ?_; rintro e w2 ⟨rfl, hbw⟩; rw [hleaf]
                         have HB2 := hid (bstep (balloc (b0 wr) (.cells #[.int .i64 l[k].op, .int .i64 l[k].a, .int .i64 l[k].b, .int .i64 l[k].key, .string l[k].text] 49)) hbw)
                         have HBT := hid (hb.out.trans (HB2.out.mono hb.out.size))
                         have hbx : wr.heap.size < (wr.alloc (.cells #[.int .i64 l[k].op, .int .i64 l[k].a, .int .i64 l[k].b, .int .i64 l[k].key, .string l[k].text] 49)).heap.size := by simp
                         have HO2 := hid (hown.out.below HB2.out (Nat.le_refl _))
                         have d0 : w2.cell? ⟨wr.heap.size, 0, none⟩ = some (.int .i64 l[k].op) := cell_below hbw hbx (World.cell?_alloc_new ..)
                         have d1 : w2.cell? ⟨wr.heap.size, 1, none⟩ = some (.int .i64 l[k].a) := cell_below hbw hbx (World.cell?_alloc_new ..)
                         have d2 : w2.cell? ⟨wr.heap.size, 2, none⟩ = some (.int .i64 l[k].b) := cell_below hbw hbx (World.cell?_alloc_new ..)
                         have y2 := cell_below HB2.out hgq y1))
                    go_quiet (fail)
                    obtain ⟨wq, hwq⟩ : ∃ wq : World, wq = w2.drewN nq := ⟨_, rfl⟩
                    have HBTq := hid (show Below w.heap.size w wq by rw [hwq]; exact below_drewN HBT.out _)
                    have HOY : Hid (wq.ownsRow w.heap.size 3 1 (.slice (some ⟨gq, 0, none⟩) (n - 1) co) (n - 1) (fInt.all (openL r (k - fa.size)))) := hid (by
                      have h1 := HO2.out.cut (n - 1) (by have := hnr.out; have := hrl.out; rw [openL_len, List.length_cons]; omega)
                      rw [show (openL (fa :: r) k).take (n - 1) = openL r (k - fa.size) by rw [hnr.out, Nat.add_sub_cancel, hrl.out]; exact openL_take fa r k] at h1
                      have h2 := h1.1
                      rw [openL_len, show r.length = n - 1 by have := hnr.out; have := hrl.out; omega] at h2
                      rw [hwq]
                      exact h2)
                    rw [← hwq]
                    clear hwq
                    go_wp2_with (first
                      | (at_builtin
                         refine wpList_append_src _ rfl (.tmp 101) (.tmp 103) _ rfl w.heap.size 3 ii _ 1 8 Tryd.underlying31 HII.out.1 HII.out.2.1 HII.out.2.2.1 HII.out.2.2.2 rfl (by omega) (.slice (some ⟨gq, 0, none⟩) (n - 1) co) (n - 1) (fInt.all (openL r (k - fa.size))) rfl (by exact HOY.out.alloc _) (some ⟨wq.heap.size, 0, none⟩) 1 1 [.int .i64 k] rfl (by exact src_new _ _ rfl 1 _ rfl rfl) (by simp [Value.oneCell']) (by unfold maxLen; omega) (by omega) (by exact (HBTq.out.alloc HBTq.out.size _).size) ?_
                         intro v4 w4 hown4 hg4 _))
                    exact ⟨⟨k + 1, Frm.no fa :: r, by omega, by go_num, hid (open_push (by have := hnr.out; have := hrl.out; rw [openL_len]; omega) (openL_ok (by omega)) hown4 (by simp only [openL, Frm.size]; congr 1; (congr 1; omega); (congr 1; omega))), hid (HNEXT.out _ (by unfold Hid at *; exact step_no pe2 pea peb pky ptx)), hid (bel_push HBTq.out HBTq.out.size HOY.out hg4)⟩, by simp [intOf]; omega⟩
                  · replace peb := hid peb
                    have neb := bne_f eb
                    go_wp2_with (first
                      | (go_at_call 63; refine (leaf_any l[k] _).mono ?_; rintro e w2 ⟨rfl, hbw⟩; rw [hleaf]
                         have HB2 := hid (bstep (balloc (b0 wr) (.cells #[.int .i64 l[k].op, .int .i64 l[k].a, .int .i64 l[k].b, .int .i64 l[k].key, .string l[k].text] 49)) hbw)
                         have HBT := hid (hb.out.trans (HB2.out.mono hb.out.size))
                         have hbx : wr.heap.size < (wr.alloc (.cells #[.int .i64 l[k].op, .int .i64 l[k].a, .int .i64 l[k].b, .int .i64 l[k].key, .string l[k].text] 49)).heap.size := by simp
                         have HO2 := hid (hown.out.below HB2.out (Nat.le_refl _))
                         have d0 : w2.cell? ⟨wr.heap.size, 0, none⟩ = some (.int .i64 l[k].op) := cell_below hbw hbx (World.cell?_alloc_new ..)
                         have d1 : w2.cell? ⟨wr.heap.size, 1, none⟩ = some (.int .i64 l[k].a) := cell_below hbw hbx (World.cell?_alloc_new ..)
                         have d2 : w2.cell? ⟨wr.heap.size, 2, none⟩ = some (.int .i64 l[k].b) := cell_below hbw hbx (World.cell?_alloc_new ..)
                         have y2 := cell_below HB2.out hgq y1))
                    go_quiet (fail)
                    go_wp2_with fail
                    go_quiet (fail)
                    go_wp2
                    go_ret
                    exact ⟨rbool (HBAD.out (by unfold Hid at *; exact step_no_bad pe2 (.inr (by rintro ⟨q1, q2, q3, q4⟩; first | omega | exact ptx q4)))).symm, below_drewN (below_drewN HBT.out _) _⟩
                · replace pea := hid pea
                  have nea := bne_f ea
                  go_wp2_with (first
                    | (go_at_call 63; refine (leaf_any l[k] _).mono ?_; rintro e w2 ⟨rfl, hbw⟩; rw [hleaf]
                       have HB2 := hid (bstep (balloc (b0 wr) (.cells #[.int .i64 l[k].op, .int .i64 l[k].a, .int .i64 l[k].b, .int .i64 l[k].key, .string l[k].text] 49)) hbw)
                       have HBT := hid (hb.out.trans (HB2.out.mono hb.out.size))
                       have hbx : wr.heap.size < (wr.alloc (.cells #[.int .i64 l[k].op, .int .i64 l[k].a, .int .i64 l[k].b, .int .i64 l[k].key, .string l[k].text] 49)).heap.size := by simp
                       have HO2 := hid (hown.out.below HB2.out (Nat.le_refl _))
                       have d0 : w2.cell? ⟨wr.heap.size, 0, none⟩ = some (.int .i64 l[k].op) := cell_below hbw hbx (World.cell?_alloc_new ..)
                       have d1 : w2.cell? ⟨wr.heap.size, 1, none⟩ = some (.int .i64 l[k].a) := cell_below hbw hbx (World.cell?_alloc_new ..)
                       have d2 : w2.cell? ⟨wr.heap.size, 2, none⟩ = some (.int .i64 l[k].b) := cell_below hbw hbx (World.cell?_alloc_new ..)
                       have y2 := cell_below HB2.out hgq y1))
                  go_quiet (fail)
                  go_wp2_with fail
                  go_quiet (fail)
                  go_wp2
                  go_ret
                  exact ⟨rbool (HBAD.out (by unfold Hid at *; exact step_no_bad pe2 (.inr (by rintro ⟨q1, q2, q3, q4⟩; first | omega | exact ptx q4)))).symm, below_drewN (below_drewN HBT.out _) _⟩
            · replace pe2 := hid pe2
              have ne2 := bne_f e2
              rcases eqI l[k].op 3 with ⟨e3, pe3⟩ | ⟨e3, pe3⟩
              · replace pe3 := hid pe3
                have ne3 := bne_t e3
                have e4 : (l[k].op == 4) = false := by rw [beq_eq_false_iff_ne]; have := pe3.out; omega
                by_cases k1 : n < 2
                · have k2 : decide ((1 : Int) < ↑n) = false := decide_eq_false (by omega)
                  have k3 : decide (1 < n) = false := decide_eq_false (by omega)
                  go_wp2_with (first
                    | (go_at_call 63; refine (leaf_any l[k] _).mono ?_; rintro e w2 ⟨rfl, hbw⟩; rw [hleaf]
                       have HB2 := hid (bstep (balloc (b0 wr) (.cells #[.int .i64 l[k].op, .int .i64 l[k].a, .int .i64 l[k].b, .int .i64 l[k].key, .string l[k].text] 49)) hbw)
                       have HBT := hid (hb.out.trans (HB2.out.mono hb.out.size))
                       have hbx : wr.heap.size < (wr.alloc (.cells #[.int .i64 l[k].op, .int .i64 l[k].a, .int .i64 l[k].b, .int .i64 l[k].key, .string l[k].text] 49)).heap.size := by simp
                       have HO2 := hid (hown.out.below HB2.out (Nat.le_refl _))
                       have d0 : w2.cell? ⟨wr.heap.size, 0, none⟩ = some (.int .i64 l[k].op) := cell_below hbw hbx (World.cell?_alloc_new ..)
                       have d1 : w2.cell? ⟨wr.heap.size, 1, none⟩ = some (.int .i64 l[k].a) := cell_below hbw hbx (World.cell?_alloc_new ..)
                       have d2 : w2.cell? ⟨wr.heap.size, 2, none⟩ = some (.int .i64 l[k].b) := cell_below hbw hbx (World.cell?_alloc_new ..)
                       skip))
                  go_quiet (fail)
                  go_wp2_with fail
                  go_quiet (fail)
                  go_wp2
                  go_ret
                  exact ⟨rbool (HBAD.out (by unfold Hid at *; exact step_two_bad (by first | exact .inl pe3 | exact .inr pe3) (by intro b' a' r' e; have := hno; rw [e] at this; simp at this; omega))).symm, below_drewN (below_drewN HBT.out _) _⟩
                · obtain ⟨fb, fa, r, rfl⟩ : ∃ fb fa r, S = fb :: fa :: r := by
                    have h := hno.out
                    match S, h with
                    | [], h => simp at h; omega
                    | [_], h => simp at h; omega
                    | f :: g :: r, _ => exact ⟨f, g, r, rfl⟩
                  obtain ⟨gq, cq, hvq, -⟩ := hown.out.block (by rw [openL_len]; simp)
                  injection hvq with e1 e2 e3
                  subst e1; subst e3
                  clear e2
                  obtain ⟨rl, hrl⟩ : ∃ rl, rl = r.length := ⟨_, rfl⟩
                  have hnr : Hid (n = rl + 2) := hid (by have := hno.out; rw [List.length_cons, List.length_cons] at this; omega)
                  replace hrl := hid hrl
                  have zp := Frm.size_pos fa
                  have zq := Frm.size_pos fb
                  obtain ⟨v2, hv2⟩ : ∃ v2 : Int, Hid (v2 = ((k - fb.size : Nat) : Int) - 1) := ⟨_, rfl⟩
                  have k2 := decide_eq_true (show (1 : Int) < ↑n by omega)
                  have k3 := decide_eq_true (show 1 < n by omega)
                  have j1 : (0 : Int) ≤ ↑n - 1 := by omega
                  have j2 : (↑n : Int) - 1 < ↑n := by omega
                  have j3 : (↑n : Int) - 2 ≤ ↑co := by omega
                  have j4 : (0 : Int) ≤ ↑n - 2 := by omega
                  have j5 : (↑n : Int) - 2 < ↑n := by omega
                  have y1 : wr.cell? ⟨gq, n - 1, none⟩ = some (.int .i64 ((k : Int) - 1)) := ints_cell hown.out (by rw [hnr.out, show rl + 2 - 1 = (fa :: r).length by rw [List.length_cons, ← hrl.out]; omega]; exact openL_last fb (fa :: r) k)
                  have y2 : wr.cell? ⟨gq, n - 2, none⟩ = some (.int .i64 v2) := ints_cell hown.out (by rw [hnr.out, Nat.add_sub_cancel, hrl.out, hv2.out]; exact openL_second fb fa r k)
                  have hgq : gq < wr.heap.size := (hown.out.1.lt gq rfl).2
                  have hszb : Hid (fb.size ≤ k) := hid (by have := hsz.out; simp only [sizes] at this; omega)
                  rcases eqI l[k].a v2 with ⟨ea, pea⟩ | ⟨ea, pea⟩
                  · replace pea := hid pea
                    have nea := bne_t ea
                    rcases eqI l[k].b ((k : Int) - 1) with ⟨eb, peb⟩ | ⟨eb, peb⟩
                    · replace peb := hid peb
                      have neb := bne_t eb
                      go_wp2_with (first
                        | (go_at_call 63; refine (leaf_any l[k] _).mono ?_; rintro e w2 ⟨rfl, hbw⟩; rw [hleaf]
                           have HB2 := hid (bstep (balloc (b0 wr) (.cells #[.int .i64 l[k].op, .int .i64 l[k].a, .int .i64 l[k].b, .int .i64 l[k].key, .string l[k].text] 49)) hbw)
                           have HBT := hid (hb.out.trans (HB2.out.mono hb.out.size))
                           have hbx : wr.heap.size < (wr.alloc (.cells #[.int .i64 l[k].op, .int .i64 l[k].a, .int .i64 l[k].b, .int .i64 l[k].key, .string l[k].text] 49)).heap.size := by simp
                           have HO2 := hid (hown.out.below HB2.out (Nat.le_refl _))
                           have d0 : w2.cell? ⟨wr.heap.size, 0, none⟩ = some (.int .i64 l[k].op) := cell_below hbw hbx (World.cell?_alloc_new ..)
                           have d1 : w2.cell? ⟨wr.heap.size, 1, none⟩ = some (.int .i64 l[k].a) := cell_below hbw hbx (World.cell?_alloc_new ..)
                           have d2 : w2.cell? ⟨wr.heap.size, 2, none⟩ = some (.int .i64 l[k].b) := cell_below hbw hbx (World.cell?_alloc_new ..)
                           have x1 := cell_below HB2.out hgq y1; have x2 := cell_below HB2.out hgq y2))
                      go_quiet (fail)
                      obtain ⟨wq, hwq⟩ : ∃ wq : World, wq = w2.drewN nq := ⟨_, rfl⟩
                      have HBTq := hid (show Below w.heap.size w wq by rw [hwq]; exact below_drewN HBT.out _)
                      have HOq : Hid (OwnF fInt 3 w.heap.size wq (.slice (some ⟨gq, 0, none⟩) n co) (openL (fb :: fa :: r) k)) := hid (by rw [hwq]; exact ⟨HO2.out.1, HO2.out.2⟩)
                      have q0 : wq.cell? ⟨wr.heap.size, 0, none⟩ = some (.int .i64 l[k].op) := by rw [hwq]; exact d0
                      have q1 : wq.cell? ⟨wr.heap.size, 1, none⟩ = some (.int .i64 l[k].a) := by rw [hwq]; exact d1
                      have q2 : wq.cell? ⟨wr.heap.size, 2, none⟩ = some (.int .i64 l[k].b) := by rw [hwq]; exact d2
                      have q3 : wq.cell? ⟨gq, n - 1, none⟩ = some (.int .i64 ((k : Int) - 1)) := by rw [hwq]; exact x1
                      have q4 : wq.cell? ⟨gq, n - 2, none⟩ = some (.int .i64 v2) := by rw [hwq]; exact x2
                      rw [← hwq]
                      clear hwq d0 d1 d2 x1 x2
                      go_wp2_with fail
                      go_quiet (fail)
                      obtain ⟨wz, hwz⟩ : ∃ wz : World, wz = wq.drewN nq := ⟨_, rfl⟩
                      have HBTz := hid (show Below w.heap.size w wz by rw [hwz]; exact below_drewN HBTq.out _)
                      have HOY : Hid (wz.ownsRow w.heap.size 3 1 (.slice (some ⟨gq, 0, none⟩) (n - 2) co) (n - 2) (fInt.all (openL r (k - fb.size - fa.size)))) := hid (by
                        have h1 := HOq.out.cut (n - 2) (by have := hnr.out; have := hrl.out; rw [openL_len, List.length_cons, List.length_cons]; omega)
                        rw [show (openL (fb :: fa :: r) k).take (n - 2) = openL r (k - fb.size - fa.size) by rw [hnr.out, Nat.add_sub_cancel, hrl.out]; exact openL_take2 fb fa r k] at h1
                        have h2 := h1.1
                        rw [openL_len, show r.length = n - 2 by have := hnr.out; have := hrl.out; omega] at h2
                        rw [hwz]
                        exact h2)
                      rw [← hwz]
                      clear hwz
                      go_wp2_with (first
                        | (at_builtin
                           refine wpList_append_src _ rfl (.tmp 101) (.tmp 103) _ rfl w.heap.size 3 ii _ 1 8 Tryd.underlying31 HII.out.1 HII.out.2.1 HII.out.2.2.1 HII.out.2.2.2 rfl (by omega) (.slice (some ⟨gq, 0, none⟩) (n - 2) co) (n - 2) (fInt.all (openL r (k - fb.size - fa.size))) rfl (by exact HOY.out.alloc _) (some ⟨wz.heap.size, 0, none⟩) 1 1 [.int .i64 k] rfl (by exact src_new _ _ rfl 1 _ rfl rfl) (by simp [Value.oneCell']) (by unfold maxLen; omega) (by omega) (by exact (HBTz.out.alloc HBTz.out.size _).size) ?_
                           intro v4 w4 hown4 hg4 _))
                      exact ⟨⟨k + 1, Frm.two (decide (l[k].op = 4)) fa fb :: r, by omega, by go_num, hid (open_push (by have := hnr.out; have := hrl.out; rw [openL_len]; omega) (openL_ok (by omega)) hown4 (by have := hsz.out; simp only [sizes] at this; simp only [openL, Frm.size]; congr 1; (congr 1; omega); (congr 1; omega))), hid (HNEXT.out _ (by unfold Hid at *; exact step_two (by first | exact .inl pe3 | exact .inr pe3) peb (by have := hsz; simp only [sizes] at this; omega) pky ptx)), hid (bel_push HBTz.out HBTz.out.size HOY.out hg4)⟩, by simp [intOf]; omega⟩
                    · replace peb := hid peb
                      have neb := bne_f eb
                      go_wp2_with (first
                        | (go_at_call 63; refine (leaf_any l[k] _).mono ?_; rintro e w2 ⟨rfl, hbw⟩; rw [hleaf]
                           have HB2 := hid (bstep (balloc (b0 wr) (.cells #[.int .i64 l[k].op, .int .i64 l[k].a, .int .i64 l[k].b, .int .i64 l[k].key, .string l[k].text] 49)) hbw)
                           have HBT := hid (hb.out.trans (HB2.out.mono hb.out.size))
                           have hbx : wr.heap.size < (wr.alloc (.cells #[.int .i64 l[k].op, .int .i64 l[k].a, .int .i64 l[k].b, .int .i64 l[k].key, .string l[k].text] 49)).heap.size := by simp
                           have HO2 := hid (hown.out.below HB2.out (Nat.le_refl _))
                           have d0 : w2.cell? ⟨wr.heap.size, 0, none⟩ = some (.int .i64 l[k].op) := cell_below hbw hbx (World.cell?_alloc_new ..)
                           have d1 : w2.cell? ⟨wr.heap.size, 1, none⟩ = some (.int .i64 l[k].a) := cell_below hbw hbx (World.cell?_alloc_new ..)
                           have d2 : w2.cell? ⟨wr.heap.size, 2, none⟩ = some (.int .i64 l[k].b) := cell_below hbw hbx (World.cell?_alloc_new ..)
                           have x1 := cell_below HB2.out hgq y1; have x2 := cell_below HB2.out hgq y2))
                      go_quiet (fail)
                      obtain ⟨wq, hwq⟩ : ∃ wq : World, wq = w2.drewN nq := ⟨_, rfl⟩
                      have HBTq := hid (show Below w.heap.size w wq by rw [hwq]; exact below_drewN HBT.out _)
                      have HOq : Hid (OwnF fInt 3 w.heap.size wq (.slice (some ⟨gq, 0, none⟩) n co) (openL (fb :: fa :: r) k)) := hid (by rw [hwq]; exact ⟨HO2.out.1, HO2.out.2⟩)
                      have q0 : wq.cell? ⟨wr.heap.size, 0, none⟩ = some (.int .i64 l[k].op) := by rw [hwq]; exact d0
                      have q1 : wq.cell? ⟨wr.heap.size, 1, none⟩ = some (.int .i64 l[k].a) := by rw [hwq]; exact d1
                      have q2 : wq.cell? ⟨wr.heap.size, 2, none⟩ = some (.int .i64 l[k].b) := by rw [hwq]; exact d2
                      have q3 : wq.cell? ⟨gq, n - 1, none⟩ = some (.int .i64 ((k : Int) - 1)) := by rw [hwq]; exact x1
                      have q4 : wq.cell? ⟨gq, n - 2, none⟩ = some (.int .i64 v2) := by rw [hwq]; exact x2
                      rw [← hwq]
                      clear hwq d0 d1 d2 x1 x2
                      go_wp2_with fail
                      go_quiet (fail)
                      go_wp2
                      go_ret
                      exact ⟨rbool (HBAD.out (by unfold Hid at *; exact step_two_bad (by first | exact .inl pe3 | exact .inr pe3) (by intro b' a' r' e; injection e with e1 e; subst e1; rintro ⟨q1', q2', q3', q4'⟩; omega))).symm, below_drewN HBTq.out _⟩
                  · replace pea := hid pea
                    have nea := bne_f ea
                    go_wp2_with (first
                      | (go_at_call 63; refine (leaf_any l[k] _).mono ?_; rintro e w2 ⟨rfl, hbw⟩; rw [hleaf]
                         have HB2 := hid (bstep (balloc (b0 wr) (.cells #[.int .i64 l[k].op, .int .i64 l[k].a, .int .i64 l[k].b, .int .i64 l[k].key, .string l[k].text] 49)) hbw)
                         have HBT := hid (hb.out.trans (HB2.out.mono hb.out.size))
                         have hbx : wr.heap.size < (wr.alloc (.cells #[.int .i64 l[k].op, .int .i64 l[k].a, .int .i64 l[k].b, .int .i64 l[k].key, .string l[k].text] 49)).heap.size := by simp
                         have HO2 := hid (hown.out.below HB2.out (Nat.le_refl _))
                         have d0 : w2.cell? ⟨wr.heap.size, 0, none⟩ = some (.int .i64 l[k].op) := cell_below hbw hbx (World.cell?_alloc_new ..)
                         have d1 : w2.cell? ⟨wr.heap.size, 1, none⟩ = some (.int .i64 l[k].a) := cell_below hbw hbx (World.cell?_alloc_new ..)
                         have d2 : w2.cell? ⟨wr.heap.size, 2, none⟩ = some (.int .i64 l[k].b) := cell_below hbw hbx (World.cell?_alloc_new ..)
                         have x1 := cell_below HB2.out hgq y1; have x2 := cell_below HB2.out hgq y2))
                    go_quiet (fail)
                    obtain ⟨wq, hwq⟩ : ∃ wq : World, wq = w2.drewN nq := ⟨_, rfl⟩
                    have HBTq := hid (show Below w.heap.size w wq by rw [hwq]; exact below_drewN HBT.out _)
                    have HOq : Hid (OwnF fInt 3 w.heap.size wq (.slice (some ⟨gq, 0, none⟩) n co) (openL (fb :: fa :: r) k)) := hid (by rw [hwq]; exact ⟨HO2.out.1, HO2.out.2⟩)
                    have q0 : wq.cell? ⟨wr.heap.size, 0, none⟩ = some (.int .i64 l[k].op) := by rw [hwq]; exact d0
                    have q1 : wq.cell? ⟨wr.heap.size, 1, none⟩ = some (.int .i64 l[k].a) := by rw [hwq]; exact d1
                    have q2 : wq.cell? ⟨wr.heap.size, 2, none⟩ = some (.int .i64 l[k].b) := by rw [hwq]; exact d2
                    have q3 : wq.cell? ⟨gq, n - 1, none⟩ = some (.int .i64 ((k : Int) - 1)) := by rw [hwq]; exact x1
                    have q4 : wq.cell? ⟨gq, n - 2, none⟩ = some (.int .i64 v2) := by rw [hwq]; exact x2
                    rw [← hwq]
                    clear hwq d0 d1 d2 x1 x2
                    go_wp2_with fail
                    go_quiet (fail)
                    go_wp2
                    go_ret
                    exact ⟨rbool (HBAD.out (by unfold Hid at *; exact step_two_bad (by first | exact .inl pe3 | exact .inr pe3) (by intro b' a' r' e; injection e with e1 e; subst e1; rintro ⟨q1', q2', q3', q4'⟩; omega))).symm, below_drewN HBTq.out _⟩
              · replace pe3 := hid pe3
                have ne3 := bne_f e3
                rcases eqI l[k].op 4 with ⟨e4, pe4⟩ | ⟨e4, pe4⟩
                · replace pe4 := hid pe4
                  have ne4 := bne_t e4
                  by_cases k1 : n < 2
                  · have k2 : decide ((1 : Int) < ↑n) = false := decide_eq_false (by omega)
                    have k3 : decide (1 < n) = false := decide_eq_false (by omega)
                    go_wp2_with (first
                      | (go_at_call 63; refine (leaf_any l[k] _).mono ?_; rintro e w2 ⟨rfl, hbw⟩; rw [hleaf]
                         have HB2 := hid (bstep (balloc (b0 wr) (.cells #[.int .i64 l[k].op, .int .i64 l[k].a, .int .i64 l[k].b, .int .i64 l[k].key, .string l[k].text] 49)) hbw)
                         have HBT := hid (hb.out.trans (HB2.out.mono hb.out.size))
                         have hbx : wr.heap.size < (wr.alloc (.cells #[.int .i64 l[k].op, .int .i64 l[k].a, .int .i64 l[k].b, .int .i64 l[k].key, .string l[k].text] 49)).heap.size := by simp
                         have HO2 := hid (hown.out.below HB2.out (Nat.le_refl _))
                         have d0 : w2.cell? ⟨wr.heap.size, 0, none⟩ = some (.int .i64 l[k].op) := cell_below hbw hbx (World.cell?_alloc_new ..)
                         have d1 : w2.cell? ⟨wr.heap.size, 1, none⟩ = some (.int .i64 l[k].a) := cell_below hbw hbx (World.cell?_alloc_new ..)
                         have d2 : w2.cell? ⟨wr.heap.size, 2, none⟩ = some (.int .i64 l[k].b) := cell_below hbw hbx (World.cell?_alloc_new ..)
                         skip))
                    go_quiet (fail)
                    go_wp2_with fail
                    go_quiet (fail)
                    go_wp2
                    go_ret
                    exact ⟨rbool (HBAD.out (by unfold Hid at *; exact step_two_bad (by first | exact .inl pe4 | exact .inr pe4) (by intro b' a' r' e; have := hno; rw [e] at this; simp at this; omega))).symm, below_drewN (below_drewN HBT.out _) _⟩
                  · obtain ⟨fb, fa, r, rfl⟩ : ∃ fb fa r, S = fb :: fa :: r := by
                      have h := hno.out
                      match S, h with
                      | [], h => simp at h; omega
                      | [_], h => simp at h; omega
                      | f :: g :: r, _ => exact ⟨f, g, r, rfl⟩
                    obtain ⟨gq, cq, hvq, -⟩ := hown.out.block (by rw [openL_len]; simp)
                    injection hvq with e1 e2 e3
                    subst e1; subst e3
                    clear e2
                    obtain ⟨rl, hrl⟩ : ∃ rl, rl = r.length := ⟨_, rfl⟩
                    have hnr : Hid (n = rl + 2) := hid (by have := hno.out; rw [List.length_cons, List.length_cons] at this; omega)
                    replace hrl := hid hrl
                    have zp := Frm.size_pos fa
                    have zq := Frm.size_pos fb
                    obtain ⟨v2, hv2⟩ : ∃ v2 : Int, Hid (v2 = ((k - fb.size : Nat) : Int) - 1) := ⟨_, rfl⟩
                    have k2 := decide_eq_true (show (1 : Int) < ↑n by omega)
                    have k3 := decide_eq_true (show 1 < n by omega)
                    have j1 : (0 : Int) ≤ ↑n - 1 := by omega
                    have j2 : (↑n : Int) - 1 < ↑n := by omega
                    have j3 : (↑n : Int) - 2 ≤ ↑co := by omega
                    have j4 : (0 : Int) ≤ ↑n - 2 := by omega
                    have j5 : (↑n : Int) - 2 < ↑n := by omega
                    have y1 : wr.cell? ⟨gq, n - 1, none⟩ = some (.int .i64 ((k : Int) - 1)) := ints_cell hown.out (by rw [hnr.out, show rl + 2 - 1 = (fa :: r).length by rw [List.length_cons, ← hrl.out]; omega]; exact openL_last fb (fa :: r) k)
                    have y2 : wr.cell? ⟨gq, n - 2, none⟩ = some (.int .i64 v2) := ints_cell hown.out (by rw [hnr.out, Nat.add_sub_cancel, hrl.out, hv2.out]; exact openL_second fb fa r k)
                    have hgq : gq < wr.heap.size := (hown.out.1.lt gq rfl).2
                    have hszb : Hid (fb.size ≤ k) := hid (by have := hsz.out; simp only [sizes] at this; omega)
                    rcases eqI l[k].a v2 with ⟨ea, pea⟩ | ⟨ea, pea⟩
                    · replace pea := hid pea
                      have nea := bne_t ea
                      rcases eqI l[k].b ((k : Int) - 1) with ⟨eb, peb⟩ | ⟨eb, peb⟩
                      · replace peb := hid peb
                        have neb := bne_t eb
                        go_wp2_with (first
                          | (go_at_call 63; refine (leaf_any l[k] _).mono ?_; rintro e w2 ⟨rfl, hbw⟩; rw [hleaf]
                             have HB2 := hid (bstep (balloc (b0 wr) (.cells #[.int .i64 l[k].op, .int .i64 l[k].a, .int .i64 l[k].b, .int .i64 l[k].key, .string l[k].text] 49)) hbw)
                             have HBT := hid (hb.out.trans (HB2.out.mono hb.out.size))
                             have hbx : wr.heap.size < (wr.alloc (.cells #[.int .i64 l[k].op, .int .i64 l[k].a, .int .i64 l[k].b, .int .i64 l[k].key, .string l[k].text] 49)).heap.size := by simp
                             have HO2 := hid (hown.out.below HB2.out (Nat.le_refl _))
                             have d0 : w2.cell? ⟨wr.heap.size, 0, none⟩ = some (.int .i64 l[k].op) := cell_below hbw hbx (World.cell?_alloc_new ..)
                             have d1 : w2.cell? ⟨wr.heap.size, 1, none⟩ = some (.int .i64 l[k].a) := cell_below hbw hbx (World.cell?_alloc_new ..)
                             have d2 : w2.cell? ⟨wr.heap.size, 2, none⟩ = some (.int .i64 l[k].b) := cell_below hbw hbx (World.cell?_alloc_new ..)
                             have x1 := cell_below HB2.out hgq y1; have x2 := cell_below HB2.out hgq y2))
                        go_quiet (fail)
                        obtain ⟨wq, hwq⟩ : ∃ wq : World, wq = w2.drewN nq := ⟨_, rfl⟩
                        have HBTq := hid (show Below w.heap.size w wq by rw [hwq]; exact below_drewN HBT.out _)
                        have HOq : Hid (OwnF fInt 3 w.heap.size wq (.slice (some ⟨gq, 0, none⟩) n co) (openL (fb :: fa :: r) k)) := hid (by rw [hwq]; exact ⟨HO2.out.1, HO2.out.2⟩)
                        have q0 : wq.cell? ⟨wr.heap.size, 0, none⟩ = some (.int .i64 l[k].op) := by rw [hwq]; exact d0
                        have q1 : wq.cell? ⟨wr.heap.size, 1, none⟩ = some (.int .i64 l[k].a) := by rw [hwq]; exact d1
                        have q2 : wq.cell? ⟨wr.heap.size, 2, none⟩ = some (.int .i64 l[k].b) := by rw [hwq]; exact d2
                        have q3 : wq.cell? ⟨gq, n - 1, none⟩ = some (.int .i64 ((k : Int) - 1)) := by rw [hwq]; exact x1
                        have q4 : wq.cell? ⟨gq, n - 2, none⟩ = some (.int .i64 v2) := by rw [hwq]; exact x2
                        rw [← hwq]
                        clear hwq d0 d1 d2 x1 x2
                        go_wp2_with fail
                        go_quiet (fail)
                        obtain ⟨wz, hwz⟩ : ∃ wz : World, wz = wq.drewN nq := ⟨_, rfl⟩
                        have HBTz := hid (show Below w.heap.size w wz by rw [hwz]; exact below_drewN HBTq.out _)
                        have HOY : Hid (wz.ownsRow w.heap.size 3 1 (.slice (some ⟨gq, 0, none⟩) (n - 2) co) (n - 2) (fInt.all (openL r (k - fb.size - fa.size)))) := hid (by
                          have h1 := HOq.out.cut (n - 2) (by have := hnr.out; have := hrl.out; rw [openL_len, List.length_cons, List.length_cons]; omega)
                          rw [show (openL (fb :: fa :: r) k).take (n - 2) = openL r (k - fb.size - fa.size) by rw [hnr.out, Nat.add_sub_cancel, hrl.out]; exact openL_take2 fb fa r k] at h1
                          have h2 := h1.1
                          rw [openL_len, show r.length = n - 2 by have := hnr.out; have := hrl.out; omega] at h2
                          rw [hwz]
                          exact h2)
                        rw [← hwz]
                        clear hwz
                        go_wp2_with (first
                          | (at_builtin
                             refine wpList_append_src _ rfl (.tmp 101) (.tmp 103) _ rfl w.heap.size 3 ii _ 1 8 Tryd.underlying31 HII.out.1 HII.out.2.1 HII.out.2.2.1 HII.out.2.2.2 rfl (by omega) (.slice (some ⟨gq, 0, none⟩) (n - 2) co) (n - 2) (fInt.all (openL r (k - fb.size - fa.size))) rfl (by exact HOY.out.alloc _) (some ⟨wz.heap.size, 0, none⟩) 1 1 [.int .i64 k] rfl (by exact src_new _ _ rfl 1 _ rfl rfl) (by simp [Value.oneCell']) (by unfold maxLen; omega) (by omega) (by exact (HBTz.out.alloc HBTz.out.size _).size) ?_
                             intro v4 w4 hown4 hg4 _))
                        exact ⟨⟨k + 1, Frm.two (decide (l[k].op = 4)) fa fb :: r, by omega, by go_num, hid (open_push (by have := hnr.out; have := hrl.out; rw [openL_len]; omega) (openL_ok (by omega)) hown4 (by have := hsz.out; simp only [sizes] at this; simp only [openL, Frm.size]; congr 1; (congr 1; omega); (congr 1; omega))), hid (HNEXT.out _ (by unfold Hid at *; exact step_two (by first | exact .inl pe4 | exact .inr pe4) peb (by have := hsz; simp only [sizes] at this; omega) pky ptx)), hid (bel_push HBTz.out HBTz.out.size HOY.out hg4)⟩, by simp [intOf]; omega⟩
                      · replace peb := hid peb
                        have neb := bne_f eb
                        go_wp2_with (first
                          | (go_at_call 63; refine (leaf_any l[k] _).mono ?_; rintro e w2 ⟨rfl, hbw⟩; rw [hleaf]
                             have HB2 := hid (bstep (balloc (b0 wr) (.cells #[.int .i64 l[k].op, .int .i64 l[k].a, .int .i64 l[k].b, .int .i64 l[k].key, .string l[k].text] 49)) hbw)
                             have HBT := hid (hb.out.trans (HB2.out.mono hb.out.size))
                             have hbx : wr.heap.size < (wr.alloc (.cells #[.int .i64 l[k].op, .int .i64 l[k].a, .int .i64 l[k].b, .int .i64 l[k].key, .string l[k].text] 49)).heap.size := by simp
                             have HO2 := hid (hown.out.below HB2.out (Nat.le_refl _))
                             have d0 : w2.cell? ⟨wr.heap.size, 0, none⟩ = some (.int .i64 l[k].op) := cell_below hbw hbx (World.cell?_alloc_new ..)
                             have d1 : w2.cell? ⟨wr.heap.size, 1, none⟩ = some (.int .i64 l[k].a) := cell_below hbw hbx (World.cell?_alloc_new ..)
                             have d2 : w2.cell? ⟨wr.heap.size, 2, none⟩ = some (.int .i64 l[k].b) := cell_below hbw hbx (World.cell?_alloc_new ..)
                             have x1 := cell_below HB2.out hgq y1; have x2 := cell_below HB2.out hgq y2))
                        go_quiet (fail)
                        obtain ⟨wq, hwq⟩ : ∃ wq : World, wq = w2.drewN nq := ⟨_, rfl⟩
                        have HBTq := hid (show Below w.heap.size w wq by rw [hwq]; exact below_drewN HBT.out _)
                        have HOq : Hid (OwnF fInt 3 w.heap.size wq (.slice (some ⟨gq, 0, none⟩) n co) (openL (fb :: fa :: r) k)) := hid (by rw [hwq]; exact ⟨HO2.out.1, HO2.out.2⟩)
                        have q0 : wq.cell? ⟨wr.heap.size, 0, none⟩ = some (.int .i64 l[k].op) := by rw [hwq]; exact d0
                        have q1 : wq.cell? ⟨wr.heap.size, 1, none⟩ = some (.int .i64 l[k].a) := by rw [hwq]; exact d1
                        have q2 : wq.cell? ⟨wr.heap.size, 2, none⟩ = some (.int .i64 l[k].b) := by rw [hwq]; exact d2
                        have q3 : wq.cell? ⟨gq, n - 1, none⟩ = some (.int .i64 ((k : Int) - 1)) := by rw [hwq]; exact x1
                        have q4 : wq.cell? ⟨gq, n - 2, none⟩ = some (.int .i64 v2) := by rw [hwq]; exact x2
                        rw [← hwq]
                        clear hwq d0 d1 d2 x1 x2
                        go_wp2_with fail
                        go_quiet (fail)
                        go_wp2
                        go_ret
                        exact ⟨rbool (HBAD.out (by unfold Hid at *; exact step_two_bad (by first | exact .inl pe4 | exact .inr pe4) (by intro b' a' r' e; injection e with e1 e; subst e1; rintro ⟨q1', q2', q3', q4'⟩; omega))).symm, below_drewN HBTq.out _⟩
                    · replace pea := hid pea
                      have nea := bne_f ea
                      go_wp2_with (first
                        | (go_at_call 63; refine (leaf_any l[k] _).mono ?_; rintro e w2 ⟨rfl, hbw⟩; rw [hleaf]
                           have HB2 := hid (bstep (balloc (b0 wr) (.cells #[.int .i64 l[k].op, .int .i64 l[k].a, .int .i64 l[k].b, .int .i64 l[k].key, .string l[k].text] 49)) hbw)
                           have HBT := hid (hb.out.trans (HB2.out.mono hb.out.size))
                           have hbx : wr.heap.size < (wr.alloc (.cells #[.int .i64 l[k].op, .int .i64 l[k].a, .int .i64 l[k].b, .int .i64 l[k].key, .string l[k].text] 49)).heap.size := by simp
                           have HO2 := hid (hown.out.below HB2.out (Nat.le_refl _))
                           have d0 : w2.cell? ⟨wr.heap.size, 0, none⟩ = some (.int .i64 l[k].op) := cell_below hbw hbx (World.cell?_alloc_new ..)
                           have d1 : w2.cell? ⟨wr.heap.size, 1, none⟩ = some (.int .i64 l[k].a) := cell_below hbw hbx (World.cell?_alloc_new ..)
                           have d2 : w2.cell? ⟨wr.heap.size, 2, none⟩ = some (.int .i64 l[k].b) := cell_below hbw hbx (World.cell?_alloc_new ..)
                           have x1 := cell_below HB2.out hgq y1; have x2 := cell_below HB2.out hgq y2))
                      go_quiet (fail)
                      obtain ⟨wq, hwq⟩ : ∃ wq : World, wq = w2.drewN nq := ⟨_, rfl⟩
                      have HBTq := hid (show Below w.heap.size w wq by rw [hwq]; exact below_drewN HBT.out _)
                      have HOq : Hid (OwnF fInt 3 w.heap.size wq (.slice (some ⟨gq, 0, none⟩) n co) (openL (fb :: fa :: r) k)) := hid (by rw [hwq]; exact ⟨HO2.out.1, HO2.out.2⟩)
                      have q0 : wq.cell? ⟨wr.heap.size, 0, none⟩ = some (.int .i64 l[k].op) := by rw [hwq]; exact d0
                      have q1 : wq.cell? ⟨wr.heap.size, 1, none⟩ = some (.int .i64 l[k].a) := by rw [hwq]; exact d1
                      have q2 : wq.cell? ⟨wr.heap.size, 2, none⟩ = some (.int .i64 l[k].b) := by rw [hwq]; exact d2
                      have q3 : wq.cell? ⟨gq, n - 1, none⟩ = some (.int .i64 ((k : Int) - 1)) := by rw [hwq]; exact x1
                      have q4 : wq.cell? ⟨gq, n - 2, none⟩ = some (.int .i64 v2) := by rw [hwq]; exact x2
                      rw [← hwq]
                      clear hwq d0 d1 d2 x1 x2
                      go_wp2_with fail
                      go_quiet (fail)
                      go_wp2
                      go_ret
                      exact ⟨rbool (HBAD.out (by unfold Hid at *; exact step_two_bad (by first | exact .inl pe4 | exact .inr pe4) (by intro b' a' r' e; injection e with e1 e; subst e1; rintro ⟨q1', q2', q3', q4'⟩; omega))).symm, below_drewN HBTq.out _⟩
                · replace pe4 := hid pe4
                  have ne4 := bne_f e4
                  go_wp2_with (first
                    | (go_at_call 63; refine (leaf_any l[k] _).mono ?_; rintro e w2 ⟨rfl, hbw⟩; rw [hleaf]
                       have HB2 := hid (bstep (balloc (b0 wr) (.cells #[.int .i64 l[k].op, .int .i64 l[k].a, .int .i64 l[k].b, .int .i64 l[k].key, .string l[k].text] 49)) hbw)
                       have HBT := hid (hb.out.trans (HB2.out.mono hb.out.size))
                       have hbx : wr.heap.size < (wr.alloc (.cells #[.int .i64 l[k].op, .int .i64 l[k].a, .int .i64 l[k].b, .int .i64 l[k].key, .string l[k].text] 49)).heap.size := by simp
                       have HO2 := hid (hown.out.below HB2.out (Nat.le_refl _))
                       have d0 : w2.cell? ⟨wr.heap.size, 0, none⟩ = some (.int .i64 l[k].op) := cell_below hbw hbx (World.cell?_alloc_new ..)
                       have d1 : w2.cell? ⟨wr.heap.size, 1, none⟩ = some (.int .i64 l[k].a) := cell_below hbw hbx (World.cell?_alloc_new ..)
                       have d2 : w2.cell? ⟨wr.heap.size, 2, none⟩ = some (.int .i64 l[k].b) := cell_below hbw hbx (World.cell?_alloc_new ..)
                       skip))
                  go_quiet (fail)
                  go_wp2_with fail
                  go_quiet (fail)
                  go_wp2
                  go_ret
                  exact ⟨rbool (HBAD.out (by unfold Hid at *; exact (by by_cases p1 : l[k].op = 1; exact step_is_bad p1 (fun hh => by have := of_decide_eq_false hleaf; exact this ⟨p1, hh⟩); exact step_else p1 pe2 pe3 pe4))).symm, below_drewN (below_drewN HBT.out _) _⟩
          · replace ptx := hid ptx
            rcases eqI l[k].op 2 with ⟨e2, pe2⟩ | ⟨e2, pe2⟩
            · replace pe2 := hid pe2
              have ne2 := bne_t e2
              have e3 : (l[k].op == 3) = false := by rw [beq_eq_false_iff_ne]; have := pe2.out; omega
              have e4 : (l[k].op == 4) = false := by rw [beq_eq_false_iff_ne]; have := pe2.out; omega
              go_wp2_with (first
                | (go_at_call 63; refine (leaf_any l[k] _).mono ?_; rintro e w2 ⟨rfl, hbw⟩; rw [hleaf]
                   have HB2 := hid (bstep (balloc (b0 wr) (.cells #[.int .i64 l[k].op, .int .i64 l[k].a, .int .i64 l[k].b, .int .i64 l[k].key, .string l[k].text] 49)) hbw)
                   have HBT := hid (hb.out.trans (HB2.out.mono hb.out.size))
                   have hbx : wr.heap.size < (wr.alloc (.cells #[.int .i64 l[k].op, .int .i64 l[k].a, .int .i64 l[k].b, .int .i64 l[k].key, .string l[k].text] 49)).heap.size := by simp
                   have HO2 := hid (hown.out.below HB2.out (Nat.le_refl _))
                   have d0 : w2.cell? ⟨wr.heap.size, 0, none⟩ = some (.int .i64 l[k].op) := cell_below hbw hbx (World.cell?_alloc_new ..)
                   have d1 : w2.cell? ⟨wr.heap.size, 1, none⟩ = some (.int .i64 l[k].a) := cell_below hbw hbx (World.cell?_alloc_new ..)
                   have d2 : w2.cell? ⟨wr.heap.size, 2, none⟩ = some (.int .i64 l[k].b) := cell_below hbw hbx (World.cell?_alloc_new ..)
                   skip))
              go_quiet (fail)
              go_wp2_with fail
              go_quiet (fail)
              go_wp2
              go_ret
              exact ⟨rbool (HBAD.out (by unfold Hid at *; exact step_no_bad pe2 (.inr (by rintro ⟨q1, q2, q3, q4⟩; first | omega | exact ptx q4)))).symm, below_drewN (below_drewN HBT.out _) _⟩
            · replace pe2 := hid pe2
              have ne2 := bne_f e2
              rcases eqI l[k].op 3 with ⟨e3, pe3⟩ | ⟨e3, pe3⟩
              · replace pe3 := hid pe3
                have ne3 := bne_t e3
                have e4 : (l[k].op == 4) = false := by rw [beq_eq_false_iff_ne]; have := pe3.out; omega
                go_wp2_with (first
                  | (go_at_call 63; refine (leaf_any l[k] _).mono ?_; rintro e w2 ⟨rfl, hbw⟩; rw [hleaf]
                     have HB2 := hid (bstep (balloc (b0 wr) (.cells #[.int .i64 l[k].op, .int .i64 l[k].a, .int .i64 l[k].b, .int .i64 l[k].key, .string l[k].text] 49)) hbw)
                     have HBT := hid (hb.out.trans (HB2.out.mono hb.out.size))
                     have hbx : wr.heap.size < (wr.alloc (.cells #[.int .i64 l[k].op, .int .i64 l[k].a, .int .i64 l[k].b, .int .i64 l[k].key, .string l[k].text] 49)).heap.size := by simp
                     have HO2 := hid (hown.out.below HB2.out (Nat.le_refl _))
                     have d0 : w2.cell? ⟨wr.heap.size, 0, none⟩ = some (.int .i64 l[k].op) := cell_below hbw hbx (World.cell?_alloc_new ..)
                     have d1 : w2.cell? ⟨wr.heap.size, 1, none⟩ = some (.int .i64 l[k].a) := cell_below hbw hbx (World.cell?_alloc_new ..)
                     have d2 : w2.cell? ⟨wr.heap.size, 2, none⟩ = some (.int .i64 l[k].b) := cell_below hbw hbx (World.cell?_alloc_new ..)
                     skip))
                go_quiet (fail)
                go_wp2_with fail
                go_quiet (fail)
                go_wp2
                go_ret
                exact ⟨rbool (HBAD.out (by unfold Hid at *; exact step_two_bad (by first | exact .inl pe3 | exact .inr pe3) (fun b' a' r' e hh => by obtain ⟨q1, q2, q3, q4⟩ := hh; first | omega | exact ptx q4))).symm, below_drewN (below_drewN HBT.out _) _⟩
              · replace pe3 := hid pe3
                have ne3 := bne_f e3
                rcases eqI l[k].op 4 with ⟨e4, pe4⟩ | ⟨e4, pe4⟩
                · replace pe4 := hid pe4
                  have ne4 := bne_t e4
                  go_wp2_with (first
                    | (go_at_call 63; refine (leaf_any l[k] _).mono ?_; rintro e w2 ⟨rfl, hbw⟩; rw [hleaf]
                       have HB2 := hid (bstep (balloc (b0 wr) (.cells #[.int .i64 l[k].op, .int .i64 l[k].a, .int .i64 l[k].b, .int .i64 l[k].key, .string l[k].text] 49)) hbw)
                       have HBT := hid (hb.out.trans (HB2.out.mono hb.out.size))
                       have hbx : wr.heap.size < (wr.alloc (.cells #[.int .i64 l[k].op, .int .i64 l[k].a, .int .i64 l[k].b, .int .i64 l[k].key, .string l[k].text] 49)).heap.size := by simp
                       have HO2 := hid (hown.out.below HB2.out (Nat.le_refl _))
                       have d0 : w2.cell? ⟨wr.heap.size, 0, none⟩ = some (.int .i64 l[k].op) := cell_below hbw hbx (World.cell?_alloc_new ..)
                       have d1 : w2.cell? ⟨wr.heap.size, 1, none⟩ = some (.int .i64 l[k].a) := cell_below hbw hbx (World.cell?_alloc_new ..)
                       have d2 : w2.cell? ⟨wr.heap.size, 2, none⟩ = some (.int .i64 l[k].b) := cell_below hbw hbx (World.cell?_alloc_new ..)
                       skip))
                  go_quiet (fail)
                  go_wp2_with fail
                  go_quiet (fail)
                  go_wp2
                  go_ret
                  exact ⟨rbool (HBAD.out (by unfold Hid at *; exact step_two_bad (by first | exact .inl pe4 | exact .inr pe4) (fun b' a' r' e hh => by obtain ⟨q1, q2, q3, q4⟩ := hh; first | omega | exact ptx q4))).symm, below_drewN (below_drewN HBT.out _) _⟩
                · replace pe4 := hid pe4
                  have ne4 := bne_f e4
                  go_wp2_with (first
                    | (go_at_call 63; refine (leaf_any l[k] _).mono ?_; rintro e w2 ⟨rfl, hbw⟩; rw [hleaf]
                       have HB2 := hid (bstep (balloc (b0 wr) (.cells #[.int .i64 l[k].op, .int .i64 l[k].a, .int .i64 l[k].b, .int .i64 l[k].key, .string l[k].text] 49)) hbw)
                       have HBT := hid (hb.out.trans (HB2.out.mono hb.out.size))
                       have hbx : wr.heap.size < (wr.alloc (.cells #[.int .i64 l[k].op, .int .i64 l[k].a, .int .i64 l[k].b, .int .i64 l[k].key, .string l[k].text] 49)).heap.size := by simp
                       have HO2 := hid (hown.out.below HB2.out (Nat.le_refl _))
                       have d0 : w2.cell? ⟨wr.heap.size, 0, none⟩ = some (.int .i64 l[k].op) := cell_below hbw hbx (World.cell?_alloc_new ..)
                       have d1 : w2.cell? ⟨wr.heap.size, 1, none⟩ = some (.int .i64 l[k].a) := cell_below hbw hbx (World.cell?_alloc_new ..)
                       have d2 : w2.cell? ⟨wr.heap.size, 2, none⟩ = some (.int .i64 l[k].b) := cell_below hbw hbx (World.cell?_alloc_new ..)
                       skip))
                  go_quiet (fail)
                  go_wp2_with fail
                  go_quiet (fail)
                  go_wp2
                  go_ret
                  exact ⟨rbool (HBAD.out (by unfold Hid at *; exact (by by_cases p1 : l[k].op = 1; exact step_is_bad p1 (fun hh => by have := of_decide_eq_false hleaf; exact this ⟨p1, hh⟩); exact step_else p1 pe2 pe3 pe4))).symm, below_drewN (below_drewN HBT.out _) _⟩
        · replace pky := hid pky
          have nky := bne_f ky
          rcases eqI l[k].op 2 with ⟨e2, pe2⟩ | ⟨e2, pe2⟩
          · replace pe2 := hid pe2
            have ne2 := bne_t e2
            have e3 : (l[k].op == 3) = false := by rw [beq_eq_false_iff_ne]; have := pe2.out; omega
            have e4 : (l[k].op == 4) = false := by rw [beq_eq_false_iff_ne]; have := pe2.out; omega
            go_wp2_with (first
              | (go_at_call 63; refine (leaf_any l[k] _).mono ?_; rintro e w2 ⟨rfl, hbw⟩; rw [hleaf]
                 have HB2 := hid (bstep (balloc (b0 wr) (.cells #[.int .i64 l[k].op, .int .i64 l[k].a, .int .i64 l[k].b, .int .i64 l[k].key, .string l[k].text] 49)) hbw)
                 have HBT := hid (hb.out.trans (HB2.out.mono hb.out.size))
                 have hbx : wr.heap.size < (wr.alloc (.cells #[.int .i64 l[k].op, .int .i64 l[k].a, .int .i64 l[k].b, .int .i64 l[k].key, .string l[k].text] 49)).heap.size := by simp
                 have HO2 := hid (hown.out.below HB2.out (Nat.le_refl _))
                 have d0 : w2.cell? ⟨wr.heap.size, 0, none⟩ = some (.int .i64 l[k].op) := cell_below hbw hbx (World.cell?_alloc_new ..)
                 have d1 : w2.cell? ⟨wr.heap.size, 1, none⟩ = some (.int .i64 l[k].a) := cell_below hbw hbx (World.cell?_alloc_new ..)
                 have d2 : w2.cell? ⟨wr.heap.size, 2, none⟩ = some (.int .i64 l[k].b) := cell_below hbw hbx (World.cell?_alloc_new ..)
                 skip))
            go_quiet (fail)
            go_wp2_with fail
            go_quiet (fail)
            go_wp2
            go_ret
            exact ⟨rbool (HBAD.out (by unfold Hid at *; exact step_no_bad pe2 (.inr (by rintro ⟨q1, q2, q3, q4⟩; first | omega | exact ptx q4)))).symm, below_drewN (below_drewN HBT.out _) _⟩
          · replace pe2 := hid pe2
            have ne2 := bne_f e2
            rcases eqI l[k].op 3 with ⟨e3, pe3⟩ | ⟨e3, pe3⟩
            · replace pe3 := hid pe3
              have ne3 := bne_t e3
              have e4 : (l[k].op == 4) = false := by rw [beq_eq_false_iff_ne]; have := pe3.out; omega
              go_wp2_with (first
                | (go_at_call 63; refine (leaf_any l[k] _).mono ?_; rintro e w2 ⟨rfl, hbw⟩; rw [hleaf]
                   have HB2 := hid (bstep (balloc (b0 wr) (.cells #[.int .i64 l[k].op, .int .i64 l[k].a, .int .i64 l[k].b, .int .i64 l[k].key, .string l[k].text] 49)) hbw)
                   have HBT := hid (hb.out.trans (HB2.out.mono hb.out.size))
                   have hbx : wr.heap.size < (wr.alloc (.cells #[.int .i64 l[k].op, .int .i64 l[k].a, .int .i64 l[k].b, .int .i64 l[k].key, .string l[k].text] 49)).heap.size := by simp
                   have HO2 := hid (hown.out.below HB2.out (Nat.le_refl _))
                   have d0 : w2.cell? ⟨wr.heap.size, 0, none⟩ = some (.int .i64 l[k].op) := cell_below hbw hbx (World.cell?_alloc_new ..)
                   have d1 : w2.cell? ⟨wr.heap.size, 1, none⟩ = some (.int .i64 l[k].a) := cell_below hbw hbx (World.cell?_alloc_new ..)
                   have d2 : w2.cell? ⟨wr.heap.size, 2, none⟩ = some (.int .i64 l[k].b) := cell_below hbw hbx (World.cell?_alloc_new ..)
                   skip))
              go_quiet (fail)
              go_wp2_with fail
              go_quiet (fail)
              go_wp2
              go_ret
              exact ⟨rbool (HBAD.out (by unfold Hid at *; exact step_two_bad (by first | exact .inl pe3 | exact .inr pe3) (fun b' a' r' e hh => by obtain ⟨q1, q2, q3, q4⟩ := hh; first | omega | exact ptx q4))).symm, below_drewN (below_drewN HBT.out _) _⟩
            · replace pe3 := hid pe3
              have ne3 := bne_f e3
              rcases eqI l[k].op 4 with ⟨e4, pe4⟩ | ⟨e4, pe4⟩
              · replace pe4 := hid pe4
                have ne4 := bne_t e4
                go_wp2_with (first
                  | (go_at_call 63; refine (leaf_any l[k] _).mono ?_; rintro e w2 ⟨rfl, hbw⟩; rw [hleaf]
                     have HB2 := hid (bstep (balloc (b0 wr) (.cells #[.int .i64 l[k].op, .int .i64 l[k].a, .int .i64 l[k].b, .int .i64 l[k].key, .string l[k].text] 49)) hbw)
                     have HBT := hid (hb.out.trans (HB2.out.mono hb.out.size))
                     have hbx : wr.heap.size < (wr.alloc (.cells #[.int .i64 l[k].op, .int .i64 l[k].a, .int .i64 l[k].b, .int .i64 l[k].key, .string l[k].text] 49)).heap.size := by simp
                     have HO2 := hid (hown.out.below HB2.out (Nat.le_refl _))
                     have d0 : w2.cell? ⟨wr.heap.size, 0, none⟩ = some (.int .i64 l[k].op) := cell_below hbw hbx (World.cell?_alloc_new ..)
                     have d1 : w2.cell? ⟨wr.heap.size, 1, none⟩ = some (.int .i64 l[k].a) := cell_below hbw hbx (World.cell?_alloc_new ..)
                     have d2 : w2.cell? ⟨wr.heap.size, 2, none⟩ = some (.int .i64 l[k].b) := cell_below hbw hbx (World.cell?_alloc_new ..)
                     skip))
                go_quiet (fail)
                go_wp2_with fail
                go_quiet (fail)
                go_wp2
                go_ret
                exact ⟨rbool (HBAD.out (by unfold Hid at *; exact step_two_bad (by first | exact .inl pe4 | exact .inr pe4) (fun b' a' r' e hh => by obtain ⟨q1, q2, q3, q4⟩ := hh; first | omega | exact ptx q4))).symm, below_drewN (below_drewN HBT.out _) _⟩
              · replace pe4 := hid pe4
                have ne4 := bne_f e4
                go_wp2_with (first
                  | (go_at_call 63; refine (leaf_any l[k] _).mono ?_; rintro e w2 ⟨rfl, hbw⟩; rw [hleaf]
                     have HB2 := hid (bstep (balloc (b0 wr) (.cells #[.int .i64 l[k].op, .int .i64 l[k].a, .int .i64 l[k].b, .int .i64 l[k].key, .string l[k].text] 49)) hbw)
                     have HBT := hid (hb.out.trans (HB2.out.mono hb.out.size))
                     have hbx : wr.heap.size < (wr.alloc (.cells #[.int .i64 l[k].op, .int .i64 l[k].a, .int .i64 l[k].b, .int .i64 l[k].key, .string l[k].text] 49)).heap.size := by simp
                     have HO2 := hid (hown.out.below HB2.out (Nat.le_refl _))
                     have d0 : w2.cell? ⟨wr.heap.size, 0, none⟩ = some (.int .i64 l[k].op) := cell_below hbw hbx (World.cell?_alloc_new ..)
                     have d1 : w2.cell? ⟨wr.heap.size, 1, none⟩ = some (.int .i64 l[k].a) := cell_below hbw hbx (World.cell?_alloc_new ..)
                     have d2 : w2.cell? ⟨wr.heap.size, 2, none⟩ = some (.int .i64 l[k].b) := cell_below hbw hbx (World.cell?_alloc_new ..)
                     skip))
                go_quiet (fail)
                go_wp2_with fail
                go_quiet (fail)
                go_wp2
                go_ret
                exact ⟨rbool (HBAD.out (by unfold Hid at *; exact (by by_cases p1 : l[k].op = 1; exact step_is_bad p1 (fun hh => by have := of_decide_eq_false hleaf; exact this ⟨p1, hh⟩); exact step_else p1 pe2 pe3 pe4))).symm, below_drewN (below_drewN HBT.out _) _⟩
    · have hk' : k = l.length := by omega
      subst hk'
      have hT := hS.out
      rw [List.take_length] at hT
      have i2 : ¬ (↑l.length : Int) < ↑l.length := by omega
      by_cases h0 : l.length = 0
      · have hl : l = [] := List.eq_nil_of_length_eq_zero h0
        subst hl
        go_wp2
        go_ret
        exact ⟨rfl, hb.out⟩
      · have j0 : ((l.length : Int) == 0) = false := by rw [beq_eq_false_iff_ne]; omega
        have HG := hid (tree_end (fun e => h0 (by rw [e]; rfl)) hT)
        clear hn hT h0 hsz
        rcases eqI n 1 with ⟨ev, pv⟩ | ⟨ev, pv⟩
        · go_wp2
          go_ret
          exact ⟨rbool (HG.out.trans (decide_eq_true (by have := hno.out; omega))).symm, hb.out⟩
        · go_wp2
          go_ret
          exact ⟨rbool (HG.out.trans (decide_eq_false (by have := hno.out; omega))).symm, hb.out⟩
end Go.Proofs.YtmdnleafpmondaaDoor
