import Derived.Test.YtbfbppjccbppiaaGreatDoorzN9
import Derived.Outline
import Derived.Test.YtbfbppjccbppiaaGreatDoorzV17
import Derived.Test.YtbfbppjccbppiaaGreatDoorzA1
namespace Go.Proofs.YtbfbppjccbppiaaGreatDoor
open Go Go.RowKit
section
theorem int_cell {e : TypeId} {B : Nat} {w : World} {l : List Int} {g c : Nat} (h : OwnF fInt e B w (.slice (some ⟨g, 0, none⟩) l.length c) l) {u : Nat} (hu : u < l.length) : w.cell? ⟨g, u, none⟩ = some (.int .i64 l[u]) := by
 obtain ⟨A, cap, hv, _, _, hc⟩ := SliceRd.ints h.rd
 injection hv with e1 _ _
 obtain ⟨g', o, hA, _, hcell, _⟩ := hc u hu
 rw [← e1] at hA
 injection hA with hA
 injection hA with h1 h2
 subst h1; subst h2
 simpa using hcell
theorem zi4 (M : Nat → Nat) {n u : Nat} (x : Nat) : (qh3 M n).set u (x : Int) = qh3 (fun v => if v = u then x else M v) n := by
 apply List.ext_getElem
 ·simp [qh3]
 ·intro i h1 h2
  have h3 : i < (qh3 M n).length := by rw [List.length_set] at h1; exact h1
  rw [List.getElem_set, qv0 (fun v => if v = u then x else M v) h2]
  by_cases e : u = i
  ·subst e; simp
  ·have e' : ¬ i = u := fun h => e h.symm
   rw [if_neg e, qv0 M h3]
   simp only [if_neg e']
theorem meet_take (ns : List Nat) (l : List Term) {k : Nat} (hk : k < l.length) (v : Nat) : qi5 ns (l.take (k + 1)) v = if l[k].unit = (v : Int) then qi5 ns (l.take k) v &&& nm l[k].mask else qi5 ns (l.take k) v := by
 rw [List.take_succ_eq_append_getElem hk, meetN_snoc]
theorem inR_take {ns : List Nat} {l : List Term} (h : ∀ j, (hj : j < l.length) → 0 ≤ l[j].unit ∧ l[j].unit < ns.length) : inR ns l = true := by
 unfold inR
 rw [List.all_eq_true]
 intro t ht
 obtain ⟨j, hj, rfl⟩ := List.getElem_of_mem ht
 have := h j hj
 simp [this]
theorem inR_bad {ns : List Nat} {l : List Term} {k : Nat} (hk : k < l.length) (h : ¬ (0 ≤ l[k].unit ∧ l[k].unit < ns.length)) : inR ns l = false := by
 unfold inR
 rw [List.all_eq_false]
 refine ⟨_, List.getElem_mem hk, ?_⟩
 simp
 omega
theorem makeN_bad {ns : List Nat} {l : List Term} (h : inR ns l = false) : qt5 ns l = none := by unfold qt5; rw [h]; rfl
theorem makeN_in {ns : List Nat} {l : List Term} (h : inR ns l = true) : qt5 ns l = zi1 ns (qi5 ns l) := by unfold qt5; rw [h]; rfl
theorem qy7 (mu : Nat) (m : Int) (h : mu ≤ 31) : bits .and .i64 (mu : Int) m = ((mu &&& nm m : Nat) : Int) := by
 have h1 : nm (mu : Int) = mu := ql1 (by omega)
 have h2 : mu &&& nm m ≤ mu := Nat.and_le_left
 rw [band _ _ (by rw [h1]; omega), h1]
set_option maxRecDepth 100000 in
set_option maxHeartbeats 2000000 in
theorem zj6 (v lv : Value) (ns : List Nat) (l : List Term) (w : World) (h : qi7 w (Lt w.heap.size) v ns) (ho : NsOk ns) (hl : SliceRd qg1 w (Lt w.heap.size) lv l) :
  Calls Tryz.prog 43 #[v, lv] w (qm7 (qt5 ns l) w) := by
 have HH := hid h
 have HO := hid ho
 obtain ⟨g, cap0, rfl, hg, -⟩ := h
 have h11 := ho.hi
 have h2 := ho.lo
 obtain ⟨A, cap, rfl, hcap, hmax, hc⟩ := hl.terms
 unfold maxLen at hmax
 have HC := hid hc
 clear ho hc hl
 go_enter Tryz.func43, Tryz.ntmps43
 go_wp2_with fail
 obtain ⟨w0, hw0⟩ : ∃ w0 : World, w0 = w.alloc (.cells #[.slice (some ⟨g, 0, none⟩) ns.length cap0] 26) := ⟨_, rfl⟩
 have hb0 : Below w.heap.size w w0 := hw0 ▸ qa0 (b0 w) _
 have hl0 : w.heap.size < w0.heap.size := by rw [hw0]; simp
 have q0 : w0.cell? ⟨w.heap.size, 0, none⟩ = some (.slice (some ⟨g, 0, none⟩) ns.length cap0) := by rw [hw0, qa6]; rfl
 have HB0 := hid hb0
 have HQ := hid q0
 have HU0 := hid (qc0 HH.out hb0)
 rw [← hw0]
 clear hw0 hb0 q0
 refine (fulls_any _ ns _ HU0.out HO.out).mono ?_
 rintro e w1 ⟨mv, rfl, hown1, hb1⟩
 obtain ⟨gb, cb, hmv, hgb, hgl, hfz⟩ := hown1.block (by rw [qf5]; omega)
 have hml := qf5 (qb8 ns) ns.length
 rw [hml] at hmv
 subst hmv
 have HOWN1 := hid hown1
 have HB1 := hid hb1
 clear hown1 hb1 hfz hml
 go_wp2_with fail
 go_loopw [7] (fun iv wr => ∃ k : Nat, k ≤ l.length ∧ iv = .int .i64 k ∧ Hid (OwnF fInt 3 w0.heap.size wr (.slice (some ⟨gb, 0, none⟩) ns.length cb) (qh3 (qi5 ns (l.take k)) ns.length)) ∧ Hid (Below w0.heap.size w0 wr) ∧ Hid (∀ j, (hj : j < l.length) → j < k → 0 ≤ l[j].unit ∧ l[j].unit < ns.length)) (fun iv _ => l.length - (intOf iv).toNat)
 case atStart => exact ⟨0, Nat.zero_le _, rfl, hid (by rw [List.take_zero]; exact HOWN1.out), HB1, hid (fun j _ hj => absurd hj (by omega))⟩
 case round =>
  obtain ⟨k, hk, rfl, hown, hb, hin⟩ := hrel
  by_cases hlt : k < l.length
  ·obtain ⟨gg, o, hA, hF, g0, g1, -, -⟩ := HC.out k hlt
   subst hA
   have c0 := cell_below hb.out (Nat.lt_of_lt_of_le hF HB0.out.size) (cell_below HB0.out hF g0)
   have c1 := cell_below hb.out (Nat.lt_of_lt_of_le hF HB0.out.size) (cell_below HB0.out hF g1)
   have i1 : (0 : Int) ≤ ↑k := by omega
   have i2 : (↑k : Int) < ↑l.length := by omega
   clear g0 g1
   by_cases hr : 0 ≤ l[k].unit ∧ l[k].unit < ns.length
   ·obtain ⟨u, hu⟩ : ∃ u : Nat, l[k].unit = u := ⟨l[k].unit.toNat, by omega⟩
    have hun : u < ns.length := by omega
    obtain ⟨m, hm⟩ : ∃ m, l[k].mask = m := ⟨_, rfl⟩
    have hmu := Nat.le_trans (meetN_le (ns := ns) (l.take k) u) (qi2 HO.out u)
    have hbits := qy7 (qi5 ns (l.take k) u) m hmu
    have x0 : wr.cell? ⟨gb, u, none⟩ = some (.int .i64 ((qi5 ns (l.take k) u : Nat) : Int)) := by
     have h3 := qf5 (qi5 ns (l.take k)) ns.length
     have h4 := int_cell (c := cb) (by rw [h3]; exact hown.out) (u := u) (by rw [h3]; exact hun)
     rw [qv0] at h4
     exact h4
    have xf : ∀ o, wr.frozen? ⟨gb, o, none⟩ = false := by
     obtain ⟨g', c', e1, -, -, e2⟩ := hown.out.block (by rw [qf5]; omega)
     injection e1 with e1
     injection e1 with e1
     injection e1 with e1
     subst e1
     exact e2
    have hset := ints_set hown.out (g := gb) rfl (i := u) (by rw [qf5]; exact hun) ((qi5 ns (l.take k) u &&& nm m : Nat) : Int) (qg9 (Nat.le_trans Nat.and_le_left hmu))
    rw [zi4, qo6 (M' := qi5 ns (l.take (k + 1))) (fun v hv => by
     rw [meet_take ns l hlt, hu, hm]
     by_cases e : v = u
     ·subst e; simp
     ·rw [if_neg e, if_neg (by omega)])] at hset
    have HSET := hid hset
    have HIN : Hid (∀ j, (hj : j < l.length) → j < k + 1 → 0 ≤ l[j].unit ∧ l[j].unit < ns.length) := hid (fun j hj hjk => if e : j = k then by subst e; exact hr else hin.out j hj (by omega))
    have hgb0 : w0.heap.size ≤ gb := hgb
    have j1 : (0 : Int) ≤ ↑u := by omega
    have j2 : (↑u : Int) < ↑ns.length := by omega
    rw [hu] at c0
    rw [hm] at c1
    generalize qi5 ns (l.take k) u &&& nm m = nw at hbits HSET hset
    generalize qi5 ns (l.take k) u = mu at hbits x0 hmu
    clear hset hr hu hm hmu
    go_wp2_with fail
    go_region_law (fail)
    all_goals
     go_wp2_with fail
     exact ⟨⟨k + 1, by omega, by go_num, hid HSET.out.drew, hid ((hb.out.setCell (p := ⟨gb, u, none⟩) hgb0 _).drew), HIN⟩, by simp [intOf]; omega⟩
   ·have HN := hid (makeN_bad (inR_bad hlt hr))
    obtain ⟨a, ha⟩ : ∃ a, l[k].unit = a := ⟨_, rfl⟩
    rw [ha] at c0 hr
    clear ha
    by_cases hneg : a < 0
    ·clear hr
     go_wp2_with fail
     go_ret2
     exact ⟨_, by rw [HN.out]; rfl, by rw [HN.out]; exact SliceRd.nil _ _ _, qa1 HB0.out hb.out⟩
    ·have hbig : (ns.length : Int) ≤ a := by omega
     clear hr
     go_wp2_with fail
     go_ret2
     exact ⟨_, by rw [HN.out]; rfl, by rw [HN.out]; exact SliceRd.nil _ _ _, qa1 HB0.out hb.out⟩
  ·have hk2 : k = l.length := by omega
   have HN := hid (makeN_in (inR_take (ns := ns) (l := l) (fun j hj => hin.out j hj (by omega))))
   have hown' : OwnF fInt 3 w0.heap.size wr (.slice (some ⟨gb, 0, none⟩) ns.length cb) (qh3 (qi5 ns l) ns.length) := by
    have := hown.out
    rwa [List.take_of_length_le (by omega)] at this
   have hd := cell_below hb.out hl0 HQ.out
   have HRD := hid hown'.rd
   clear hown' hk2
   go_wp2_with (go_at_call 85; refine (made_new _ _ ns (qi5 ns l) _ (qc0 HU0.out hb.out) HO.out HRD.out (fun u _ => Nat.le_trans (meetN_le l u) (qi2 HO.out u))).mono ?_; rintro e w2 ⟨sv, rfl, hrd, hb2⟩)
   go_ret2
   exact ⟨_, by rw [HN.out]; rfl, by rw [HN.out]; exact hrd.more fun _ h => ⟨Nat.le_trans (qa1 HB0.out hb.out).size h.1, h.2⟩, qa1 HB0.out (qa1 hb.out hb2)⟩
end
section
theorem qa7 {w : World} {o1 : Obj} {cs : Array Value} {e : TypeId} {i : Nat} {v : Value} (h : cs[i]? = some v) : ((w.alloc o1).alloc (.cells cs e)).cell? ⟨w.heap.size + 1, i, none⟩ = some v := by
 have e1 : w.heap.size + 1 = (w.alloc o1).heap.size := by simp
 rw [e1, qa6]
 exact h
theorem qf0 {w : World} {o2 : Obj} {cs : Array Value} {e : TypeId} {i : Nat} {v : Value} (h : cs[i]? = some v) : ((w.alloc (.cells cs e)).alloc o2).cell? ⟨w.heap.size, i, none⟩ = some v :=
 cell_below (w := w.alloc (.cells cs e)) (qa0 (b0 _) _) (by simp) (by rw [qa6]; exact h)
theorem za0 {α : Type} {f : Flat α} {e : TypeId} {W : World} {B ln : Nat} {v2 : Value} {l : List α} {x : α} (hln : l.length = ln) (hok : ∀ y ∈ l, f.ok y) (hx : f.ok x) (hown : W.ownsRow B e f.size v2 (ln + 1) (f.all l ++ f.cells x)) : OwnF f e B W v2 (l ++ [x]) := by
 subst hln
 refine ⟨by rw [f.all_snoc, List.length_append]; exact hown, fun y hy => ?_⟩
 rcases List.mem_append.1 hy with h | h
 ·exact hok y h
 ·rw [List.mem_singleton.1 h]; exact hx
theorem own_noneF (w : World) (B : Nat) (e : TypeId) (s : Nat) : w.ownsRow B e s (.slice none 0 0) 0 [] := ⟨by simp, .inl ⟨rfl, rfl⟩⟩
theorem zq2 {a b : Nat} (ha : a ≤ 31) (hb : b ≤ 31) : bits .and .i64 (a : Int) (b : Int) = ((a &&& b : Nat) : Int) := by
 have := qy7 a (b : Int) ha
 rwa [ql1 (by omega)] at this
theorem SliceRd.lists {α : Type} {t : Ty α} {w : World} {F : Nat → Prop} {v : Value} {l : List (List α)} (h : SliceRd (qk2 t) w F v l) :
  ∃ A cap, v = .slice A l.length cap ∧ l.length ≤ cap ∧ cap ≤ maxLen ∧ ∀ k, (hk : k < l.length) → ∃ g o u, A = some ⟨g, o, none⟩ ∧ F g ∧ w.cell? ⟨g, o + k, none⟩ = some u ∧ SliceRd t w F u l[k] := by
 obtain ⟨A, cap, hv, h1, h2, h3⟩ := h.shape
 refine ⟨A, cap, hv, h1, h2, fun k hk => ?_⟩
 obtain ⟨g, o, cs, hA, hF, hc, hcell, u, rfl, hr⟩ := h3 k hk
 refine ⟨g, o, u, hA, hF, ?_, hr⟩
 have := hcell 0 (by show 0 < 1; omega)
 simpa [qk2] using this
end
section
theorem zm1 {p : ByteArray} (h : p.size = 0) : p.toList = [] := by
 rw [ByteArray.toList_eq]
 exact List.eq_nil_of_length_eq_zero (by simpa using h)
theorem zs4 {p : ByteArray} (h : p.size ≠ 0) : (p.toList == []) = false := by rw [qy5]; exact decide_eq_false h
set_option maxRecDepth 100000 in
set_option maxHeartbeats 2000000 in
theorem has5_any (av bv : Value) (s : SetD) (v : Ver) (w : World) (h1 : SliceRd qd6.ty w (Lt w.heap.size) av s.rel) (h2 : SliceRd qd6.ty w (Lt w.heap.size) bv s.pre) (hv : v.B) :
  Calls Tryz.prog 148 #[.agg #[av, bv], .agg #[.int .i64 v.major, .int .i64 v.minor, .int .i64 v.patch, .string v.pre, .string v.build]] w fun e w' => e = .returned (.bool (hasB s v)) ∧ Below w.heap.size w w' := by
 have HV := hid hv
 have HS := hid (fun (W : World) (hb : Below w.heap.size w W) => qn1 av bv s.rel s.pre W (h1.lift hb hb.size) (h2.lift hb hb.size))
 have HA := hid (fun (W : World) (hb : Below w.heap.size w W) => has4_any av s.rel v W (h1.lift hb hb.size) hv)
 have HB := hid (fun (W : World) (hb : Below w.heap.size w W) => has4_any bv s.pre v W (h2.lift hb hb.size) hv)
 obtain ⟨A, c, hav, -⟩ := h1.shape
 obtain ⟨A', c', hbv, -⟩ := h2.shape
 have HM := hid (fun W => qb6 v.major v.minor v.patch v.pre v.build W HV.out)
 have hH : hasB s v = (qj9 s.rel s.pre && (mayV v && if v.pre.size = 0 then zc0 s.rel v else zc0 s.pre v)) := rfl
 obtain ⟨b1, hb1⟩ : ∃ b, qj9 s.rel s.pre = b := ⟨_, rfl⟩
 obtain ⟨b2, hb2⟩ : ∃ b, mayV v = b := ⟨_, rfl⟩
 have hm2 : mayV ⟨v.major, v.minor, v.patch, v.pre, v.build⟩ = b2 := hb2
 rw [hb1] at HS hH
 rw [hb2] at hH
 rw [hm2] at HM
 generalize s.rel.length = n1 at hav
 generalize s.pre.length = n2 at hbv
 subst hav hbv
 obtain ⟨va, vb, vc, vp, vq⟩ := v
 dsimp only at HM HA HB hH
 clear h1 h2 hv hb1 hb2 hm2
 obtain ⟨w0, hw0⟩ : ∃ w0 : World, w0 = (w.alloc (.cells #[.slice A n1 c, .slice A' n2 c'] 76)).alloc (.cells #[.int .i64 va, .int .i64 vb, .int .i64 vc, .string vp, .string vq] 59) := ⟨_, rfl⟩
 have hb0 : Below w.heap.size w w0 := hw0 ▸ qa0 (qa0 (b0 w) _) _
 have hz0 : w.heap.size + 1 < w0.heap.size := by rw [hw0]; simp
 have s0 : w0.cell? ⟨w.heap.size, 0, none⟩ = some (.slice A n1 c) := by rw [hw0]; exact qf0 rfl
 have s1 : w0.cell? ⟨w.heap.size, 1, none⟩ = some (.slice A' n2 c') := by rw [hw0]; exact qf0 rfl
 have v0 : w0.cell? ⟨w.heap.size + 1, 0, none⟩ = some (.int .i64 va) := by rw [hw0]; exact qa7 rfl
 have v1 : w0.cell? ⟨w.heap.size + 1, 1, none⟩ = some (.int .i64 vb) := by rw [hw0]; exact qa7 rfl
 have v2 : w0.cell? ⟨w.heap.size + 1, 2, none⟩ = some (.int .i64 vc) := by rw [hw0]; exact qa7 rfl
 have v3 : w0.cell? ⟨w.heap.size + 1, 3, none⟩ = some (.string vp) := by rw [hw0]; exact qa7 rfl
 have v4 : w0.cell? ⟨w.heap.size + 1, 4, none⟩ = some (.string vq) := by rw [hw0]; exact qa7 rfl
 have HW0 := hid hw0
 have HB0 := hid hb0
 clear hw0 hb0
 go_enter Tryz.func148, Tryz.ntmps148
 go_wp2_with fail
 rw [← HW0.out]
 refine (HS.out w0 HB0.out).mono ?_
 rintro e w1 ⟨rfl, hb1⟩
 have HB1 := hid (qa1 HB0.out hb1)
 have u0 := cell_below hb1 hz0 v0
 have u1 := cell_below hb1 hz0 v1
 have u2 := cell_below hb1 hz0 v2
 have u3 := cell_below hb1 hz0 v3
 have u4 := cell_below hb1 hz0 v4
 have r0 := cell_below hb1 (by omega) s0
 have r1 := cell_below hb1 (by omega) s1
 have hz1 := Nat.lt_of_lt_of_le hz0 hb1.size
 clear hb1 s0 s1 v0 v1 v2 v3 v4
 cases b1 with
 | false =>
  have H := hid (show hasB s ⟨va, vb, vc, vp, vq⟩ = false by rw [hH]; rfl)
  clear hH
  go_wp2
  go_ret
  exact ⟨qa4 H.out.symm, HB1.out⟩
 | true =>
  go_wp2_with fail
  refine (HM.out w1).mono ?_
  rintro e w2 ⟨rfl, hb2⟩
  have HB2 := hid (qa1 HB1.out hb2)
  have x0 := cell_below hb2 hz1 u0
  have x1 := cell_below hb2 hz1 u1
  have x2 := cell_below hb2 hz1 u2
  have x3 := cell_below hb2 hz1 u3
  have x4 := cell_below hb2 hz1 u4
  have y0 := cell_below hb2 (by omega) r0
  have y1 := cell_below hb2 (by omega) r1
  clear hb2 u0 u1 u2 u3 u4 r0 r1
  cases b2 with
  | false =>
   have H := hid (show hasB s ⟨va, vb, vc, vp, vq⟩ = false by rw [hH]; rfl)
   clear hH
   go_wp2
   go_ret
   exact ⟨qa4 H.out.symm, HB2.out⟩
  | true =>
   by_cases hp : vp.size = 0
   ·have H := hid (show hasB s ⟨va, vb, vc, vp, vq⟩ = zc0 s.rel ⟨va, vb, vc, vp, vq⟩ by rw [hH, if_pos hp]; rfl)
    have hl := zm1 hp
    clear hH hp
    go_wp2_with (go_at_call 178; refine (HA.out w2 HB2.out).mono ?_; rintro e w3 ⟨rfl, hb3⟩)
    go_ret
    exact ⟨qa4 H.out.symm, qa1 HB2.out hb3⟩
   ·have H := hid (show hasB s ⟨va, vb, vc, vp, vq⟩ = zc0 s.pre ⟨va, vb, vc, vp, vq⟩ by rw [hH, if_neg hp]; rfl)
    have hl := zs4 hp
    have hl2 := qb9 (s := vp) (by omega)
    clear hH hp
    go_wp2_with (go_at_call 178; refine (HB.out w2 HB2.out).mono ?_; rintro e w3 ⟨rfl, hb3⟩)
    go_ret
    exact ⟨qa4 H.out.symm, qa1 HB2.out hb3⟩
end
section
def CandAt (w : World) (g o : Nat) (c : CandW) (nv bv : Value) : Prop := w.cell? ⟨g, o, none⟩ = some (.int .i64 c.v.major) ∧ w.cell? ⟨g, o + 1, none⟩ = some (.int .i64 c.v.minor) ∧ w.cell? ⟨g, o + 2, none⟩ = some (.int .i64 c.v.patch) ∧ w.cell? ⟨g, o + 3, none⟩ = some (.string c.v.pre) ∧ w.cell? ⟨g, o + 4, none⟩ = some (.string c.v.build) ∧ w.cell? ⟨g, o + 5, none⟩ = some (.int .i64 c.sh) ∧ w.cell? ⟨g, o + 6, none⟩ = some nv ∧ w.cell? ⟨g, o + 7, none⟩ = some bv
theorem CandAt.below {B : Nat} {w w' : World} (hb : Below B w w') {g o : Nat} (hg : g < B) {c : CandW} {nv bv : Value} (h : CandAt w g o c nv bv) : CandAt w' g o c nv bv := by
 obtain ⟨h0, h1, h2, h3, h4, h5, h6, h7⟩ := h
 exact ⟨cell_below hb hg h0, cell_below hb hg h1, cell_below hb hg h2, cell_below hb hg h3, cell_below hb hg h4, cell_below hb hg h5, cell_below hb hg h6, cell_below hb hg h7⟩
theorem qd0.opened {w : World} {F : Nat → Prop} {v : Value} {us : List UnitW} (h : qd0 w F v us) :
  ∃ g cap, v = .agg #[.slice (some ⟨g, 0, none⟩) us.length cap] ∧ F g ∧ ∀ u, (hu : u < us.length) → ∃ A c, w.cell? ⟨g, u * 3 + 2, none⟩ = some (.slice A us[u].cands.length c) ∧
   ∀ k, (hk : k < us[u].cands.length) → ∃ gc o nv bv, A = some ⟨gc, o, none⟩ ∧ F gc ∧ CandAt w gc (o + k * 8) us[u].cands[k] nv bv ∧ us[u].cands[k].v.B ∧ SliceRd (qk2 qh5) w F nv us[u].cands[k].needs ∧ SliceRd qh5 w F bv us[u].cands[k].bars := by
 obtain ⟨g, cap, rfl, hF, hs⟩ := h
 refine ⟨g, cap, rfl, hF, fun u hu => ?_⟩
 obtain ⟨A, cap', hv, -, -, hc⟩ := hs.shape
 injection hv with e1 e2 e3
 subst e1 e3
 obtain ⟨g', o, cs, hA, -, -, hcell, cv, rfl, A2, c2, rfl, hcd⟩ := hc u hu
 injection hA with hA
 injection hA with e1 e2
 subst e1 e2
 have h2 := hcell 2 (by show 2 < 3; omega)
 rw [Nat.zero_add] at h2
 refine ⟨A2, c2, h2, fun k hk => ?_⟩
 obtain ⟨gc, oc, cl, hA2, hFc, -, hcl, nv, bv, rfl, hB, hn, hbr⟩ := hcd k hk
 exact ⟨gc, oc, nv, bv, hA2, hFc, ⟨hcl 0 (by show 0 < 8; omega), hcl 1 (by show 1 < 8; omega), hcl 2 (by show 2 < 8; omega), hcl 3 (by show 3 < 8; omega), hcl 4 (by show 4 < 8; omega), hcl 5 (by show 5 < 8; omega), hcl 6 (by show 6 < 8; omega), hcl 7 (by show 7 < 8; omega)⟩, hB, hn, hbr⟩
set_option maxRecDepth 100000 in
set_option maxHeartbeats 4000000 in
theorem met_any (v av bv : Value) (us : List UnitW) (x : WantD) (w : World) (h : qd0 w (Lt w.heap.size) v us) (ho : UnitsOk us) (h1 : SliceRd qd6.ty w (Lt w.heap.size) av x.s.rel) (h2 : SliceRd qd6.ty w (Lt w.heap.size) bv x.s.pre) (hx0 : 0 ≤ x.u) (hx1 : x.u < us.length) :
  Calls Tryz.prog 119 #[v, .agg #[.int .i64 x.u, av, bv]] w fun e w' => e = .returned (.int .i64 (metN us x)) ∧ Below w.heap.size w w' := by
 obtain ⟨g, cap0, rfl, hg, hun⟩ := h.opened
 obtain ⟨u, hu⟩ : ∃ u : Nat, x.u = (u : Int) := ⟨x.u.toNat, by omega⟩
 have hul : u < us.length := by omega
 obtain ⟨Ac, cc, hcu, hcd⟩ := hun u hul
 have HCD := hid hcd
 have h4 : us[u].cands.length ≤ 4 := by
  have := ho.ns.le u (by simpa [nsOf] using hul)
  simpa [nsOf] using this
 have h11 : us.length ≤ 11 := by have := ho.ns.hi; simpa [nsOf] using this
 have HME : Hid (metN us x = zc4 us[u].cands x.s us[u].cands.length) := hid (by
  unfold metN
  rw [hu, Int.toNat_natCast, List.getElem?_eq_getElem hul])
 have HHS := hid (fun (vr : Ver) (hvr : vr.B) (W : World) (hb : Below w.heap.size w W) => has5_any av bv x.s vr W (h1.lift hb hb.size) (h2.lift hb hb.size) hvr)
 obtain ⟨Aa, ca, hav, -⟩ := h1.shape
 obtain ⟨Ab, cb, hbv, -⟩ := h2.shape
 generalize x.s.rel.length = n1 at hav
 generalize x.s.pre.length = n2 at hbv
 subst hav hbv
 have HMT := hid (metTo_lt us[u].cands x.s)
 have HMS := hid (fun k (hk : k < us[u].cands.length) => metTo_succ (s := x.s) hk)
 rw [hu] at ⊢
 generalize us[u].cands = cs at *
 have u1 : (0 : Int) ≤ ↑u := by omega
 have u2 : (↑u : Int) < ↑us.length := by omega
 have u3 : decide (us.length ≤ u) = false := decide_eq_false (by omega)
 clear h h1 h2 hun hx0 hx1 hu hcd ho
 obtain ⟨n, hn⟩ : ∃ n, cs.length = n := ⟨_, rfl⟩
 have HN := hid hn
 rw [hn] at hcu h4 HME
 clear hn
 obtain ⟨w0, hw0⟩ : ∃ w0 : World, w0 = (w.alloc (.cells #[.slice (some ⟨g, 0, none⟩) us.length cap0] 26)).alloc (.cells #[.int .i64 u, .slice Aa n1 ca, .slice Ab n2 cb] 79) := ⟨_, rfl⟩
 have hb0 : Below w.heap.size w w0 := hw0 ▸ qa0 (qa0 (b0 w) _) _
 have hz0 : w.heap.size + 1 < w0.heap.size := by rw [hw0]; simp
 have s0 : w0.cell? ⟨w.heap.size + 1, 1, none⟩ = some (.slice Aa n1 ca) := by rw [hw0]; exact qa7 rfl
 have s1 : w0.cell? ⟨w.heap.size + 1, 2, none⟩ = some (.slice Ab n2 cb) := by rw [hw0]; exact qa7 rfl
 have hcr := cell_below hb0 hg hcu
 rw [hw0] at hcr
 have HB0 := hid hb0
 have HW0 := hid hw0
 clear hb0 hw0 hcu
 go_enter Tryz.func119, Tryz.ntmps119
 go_wp2_with fail
 rw [← HW0.out]
 clear hcr
 go_loopw [5, 7] (fun mv iv wr => ∃ k : Nat, k ≤ n ∧ iv = .int .i64 k ∧ mv = .int .i64 (zc4 cs x.s k) ∧ Hid (Below w0.heap.size w0 wr)) (fun _ iv _ => n - (intOf iv).toNat)
 case atStart => exact ⟨0, Nat.zero_le _, rfl, rfl, hid (b0 w0)⟩
 case round =>
  obtain ⟨k, hk, rfl, rfl, hb⟩ := hrel
  have hbw := HB0.out.trans (hb.out.mono HB0.out.size)
  have HBW := hid hbw
  by_cases hlt : k < n
  ·obtain ⟨gc, o, nv, bv, hA, hF, hat, hB, -, -⟩ := HCD.out k (by rw [HN.out]; exact hlt)
   subst hA
   have hzr := Nat.lt_of_lt_of_le hz0 hb.out.size
   have hgr : gc < wr.heap.size := Nat.lt_of_lt_of_le hF hbw.size
   obtain ⟨c0, c1, c2, c3, c4, -, -, -⟩ := hat.below hbw hF
   have HMSK := hid (HMS.out k (by rw [HN.out]; exact hlt))
   have hlt2 := HMT.out k
   have hpw : 2 ^ (k + 1) ≤ 2 ^ 4 := Nat.pow_le_pow_right (by decide) (by omega)
   have HSK := hid (fun e : Later wr => HHS.out _ hB e.w (qa1 HBW.out e.below))
   generalize cs[k]'(by rw [HN.out]; exact hlt) = cd at *
   obtain ⟨⟨va, vb, vc, vp, vq⟩, sh, nd, br⟩ := cd
   dsimp only at c0 c1 c2 c3 c4 HSK HMSK
   obtain ⟨b, hbb⟩ : ∃ b, hasB x.s ⟨va, vb, vc, vp, vq⟩ = b := ⟨_, rfl⟩
   rw [hbb] at HSK HMSK
   have l0 := qa2 hgr c0
   have l1 := qa2 hgr c1
   have l2 := qa2 hgr c2
   have l3 := qa2 hgr c3
   have l4 := qa2 hgr c4
   have m0 := qa2 hzr (cell_below hb.out hz0 s0)
   have m1 := qa2 hzr (cell_below hb.out hz0 s1)
   have i0 : (0 : Int) ≤ ↑k := by omega
   have i1 : (↑k : Int) < ↑n := by omega
   have i2 : (↑k : Int) < 16 := by omega
   generalize zc4 cs x.s k = mk at *
   clear hat hB hbb c0 c1 c2 c3 c4
   cases b with
   | false =>
    have HE := hid (show zc4 cs x.s (k + 1) = mk by rw [HMSK.out]; rfl)
    go_wp2_with fail
    (refine qa3 (by kernel_rfl) (by kernel_rfl) ?_; (repeat (go_big_quiet_step ((first | (go_at_call 148; exact Calls.later (HSK.out _) rfl))))); refine wpQuiet_nil ?_; rintro _ ⟨⟨w2, hb2⟩, rfl⟩)
    go_wp2
    exact ⟨⟨k + 1, by omega, by go_num, by rw [HE.out], hid (qa1 hb.out hb2)⟩, by simp [intOf]; omega⟩
   | true =>
    obtain ⟨pk, hpk⟩ : ∃ pk, 2 ^ (k + 1) = pk := ⟨_, rfl⟩
    rw [hpk] at hlt2 hpw HMSK
    have HE := hid (show zc4 cs x.s (k + 1) = mk + pk by rw [HMSK.out]; rfl)
    have HBT := hid (fun W => zf2 (k + 1) W (by omega))
    have hpwe : pw (k + 1) = (pk : Int) := by unfold pw; rw [hpk]
    rw [hpwe, show ((k + 1 : Nat) : Int) = (k : Int) + 1 by omega] at HBT
    go_wp2_with fail
    (refine qa3 (by kernel_rfl) (by kernel_rfl) ?_; (repeat (go_big_quiet_step ((first | (go_at_call 148; exact Calls.later (HSK.out _) rfl))))); refine wpQuiet_nil ?_; rintro _ ⟨⟨w2, hb2⟩, rfl⟩)
    go_wp2_with fail
    refine (HBT.out _).mono ?_
    rintro e w3 ⟨rfl, hw3⟩
    rw [hw3]
    clear hw3
    go_wp2
    exact ⟨⟨k + 1, by omega, by go_num, by rw [HE.out]; push_cast; rfl, hid (qa1 hb.out hb2)⟩, by simp [intOf]; omega⟩
  ·have hkn : k = n := by omega
   subst hkn
   clear hlt
   go_wp2
   go_ret
   exact ⟨qb7 (by rw [HME.out]), HBW.out⟩
end
end Go.Proofs.YtbfbppjccbppiaaGreatDoor
