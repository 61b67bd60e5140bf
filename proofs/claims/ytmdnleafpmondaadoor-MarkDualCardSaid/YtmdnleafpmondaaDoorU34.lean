/- MarkMeans: the walk of the law. -/
import Derived.Test.YtmdnleafpmondaaDoorU33
import Derived.Test.YtmdnleafpmondaaDoorzE
namespace Go.Proofs.YtmdnleafpmondaaDoor
open Go Go.RowKit

theorem isEmpty_iff (s : ByteArray) : s.toList.isEmpty = true ↔ s = ByteArray.empty := by
  rw [List.isEmpty_iff, ByteArray.toList_eq]
  constructor
  · intro h
    exact ByteArray.ext (Array.ext' h)
  · rintro rfl
    rfl
theorem fullS_ne (s : ByteArray) : fullS s ≠ ByteArray.empty := by
  unfold fullS
  split
  · intro h
    exact absurd (congrArg ByteArray.size h) (by decide)
  · next h => exact fun e => h ((isEmpty_iff s).2 e)
theorem okS_full {s : ByteArray} (h : okS s = true) : okS (fullS s) = true := by
  unfold fullS
  split
  · decide +kernel
  · exact h
theorem full_ok {en : EnvT} (h : en.ok = true) : (fullE en).ok = true :=
  EnvT.goodAt fun k _ => by rw [fullE_at]; exact okS_full (EnvT.okAt h k)
theorem full_ext (en : EnvT) : Ext en.at (fullE en).at := fun k hk => by
  rw [fullE_at]
  unfold fullS
  rw [if_neg (fun h => hk ((isEmpty_iff _).1 h))]
def wantI (f : Frm) (en : EnvT) : Int := if truthF (fullE en).at f = true then 2 else 0
theorem means_full {l : List Node} {en : EnvT} {f : Frm} (hm : mayB l = true) (hok : en.ok = true) (hf : treeF l = some f) : evalV l (fullE en) = wantI f en := by
  unfold evalV wantI
  rw [if_pos ⟨hm, full_ok hok⟩, hf]
  exact eval_truth (fun k _ => by rw [fullE_at]; exact fullS_ne _) (treeF_ok hf)
theorem means_part {l : List Node} {en : EnvT} {f : Frm} (hm : mayB l = true) (hok : en.ok = true) (hf : treeF l = some f) : evalV l en = wantI f en ∨ evalV l en = 1 := by
  by_cases h1 : evalV l en = 1
  · exact .inr h1
  · left
    rw [← means_full hm hok hf]
    unfold evalV at *
    rw [if_pos ⟨hm, hok⟩, hf] at *
    rw [if_pos ⟨hm, full_ok hok⟩]
    exact (stable (full_ext en) h1).symm

set_option maxRecDepth 100000 in
set_option maxHeartbeats 4000000 in
theorem markMeans_any (v : Value) (l : List Int) (w : World) (h : SliceRd tInt w (Lt w.heap.size) v l) (hm : MaxOk w) : Calls Tryd.prog 5 #[v] w fun e w' => e = .returned (.bool true) ∧ Below w.heap.size w w' := by
  have HM := hid hm
  have H := hid h
  obtain ⟨Av, cv, rfl, -⟩ := h.shape
  clear hm h
  obtain ⟨lv, hlv⟩ : ∃ lv, lv = l.length := ⟨_, rfl⟩
  rw [← hlv] at H
  rw [← hlv]
  replace hlv := hid hlv
  have HK := hid (mark0_any _ l 0 w H.out (by decide) (by decide))
  go_enter Tryd.func5, Tryd.ntmps5
  go_wp2_with (first
    | (go_at_call 14; refine HK.out.mono ?_; rintro e w1 ⟨Am, cm, m, rfl, r1, h15, hb1⟩; have R1 := hid r1; have B1 := hid hb1
       have HE := hid (env0_any _ l 15 w1 (H.out.lift hb1 hb1.size) (by decide) (by decide))
       obtain ⟨n, hn⟩ : ∃ n, n = m.length := ⟨_, rfl⟩
       rw [← hn] at R1 h15
       rw [← hn]
       replace hn := hid hn
       clear r1 hb1)
    | (go_at_call 17; refine HE.out.mono ?_; rintro e w2 ⟨en, rfl, hok, hb2⟩; have B2 := hid hb2; replace hok := hid hok; clear hb2; unfold EnvT.val))
  all_goals first
    | (go_wp2_with (first | (go_at_call 10; refine (awake_any _ (HM.out.later (bstep (bstep B1.out B2.out) (balloc (balloc (b0 w2) _) _)))).mono ?_; rintro e w4 ⟨rfl, hb4⟩))
       go_ret
       exact ⟨rfl, bstep (bstep (bstep B1.out B2.out) (balloc (balloc (b0 w2) _) _)) hb4⟩)
    | skip
  obtain ⟨wx, hwx⟩ : ∃ wx, wx = (w2.alloc (.cells #[.slice Am n cm] 25)).alloc (.cells #[.string en.a, .string en.b, .string en.c] 38) := ⟨_, rfl⟩
  have hzx : wx.heap.size = w2.heap.size + 2 := by rw [hwx]; simp
  have zx1 : w2.heap.size < wx.heap.size := by omega
  have zx2 : w2.heap.size + 1 < wx.heap.size := by omega
  have BW2 := hid (show Below w2.heap.size w2 wx by rw [hwx]; exact balloc (balloc (b0 w2) _) _)
  have BX := hid (bstep (bstep B1.out B2.out) BW2.out)
  have HMX := hid (HM.out.later BX.out)
  have BX1 := hid (B2.out.trans (BW2.out.mono B2.out.size))
  have RX := hid (R1.out.lift BX1.out BX1.out.size)
  have m0 : wx.cell? ⟨w2.heap.size, 0, none⟩ = some (.slice Am n cm) := by rw [hwx]; exact al2_old rfl
  have e0 : wx.cell? ⟨w2.heap.size + 1, 0, none⟩ = some (.string en.a) := by rw [hwx]; exact al2_new rfl
  have e1 : wx.cell? ⟨w2.heap.size + 1, 1, none⟩ = some (.string en.b) := by rw [hwx]; exact al2_new rfl
  have e2 : wx.cell? ⟨w2.heap.size + 1, 2, none⟩ = some (.string en.c) := by rw [hwx]; exact al2_new rfl
  rw [← hwx]
  clear hwx
  rcases Bool.eq_false_or_eq_true (mayB m) with hmay | hmay
  · have hn0 : m.length ≠ 0 := by rw [← hn.out]; intro hh; simp_all
    obtain ⟨h15m, f, hf, -⟩ := may_tree hmay hn0
    have hfl := treeF_len hf
    have HTA := hid (treeF_at hf)
    have hfp := Frm.size_pos f
    have hfs : f.size ≤ 20 := by omega
    have HGL : Hid ((Frm.subs f)[n - 1]? = some f) := hid (by rw [hn.out, hfl]; exact Frm.subs_last f)
    have hn1 : 1 ≤ n := by have := hn.out; omega
    have HN1 := hid (show ((n - 1 : Nat) : Int) = (n : Int) - 1 by omega)
    have s1 : IntKind.i64.wrap ((n : Int) - 1) = (n : Int) - 1 := IntWalk.i64_in _ (by omega)
    have hW := means_full hmay hok.out hf
    have hX := means_part hmay hok.out hf
    clear hn0 hfl hfp hf
    unfold wantI at hW hX
    rcases Bool.eq_false_or_eq_true (truthF (fullE en).at f) with hT | hT
    · rw [if_pos hT] at hW hX
      rcases hX with hX | hX
      · go_wp2_with (first
          | (go_at_call 15; refine (may_any _ m _ RX.out).mono ?_; rintro e w4 ⟨rfl, hb4⟩; rw [hmay]
             have B4 := hid hb4
             have m4 := cell_below hb4 zx1 m0
             have e40 := cell_below hb4 zx2 e0
             have e41 := cell_below hb4 zx2 e1
             have e42 := cell_below hb4 zx2 e2
             have HFU := hid (full10_any en w4)
             have R4 := hid (RX.out.lift hb4 hb4.size)
             have hz4 := hb4.size
             unfold EnvT.val at HFU
             clear hb4)
          | (go_at_call 18; refine HFU.out.mono ?_; rintro e w5 ⟨rfl, hb5⟩
             have B5 := hid (B4.out.trans (hb5.mono hz4))
             have hz5 := hb5.size
             have B6 := hid (B5.out.alloc B5.out.size (.cells #[.string (fullE en).a, .string (fullE en).b, .string (fullE en).c] 38))
             have m5 := cell_below B6.out zx1 m0
             have e50 := cell_below B6.out zx2 e0
             have e51 := cell_below B6.out zx2 e1
             have e52 := cell_below B6.out zx2 e2
             have f50 : (w5.alloc (.cells #[.string (fullE en).a, .string (fullE en).b, .string (fullE en).c] 38)).cell? ⟨w5.heap.size, 0, none⟩ = some (.string (fullE en).a) := World.cell?_alloc_new ..
             have f51 : (w5.alloc (.cells #[.string (fullE en).a, .string (fullE en).b, .string (fullE en).c] 38)).cell? ⟨w5.heap.size, 1, none⟩ = some (.string (fullE en).b) := World.cell?_alloc_new ..
             have f52 : (w5.alloc (.cells #[.string (fullE en).a, .string (fullE en).b, .string (fullE en).c] 38)).cell? ⟨w5.heap.size, 2, none⟩ = some (.string (fullE en).c) := World.cell?_alloc_new ..
             have HTR := hid (truth_any f (Frm.subs f) m (.slice Am n cm) _ (n - 1) 20 (fullE en) (RX.out.lift B6.out B6.out.size) HTA.out HGL.out h15m hfs (Nat.le_refl _))
             rw [HN1.out, hT] at HTR
             unfold EnvT.val at HTR
             clear hb5)
          | (go_at_call 19; refine HTR.out.mono ?_; rintro e w7 ⟨rfl, hb7⟩
             have B7 := hid (B6.out.trans (hb7.mono B6.out.size))
             have m7 := cell_below B7.out zx1 m0
             have e70 := cell_below B7.out zx2 e0
             have e71 := cell_below B7.out zx2 e1
             have e72 := cell_below B7.out zx2 e2
             have f70 := cell_below hb7 (by simp) f50
             have f71 := cell_below hb7 (by simp) f51
             have f72 := cell_below hb7 (by simp) f52
             have z7 : w5.heap.size < w7.heap.size := Nat.lt_of_lt_of_le (by simp) hb7.size
             have HE1 := hid (eval_any _ m en w7 (RX.out.lift B7.out B7.out.size))
             rw [hX] at HE1
             unfold EnvT.val at HE1
             clear hb7)
          | (go_at_call 20; refine HE1.out.mono ?_; clear HE1; rintro e w8 ⟨rfl, hb8⟩
             have B8 := hid (B7.out.trans (hb8.mono B7.out.size))
             have hz8 := hb8.size
             have m8 := cell_below B8.out zx1 m0
             have f80 := cell_below hb8 z7 f70
             have f81 := cell_below hb8 z7 f71
             have f82 := cell_below hb8 z7 f72
             have HM8 := hid (HMX.out.later B8.out)
             have z8 : w5.heap.size < w8.heap.size := Nat.lt_of_lt_of_le z7 hb8.size
             clear hb8)
          | (go_at_call 10; refine (awake_any w8 HM8.out).mono ?_; rintro e w9 ⟨rfl, hb9⟩
             have B9 := hid (B8.out.trans (hb9.mono B8.out.size))
             have m9 := cell_below B9.out zx1 m0
             have f90 := cell_below hb9 z8 f80
             have f91 := cell_below hb9 z8 f81
             have f92 := cell_below hb9 z8 f82
             have HE2 := hid (eval_any _ m (fullE en) w9 (RX.out.lift B9.out B9.out.size))
             rw [hW] at HE2
             unfold EnvT.val at HE2
             clear hb9)
          | (go_at_call 20; refine HE2.out.mono ?_; rintro e w10 ⟨rfl, hb10⟩))
        go_ret
        exact ⟨rfl, BX.out.trans ((B9.out.trans (hb10.mono B9.out.size)).mono BX.out.size)⟩
      · go_wp2_with (first
          | (go_at_call 15; refine (may_any _ m _ RX.out).mono ?_; rintro e w4 ⟨rfl, hb4⟩; rw [hmay]
             have B4 := hid hb4
             have m4 := cell_below hb4 zx1 m0
             have e40 := cell_below hb4 zx2 e0
             have e41 := cell_below hb4 zx2 e1
             have e42 := cell_below hb4 zx2 e2
             have HFU := hid (full10_any en w4)
             have R4 := hid (RX.out.lift hb4 hb4.size)
             have hz4 := hb4.size
             unfold EnvT.val at HFU
             clear hb4)
          | (go_at_call 18; refine HFU.out.mono ?_; rintro e w5 ⟨rfl, hb5⟩
             have B5 := hid (B4.out.trans (hb5.mono hz4))
             have hz5 := hb5.size
             have B6 := hid (B5.out.alloc B5.out.size (.cells #[.string (fullE en).a, .string (fullE en).b, .string (fullE en).c] 38))
             have m5 := cell_below B6.out zx1 m0
             have e50 := cell_below B6.out zx2 e0
             have e51 := cell_below B6.out zx2 e1
             have e52 := cell_below B6.out zx2 e2
             have f50 : (w5.alloc (.cells #[.string (fullE en).a, .string (fullE en).b, .string (fullE en).c] 38)).cell? ⟨w5.heap.size, 0, none⟩ = some (.string (fullE en).a) := World.cell?_alloc_new ..
             have f51 : (w5.alloc (.cells #[.string (fullE en).a, .string (fullE en).b, .string (fullE en).c] 38)).cell? ⟨w5.heap.size, 1, none⟩ = some (.string (fullE en).b) := World.cell?_alloc_new ..
             have f52 : (w5.alloc (.cells #[.string (fullE en).a, .string (fullE en).b, .string (fullE en).c] 38)).cell? ⟨w5.heap.size, 2, none⟩ = some (.string (fullE en).c) := World.cell?_alloc_new ..
             have HTR := hid (truth_any f (Frm.subs f) m (.slice Am n cm) _ (n - 1) 20 (fullE en) (RX.out.lift B6.out B6.out.size) HTA.out HGL.out h15m hfs (Nat.le_refl _))
             rw [HN1.out, hT] at HTR
             unfold EnvT.val at HTR
             clear hb5)
          | (go_at_call 19; refine HTR.out.mono ?_; rintro e w7 ⟨rfl, hb7⟩
             have B7 := hid (B6.out.trans (hb7.mono B6.out.size))
             have m7 := cell_below B7.out zx1 m0
             have e70 := cell_below B7.out zx2 e0
             have e71 := cell_below B7.out zx2 e1
             have e72 := cell_below B7.out zx2 e2
             have f70 := cell_below hb7 (by simp) f50
             have f71 := cell_below hb7 (by simp) f51
             have f72 := cell_below hb7 (by simp) f52
             have z7 : w5.heap.size < w7.heap.size := Nat.lt_of_lt_of_le (by simp) hb7.size
             have HE1 := hid (eval_any _ m en w7 (RX.out.lift B7.out B7.out.size))
             rw [hX] at HE1
             unfold EnvT.val at HE1
             clear hb7)
          | (go_at_call 20; refine HE1.out.mono ?_; clear HE1; rintro e w8 ⟨rfl, hb8⟩
             have B8 := hid (B7.out.trans (hb8.mono B7.out.size))
             have hz8 := hb8.size
             have m8 := cell_below B8.out zx1 m0
             have f80 := cell_below hb8 z7 f70
             have f81 := cell_below hb8 z7 f71
             have f82 := cell_below hb8 z7 f72
             have HM8 := hid (HMX.out.later B8.out)
             have z8 : w5.heap.size < w8.heap.size := Nat.lt_of_lt_of_le z7 hb8.size
             clear hb8)
          | (go_at_call 10; refine (awake_any w8 HM8.out).mono ?_; rintro e w9 ⟨rfl, hb9⟩
             have B9 := hid (B8.out.trans (hb9.mono B8.out.size))
             have m9 := cell_below B9.out zx1 m0
             have f90 := cell_below hb9 z8 f80
             have f91 := cell_below hb9 z8 f81
             have f92 := cell_below hb9 z8 f82
             have HE2 := hid (eval_any _ m (fullE en) w9 (RX.out.lift B9.out B9.out.size))
             rw [hW] at HE2
             unfold EnvT.val at HE2
             clear hb9)
          | (go_at_call 20; refine HE2.out.mono ?_; rintro e w10 ⟨rfl, hb10⟩))
        go_ret
        exact ⟨rfl, BX.out.trans ((B9.out.trans (hb10.mono B9.out.size)).mono BX.out.size)⟩
    · rw [if_neg (by rw [hT]; decide)] at hW hX
      rcases hX with hX | hX
      · go_wp2_with (first
          | (go_at_call 15; refine (may_any _ m _ RX.out).mono ?_; rintro e w4 ⟨rfl, hb4⟩; rw [hmay]
             have B4 := hid hb4
             have m4 := cell_below hb4 zx1 m0
             have e40 := cell_below hb4 zx2 e0
             have e41 := cell_below hb4 zx2 e1
             have e42 := cell_below hb4 zx2 e2
             have HFU := hid (full10_any en w4)
             have R4 := hid (RX.out.lift hb4 hb4.size)
             have hz4 := hb4.size
             unfold EnvT.val at HFU
             clear hb4)
          | (go_at_call 18; refine HFU.out.mono ?_; rintro e w5 ⟨rfl, hb5⟩
             have B5 := hid (B4.out.trans (hb5.mono hz4))
             have hz5 := hb5.size
             have B6 := hid (B5.out.alloc B5.out.size (.cells #[.string (fullE en).a, .string (fullE en).b, .string (fullE en).c] 38))
             have m5 := cell_below B6.out zx1 m0
             have e50 := cell_below B6.out zx2 e0
             have e51 := cell_below B6.out zx2 e1
             have e52 := cell_below B6.out zx2 e2
             have f50 : (w5.alloc (.cells #[.string (fullE en).a, .string (fullE en).b, .string (fullE en).c] 38)).cell? ⟨w5.heap.size, 0, none⟩ = some (.string (fullE en).a) := World.cell?_alloc_new ..
             have f51 : (w5.alloc (.cells #[.string (fullE en).a, .string (fullE en).b, .string (fullE en).c] 38)).cell? ⟨w5.heap.size, 1, none⟩ = some (.string (fullE en).b) := World.cell?_alloc_new ..
             have f52 : (w5.alloc (.cells #[.string (fullE en).a, .string (fullE en).b, .string (fullE en).c] 38)).cell? ⟨w5.heap.size, 2, none⟩ = some (.string (fullE en).c) := World.cell?_alloc_new ..
             have HTR := hid (truth_any f (Frm.subs f) m (.slice Am n cm) _ (n - 1) 20 (fullE en) (RX.out.lift B6.out B6.out.size) HTA.out HGL.out h15m hfs (Nat.le_refl _))
             rw [HN1.out, hT] at HTR
             unfold EnvT.val at HTR
             clear hb5)
          | (go_at_call 19; refine HTR.out.mono ?_; rintro e w7 ⟨rfl, hb7⟩
             have B7 := hid (B6.out.trans (hb7.mono B6.out.size))
             have m7 := cell_below B7.out zx1 m0
             have e70 := cell_below B7.out zx2 e0
             have e71 := cell_below B7.out zx2 e1
             have e72 := cell_below B7.out zx2 e2
             have f70 := cell_below hb7 (by simp) f50
             have f71 := cell_below hb7 (by simp) f51
             have f72 := cell_below hb7 (by simp) f52
             have z7 : w5.heap.size < w7.heap.size := Nat.lt_of_lt_of_le (by simp) hb7.size
             have HE1 := hid (eval_any _ m en w7 (RX.out.lift B7.out B7.out.size))
             rw [hX] at HE1
             unfold EnvT.val at HE1
             clear hb7)
          | (go_at_call 20; refine HE1.out.mono ?_; clear HE1; rintro e w8 ⟨rfl, hb8⟩
             have B8 := hid (B7.out.trans (hb8.mono B7.out.size))
             have hz8 := hb8.size
             have m8 := cell_below B8.out zx1 m0
             have f80 := cell_below hb8 z7 f70
             have f81 := cell_below hb8 z7 f71
             have f82 := cell_below hb8 z7 f72
             have HM8 := hid (HMX.out.later B8.out)
             have z8 : w5.heap.size < w8.heap.size := Nat.lt_of_lt_of_le z7 hb8.size
             clear hb8)
          | (go_at_call 10; refine (awake_any w8 HM8.out).mono ?_; rintro e w9 ⟨rfl, hb9⟩
             have B9 := hid (B8.out.trans (hb9.mono B8.out.size))
             have m9 := cell_below B9.out zx1 m0
             have f90 := cell_below hb9 z8 f80
             have f91 := cell_below hb9 z8 f81
             have f92 := cell_below hb9 z8 f82
             have HE2 := hid (eval_any _ m (fullE en) w9 (RX.out.lift B9.out B9.out.size))
             rw [hW] at HE2
             unfold EnvT.val at HE2
             clear hb9)
          | (go_at_call 20; refine HE2.out.mono ?_; rintro e w10 ⟨rfl, hb10⟩))
        go_ret
        exact ⟨rfl, BX.out.trans ((B9.out.trans (hb10.mono B9.out.size)).mono BX.out.size)⟩
      · go_wp2_with (first
          | (go_at_call 15; refine (may_any _ m _ RX.out).mono ?_; rintro e w4 ⟨rfl, hb4⟩; rw [hmay]
             have B4 := hid hb4
             have m4 := cell_below hb4 zx1 m0
             have e40 := cell_below hb4 zx2 e0
             have e41 := cell_below hb4 zx2 e1
             have e42 := cell_below hb4 zx2 e2
             have HFU := hid (full10_any en w4)
             have R4 := hid (RX.out.lift hb4 hb4.size)
             have hz4 := hb4.size
             unfold EnvT.val at HFU
             clear hb4)
          | (go_at_call 18; refine HFU.out.mono ?_; rintro e w5 ⟨rfl, hb5⟩
             have B5 := hid (B4.out.trans (hb5.mono hz4))
             have hz5 := hb5.size
             have B6 := hid (B5.out.alloc B5.out.size (.cells #[.string (fullE en).a, .string (fullE en).b, .string (fullE en).c] 38))
             have m5 := cell_below B6.out zx1 m0
             have e50 := cell_below B6.out zx2 e0
             have e51 := cell_below B6.out zx2 e1
             have e52 := cell_below B6.out zx2 e2
             have f50 : (w5.alloc (.cells #[.string (fullE en).a, .string (fullE en).b, .string (fullE en).c] 38)).cell? ⟨w5.heap.size, 0, none⟩ = some (.string (fullE en).a) := World.cell?_alloc_new ..
             have f51 : (w5.alloc (.cells #[.string (fullE en).a, .string (fullE en).b, .string (fullE en).c] 38)).cell? ⟨w5.heap.size, 1, none⟩ = some (.string (fullE en).b) := World.cell?_alloc_new ..
             have f52 : (w5.alloc (.cells #[.string (fullE en).a, .string (fullE en).b, .string (fullE en).c] 38)).cell? ⟨w5.heap.size, 2, none⟩ = some (.string (fullE en).c) := World.cell?_alloc_new ..
             have HTR := hid (truth_any f (Frm.subs f) m (.slice Am n cm) _ (n - 1) 20 (fullE en) (RX.out.lift B6.out B6.out.size) HTA.out HGL.out h15m hfs (Nat.le_refl _))
             rw [HN1.out, hT] at HTR
             unfold EnvT.val at HTR
             clear hb5)
          | (go_at_call 19; refine HTR.out.mono ?_; rintro e w7 ⟨rfl, hb7⟩
             have B7 := hid (B6.out.trans (hb7.mono B6.out.size))
             have m7 := cell_below B7.out zx1 m0
             have e70 := cell_below B7.out zx2 e0
             have e71 := cell_below B7.out zx2 e1
             have e72 := cell_below B7.out zx2 e2
             have f70 := cell_below hb7 (by simp) f50
             have f71 := cell_below hb7 (by simp) f51
             have f72 := cell_below hb7 (by simp) f52
             have z7 : w5.heap.size < w7.heap.size := Nat.lt_of_lt_of_le (by simp) hb7.size
             have HE1 := hid (eval_any _ m en w7 (RX.out.lift B7.out B7.out.size))
             rw [hX] at HE1
             unfold EnvT.val at HE1
             clear hb7)
          | (go_at_call 20; refine HE1.out.mono ?_; clear HE1; rintro e w8 ⟨rfl, hb8⟩
             have B8 := hid (B7.out.trans (hb8.mono B7.out.size))
             have hz8 := hb8.size
             have m8 := cell_below B8.out zx1 m0
             have f80 := cell_below hb8 z7 f70
             have f81 := cell_below hb8 z7 f71
             have f82 := cell_below hb8 z7 f72
             have HM8 := hid (HMX.out.later B8.out)
             have z8 : w5.heap.size < w8.heap.size := Nat.lt_of_lt_of_le z7 hb8.size
             clear hb8)
          | (go_at_call 10; refine (awake_any w8 HM8.out).mono ?_; rintro e w9 ⟨rfl, hb9⟩
             have B9 := hid (B8.out.trans (hb9.mono B8.out.size))
             have m9 := cell_below B9.out zx1 m0
             have f90 := cell_below hb9 z8 f80
             have f91 := cell_below hb9 z8 f81
             have f92 := cell_below hb9 z8 f82
             have HE2 := hid (eval_any _ m (fullE en) w9 (RX.out.lift B9.out B9.out.size))
             rw [hW] at HE2
             unfold EnvT.val at HE2
             clear hb9)
          | (go_at_call 20; refine HE2.out.mono ?_; rintro e w10 ⟨rfl, hb10⟩))
        go_ret
        exact ⟨rfl, BX.out.trans ((B9.out.trans (hb10.mono B9.out.size)).mono BX.out.size)⟩
  · go_wp2_with (first
      | (go_at_call 15; refine (may_any _ m _ RX.out).mono ?_; rintro e w4 ⟨rfl, hb4⟩; rw [hmay]; have HM4 := hid (HMX.out.later hb4))
      | (go_at_call 10; refine (awake_any w4 HM4.out).mono ?_; rintro e w5 ⟨rfl, hb5⟩))
    go_ret
    exact ⟨rfl, bstep (bstep BX.out hb4) hb5⟩
end Go.Proofs.YtmdnleafpmondaaDoor
