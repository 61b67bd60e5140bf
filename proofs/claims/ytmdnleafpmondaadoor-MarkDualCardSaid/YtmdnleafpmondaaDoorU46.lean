/- MarkDual: the walk of the law. -/
import Derived.Test.YtmdnleafpmondaaDoorU40
namespace Go.Proofs.YtmdnleafpmondaaDoor
open Go Go.RowKit

theorem parse_may {s : ByteArray} {l : List Node} (h : parseF s = (l, 0)) (hl : l ≠ []) : mayB l = true := by
  unfold parseF at h
  split at h
  · injection h with h1 h2; cases h2
  · split at h
    · injection h with h1 h2; exact absurd h1.symm hl
    · split at h
      · split at h
        · next hm => injection h with h1 h2; rw [← h1]; exact hm
        · injection h with h1 h2; cases h2
      · injection h with h1 h2; cases h2
theorem post_ne (f : Frm) : f.post 0 ≠ [] := by
  intro h
  have := Frm.post_length f 0
  rw [h] at this
  have := Frm.size_pos f
  simp at *
  omega
theorem may_val {f : Frm} {en : EnvT} (h : mayB (f.post 0) = true) (hok : f.Ok) (he : en.ok = true) : evalV (f.post 0) en = evalF en.at f := by
  unfold evalV
  rw [if_pos ⟨h, he⟩, treeF_post hok]
theorem parse_val {f : Frm} {en : EnvT} {s : ByteArray} (h : parseF s = (f.post 0, 0)) (hok : f.Ok) (he : en.ok = true) : evalV (f.post 0) en = evalF en.at f :=
  may_val (parse_may h (post_ne f)) hok he
theorem print_ne {l : List Node} (h : printV l ≠ []) : mayB l = true ∧ l.length ≠ 0 := by
  unfold printV at h
  by_cases hm : mayB l = true
  · rw [if_pos hm] at h
    refine ⟨hm, fun h0 => h ?_⟩
    rw [List.eq_nil_of_length_eq_zero h0]
    rfl
  · rw [if_neg hm] at h
    exact absurd rfl h
def joinedS (a b c : ByteArray) : ByteArray := ⟨#[40, 32]⟩ ++ a ++ ⟨#[32, 41, 32]⟩ ++ b ++ ⟨#[32, 40, 32]⟩ ++ c ++ ⟨#[32, 41]⟩

set_option maxRecDepth 100000 in
set_option maxHeartbeats 2000000 in
theorem joined_any (a b c : ByteArray) (w : World) (ha : a.size ≤ 100) (hb : b.size ≤ 100) (hc : c.size ≤ 100) :
    Calls Tryd.prog 21 #[.string a, .string b, .string c] w fun x w' => x = .returned (.string (joinedS a b c)) ∧ Below w.heap.size w w' := by
  have z1 : ¬ 9223372036854775807 < 2 + a.size := by omega
  have z2 : ¬ 9223372036854775807 < 2 + a.size + 3 := by omega
  have z3 : ¬ 9223372036854775807 < 2 + a.size + 3 + b.size := by omega
  have z4 : ¬ 9223372036854775807 < 2 + a.size + 3 + b.size + 3 := by omega
  have z5 : ¬ 9223372036854775807 < 2 + a.size + 3 + b.size + 3 + c.size := by omega
  have z6 : ¬ 9223372036854775807 < 2 + a.size + 3 + b.size + 3 + c.size + 2 := by omega
  go_enter Tryd.func21, Tryd.ntmps21
  go_wp2
  go_ret
  exact ⟨rfl, b0 w⟩

set_option maxRecDepth 100000 in
set_option maxHeartbeats 4000000 in
theorem markDual_any (v : Value) (l : List Int) (w : World) (h : SliceRd tInt w (Lt w.heap.size) v l) (hm : MaxOk w) : Calls Tryd.prog 6 #[v] w fun e w' => e = .returned (.bool true) ∧ Below w.heap.size w w' := by
  have HM := hid hm
  have H := hid h
  obtain ⟨Av, cv, rfl, -⟩ := h.shape
  clear hm h
  obtain ⟨lv, hlv⟩ : ∃ lv, lv = l.length := ⟨_, rfl⟩
  rw [← hlv] at H
  rw [← hlv]
  replace hlv := hid hlv
  have HK := hid (mark0_any _ l 0 w H.out (by decide) (by decide))
  go_enter Tryd.func6, Tryd.ntmps6
  go_wp2_with (first
    | (go_at_call 14; refine HK.out.mono ?_; clear HK; rintro e w1 ⟨Am, cm, m, rfl, r1, h15, hb1⟩; have R1 := hid r1; have B1 := hid hb1
       have HK2 := hid (mark0_any _ l 15 w1 (H.out.lift hb1 hb1.size) (by decide) (by decide))
       obtain ⟨n, hn⟩ : ∃ n, n = m.length := ⟨_, rfl⟩
       rw [← hn] at R1 h15
       rw [← hn]
       replace hn := hid hn
       clear r1 hb1)
    | (go_at_call 14; refine HK2.out.mono ?_; clear HK2; rintro e w2 ⟨Ap, cp, p, rfl, r2, h25, hb2⟩; have R2 := hid r2; have B2 := hid hb2
       have HE := hid (env0_any _ l 30 w2 (H.out.lift (bstep B1.out hb2) (bstep B1.out hb2).size) (by decide) (by decide))
       obtain ⟨q, hq⟩ : ∃ q, q = p.length := ⟨_, rfl⟩
       rw [← hq] at R2 h25
       rw [← hq]
       replace hq := hid hq
       clear r2 hb2)
    | (go_at_call 17; refine HE.out.mono ?_; clear HE; rintro e w3 ⟨en, rfl, hok, hb3⟩; have B3 := hid hb3; replace hok := hid hok; clear hb3; unfold EnvT.val))
  obtain ⟨wx, hwx⟩ : ∃ wx, wx = ((w3.alloc (.cells #[.slice Am n cm] 25)).alloc (.cells #[.slice Ap q cp] 25)).alloc (.cells #[.string en.a, .string en.b, .string en.c] 38) := ⟨_, rfl⟩
  have hzx : wx.heap.size = w3.heap.size + 3 := by rw [hwx]; simp
  have zx1 : w3.heap.size < wx.heap.size := by omega
  have zx2 : w3.heap.size + 1 < wx.heap.size := by omega
  have zx3 : w3.heap.size + 1 + 1 < wx.heap.size := by omega
  have BW2 := hid (show Below w3.heap.size w3 wx by rw [hwx]; exact balloc (balloc (balloc (b0 w3) _) _) _)
  have BX1 := hid (bstep (bstep B2.out B3.out) BW2.out)
  have BX2 := hid (bstep B3.out BW2.out)
  have BX := hid (bstep B1.out BX1.out)
  have HMX := hid (HM.out.later BX.out)
  have RX := hid (R1.out.lift BX1.out BX1.out.size)
  have QX := hid (R2.out.lift BX2.out BX2.out.size)
  have m0 : wx.cell? ⟨w3.heap.size, 0, none⟩ = some (.slice Am n cm) := by rw [hwx]; exact cell_below (balloc (b0 _) _) (by simp; omega) (al2_old rfl)
  have p0 : wx.cell? ⟨w3.heap.size + 1, 0, none⟩ = some (.slice Ap q cp) := by rw [hwx]; exact cell_below (balloc (b0 _) _) (by simp) (al2_new rfl)
  have e0 : wx.cell? ⟨w3.heap.size + 1 + 1, 0, none⟩ = some (.string en.a) := by
    rw [hwx]
    have := al2_new (w := w3.alloc (.cells #[.slice Am n cm] 25)) (o1 := .cells #[.slice Ap q cp] 25) (cs := #[.string en.a, .string en.b, .string en.c]) (e := 38) (i := 0) rfl
    rw [World.size_alloc] at this
    exact this
  have e1 : wx.cell? ⟨w3.heap.size + 1 + 1, 1, none⟩ = some (.string en.b) := by
    rw [hwx]
    have := al2_new (w := w3.alloc (.cells #[.slice Am n cm] 25)) (o1 := .cells #[.slice Ap q cp] 25) (cs := #[.string en.a, .string en.b, .string en.c]) (e := 38) (i := 1) rfl
    rw [World.size_alloc] at this
    exact this
  have e2 : wx.cell? ⟨w3.heap.size + 1 + 1, 2, none⟩ = some (.string en.c) := by
    rw [hwx]
    have := al2_new (w := w3.alloc (.cells #[.slice Am n cm] 25)) (o1 := .cells #[.slice Ap q cp] 25) (cs := #[.string en.a, .string en.b, .string en.c]) (e := 38) (i := 2) rfl
    rw [World.size_alloc] at this
    exact this
  rw [← hwx]
  clear hwx
  have HC1 := hid (fun e : Later wx => print_any (.slice Am n cm) m e.w (RX.out.lift e.below e.below.size))
  have HC2 := hid (fun e : Later wx => print_any (.slice Ap q cp) p e.w (QX.out.lift e.below e.below.size))
  obtain ⟨S1, hS1⟩ : ∃ S1 : ByteArray, S1 = ⟨(printV m).toArray⟩ := ⟨_, rfl⟩
  obtain ⟨S2, hS2⟩ : ∃ S2 : ByteArray, S2 = ⟨(printV p).toArray⟩ := ⟨_, rfl⟩
  unfold strV at HC1 HC2
  rw [← hS1] at HC1
  rw [← hS2] at HC2
  have HT1 := hid (show S1.data.toList = printV m by rw [hS1])
  have HT2 := hid (show S2.data.toList = printV p by rw [hS2])
  clear hS1 hS2
  have q0 := later_cell zx1 m0
  have q1 := later_cell zx2 p0
  (refine wp_region_later (by kernel_rfl) (by kernel_rfl) ?_; (repeat (go_big_quiet_step ((first | (go_at_call_of 16 Am; exact Calls.later (HC1.out _) rfl) | (go_at_call_of 16 Ap; exact Calls.later (HC2.out _) rfl))))); refine wpQuiet_nil ?_; rintro _ ⟨e4, rfl⟩; obtain ⟨w4, hw4⟩ : ∃ w4 : World, w4 = e4.w := ⟨_, rfl⟩; have hb4 := e4.below; rw [← hw4] at hb4 ⊢; clear hw4 q0 q1)
  have B4 := hid hb4
  have m4 := cell_below hb4 zx1 m0
  have p4 := cell_below hb4 zx2 p0
  have f40 := cell_below hb4 zx3 e0
  have f41 := cell_below hb4 zx3 e1
  have f42 := cell_below hb4 zx3 e2
  have HM4 := hid (HMX.out.later hb4)
  have hz4 := hb4.size
  clear m0 p0 e0 e1 e2 hb4
  have HAW := hid (awake_any w4 HM4.out)
  have HBX4 := hid (bstep BX.out B4.out)
  by_cases hA : 30 < S1.size
  · have d1 := decide_eq_true (show (30 : Int) < ↑S1.size by omega)
    have d2 := decide_eq_true hA
    go_wp2_with (first | (go_at_call 10; refine HAW.out.mono ?_; rintro e w5 ⟨rfl, hb5⟩))
    go_ret
    exact ⟨rfl, bstep HBX4.out hb5⟩
  have d1 := decide_eq_false (show ¬ (30 : Int) < ↑S1.size by omega)
  have d2 := decide_eq_false hA
  by_cases hB : 30 < S2.size
  · have d3 := decide_eq_true (show (30 : Int) < ↑S2.size by omega)
    have d4 := decide_eq_true hB
    go_wp2_with (first | (go_at_call 10; refine HAW.out.mono ?_; rintro e w5 ⟨rfl, hb5⟩))
    go_ret
    exact ⟨rfl, bstep HBX4.out hb5⟩
  have d3 := decide_eq_false (show ¬ (30 : Int) < ↑S2.size by omega)
  have d4 := decide_eq_false hB
  rcases empty_eq S1 with ⟨t1, -⟩ | ⟨t1, pt1⟩
  · go_wp2_with (first | (go_at_call 10; refine HAW.out.mono ?_; rintro e w5 ⟨rfl, hb5⟩))
    go_ret
    exact ⟨rfl, bstep HBX4.out hb5⟩
  rcases empty_eq S2 with ⟨t2, -⟩ | ⟨t2, pt2⟩
  · go_wp2_with (first | (go_at_call 10; refine HAW.out.mono ?_; rintro e w5 ⟨rfl, hb5⟩))
    go_ret
    exact ⟨rfl, bstep HBX4.out hb5⟩
  have iw : IntKind.i64.wrap ((n : Int) + (q : Int)) = (n : Int) + (q : Int) := IntWalk.i64_in _ (by omega)
  by_cases hC : (12 : Int) < (n : Int) + (q : Int)
  · have d5 := decide_eq_true hC
    replace pt1 := hid pt1
    replace pt2 := hid pt2
    go_wp2_with (first | (go_at_call 10; refine HAW.out.mono ?_; rintro e w5 ⟨rfl, hb5⟩))
    go_ret
    exact ⟨rfl, bstep HBX4.out hb5⟩
  have d5 := decide_eq_false hC
  have hp1 : printV m ≠ [] := fun h => pt1 (by rw [h] at HT1; exact ByteArray.ext (Array.ext' HT1.out))
  have hp2 : printV p ≠ [] := fun h => pt2 (by rw [h] at HT2; exact ByteArray.ext (Array.ext' HT2.out))
  obtain ⟨hm1, hm2⟩ := print_ne hp1
  obtain ⟨hq1, hq2⟩ := print_ne hp2
  obtain ⟨f, hokf, -, -, -, hpf, hprf, -⟩ := may_text hm1 hm2
  obtain ⟨g, hokg, -, -, -, hpg, hprg, -⟩ := may_text hq1 hq2
  have hS1 : S1.data.toList = textL f := HT1.out.trans hprf
  have hS2 : S2.data.toList = textL g := HT2.out.trans hprg
  have hz1 : (textL f).length ≤ 30 := by
    have : S1.data.toList.length = S1.size := by simp
    rw [hS1] at this; omega
  have hz2 : (textL g).length ≤ 30 := by
    have : S2.data.toList.length = S2.size := by simp
    rw [hS2] at this; omega
  have h12 : f.size + g.size ≤ 12 := by
    have h1 := Frm.post_length f 0
    have h2 := Frm.post_length g 0
    rw [← hpf] at h1
    rw [← hpg] at h2
    have := hn.out
    have := hq.out
    omega
  have VM : evalV m en = evalF en.at f := by rw [hpf] at hm1 ⊢; exact may_val hm1 hokf hok.out
  have VP : evalV p en = evalF en.at g := by rw [hpg] at hq1 ⊢; exact may_val hq1 hokg hok.out
  have HJ1 := hid (fun W => joined_any S1 ⟨#[97, 110, 100]⟩ S2 W (by omega) (by decide) (by omega))
  have HJ3 := hid (fun W => joined_any S2 ⟨#[97, 110, 100]⟩ S1 W (by omega) (by decide) (by omega))
  have lJ1 : (joinedS S1 ⟨#[97, 110, 100]⟩ S2).data.toList = brk (textL f) ++ [32, 97, 110, 100, 32] ++ brk (textL g) := by simp [joinedS, brk, hS1, hS2]
  have lJ3 : (joinedS S2 ⟨#[97, 110, 100]⟩ S1).data.toList = brk (textL g) ++ [32, 97, 110, 100, 32] ++ brk (textL f) := by simp [joinedS, brk, hS1, hS2]
  obtain ⟨J1, hJ1⟩ : ∃ J1, J1 = joinedS S1 ⟨#[97, 110, 100]⟩ S2 := ⟨_, rfl⟩
  obtain ⟨J3, hJ3⟩ : ∃ J3, J3 = joinedS S2 ⟨#[97, 110, 100]⟩ S1 := ⟨_, rfl⟩
  rw [← hJ1] at HJ1 lJ1
  rw [← hJ3] at HJ3 lJ3
  clear hJ1 hJ3
  have zJ1 : J1.size ≤ 100 := by
    have : J1.data.toList.length = J1.size := by simp
    rw [lJ1] at this
    simp only [List.length_append, brk_len, List.length_cons, List.length_nil] at this
    omega
  have P1 := parse_nand (s := ⟨#[110, 111, 116, 32, 40, 32]⟩ ++ J1 ++ ⟨#[32, 41]⟩) hokf hokg h12 hz1 hz2 (by simp [lJ1, brk])
  have P2 := parse_or (s := ⟨#[110, 111, 116, 32, 40, 32]⟩ ++ S1 ++ ⟨#[32, 41, 32, 111, 114, 32, 110, 111, 116, 32, 40, 32]⟩ ++ S2 ++ ⟨#[32, 41]⟩) hokf hokg h12 hz1 hz2 (by simp [hS1, hS2, brk])
  have P3 := parse_and (s := J3) hokg hokf (by omega) hz2 hz1 lJ3
  have V1 := parse_val P1 (show (Frm.no (.two false f g)).Ok from ⟨hokf, hokg⟩) hok.out
  have V2 := parse_val P2 (show (Frm.two true (.no f) (.no g)).Ok from ⟨hokf, hokg⟩) hok.out
  have V3 := parse_val P3 (show (Frm.two false g f).Ok from ⟨hokg, hokf⟩) hok.out
  have HP1 := hid (parses_to P1)
  have HP2 := hid (parses_to P2)
  have HP3 := hid (parses_to P3)
  unfold ParsesTo at HP1 HP2 HP3
  simp only [evalF] at V1 V2 V3
  have r1 := evalF_three en.at f
  have r2 := evalF_three en.at g
  obtain ⟨ef, hef⟩ : ∃ ef, ef = evalF en.at f := ⟨_, rfl⟩
  obtain ⟨eg, heg⟩ : ∃ eg, eg = evalF en.at g := ⟨_, rfl⟩
  rw [← hef] at V1 V2 V3 VM r1
  rw [← heg] at V1 V2 V3 VP r2
  obtain ⟨vv, hvv⟩ : ∃ vv, vv = min eg ef := ⟨_, rfl⟩
  obtain ⟨yy, hyy⟩ : ∃ yy, yy = 2 - min ef eg := ⟨_, rfl⟩
  rw [← hvv] at V3
  rw [← hyy] at V1
  rw [show max (2 - ef) (2 - eg) = yy by omega] at V2
  have hvy : yy = 2 - vv := by omega
  have hv2 : 0 ≤ vv ∧ vv ≤ 2 := by omega
  replace hyy := hid hyy
  obtain ⟨N1, hN1⟩ : ∃ N1, N1 = (Frm.no (.two false f g)).post 0 := ⟨_, rfl⟩
  obtain ⟨N2, hN2⟩ : ∃ N2, N2 = (Frm.two true (.no f) (.no g)).post 0 := ⟨_, rfl⟩
  obtain ⟨N3, hN3⟩ : ∃ N3, N3 = (Frm.two false g f).post 0 := ⟨_, rfl⟩
  rw [← hN1] at HP1 V1
  rw [← hN2] at HP2 V2
  rw [← hN3] at HP3 V3
  obtain ⟨k1, hk1⟩ : ∃ k1, k1 = N1.length := ⟨_, rfl⟩
  obtain ⟨k2, hk2⟩ : ∃ k2, k2 = N2.length := ⟨_, rfl⟩
  obtain ⟨k3, hk3⟩ : ∃ k3, k3 = N3.length := ⟨_, rfl⟩
  rw [← hk1] at HP1
  rw [← hk2] at HP2
  rw [← hk3] at HP3
  have y1 : ¬ 9223372036854775807 < 6 + J1.size := by omega
  have y2 : ¬ 9223372036854775807 < 6 + J1.size + 2 := by omega
  have y3 : ¬ 9223372036854775807 < 6 + S1.size := by omega
  have y4 : ¬ 9223372036854775807 < 6 + S1.size + 12 := by omega
  have y5 : ¬ 9223372036854775807 < 6 + S1.size + 12 + S2.size := by omega
  have y6 : ¬ 9223372036854775807 < 6 + S1.size + 12 + S2.size + 2 := by omega
  clear hN1 hN2 hN3 hk1 hk2 hk3 hef heg P1 P2 P3 lJ1 lJ3 hS1 hS2 hpf hpg hprf hprg hm1 hm2 hq1 hq2 hp1 hp2 pt1 pt2 hz1 hz2 h12 hokf hokg
  have HZM := hid (show w3.heap.size < w4.heap.size by omega)
  have HZP := hid (show w3.heap.size + 1 < w4.heap.size by omega)
  have HZE := hid (show w3.heap.size + 1 + 1 < w4.heap.size by omega)
  replace V1 := hid V1
  replace V2 := hid V2
  replace V3 := hid V3
  replace VM := hid VM
  replace VP := hid VP
  replace r1 := hid r1
  replace r2 := hid r2
  replace hvv := hid hvv
  replace hvy := hid hvy
  replace hv2 := hid hv2
  go_wp2_with (first
    | (go_at_call 21; refine (HJ1.out w4).mono ?_; clear HJ1; rintro e w5 ⟨rfl, hb5⟩; have C5 := hid hb5; clear hb5)
    | (go_at_call 21; refine (HJ3.out _).mono ?_; clear HJ3; rintro e w8 ⟨rfl, hb8⟩; have D8 := hid hb8; have C8 := hid (bstep C7.out hb8); clear hb8)
    | (go_at_call 11; refine (HP1.out w5 (HM4.out.later C5.out)).mono ?_; clear HP1; rintro e w6 ⟨A6, c6, rfl, r6, hb6⟩
       have hba := balloc (b0 w6) (.cells #[.slice A6 k1 c6] 25)
       have C6 := hid (bstep (bstep C5.out hb6) hba)
       have R6 := hid (r6.lift hba hba.size)
       have o6 : (w6.alloc (.cells #[.slice A6 k1 c6] 25)).cell? ⟨w6.heap.size, 0, none⟩ = some (.slice A6 k1 c6) := World.cell?_alloc_new ..
       have hs6 : w6.heap.size < (w6.alloc (.cells #[.slice A6 k1 c6] 25)).heap.size := by simp
       clear r6 hb6 hba)
    | (go_at_call 11; refine (HP2.out _ (HM4.out.later C6.out)).mono ?_; clear HP2; rintro e w7 ⟨A7, c7, rfl, r7, hb7⟩
       have hba := balloc (b0 w7) (.cells #[.slice A7 k2 c7] 25)
       have D7 := hid (bstep hb7 hba)
       have C7 := hid (bstep C6.out D7.out)
       have R7 := hid (r7.lift hba hba.size)
       have o7 : (w7.alloc (.cells #[.slice A7 k2 c7] 25)).cell? ⟨w7.heap.size, 0, none⟩ = some (.slice A7 k2 c7) := World.cell?_alloc_new ..
       have hs7 : w7.heap.size < (w7.alloc (.cells #[.slice A7 k2 c7] 25)).heap.size := by simp
       clear r7 hb7 hba)
    | (go_at_call 11; refine (HP3.out _ (HM4.out.later C8.out)).mono ?_; clear HP3; rintro e w9 ⟨A9, c9, rfl, r9, hb9⟩
       have hba := balloc (b0 w9) (.cells #[.slice A9 k3 c9] 25)
       have D9 := hid (bstep D8.out (bstep hb9 hba))
       have C9 := hid (bstep C8.out (bstep hb9 hba))
       have R9 := hid (r9.lift hba hba.size)
       have o9 : (w9.alloc (.cells #[.slice A9 k3 c9] 25)).cell? ⟨w9.heap.size, 0, none⟩ = some (.slice A9 k3 c9) := World.cell?_alloc_new ..
       have hs9 : w9.heap.size < (w9.alloc (.cells #[.slice A9 k3 c9] 25)).heap.size := by simp
       have g90 := cell_below C9.out HZE.out f40
       have g91 := cell_below C9.out HZE.out f41
       have g92 := cell_below C9.out HZE.out f42
       have HE3 := hid (eval_any _ N3 en _ R9.out)
       rw [V3.out] at HE3
       unfold EnvT.val at HE3
       clear r9 hb9 hba)
    | (go_at_call 20; refine HE3.out.mono ?_; clear HE3; rintro e w10 ⟨rfl, hb10⟩; have C10 := hid (bstep C9.out hb10); have D10 := hid (bstep D9.out hb10); have E10 := hid hb10; clear hb10))
  have iv9 : IntKind.i64.wrap (2 - vv) = yy := by rw [hvy.out]; exact IntWalk.i64_in _ (by have := hv2.out; omega)
  have hw10 := C10.out.size
  have HCA := hid (fun e : Later w10 => awake_any e.w (HM4.out.later (C10.out.trans (e.below.mono hw10))))
  have HC1 := hid (fun e : Later w10 => eval_any (.slice A6 k1 c6) N1 en e.w ((R6.out.lift (bstep D7.out D10.out) (bstep D7.out D10.out).size).lift e.below e.below.size))
  have HC2 := hid (fun e : Later w10 => eval_any (.slice A7 k2 c7) N2 en e.w ((R7.out.lift D10.out D10.out.size).lift e.below e.below.size))
  have HC3 := hid (fun e : Later w10 => eval_any (.slice Am n cm) m en e.w ((RX.out.lift (bstep B4.out C10.out) (bstep B4.out C10.out).size).lift e.below e.below.size))
  have HC4 := hid (fun e : Later w10 => eval_any (.slice Ap q cp) p en e.w ((QX.out.lift (bstep B4.out C10.out) (bstep B4.out C10.out).size).lift e.below e.below.size))
  rw [V1.out] at HC1
  rw [V2.out] at HC2
  rw [VM.out] at HC3
  rw [VP.out] at HC4
  unfold EnvT.val at HC1 HC2 HC3 HC4
  have q1 := later_cell (Nat.lt_of_lt_of_le HZM.out hw10) (cell_below C10.out HZM.out m4)
  have q2 := later_cell (Nat.lt_of_lt_of_le HZP.out hw10) (cell_below C10.out HZP.out p4)
  have q3 := later_cell (Nat.lt_of_lt_of_le HZE.out hw10) (cell_below C10.out HZE.out f40)
  have q4 := later_cell (Nat.lt_of_lt_of_le HZE.out hw10) (cell_below C10.out HZE.out f41)
  have q5 := later_cell (Nat.lt_of_lt_of_le HZE.out hw10) (cell_below C10.out HZE.out f42)
  have q6 := later_cell (Nat.lt_of_lt_of_le hs6 (bstep D7.out D10.out).size) (cell_below (bstep D7.out D10.out) hs6 o6)
  have q7 := later_cell (Nat.lt_of_lt_of_le hs7 D10.out.size) (cell_below D10.out hs7 o7)
  have HBW := hid (bstep HBX4.out C10.out)
  (refine wp_region_later (by kernel_rfl) (by kernel_rfl) ?_; (repeat (go_big_quiet_step ((first | (go_at_call 10; exact Calls.later (HCA.out _) rfl) | (go_at_call_of 20 A6; exact Calls.later (HC1.out _) rfl) | (go_at_call_of 20 A7; exact Calls.later (HC2.out _) rfl) | (go_at_call_of 20 Am; exact Calls.later (HC3.out _) rfl) | (go_at_call_of 20 Ap; exact Calls.later (HC4.out _) rfl))))); refine wpQuiet_nil ?_; rintro _ ⟨e9, rfl⟩; obtain ⟨w11, hw11⟩ : ∃ w11 : World, w11 = e9.w := ⟨_, rfl⟩; have hb11 := e9.below; rw [← hw11] at hb11 ⊢; clear hw11)
  go_wp2
  go_ret
  exact ⟨rbool (by rw [beq_iff_eq, hvv.out]; omega), bstep HBW.out hb11⟩
end Go.Proofs.YtmdnleafpmondaaDoor
