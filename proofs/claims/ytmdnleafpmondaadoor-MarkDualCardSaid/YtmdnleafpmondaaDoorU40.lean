/- MarkBack: the walk of the law. -/
import Derived.Test.YtmdnleafpmondaaDoorU34
import Derived.Test.YtmdnleafpmondaaDoorU27
import Derived.Test.YtmdnleafpmondaaDoorU39
import Derived.Test.YtmdnleafpmondaaDoorzA
namespace Go.Proofs.YtmdnleafpmondaaDoor
open Go Go.RowKit

theorem may_nil (w : World) : Calls Tryd.prog 15 #[.agg #[.slice none 0 0]] w fun x w' => x = .returned (.bool true) ∧ Below w.heap.size w w' := may_any _ [] w (SliceRd.nil _ _ _)
def ParsesTo (s : ByteArray) (N : List Node) (n : Int) : Prop := ∀ w : World, MaxOk w → Calls Tryd.prog 11 #[.string s] w fun e w' => ∃ A c, e = .returned (.tuple #[.agg #[.slice A N.length c], .int .i64 n]) ∧ SliceRd tNode w' (Lt w'.heap.size) (.slice A N.length c) N ∧ Below w.heap.size w w'
theorem parses_to {s : ByteArray} {N : List Node} {n : Int} (h : parseF s = (N, n)) : ParsesTo s N n := fun w hm => by
  have := given s rfl w hm
  rw [h] at this
  exact this

set_option maxRecDepth 100000 in
set_option maxHeartbeats 4000000 in
theorem markBack_any (v : Value) (l : List Int) (w : World) (h : SliceRd tInt w (Lt w.heap.size) v l) (hm : MaxOk w) : Calls Tryd.prog 4 #[v] w fun e w' => e = .returned (.bool true) ∧ Below w.heap.size w w' := by
  have HM := hid hm
  have H := hid h
  obtain ⟨Av, cv, rfl, -⟩ := h.shape
  clear hm h
  obtain ⟨lv, hlv⟩ : ∃ lv, lv = l.length := ⟨_, rfl⟩
  rw [← hlv] at H
  rw [← hlv]
  replace hlv := hid hlv
  have HK := hid (mark0_any _ l 0 w H.out (by decide) (by decide))
  go_enter Tryd.func4, Tryd.ntmps4
  go_wp2_with (first
    | (go_at_call 14; refine HK.out.mono ?_; rintro e w1 ⟨Am, cm, m, rfl, r1, h15, hb1⟩; have R1 := hid r1; have B1 := hid hb1
       obtain ⟨n, hn⟩ : ∃ n, n = m.length := ⟨_, rfl⟩
       rw [← hn] at R1 h15
       rw [← hn]
       replace hn := hid hn
       clear r1 hb1))
  · go_wp2_with (first
      | (go_at_call 10; refine (awake_any _ (HM.out.later (bstep B1.out (balloc (b0 w1) _)))).mono ?_; rintro e w4 ⟨rfl, hb4⟩)
      | (go_at_call 15; refine (may_nil _).mono ?_; rintro e w5 ⟨rfl, hb5⟩))
    go_ret
    exact ⟨rfl, bstep (bstep (bstep B1.out (balloc (b0 w1) _)) hb4) hb5⟩
  obtain ⟨wx, hwx⟩ : ∃ wx, wx = w1.alloc (.cells #[.slice Am n cm] 25) := ⟨_, rfl⟩
  have hzx : wx.heap.size = w1.heap.size + 1 := by rw [hwx]; simp
  have zx1 : w1.heap.size < wx.heap.size := by omega
  have BW2 := hid (show Below w1.heap.size w1 wx by rw [hwx]; exact balloc (b0 w1) _)
  have BX := hid (bstep B1.out BW2.out)
  have HMX := hid (HM.out.later BX.out)
  have RX := hid (R1.out.lift BW2.out BW2.out.size)
  have m0 : wx.cell? ⟨w1.heap.size, 0, none⟩ = some (.slice Am n cm) := by rw [hwx]; exact World.cell?_alloc_new ..
  rw [← hwx]
  clear hwx
  rcases Bool.eq_false_or_eq_true (mayB m) with hmay | hmay
  · have hn0 : m.length ≠ 0 := by rw [← hn.out]; intro hh; simp_all
    obtain ⟨f, hok, -, hs15, ht96, hpost, hprint, hpos⟩ := may_text hmay hn0
    have HMA := hid (may_any _ m _ RX.out)
    rw [hmay] at HMA
    go_wp2_with (first
      | (go_at_call 15; refine HMA.out.mono ?_; clear HMA; rintro e w4 ⟨rfl, hb4⟩
         have B4 := hid hb4
         have m4 := cell_below hb4 zx1 m0)
      | (go_at_call 16; refine (print_any _ m w4 (RX.out.lift B4.out B4.out.size)).mono ?_; rintro e w5 ⟨rfl, hb5⟩; rw [hprint]; unfold strV
         have B5 := hid (B4.out.trans (hb5.mono B4.out.size))))
    obtain ⟨S, hS⟩ : ∃ S : ByteArray, S = ⟨(textL f).toArray⟩ := ⟨_, rfl⟩
    have hSt : S.data.toList = textL f := by rw [hS]
    have hSz : S.size = (textL f).length := by rw [← hSt]; simp
    have HP1 := hid (parses_to (parse_back hok hs15 ht96 hSt))
    rw [← hpost] at HP1
    unfold ParsesTo at HP1
    rw [← hn.out] at HP1
    rw [← hS]
    clear hS
    have z1 : ¬ 9223372036854775807 < 2 + S.size := by omega
    have z2 : ¬ 9223372036854775807 < 2 + S.size + 2 := by omega
    have hS2 : ((⟨#[40, 32]⟩ ++ S ++ ⟨#[32, 41]⟩ : ByteArray)).data.toList = brk (textL f) := by simp [brk, hSt]
    have hS2z : ((⟨#[40, 32]⟩ ++ S ++ ⟨#[32, 41]⟩ : ByteArray)).size = S.size + 4 := by
      rw [ByteArray.size_append, ByteArray.size_append]
      have a1 : (⟨#[40, 32]⟩ : ByteArray).size = 2 := rfl
      have a2 : (⟨#[32, 41]⟩ : ByteArray).size = 2 := rfl
      omega
    have HP2 := hid (fun (h : ¬ 92 < S.size) => parses_to (parse_brk hok hs15 (by omega) hS2))
    have HP3 := hid (fun (h : 92 < S.size) => parses_to (parse_long (s := (⟨#[40, 32]⟩ ++ S ++ ⟨#[32, 41]⟩ : ByteArray)) (by omega)))
    rw [← hpost] at HP2
    unfold ParsesTo at HP2 HP3
    rw [← hn.out] at HP2
    replace hS2 := hid hS2
    replace hS2z := hid hS2z
    replace hpost := hid hpost
    replace hprint := hid hprint
    replace hSz := hid hSz
    replace hSt := hid hSt
    by_cases hL : (92 : Int) < S.size
    · have HP3' := HP3.out (by omega)
      replace HP3 := hid HP3'
      clear HP2 HP3'
      go_wp2_with (first
        | (go_at_call 11; refine (HP1.out w5 (HMX.out.later B5.out)).mono ?_; clear HP1; rintro e w6 ⟨A6, c6, rfl, r6, hb6⟩
           have B6 := hid (B5.out.trans (hb6.mono B5.out.size))
           have B6' := hid (bstep B6.out (balloc (b0 w6) (.cells #[.slice A6 n c6] 25)))
           have R6 := hid (r6.lift (balloc (b0 w6) (.cells #[.slice A6 n c6] 25)) (balloc (b0 w6) (.cells #[.slice A6 n c6] 25)).size)
           have m6 := cell_below B6'.out zx1 m0
           have o6 : (w6.alloc (.cells #[.slice A6 n c6] 25)).cell? ⟨w6.heap.size, 0, none⟩ = some (.slice A6 n c6) := World.cell?_alloc_new ..
           clear r6)
        | (go_at_call 11; refine (HP3.out _ (HMX.out.later B6'.out)).mono ?_; clear HP3; rintro e w7 ⟨A7, c7, rfl, r7, hb7⟩
           have m7 := cell_below hb7 (by have := B6'.out.size; omega) m6
           have o7 := cell_below hb7 (by simp) o6
           have R7 := hid (R6.out.lift hb7 hb7.size)
           have B7 := hid (bstep B6'.out hb7)))
      have z68 : w6.heap.size < (w7.alloc (.cells #[.slice A7 0 c7] 25)).heap.size := by
        have h1 : (w6.alloc (.cells #[.slice A6 n c6] 25)).heap.size = w6.heap.size + 1 := by simp
        have h2 : (w7.alloc (.cells #[.slice A7 0 c7] 25)).heap.size = w7.heap.size + 1 := by simp
        have := hb7.size
        omega
      have HB8 := hid (balloc (b0 w7) (.cells #[.slice A7 0 c7] 25))
      have m8 := cell_below HB8.out (by have := B7.out.size; omega) m7
      have o8 := cell_below HB8.out (by have := hb7.size; have h1 : (w6.alloc (.cells #[.slice A6 n c6] 25)).heap.size = w6.heap.size + 1 := by simp
                                        omega) o7
      have R8 := hid (R7.out.lift HB8.out HB8.out.size)
      have B8 := hid (bstep B7.out HB8.out)
      have zm8 : w1.heap.size < (w7.alloc (.cells #[.slice A7 0 c7] 25)).heap.size := by have := B8.out.size; omega
      have HM8 := hid (HMX.out.later B8.out)
      go_wp2_with (first
        | (go_at_call 10; refine (awake_any _ HM8.out).mono ?_; rintro e w9 ⟨rfl, hb9⟩
           have m9 := cell_below hb9 zm8 m8
           have o9 := cell_below hb9 z68 o8
           have R9 := hid (R8.out.lift hb9 hb9.size)
           have B9 := hid (bstep B8.out hb9))
        | (go_at_call 13; refine (same_self _ _ m w9 R9.out (RX.out.lift B9.out B9.out.size)).mono ?_; rintro e w10 ⟨rfl, hb10⟩))
      go_ret
      exact ⟨rfl, bstep BX.out (bstep B9.out hb10)⟩
    · have HP2' := HP2.out (by omega)
      replace HP2 := hid HP2'
      clear HP3 HP2'
      go_wp2_with (first
        | (go_at_call 11; refine (HP1.out w5 (HMX.out.later B5.out)).mono ?_; clear HP1; rintro e w6 ⟨A6, c6, rfl, r6, hb6⟩
           have B6 := hid (B5.out.trans (hb6.mono B5.out.size))
           have B6' := hid (bstep B6.out (balloc (b0 w6) (.cells #[.slice A6 n c6] 25)))
           have R6 := hid (r6.lift (balloc (b0 w6) (.cells #[.slice A6 n c6] 25)) (balloc (b0 w6) (.cells #[.slice A6 n c6] 25)).size)
           have m6 := cell_below B6'.out zx1 m0
           have o6 : (w6.alloc (.cells #[.slice A6 n c6] 25)).cell? ⟨w6.heap.size, 0, none⟩ = some (.slice A6 n c6) := World.cell?_alloc_new ..
           clear r6)
        | (go_at_call 11; refine (HP2.out _ (HMX.out.later B6'.out)).mono ?_; clear HP2; rintro e w7 ⟨A7, c7, rfl, r7, hb7⟩
           have m7 := cell_below hb7 (by have := B6'.out.size; omega) m6
           have o7 := cell_below hb7 (by simp) o6
           have R7 := hid (R6.out.lift hb7 hb7.size)
           have Q7 := hid r7
           have B7 := hid (bstep B6'.out hb7)))
      have z68 : w6.heap.size < (w7.alloc (.cells #[.slice A7 n c7] 25)).heap.size := by
        have h1 : (w6.alloc (.cells #[.slice A6 n c6] 25)).heap.size = w6.heap.size + 1 := by simp
        have h2 : (w7.alloc (.cells #[.slice A7 n c7] 25)).heap.size = w7.heap.size + 1 := by simp
        have := hb7.size
        omega
      have HB8 := hid (balloc (b0 w7) (.cells #[.slice A7 n c7] 25))
      have m8 := cell_below HB8.out (by have := B7.out.size; omega) m7
      have o8 := cell_below HB8.out (by have := hb7.size; have h1 : (w6.alloc (.cells #[.slice A6 n c6] 25)).heap.size = w6.heap.size + 1 := by simp
                                        omega) o7
      have Q8 := hid (Q7.out.lift HB8.out HB8.out.size)
      have p8 : (w7.alloc (.cells #[.slice A7 n c7] 25)).cell? ⟨w7.heap.size, 0, none⟩ = some (.slice A7 n c7) := World.cell?_alloc_new ..
      have R8 := hid (R7.out.lift HB8.out HB8.out.size)
      have B8 := hid (bstep B7.out HB8.out)
      have zm8 : w1.heap.size < (w7.alloc (.cells #[.slice A7 n c7] 25)).heap.size := by have := B8.out.size; omega
      have HM8 := hid (HMX.out.later B8.out)
      go_wp2_with (first
        | (go_at_call 10; refine (awake_any _ HM8.out).mono ?_; rintro e w9 ⟨rfl, hb9⟩
           have m9 := cell_below hb9 zm8 m8
           have o9 := cell_below hb9 z68 o8
           have p9 := cell_below hb9 (by simp) p8
           have Q9 := hid (Q8.out.lift hb9 hb9.size)
           have R9 := hid (R8.out.lift hb9 hb9.size)
           have B9 := hid (bstep B8.out hb9))
        | (go_at_call 13; refine (same_self _ _ m w9 R9.out (RX.out.lift B9.out B9.out.size)).mono ?_; clear R9; rintro e w10 ⟨rfl, hb10⟩
           have B10 := hid (bstep B9.out hb10)
           have m10 := cell_below B10.out zx1 m0
           have p10 := cell_below hb10 (by have := hb9.size; have h2 : (w7.alloc (.cells #[.slice A7 n c7] 25)).heap.size = w7.heap.size + 1 := by simp
                                           omega) p9
           have Q10 := hid (Q9.out.lift hb10 hb10.size))
        | (go_at_call 13; refine (same_self _ _ m w10 Q10.out (RX.out.lift B10.out B10.out.size)).mono ?_; rintro e w11 ⟨rfl, hb11⟩))
      go_ret
      exact ⟨rfl, bstep BX.out (bstep B10.out hb11)⟩
  · have HMA := hid (may_any _ m _ RX.out)
    rw [hmay] at HMA
    go_wp2_with (first
      | (go_at_call 15; refine HMA.out.mono ?_; clear HMA; rintro e w4 ⟨rfl, hb4⟩; have HM4 := hid (HMX.out.later hb4))
      | (go_at_call 10; refine (awake_any w4 HM4.out).mono ?_; rintro e w5 ⟨rfl, hb5⟩)
      | (go_at_call 15; refine (may_nil _).mono ?_; rintro e w6 ⟨rfl, hb6⟩))
    go_ret
    exact ⟨rfl, bstep (bstep (bstep BX.out hb4) hb5) hb6⟩
end Go.Proofs.YtmdnleafpmondaaDoor
