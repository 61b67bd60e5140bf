/- Contract: linchpinlaw29.ProofParses. -/
import Derived.Test.YtlinabifalfddaaDoorW7
import Derived.Test.YtlinabifalfddaaDoorRParse
namespace Go.Proofs.YtlinabifalfddaaDoor
open Go Go.RowKit

/-- Bytes in a block. -/
def BytesAt (w : World) (g : Nat) (l : List UInt8) : Prop := (∀ i, (h : i < l.length) → w.cell? ⟨g, i, none⟩ = some (.int .u8 (l[i].toNat : Int))) ∧ ∀ o, o < l.length → w.frozen? ⟨g, o, none⟩ = false
theorem BytesAt.below {w w' : World} {g : Nat} {l : List UInt8} (h : BytesAt w g l) (hb : Below w.heap.size w w') (hg : g < w.heap.size) : BytesAt w' g l :=
  ⟨fun i hi => cell_below hb hg (h.1 i hi), fun o ho => (hb.frozen (p := ⟨g, o, none⟩) hg).trans (h.2 o ho)⟩

/-- A byte stored, the end cut. -/
theorem BytesAt.turn {w : World} {g i n : Nat} {l : List UInt8} {x : Int} (h : BytesAt w g l) (hi : i < l.length) (h0 : 0 ≤ x) (h1 : x < 256) (hn : n ≤ l.length) :
    ∃ l', l'.length = n ∧ BytesAt (w.setCell ⟨g, i, none⟩ (.int .u8 x)) g l' := by
  refine ⟨(l.set i (UInt8.ofNat x.toNat)).take n, by simp; omega, fun j hj => ?_, fun o ho => ?_⟩
  · have hj' : j < l.length := by simp at hj; omega
    simp only [List.getElem_take, List.getElem_set]
    by_cases e : i = j
    · subst e
      rw [if_pos rfl, World.cell?_setCell_same w _ _ (h.1 i hi)]
      have : (UInt8.ofNat x.toNat).toNat = x.toNat := by simp; omega
      rw [this]
      congr 2
      omega
    · rw [if_neg e, World.cell?_setCell_other w _ _ _ (by intro e'; injection e' with _ e' _; exact e e')]
      exact h.1 j hj'
  · have ho' : o < l.length := by simp at ho; omega
    rw [World.frozen?_setCell]
    exact h.2 o ho'
/-- The bytes of a string, in a block of the call's own that can be written. -/
theorem conv_str2 {P : Program} {src dst e : TypeId} (hs : P.underlying src = some .string) (hd : P.underlying dst = some (.slice e)) (he : P.underlying e = some (.int .u8)) (s : ByteArray) (w : World) :
    ∃ c W, (convert src dst (.string s)).run P w = .ok (.slice (some ⟨w.heap.size, 0, none⟩) s.size c) W ∧ s.size ≤ c ∧ Below w.heap.size w W ∧ w.heap.size < W.heap.size ∧ BytesAt W w.heap.size s.data.toList := by
  refine ⟨_, _, run_bytes_of_string w src dst e s hs hd he, grownCap_ge _ _ _ _, ((Below.refl _ _).drew).alloc (Nat.le_refl _) _, by simp, fun i h => ?_, fun o ho => ?_⟩
  · rw [cell_of_row _ w.heap.size i _ e _ (heap_alloc_new w.drew _)]
    exact bytesRow_at s _ i (by simpa using h)
  · have h1 : o < s.size := by simpa using ho
    have hg := heap_alloc_new w.drew (.cells (bytesRow s (grownCap w s.size 0 e)) e ((bytesRow s (grownCap w s.size 0 e)).size, (bytesRow s (grownCap w s.size 0 e)).size + 1))
    have hg' : (w.drew.alloc (.cells (bytesRow s (grownCap w s.size 0 e)) e ((bytesRow s (grownCap w s.size 0 e)).size, (bytesRow s (grownCap w s.size 0 e)).size + 1))).heap[w.heap.size]? = _ := hg
    have hz : s.size ≤ (bytesRow s (grownCap w s.size 0 e)).size := by simp [bytesRow]
    simp only [World.frozen?, hg']
    simp
    omega

set_option maxRecDepth 100000 in
set_option maxHeartbeats 2000000 in
theorem proofParses_any (xv : Value) (xs : List Int) (S : ByteArray) (i1 i3 : Int) (c : Int) (w : World) (hx : SliceRd tInt w (Lt w.heap.size) xv xs) (hS : S.size ≤ maxLen) (h1 : I64 i1) (h3 : I64 i3) (hm : ∃ m, w.cell? ⟨0, 0, none⟩ = some (.int .i64 m))
    (htab : Lib.TabBelow Tryd.prog w.heap.size w "internal/strconv.uint64pow10" .u64 Lib.pow10Tab) :
    Calls Tryd.prog 6 #[.string S, xv, .int .i64 i1, .int .u8 c, .int .i64 i3] w fun e w' => e = .returned (.bool true) ∧ Below w.heap.size w w' := by
  have HTAB := hid htab
  have HX := hid hx
  have HM2 := hid (below_cell hm)
  obtain ⟨B, bcap, rfl, hbcap, hbmax, -⟩ := hx.ints
  unfold maxLen at hbmax hS
  clear hx htab hm
  go_enter Tryd.func6, Tryd.ntmps6
  go_wp2_with (first
    | (go_at_call 9
       refine (awake_any _ HTAB.out).mono ?_
       rintro e w1 ⟨rfl, hb1⟩)
    | (go_at_call 10
       refine (rows_any _ xs _ HX.out).mono ?_
       rintro e w1 ⟨v1, L, rfl, hL, hLl, hLt, hb1⟩
       have HL := hid hL
       clear hL hLt))
  · go_ret
    exact ⟨rfl, hb1⟩
  · obtain ⟨T, en, HT, HTL⟩ : ∃ (T : ByteArray) (en : Int), Hid (∀ w2 : World, w2 = w1 → Calls Tryd.prog 16 #[v1] w2 fun e w' => e = .returned (.tuple #[.string T, .int .i64 en]) ∧ Below w2.heap.size w2 w') ∧ T.size ≤ 1048576 := by
      by_cases hm : MayP L
      · exact ⟨⟨(printF L).toArray⟩, 0, hid (fun w2 e => by subst e; exact rprint_any _ L _ HL.out hm (printF_small HL.out hm hLl)), by show (printF L).toArray.size ≤ _; have := printF_small HL.out hm hLl; simpa using this⟩
      · exact ⟨⟨#[]⟩, 33, hid (fun w2 e => by subst e; exact rprint_bad _ L _ HL.out hm), by show (0 : Nat) ≤ _; omega⟩
    go_upto_if 45 with (first
      | (go_at_call 16
         refine (HT.out _ rfl).mono ?_
         rintro e w2 ⟨rfl, hb2⟩
         have hB2 := hb1.trans (hb2.mono hb1.size)
         obtain ⟨cc, W, hcv, hcap, hbW, hzW, hBy⟩ := conv_str2 (P := Tryd.prog) (src := 9) (dst := 42) (e := 5) Tryd.underlying9 Tryd.underlying42 Tryd.underlying5 T w2
         have HBY := hid hBy
         have hB3 := hB2.trans (hbW.mono hB2.size)
         clear hb2 hBy hbW))
    have HTZ := hid HTL
    go_cut [13] (fun s13 wx => ∃ (l : List UInt8) (g cap : Nat), s13 = .slice (some ⟨g, 0, none⟩) l.length cap ∧ l.length ≤ 1048576 ∧ l.length ≤ cap ∧ Hid (BytesAt wx g l) ∧ Hid (g < wx.heap.size) ∧ Hid (Below w.heap.size w wx))
    case first =>
      by_cases h0 : 0 < T.size
      · have e0 : (0 : Int) < ↑T.size := by omega
        have tok := hid True.intro
        have p1 := placeF_lo i1 T.size
        have p2 := placeF_hi i1 T.size (by omega)
        have q1 := placeF_lo i3 30
        have q2 := placeF_hi i3 30 (by omega)
        have HPL := hid (fun w' => place_any i1 T.size w' h1 (by unfold I64; omega))
        have HPR := hid (fun w' => place_any i3 30 w' h3 (by unfold I64; omega))
        generalize placeF i1 T.size = p at p1 p2 HPL
        generalize placeF i3 30 = q at q1 q2 HPR
        obtain ⟨i, rfl⟩ := Int.eq_ofNat_of_zero_le p1
        have hi : i < T.data.toList.length := by simp; omega
        have ci := HBY.out.1 i hi
        have fi := HBY.out.2 i hi
        have m1 : 0 ≤ q % ↑T.size := Int.emod_nonneg _ (by omega)
        have m2 : q % ↑T.size < ↑T.size := Int.emod_lt_of_pos _ (by omega)
        have m3 : IntKind.i64.wrap (↑T.size - q % ↑T.size) = ↑T.size - q % ↑T.size := IntWalk.i64_in _ (by omega)
        have m4 := m3
        rw [IntKind.wrap_i64] at m4
        have m5 : 0 ≤ ↑T.size - q % ↑T.size := by omega
        have m6 : ↑T.size - q % ↑T.size ≤ (cc : Int) := by omega
        go_wp2_with (first
          | (go_at_call 22; clear tok; refine (HPL.out _).mono ?_; rintro e w' ⟨rfl, rfl⟩)
          | (go_at_call 22; refine (HPR.out _).mono ?_; rintro e w' ⟨rfl, rfl⟩))
        go_meet
        obtain ⟨l', hl', hb'⟩ := HBY.out.turn (x := (↑T.data[i].toNat + c) % 256) (n := (↑T.size - q % ↑T.size).toNat) hi (by omega) (by omega) (by simp; omega)
        exact ⟨l', w2.heap.size, cc, by rw [hl'], by omega, by omega, hid hb', hid (by simpa using hzW), hid (hB3.setCell (p := ⟨w2.heap.size, i, none⟩) hB2.size _)⟩
      · have e0 : ¬ (0 : Int) < ↑T.size := by omega
        go_wp2_with fail
        go_meet
        exact ⟨T.data.toList, w2.heap.size, cc, by simp, by simpa using HTL, by simpa using hcap, HBY, hid hzW, hid hB3⟩
    case rest =>
      obtain ⟨l, g, cap, rfl, hl, hlc, hby, hgz, hbw⟩ := hcut
      have hs3 : S.size ≤ 1048576 := by omega
      have hx3 : (⟨l.toArray⟩ : ByteArray).size ≤ 1048576 := by show l.toArray.size ≤ _; simpa using hl
      have t1 := hid True.intro
      have t2 := hid True.intro
      have t3 := hid True.intro
      have back := hid (fun (w' : World) (h : BytesAt w' g l) => run_convert_bytes_back (P := Tryd.prog) w' 42 9 5 ⟨g, 0, none⟩ cap l Tryd.underlying42 Tryd.underlying5 Tryd.underlying9 (fun j hj => by rw [add_mk, Nat.zero_add]; exact h.1 j hj))
      go_wp2_with (first
        | (go_at_call 23
           clear t1
           refine (parse_any S _ hs3 (HM2.out _ hbw.out)).mono ?_
           rintro e wa ⟨va, rfl, hra, hba⟩
           have HRA := hid hra
           have hbya := hby.out.below hba hgz.out
           have hgza := Nat.lt_of_lt_of_le hgz.out hba.size
           have hbwa := hbw.out.trans (hba.mono hbw.out.size)
           clear hra hba)
        | (go_at_call 24
           clear t2
           refine (rparse_any S _ hs3).mono ?_
           rintro e wb ⟨vb, rfl, hrb, hbb⟩
           have HRA2 := hid (HRA.out.lift hbb hbb.size)
           have HRB2 := hid hrb
           have hbyb := hbya.below hbb hgza
           have hgzb := Nat.lt_of_lt_of_le hgza hbb.size
           have hbwb := hbwa.trans (hbb.mono hbwa.size)
           have hcvb := back.out _ hbyb
           clear hrb hbb HRA)
        | (go_at_call 23
           refine (parse_any ⟨l.toArray⟩ _ hx3 (HM2.out _ hbwb)).mono ?_
           rintro e wc2 ⟨vc, rfl, hrc, hbc⟩
           have HRA3 := hid (HRA2.out.lift hbc hbc.size)
           have HRB3 := hid (HRB2.out.lift hbc hbc.size)
           have HRC3 := hid hrc
           have hbyc := hbyb.below hbc hgzb
           have hbwc := hbwb.trans (hbc.mono hbwb.size)
           have hcvc := back.out _ hbyc
           clear hrc hbc HRA2 HRB2)
        | (go_at_call 24
           refine (rparse_any ⟨l.toArray⟩ _ hx3).mono ?_
           rintro e wd ⟨vd, rfl, hrd, hbd⟩
           have HRA4 := hid (HRA3.out.lift hbd hbd.size)
           have HRB4 := hid (HRB3.out.lift hbd hbd.size)
           have HRC4 := hid (HRC3.out.lift hbd hbd.size)
           have HRD4 := hid hrd
           have hbwd := hbwc.trans (hbd.mono hbwc.size)
           clear hrd hbd HRA3 HRB3 HRC3)
        | (go_at_call 17
           clear t3
           refine (sameRows_any _ _ _ _ _ HRA4.out HRB4.out).mono ?_
           rintro e we ⟨rfl, hbe⟩
           rw [decide_eq_true rfl]
           have HRC5 := hid (HRC4.out.lift hbe hbe.size)
           have HRD5 := hid (HRD4.out.lift hbe hbe.size)
           have hbwe := hbwd.trans (hbe.mono hbwd.size)
           clear hbe)
        | (go_at_call 17
           refine (sameRows_any _ _ _ _ _ HRC5.out HRD5.out).mono ?_
           rintro e wf ⟨rfl, hbf⟩
           rw [decide_eq_true rfl]
           have hbwf := hbwe.trans (hbf.mono hbwe.size)
           clear hbf)
        | (go_at_call 9
           refine (awake_any _ (fun w' h' => HTAB.out w' (hbwf.trans (h'.mono hbwf.size)))).mono ?_
           rintro e wz ⟨rfl, hbz⟩))
      go_ret
      exact ⟨rfl, hbwf.trans (hbz.mono hbwf.size)⟩
  · go_ret
    exact ⟨rfl, hb1⟩
end Go.Proofs.YtlinabifalfddaaDoor
