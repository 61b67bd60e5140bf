/- Contract: linchpinlaw26.LearnJoins. -/
import Derived.Test.YtmbjeppnamhgiaaGreatzB1
import Derived.Test.YtmbjeppnamhgiaaGreatB7
import Derived.Test.YtmbjeppnamhgiaaGreatzT16
import Derived.Deep.RegionHeld3
import Derived.Outline
namespace Go.Proofs.YtmbjeppnamhgiaaGreat
open Go Go.RowKit

theorem rwhen_f (v lv iv : Value) (ns : List Nat) (db : Nat → Nat → Nat) (D : Nat) (l : List StepN) (M : Nat → Nat) (w : World) (h : UniRd w (Lt w.heap.size) v ns) (ho : NsOk ns) (hl : SliceRd fStep.ty w (Lt w.heap.size) lv l) (hll : l.length ≤ 100000) (ht : TrOk ns db D l) (hi : SliceRd tTerm w (Lt w.heap.size) iv (canon ns M)) (hM : IncOk ns M) (hs : Sure ns l M) :
    Calls Tryz.prog 29 #[v, lv, iv] w fun e w' => e = .returned (.int .i64 (whenN ns l M : Nat)) ∧ Below w.heap.size w w' :=
  (rwhen_any v lv iv ns db D l M w h ho hl hll ht hi hM).mono fun e w' hp => by
    obtain ⟨r, rfl, hr, hb⟩ := hp
    rcases hr with ⟨_, hr⟩ | ⟨n, rfl, hr⟩
    · refine absurd ?_ (hr l.length (Nat.le_refl _))
      rw [List.take_of_length_le (Nat.le_refl _)]
      exact hs
    · rw [hr.eq]
      exact ⟨rfl, hb⟩
theorem stL_step (ns : List Nat) (db : Nat → Nat → Nat) (l : List StepN) (M : Nat → Nat) (j : Nat) : ∃ x, (stL ns db l M (j + 1)).links = (stL ns db l M j).links ++ [x] := ⟨_, rfl⟩
theorem stL_prefix (ns : List Nat) (db : Nat → Nat → Nat) (l : List StepN) (M : Nat → Nat) {i j : Nat} (h : i ≤ j) : ∃ r, (stL ns db l M j).links = (stL ns db l M i).links ++ r := by
  induction j with
  | zero =>
    obtain rfl : i = 0 := by omega
    exact ⟨[], (List.append_nil _).symm⟩
  | succ j ih =>
    by_cases e : i = j + 1
    · subst e
      exact ⟨[], (List.append_nil _).symm⟩
    · obtain ⟨r, hr⟩ := ih (by omega)
      obtain ⟨x, hx⟩ := stL_step ns db l M j
      exact ⟨r ++ [x], by rw [hx, hr, List.append_assoc]⟩
theorem stL_at {ns : List Nat} {db : Nat → Nat → Nat} {l : List StepN} {M : Nat → Nat} {i j u c : Nat} {LK : List (Nat × Nat)} (hLK : (stL ns db l M j).links = LK) (hi : i < j) (h : (stL ns db l M (i + 1)).links = (stL ns db l M i).links ++ [(u, c)]) (hk : i < LK.length) : LK[i] = (u, c) := by
  obtain ⟨r, hr⟩ := stL_prefix ns db l M (i := i + 1) (j := j) (by omega)
  rw [h] at hr
  have h1 := stL_links (ns := ns) (db := db) (l := l) (M := M) i
  subst hLK
  have h2 : (stL ns db l M j).links[i]? = some (u, c) := by
    rw [hr, List.append_assoc, List.getElem?_append_right (by omega), h1, Nat.sub_self]
    rfl
  rw [List.getElem?_eq_getElem hk] at h2
  exact Option.some.inj h2
set_option maxRecDepth 100000 in
set_option maxHeartbeats 8000000 in
theorem learnJoins_any (wv av lv : Value) (ws xas ls : List Int) (w : World) (hw : SliceRd tInt w (Lt w.heap.size) wv ws) (ha : SliceRd tInt w (Lt w.heap.size) av xas) (hl : SliceRd tInt w (Lt w.heap.size) lv ls) :
    Calls Tryz.prog 6 #[wv, av, lv] w fun e w' => e = .returned (.bool true) ∧ Below w.heap.size w w' := by
  have HW := hid hw
  have HA := hid ha
  have HL := hid hl
  obtain ⟨Aw, wcap, rfl, -⟩ := hw.ints
  obtain ⟨Aa, acap, rfl, hac, ham, -⟩ := ha.ints
  obtain ⟨Al, lcap, rfl, hlc, hlm, -⟩ := hl.ints
  unfold maxLen at ham hlm
  clear hw ha hl
  by_cases hlen : xas.length ≤ 10 ∧ ls.length ≤ 20
  · have k1 : ¬ (10 < (xas.length : Int)) := by omega
    have k2 : ¬ (20 < (ls.length : Int)) := by omega
    clear hlen
    go_enter Tryz.func6, Tryz.ntmps6
    go_wp2_with (go_at_call 10; go_must (refine (world26_any _ ws 5 _ HW.out (by decide) (by decide)).mono ?_; rintro e w1 ⟨g, c, us, rfl, hwr, huo, h0, hb1⟩; have HWR := hid hwr; have HUO := hid huo; have H0 := hid h0; have HB1 := hid hb1; clear hwr huo h0 hb1))
    obtain ⟨w2, hw2⟩ : ∃ w2 : World, w2 = w1.alloc (.cells #[.slice (some ⟨g, 0, none⟩) us.length c] 26) := ⟨_, rfl⟩
    have hb2 : Below w1.heap.size w1 w2 := hw2 ▸ balloc (b0 w1) _
    have hl2 : w1.heap.size < w2.heap.size := by rw [hw2]; simp
    have q2 : w2.cell? ⟨w1.heap.size, 0, none⟩ = some (.slice (some ⟨g, 0, none⟩) us.length c) := by rw [hw2, alloc_cell]; rfl
    have HW2 := hid (HWR.out.lift hb2 hb2.size)
    have HU2 := hid HW2.out.uni
    have HNS := hid HUO.out.ns
    have HB2 := hid (bstep HB1.out hb2)
    have HA2 := hid (HA.out.lift HB2.out HB2.out.size)
    have HL2 := hid (HL.out.lift HB2.out HB2.out.size)
    have HALW := hid (fun (W : World) (hb : Below w2.heap.size w2 W) => allow_any _ _ (nsOf us) xas W (uni_later HU2.out hb) HNS.out (HA2.out.lift hb hb.size))
    have HDB := hid (fun (xv : Value) (al : List Nat) (W : World) (hb : Below w2.heap.size w2 W) (hx : SliceRd tInt W (Lt W.heap.size) xv (natsI al)) (h31 : ∀ a ∈ al, a ≤ 31) => db_some _ xv us al W (HW2.out.lift hb hb.size) HUO.out H0.out hx h31)
    rw [← hw2]
    clear hw2 hb2
    go_wp2_with fail
    go_region_held3 (fun w' => w'.cell? ⟨w1.heap.size, 0, none⟩ = some (.slice (some ⟨g, 0, none⟩) us.length c)) (first | assumption | go_keep) (first
      | (go_at_call 12; refine (HALW.out _ (b0 w2).drew).mono ?_; rintro e w3 ⟨xv, al, rfl, hx, -, h31, hb3⟩; obtain ⟨Ax, cx, hxe, -⟩ := hx.ints; subst hxe; have HX := hid hx; have H31 := hid h31; have HB3 := hid ((b0 w2).drew.trans (hb3.mono (Nat.le_refl _))); have q3 := cell_below HB3.out hl2 q2; clear hx h31 hb3)
      | (go_at_call 11; refine (HDB.out _ _ _ HB3.out HX.out H31.out).mono ?_; rintro e w4 ⟨dv, db, D, rfl, hd, hok, hD, hb4⟩; obtain ⟨Ad, capd, hde, hDc, hDm, -⟩ := hd.dbs; subst hde; have HD := hid hd; have HOK := hid hok; have HB4 := hid (bstep HB3.out hb4); have q4 := cell_below HB4.out hl2 q2; clear hd hok hb4))
    have hl4 : w1.heap.size < w4.heap.size := Nat.lt_of_lt_of_le hl2 HB4.out.size
    have HU4 := hid (uni_later HU2.out HB4.out)
    have HBW4 := hid (bstep HB2.out HB4.out)
    unfold maxLen at hDm
    have HL4 := hid (HL2.out.lift HB4.out HB4.out.size)
    clear q3
    go_wp2_with fail
    refine (conflict_any _ _ _ (nsOf us) db D ls w4 HU4.out HNS.out HD.out HOK.out (by omega) HL4.out).mono ?_
    rintro e w5 ⟨tv, l, r, rfl, htr, hll, htv, hr, hb5⟩
    obtain ⟨At, capt, hte, hltc, hltm, -⟩ := htv.steps
    subst hte
    unfold maxLen at hltm
    have HTR := hid htr
    have HTV := hid htv
    have HB5 := hid hb5
    have q5 := cell_below hb5 hl4 q4
    have hl5 : w1.heap.size < w5.heap.size := Nat.lt_of_lt_of_le hl4 hb5.size
    have HU5 := hid (uni_later HU4.out hb5)
    have HD5 := hid (HD.out.lift hb5 hb5.size)
    have HBW5 := hid (bstep HBW4.out hb5)
    clear htr htv hb5 q4
    rcases hr with rfl | ⟨k, rfl, hkD, hsure⟩
    · rw [show decide ((0 : Int) ≤ -1) = false from rfl]
      go_wp2_with (go_at_call 9; refine (awake_any _).mono ?_; rintro e wz ⟨rfl, hbz⟩; have HBZ := hid hbz; clear hbz)
      go_ret
      exact ⟨rfl, bstep HBW5.out HBZ.out⟩
    · rw [show decide ((0 : Int) ≤ (k : Int)) = true from decide_eq_true (by omega)]
      have HCF := hid (Conf.mk HNS.out HTR.out HOK.out (HOK.out k hkD) hsure)
      have hk0 : (0 : Int) ≤ ↑k := by omega
      have hk1 : (↑k : Int) < ↑D := by omega
      clear hsure
      have HLN := hid (plearn_any _ _ _ (nsOf us) db D l k w5 HU5.out HCF.out hkD HTV.out (by omega) HD5.out (by omega))
      go_wp2_with fail
      refine HLN.out.mono ?_
      clear HLN
      rintro e w6 ⟨j, iv, lk, rfl, ⟨hs1, hs2⟩, hiv, hlk, hb6⟩
      obtain ⟨X, hX⟩ : ∃ X, stL (nsOf us) db l (db k) j = X := ⟨_, rfl⟩
      have HINV := hid (HCF.out.inv hs2)
      have HXE := hid hX
      rw [hX] at hs1 hiv hlk HINV ⊢
      have HST := hid hs1
      have HNO := hid hs2
      obtain ⟨T, hT⟩ : ∃ T, canon (nsOf us) X.M = T := ⟨_, rfl⟩
      obtain ⟨LK, hLK⟩ : ∃ LK, X.links = LK := ⟨_, rfl⟩
      obtain ⟨lv, hlv⟩ : ∃ lv, lvlOf (nsOf us) l X.M = lv := ⟨_, rfl⟩
      rw [hT] at hiv
      rw [hLK] at hlk
      rw [hlv]
      have HT := hid hT
      have HLK := hid hLK
      have HLV := hid hlv
      obtain ⟨Ai, ci, hie, hTc, hTm, -⟩ := hiv.terms
      obtain ⟨Ak, ck, hke, hLc, hLm, -⟩ := links_open hlk
      subst hie hke
      unfold maxLen at hTm hLm
      have HIV := hid hiv
      have HLKR := hid hlk
      have HB6 := hid hb6
      have q6 := cell_below hb6 hl5 q5
      have hl6 : w1.heap.size < w6.heap.size := Nat.lt_of_lt_of_le hl5 hb6.size
      have HU6 := hid (uni_later HU5.out hb6)
      have HD6 := hid (HD5.out.lift hb6 hb6.size)
      have HTV6 := hid (HTV.out.lift hb6 hb6.size)
      have HBW6 := hid (bstep HBW5.out hb6)
      clear hX hT hLK hlv hiv hlk hb6 hs1 hs2 q5
      have hjl : LK.length = j := by rw [← HLK.out, ← HXE.out, stL_links]
      have hjlen : j ≤ l.length := by have h1 := HINV.out.len; rw [HLK.out, hjl] at h1; omega
      have HLKS := hid (show (stL (nsOf us) db l (db k) j).links = LK by rw [HXE.out]; exact HLK.out)
      have HXT := hid (show canon (nsOf us) (stL (nsOf us) db l (db k) j).M = T by rw [HXE.out]; exact HT.out)
      obtain ⟨Ak', ck', hke2, -, -, hlkc⟩ := links_open HLKR.out
      injection hke2 with e1 e2 e3
      subst e1
      have HLKC := hid hlkc
      have HLKL := hid hjl
      rw [hjl] at hLc ⊢
      obtain ⟨Ad', cd', hde2, -, -, hdc⟩ := HD6.out.lists
      injection hde2 with e4 e5 e6
      subst e4
      have HDC := hid hdc
      obtain ⟨gk, ok, uk, hAk, hFk, hkcell, hkrd⟩ := hdc k (by rw [dbL_len]; exact hkD)
      rw [dbL_at] at hkrd
      subst hAk
      obtain ⟨Auk, cuk, huke, -⟩ := hkrd.terms
      subst huke
      have HKRD := hid (show SliceRd tTerm w6 (Lt w6.heap.size) (.slice Auk (canon (nsOf us) (db k)).length cuk) (canon (nsOf us) (stL (nsOf us) db l (db k) 0).M) from hkrd)
      clear hlkc hdc hkrd hjl e2 e3 e5 e6
      go_wp2_with fail
      go_loopw [15, 16, 17, 18] (fun xv iv _ _ wr => ∃ i : Nat, i ≤ j ∧ iv = .int .i64 i ∧ (∃ A n c, xv = .slice A n c) ∧ Hid (SliceRd tTerm wr (Lt wr.heap.size) xv (canon (nsOf us) (stL (nsOf us) db l (db k) i).M)) ∧ Hid (Below w6.heap.size w6 wr)) (fun _ iv _ _ _ => j - (intOf iv).toNat)
      case atStart => exact ⟨0, Nat.zero_le _, rfl, ⟨_, _, _, rfl⟩, HKRD, hid (b0 w6)⟩
      case round =>
        obtain ⟨i, hi, rfl, ⟨Ax3, nx3, cx3, rfl⟩, hxr, hb⟩ := hrel
        have q7 := cell_below hb.out hl6 q6
        have hl7 : w1.heap.size < wr.heap.size := Nat.lt_of_lt_of_le hl6 hb.out.size
        have HBWr := hid (bstep HBW6.out hb.out)
        have HTV7 := hid (HTV6.out.lift hb.out hb.out.size)
        by_cases hlt : i < j
        · have i0 : (0 : Int) ≤ ↑i := by omega
          have i1 : (↑i : Int) < ↑j := by omega
          obtain ⟨cl, ul, hclD, hul, hlink, hMj, hokj, hwlt⟩ := HCF.out.link (j := i) (fun i' hi' => HNO.out i' (by omega))
          have HI1 := hid (HCF.out.inv (j := i) fun i' hi' => HNO.out i' (by omega))
          have HI2 := hid (HCF.out.inv (j := i + 1) fun i' hi' => HNO.out i' (by omega))
          have hLi : i < LK.length := by rw [HLKL.out]; exact hlt
          have hat := stL_at HLKS.out hlt hlink hLi
          obtain ⟨gl, ol, hAl, hFl, hl0, hl1⟩ := HLKC.out i hLi
          rw [hat] at hl0 hl1
          dsimp only at hl0 hl1
          subst hAl
          obtain ⟨gd, od, uv, hAd, hFd, hdcell, hdrd⟩ := HDC.out cl (by rw [dbL_len]; exact hclD)
          rw [dbL_at] at hdrd
          cases hAd
          obtain ⟨Au, cu, hue, -⟩ := hdrd.terms
          subst hue
          have m0 := cell_below hb.out hFl hl0
          have m1 := cell_below hb.out hFl hl1
          have m2 := cell_below hb.out hFd hdcell
          have hFl7 : gl < wr.heap.size := Nat.lt_of_lt_of_le hFl hb.out.size
          have hFd7 : gk < wr.heap.size := Nat.lt_of_lt_of_le hFd hb.out.size
          have c1 : (0 : Int) ≤ ↑cl := by omega
          have c2 : (↑cl : Int) < ↑D := by omega
          have c3 : ¬ ((cl : Int) < 0) := by omega
          have c4 : ¬ ((D : Int) ≤ ↑cl) := by omega
          have c5 : decide ((cl : Int) < 0) = false := decide_eq_false c3
          have c6 : decide ((D : Int) ≤ ↑cl) = false := decide_eq_false c4
          have HJ := hid (rjoin_any _ _ _ (nsOf us) (stL (nsOf us) db l (db k) i).M (db cl) (ul : Int) wr.drew (uni_later HU6.out hb.out.drew) HNS.out (hxr.out.lift (b0 wr).drew (b0 wr).drew.size) (hdrd.lift hb.out.drew hb.out.drew.size) HI1.out.ok (HOK.out cl hclD))
          rw [joinR_some hul hokj, ← hMj] at HJ
          have HW1 := hid (fun (W : World) (iv : Value) (hb2 : Below w6.heap.size w6 W) (hr : SliceRd tTerm W (Lt W.heap.size) iv (canon (nsOf us) (stL (nsOf us) db l (db k) i).M)) => rwhen_f _ _ iv (nsOf us) db D l (stL (nsOf us) db l (db k) i).M W (uni_later HU6.out hb2) HNS.out (HTV6.out.lift hb2 hb2.size) (by omega) HTR.out hr HI1.out.ok HI1.out.sure)
          have HW2 := hid (fun (W : World) (iv : Value) (hb2 : Below w6.heap.size w6 W) (hr : SliceRd tTerm W (Lt W.heap.size) iv (canon (nsOf us) (stL (nsOf us) db l (db k) (i + 1)).M)) => rwhen_f _ _ iv (nsOf us) db D l (stL (nsOf us) db l (db k) (i + 1)).M W (uni_later HU6.out hb2) HNS.out (HTV6.out.lift hb2 hb2.size) (by omega) HTR.out hr HI2.out.ok HI2.out.sure)
          obtain ⟨M1, hM1⟩ : ∃ M1, (stL (nsOf us) db l (db k) (i + 1)).M = M1 := ⟨_, rfl⟩
          rw [hM1] at HJ HW2 hwlt
          obtain ⟨M0, hM0⟩ : ∃ M0, (stL (nsOf us) db l (db k) i).M = M0 := ⟨_, rfl⟩
          rw [hM0] at HW1 hwlt hxr
          have HM1 := hid hM1
          obtain ⟨n1, hn1⟩ : ∃ n1, whenN (nsOf us) l M1 = n1 := ⟨_, rfl⟩
          obtain ⟨n0, hn0⟩ : ∃ n0, whenN (nsOf us) l M0 = n0 := ⟨_, rfl⟩
          rw [hn1] at HW2 hwlt
          rw [hn0] at HW1 hwlt
          have c7 : ¬ ((n0 : Int) ≤ ↑n1) := by omega
          have c8 : decide ((n0 : Int) ≤ ↑n1) = false := decide_eq_false c7
          clear hlink hMj hokj hwlt hat hl0 hl1 hdcell hdrd hM1 hM0 hn1 hn0
          go_wp2_with fail
          go_region_held3 (fun w' => w'.cell? ⟨w1.heap.size, 0, none⟩ = some (.slice (some ⟨g, 0, none⟩) us.length c) ∧ w'.cell? ⟨gl, ol + i * 2, none⟩ = some (.int .i64 ul) ∧ w'.cell? ⟨gl, ol + i * 2 + 1, none⟩ = some (.int .i64 cl) ∧ w'.cell? ⟨gk, ok + cl, none⟩ = some (.slice Au (canon (nsOf us) (db cl)).length cu)) (first | exact ⟨by assumption, by assumption, by assumption, by assumption⟩ | go_keep) (first
            | (go_at_call 28; refine HJ.out.mono ?_; rintro e w8 ⟨yv, rfl, hyv, hb8⟩; obtain ⟨Ay, cy, hye, -⟩ := hyv.terms; subst hye; have HYV := hid hyv; have HB8 := hid ((b0 wr).drew.trans (hb8.mono (Nat.le_refl _))); have f0 := cell_below HB8.out hl7 q7; have f1 := cell_below HB8.out hFl7 m0; have f2 := cell_below HB8.out hFl7 m1; have f3 := cell_below HB8.out hFd7 m2; clear hyv hb8))
          rw [Option.getD_some] at HYV
          have HB68 := hid (bstep hb.out HB8.out)
          have HXR8 := hid (hxr.out.lift HB8.out HB8.out.size)
          have hl8 : w1.heap.size < w8.heap.size := Nat.lt_of_lt_of_le hl7 HB8.out.size
          have lt0 := later_cell hl8 f0
          go_wp2_with fail
          (refine wp_region_later (by kernel_rfl) (by kernel_rfl) ?_; (repeat (go_big_quiet_step ((first | (go_at_call_of 29 cy; exact Calls.later (HW2.out _ _ (bstep HB68.out (Later.below _)) (HYV.out.lift (Later.below _) (Later.below _).size)) rfl) | (go_at_call_of 29 cx3; exact Calls.later (HW1.out _ _ (bstep HB68.out (Later.below _)) (HXR8.out.lift (Later.below _) (Later.below _).size)) rfl))))); refine wpQuiet_nil ?_; rintro _ ⟨e9, rfl⟩; obtain ⟨w9, hw9⟩ : ∃ w9 : World, w9 = e9.w := ⟨_, rfl⟩; have hb9 := e9.below; rw [← hw9] at hb9 ⊢; clear hw9)
          go_wp2_with fail
          exact ⟨⟨i + 1, by omega, by go_num, ⟨_, _, _, rfl⟩, hid (by rw [HM1.out]; exact HYV.out.lift hb9 hb9.size), hid (bstep HB68.out hb9)⟩, by simp [intOf]; omega⟩
        · have hij : i = j := by omega
          subst hij
          have HXF := hid hxr.out
          rw [HXT.out] at HXF
          have HIVr := hid (HIV.out.lift hb.out hb.out.size)
          have c7 : (i : Int) ≤ (l.length : Int) := by omega
          have c8 : decide ((i : Int) ≤ (l.length : Int)) = true := decide_eq_true c7
          clear hlt hxr
          go_wp2_with (first
            | (go_at_call 16; go_must (refine (sameTerms_any _ _ T T wr HXF.out HIVr.out).mono ?_; rintro e w9 ⟨rfl, hb9⟩; have HB9 := hid hb9; clear hb9))
            | (go_at_call 9; refine (awake_any _).mono ?_; rintro e wz ⟨rfl, hbz⟩; have HBZ := hid hbz; clear hbz))
          go_ret
          exact ⟨rfl, bstep HBWr.out (bstep HB9.out HBZ.out)⟩
  · by_cases h1 : xas.length ≤ 10
    · have k1 : ¬ (10 < (xas.length : Int)) := by omega
      have k2 : 20 < (ls.length : Int) := by omega
      clear hlen h1
      go_enter Tryz.func6, Tryz.ntmps6
      go_wp2_with (go_at_call 9; refine (awake_any _).mono ?_; rintro e wz ⟨rfl, hbz⟩; have HBZ := hid hbz; clear hbz)
      go_ret
      exact ⟨rfl, HBZ.out⟩
    · have k1 : 10 < (xas.length : Int) := by omega
      clear hlen h1
      go_enter Tryz.func6, Tryz.ntmps6
      go_wp2_with (go_at_call 9; refine (awake_any _).mono ?_; rintro e wz ⟨rfl, hbz⟩; have HBZ := hid hbz; clear hbz)
      go_ret
      exact ⟨rfl, HBZ.out⟩
end Go.Proofs.YtmbjeppnamhgiaaGreat
