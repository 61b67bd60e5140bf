/- Contract: feature.Close. -/
import Derived.Test.YtdcdpkpomhjilaaSt
import Derived.Deep.DeepMust
namespace Go.Proofs.Ytdcdpkpomhjilaa
open Go Go.RowKit Go.Maps

def nilV : Value := .slice none 0 0
/-- What Close answers. -/
def ClosePost (l : List Feat) (asked : List ByteArray) (w : World) (e : Ending) (w' : World) : Prop :=
  Below w.heap.size w w' ∧ (
    (mayF l = false ∧ e = .returned (.tuple #[nilV, nilV, nilV, .int .i64 1])) ∨
    (mayF l = true ∧ asked.all (knownB l) = false ∧ e = .returned (.tuple #[nilV, nilV, nilV, .int .i64 11])) ∨
    (mayF l = true ∧ asked.all (knownB l) = true ∧ ∃ va vb vc A B C, e = .returned (.tuple #[va, vb, vc, .int .i64 0]) ∧ Closed l asked A B C ∧ SliceRd tStr w' (Lt w'.heap.size) va A ∧ SliceRd tStr w' (Lt w'.heap.size) vb B ∧ SliceRd tStr w' (Lt w'.heap.size) vc C))
theorem results_tmp4 {fn : Func} {t u v x : Tmp} (h : fn.results = #[.tmp t, .tmp u, .tmp v, .tmp x]) (tmps : Array Value) (P : Program) (w : World) :
    (results fn tmps).run P w = .ok (.tuple #[tmps.getD t undef, tmps.getD u undef, tmps.getD v undef, tmps.getD x undef]) w := by
  simp [results, h]
theorem setTy : Try.prog.underlying 58 = some (.map 9 60) := by kernel_rfl
theorem setZ (w : World) : (zeroValue 60).run Try.prog w = .ok (.agg #[]) w := Try.zeroValue60 w

set_option maxRecDepth 100000 in
set_option maxHeartbeats 8000000 in
theorem iclose_any (v av : Value) (l : List Feat) (asked : List ByteArray) (w : World) (h : SliceRd tFeat w (Lt w.heap.size) v l) (ha : SliceRd tStr w (Lt w.heap.size) av asked) (hsz : FSmall l) (hal : asked.length ≤ 1000) :
    Calls Try.prog 17 #[v, av] w (ClosePost l asked w) := by
  obtain ⟨A, cap, rfl, hcap, hmax, hc⟩ := h.feats
  obtain ⟨A', cap', rfl, hcap', hmax', hc'⟩ := ha.strs
  unfold maxLen at hmax hmax'
  have H := hid h
  have HC := hid hc
  have HC' := hid hc'
  have HA := hid ha
  have HSZ := hid hsz
  have HAS := hid (strs_small ha)
  have HLN := hid (show ∀ f ∈ l, f.name.size ≤ maxLen by
    intro f hf
    obtain ⟨k, hk, rfl⟩ := List.getElem_of_mem hf
    obtain ⟨_, _, _, _, _, _, _, _, _, _, h, _⟩ := hc k hk
    exact h)
  have hks : Try.prog.underlying 9 = some .string := Try.underlying9
  obtain ⟨ii, hii⟩ := info_parts str_info
  have HII := hid hii
  clear h hc ha hc' hsz hii
  rcases bc (mayF l) with ⟨hm, HM⟩ | ⟨hm, HM⟩
  · have HMAY := hid hm
    clear hm
    go_enter Try.func17, Try.ntmps17
    go_wp2_with (first
      | (go_at_call 13; refine (imay_any _ l _ H.out HSZ.out).mono ?_; rintro e w1 ⟨rfl, hb1⟩; rw [HM.out]))
    have HB1 := hid hb1
    clear hb1
    go_loopw [28] (fun iv wr => ∃ k : Nat, k ≤ asked.length ∧ iv = .int .i64 k ∧ Hid (∀ i, (hi : i < asked.length) → i < k → knownB l asked[i] = true) ∧ Hid (Below w.heap.size w wr)) (fun iv _ => asked.length - (intOf iv).toNat)
    case atStart => exact ⟨0, Nat.zero_le _, rfl, hid (fun i hi hk => by omega), HB1⟩
    case round =>
      obtain ⟨k, hk, rfl, hall, hb⟩ := hrel
      have i1 : (0 : Int) ≤ ↑k := by omega
      by_cases hlt : k < asked.length
      · obtain ⟨g, o, hA, hF, g0, -⟩ := HC'.out k hlt
        subst hA
        have c0 := cell_below hb.out hF g0
        clear g0
        have i2 : (↑k : Int) < ↑asked.length := by omega
        rcases bc (knownB l asked[k]) with ⟨hq, HK⟩ | ⟨hq, HK⟩
        · have HN := hid (show ∀ i, (hi : i < asked.length) → i < k + 1 → knownB l asked[i] = true from fun i hi hk => by
            by_cases e : i = k
            · subst e; exact hq
            · exact hall.out i hi (by omega))
          clear hq
          go_wp2_with (first
            | (go_at_call 34; refine (known_any _ l asked[k] _ (H.out.lift hb.out hb.out.size)).mono ?_; rintro e w2 ⟨rfl, hb2⟩; rw [HK.out]))
          exact ⟨⟨k + 1, by omega, by go_num, HN, hid (hb.out.trans (hb2.mono hb.out.size))⟩, by simp [intOf]; omega⟩
        · have HN := hid (all_bad (p := knownB l) hlt hq)
          clear hq
          go_wp2_with (first
            | (go_at_call 34; refine (known_any _ l asked[k] _ (H.out.lift hb.out hb.out.size)).mono ?_; rintro e w2 ⟨rfl, hb2⟩; rw [HK.out]))
          ((try simp only [Exit.inBlock, Exit.then]); refine bodyPost_ret (results_tmp4 rfl _ _ _) rfl ?_)
          exact ⟨hb.out.trans (hb2.mono hb.out.size), .inr (.inl ⟨HMAY.out, HN.out, rfl⟩)⟩
      · have i2 : ¬ (↑k : Int) < ↑asked.length := by omega
        have HKN := hid (all_upto (p := knownB l) fun i hi => hall.out i hi (by omega))
        clear hall
        obtain ⟨wb, hwb⟩ : ∃ wb, wb = wr := ⟨_, rfl⟩
        have hbw : Below w.heap.size w wb := hwb ▸ hb.out
        rw [← hwb]
        clear hwb hb
        obtain ⟨b, hbz⟩ : ∃ b, b = wb.heap.size := ⟨_, rfl⟩
        obtain ⟨wm, hwm⟩ : ∃ wm, wm = ((wb.alloc (.map #[] 0)).alloc (.map #[] 0)).alloc (.map #[] 0) := ⟨_, rfl⟩
        have HST0 := hid (show Below w.heap.size w wm ∧ w.heap.size ≤ b ∧ SetS Try.prog 9 wm b [] ∧ SetS Try.prog 9 wm (b + 1) [] ∧ SetS Try.prog 9 wm (b + 1 + 1) [] by
          have e1 : (wb.alloc (.map #[] 0)).heap.size = b + 1 := by rw [hbz]; simp
          have e2 : ((wb.alloc (.map #[] 0)).alloc (.map #[] 0)).heap.size = b + 1 + 1 := by rw [hbz]; simp
          rw [hwm]
          refine ⟨balloc (balloc (balloc hbw _) _) _, by rw [hbz]; exact hbw.size, ?_, ?_, ?_⟩
          · have s0 := SetS.made Try.prog 9 wb
            rw [← hbz] at s0
            have s1 := s0.below (balloc (b0 _) (.map #[] 0)) s0.lt
            exact s1.below (balloc (b0 _) (.map #[] 0)) s1.lt
          · have s0 := SetS.made Try.prog 9 (wb.alloc (.map #[] 0))
            rw [e1] at s0
            exact s0.below (balloc (b0 _) _) s0.lt
          · have s0 := SetS.made Try.prog 9 ((wb.alloc (.map #[] 0)).alloc (.map #[] 0))
            rw [e2] at s0
            exact s0)
        have hmm := @run_makeMap Try.prog
        go_wp2_with fail
        rw [← hwm, ← hbz]
        clear hwm hbz hbw hmm
        go_wp2_with (first
          | (go_at_call 36; refine (clone_any _ asked _ (HA.out.lift HST0.out.1 HST0.out.1.size) (by omega)).mono ?_; rintro e w2 ⟨tv, rfl, hown, hb2⟩))
        have HST := hid (show St Try.prog 9 9 w b w2 tv [] [] [] asked by
          obtain ⟨q0, q1, q2, q3, q4⟩ := HST0.out
          exact ⟨q2.below hb2 q2.lt, q3.below hb2 q3.lt, q4.below hb2 q4.lt, hown.mono q0.size, q0.trans (hb2.mono q0.size), q1, fun _ h => (by cases h), fun _ h => (by cases h), fun _ h => (by cases h)⟩)
        have HR0 := hid (restF_few HMAY.out)
        clear HST0 hown hb2 HB1
        go_loopw [13] (fun tv wr => ∃ on opts pulled todo, Hid (Inv l asked on opts pulled todo) ∧ Hid (St Try.prog 9 9 w b wr tv on opts pulled todo) ∧ Hid (on.length + todo.length + opts.length + pulled.length + restF l on ≤ 2000)) (fun tv wr => lenV tv + restW Try.prog 9 l b wr)
        case atStart => exact ⟨[], [], [], asked, hid (Inv.start l asked), HST, hid (by have := HR0.out; simp; omega)⟩
        case round =>
          obtain ⟨on, opts, pulled, todo, HI, HS, HBD⟩ := hrel
          rcases List.eq_nil_or_concat todo with rfl | ⟨T, s, rfl⟩
          · obtain ⟨tA, tc, rfl⟩ := HS.out.td.form
            have HDN := hid HI.out.done
            have HO := hid HI.out.o
            have HP := hid HI.out.p
            have hbd : on.length + opts.length + pulled.length ≤ 2000 := by have := HBD.out; omega
            have tok1 := hid True.intro
            have tok2 := hid True.intro
            go_wp2_with (first
              | (go_at_call 37; clear tok1; refine (namesRising_any b on _ HS.out.hon HS.out.so (by omega)).mono ?_; rintro e w3 ⟨va, A, rfl, hoa, hra, hma, hb3⟩; have HS3 := hid (HS.out.later hb3); have HOA := hid hoa; have HBA := hid hb3; clear hb3 hoa)
              | (go_at_call 37; clear tok2; refine (namesRising_any (b + 1) opts _ HS3.out.op HS3.out.sp (by omega)).mono ?_; rintro e w4 ⟨vb, B, rfl, hob, hrb, hmb, hb4⟩; have HS4 := hid (HS3.out.later hb4); have HOA4 := hid (HOA.out.below hb4 (Nat.le_refl _)); have HOB := hid hob; clear hb4 hob)
              | (go_at_call 37; refine (namesRising_any (b + 1 + 1) pulled _ HS4.out.pu HS4.out.su (by omega)).mono ?_; rintro e w5 ⟨vc, C, rfl, hoc, hrc, hmc, hb5⟩; have HS5 := hid (HS4.out.later hb5); have HOA5 := hid (HOA4.out.below hb5 (Nat.le_refl _)); have HOB5 := hid (HOB.out.below hb5 (Nat.le_refl _)); have HOC := hid hoc; clear hb5 hoc))
            ((try simp only [Exit.inBlock, Exit.then]); refine bodyPost_ret (results_tmp4 rfl _ _ _) rfl ?_)
            exact ⟨HS5.out.be, .inr (.inr ⟨HMAY.out, HKN.out, va, vb, vc, A, B, C, rfl, ⟨hra, hrb, hrc, fun s => (hma s).trans (HDN.out s), fun s => ((hmb s).trans (HO.out s)).trans (Named.congr HDN.out s), fun s => ((hmc s).trans (HP.out s)).trans (Named.congr HDN.out s)⟩, HOA5.out.rd, HOB5.out.rd, HOC.out.rd⟩)⟩
          · rw [List.concat_eq_append] at HI HS HBD
            obtain ⟨g, tc, rfl, q1, q2, c0, hs, HS'⟩ := HS.out.pop
            have HS1 := hid HS'
            clear HS'
            unfold maxLen at q2
            by_cases hin : s ∈ on
            · have hc : s ∈ on ↔ true = true := ⟨fun _ => rfl, fun _ => hin⟩
              have HI1 := hid (HI.out.had hin)
              go_wp2_with (first
                | (at_lookup; go_must (refine wpList_look_s rfl _ _ rfl setTy hks (setZ _) b on rfl HS1.out.hon s rfl hs true hc ?_)))
              exact ⟨⟨on, opts, pulled, T, HI1, hid (HS1.out.alloc _), hid (by have := HBD.out; rw [List.length_append] at this; omega)⟩, by
                rw [restW_eq (HS1.out.alloc _).hon HLN.out, restW_eq HS1.out.hon HLN.out]; simp [lenV]⟩
            · have hc : s ∈ on ↔ false = true := ⟨fun h => absurd h hin, fun h => by cases h⟩
              have HI1 := hid HI.out.new
              have HIN := hid (restF_snoc l on hin)
              have hbd : on.length + (T.length + 1) + opts.length + pulled.length + restF l on ≤ 2000 := by have := HBD.out; rw [List.length_append] at this; simpa using this
              have HBD2 := hid hbd
              have hon : on.length < maxLen := by unfold maxLen; omega
              have HW0 := hid (restW_eq HS1.out.hon HLN.out)
              clear hin HBD HI HS
              rcases findF_spec l s with ⟨hm, _⟩ | ⟨kf, hkf, hf, _⟩
              · have HM0 := hid hm
                have hof : ofF l s = [] := by unfold ofF; rw [if_pos (by omega)]
                rw [hof] at HI1 HIN
                clear hm hof
                go_wp2_with (first
                  | (at_lookup; go_must (refine wpList_look_s rfl _ _ rfl setTy hks (setZ _) b on rfl HS1.out.hon s rfl hs false hc ?_))
                  | (at_mapUpdate; go_must (refine wpList_upd_s rfl _ _ _ rfl setTy hks b on rfl (HS1.out.alloc _).hon hon s rfl rfl hs ?_); intro w3 hs3 hg3; have HS3 := hid ((HS1.out.alloc _).putOn hs3 hg3 hs); clear hs3 hg3)
                  | (go_at_call 15; refine (ifind_any _ l s _ (H.out.lift HS3.out.be HS3.out.be.size)).mono ?_; rintro e w4 ⟨rfl, hb4⟩; rw [HM0.out]; have HS4 := hid (HS3.out.later hb4); clear hb4))
                exact ⟨⟨on ++ [s], opts, pulled, T, hid (by simpa using HI1.out), HS4, hid (by have := HBD2.out; have := HIN.out; rw [List.length_append, List.length_singleton]; simp only [List.length_nil] at *; omega)⟩, by
                  rw [restW_eq HS4.out.hon HLN.out, HW0.out]; have := HIN.out; simp only [lenV, List.length_nil] at *; omega⟩
              · obtain ⟨g', o, tA, tn, tc', hA, hF, -, g1, htn, -, hrd⟩ := HC.out kf hkf
                have HM0 := hid hf
                have HN : Hid (ofF l s = l[kf].of) := hid (by unfold ofF; rw [if_neg (by omega), hf, List.getD_eq_getElem?_getD, Int.toNat_natCast, List.getElem?_eq_getElem hkf]; rfl)
                have hsz6 := HSZ.out l[kf] (List.getElem_mem hkf)
                have hof6 := ((may_of HMAY.out).2 l[kf] (List.getElem_mem hkf)).1
                generalize hof : l[kf].of = of at *
                subst hA htn
                obtain ⟨tB, tc2, hT, -, -, hco⟩ := hrd.strs
                injection hT with hT1 _ hT3
                subst hT1 hT3
                rw [HN.out] at HI1 HIN
                have HCO := hid hco
                have HSX := hid hsz6
                have i3 : (0 : Int) ≤ ↑kf := by omega
                have i4 : (↑kf : Int) < ↑l.length := by omega
                have i5 : ¬ (↑kf : Int) < 0 := by omega
                clear hf hrd hco hsz6 hof
                go_wp2_with (first
                  | (at_lookup; go_must (refine wpList_look_s rfl _ _ rfl setTy hks (setZ _) b on rfl HS1.out.hon s rfl hs false hc ?_))
                  | (at_mapUpdate; go_must (refine wpList_upd_s rfl _ _ _ rfl setTy hks b on rfl (HS1.out.alloc _).hon hon s rfl rfl hs ?_); intro w3 hs3 hg3; have HS3 := hid ((HS1.out.alloc _).putOn hs3 hg3 hs); clear hs3 hg3)
                  | (go_at_call 15; refine (ifind_any _ l s _ (H.out.lift HS3.out.be HS3.out.be.size)).mono ?_; rintro e w4 ⟨rfl, hb4⟩; rw [HM0.out]; have HS4 := hid (HS3.out.later hb4); have c1 := cell_below HS4.out.be hF g1; clear hb4))
                clear c1
                go_loopw [13, 77] (fun tv iv wx => ∃ j : Nat, j ≤ of.length ∧ iv = .int .i64 j ∧ Hid (St Try.prog 9 9 w b wx tv (on ++ [s]) (opts ++ (of.take j).filterMap k2) (pulled ++ (of.take j).filterMap k3) (T ++ (of.take j).filterMap k1))) (fun _ iv _ => of.length - (intOf iv).toNat)
                case atStart => exact ⟨0, Nat.zero_le _, rfl, hid (by simpa using HS4.out)⟩
                case round =>
                  obtain ⟨j, hj, rfl, HSJ⟩ := hrel
                  have i6 : (0 : Int) ≤ ↑j := by omega
                  by_cases hlj : j < of.length
                  · obtain ⟨g2, o2, hA2, hF2, g20, hsx⟩ := HCO.out j hlj
                    subst hA2
                    have d0 := cell_below HSJ.out.be hF2 g20
                    clear g20
                    have i7 : (↑j : Int) < ↑of.length := by omega
                    have hs1 := HSX.out of[j] (List.getElem_mem hlj)
                    have hl3 := three_length (of.take j)
                    rw [List.length_take] at hl3
                    have HE1 := hid (fmt_take (k := k1) hlj)
                    have HE2 := hid (fmt_take (k := k2) hlj)
                    have HE3 := hid (fmt_take (k := k3) hlj)
                    have hlT : (T ++ (of.take j).filterMap k1).length ≤ 4000 := by rw [List.length_append]; omega
                    have hlO : (opts ++ (of.take j).filterMap k2).length < maxLen := by rw [List.length_append]; unfold maxLen; omega
                    have hlP : (pulled ++ (of.take j).filterMap k3).length < maxLen := by rw [List.length_append]; unfold maxLen; omega
                    generalize hx : of[j] = x at *
                    obtain ⟨bx, hv⟩ := itemV_eq x
                    rcases three_snoc (of.take j) x with ⟨hkx, e1, e2, e3⟩ | ⟨hkx, e1, e2, e3⟩ | ⟨hk1, hk2, e1, e2, e3⟩
                    · have hnz : (nOf x).size ≤ maxLen := by have := nOf_size x (.inl hkx); unfold maxLen; omega
                      rw [hkx] at hv
                      have HV := hid hv
                      have HEE := hid (show _ ∧ _ ∧ _ from ⟨HE1.out.trans e1, HE2.out.trans e2, HE3.out.trans e3⟩)
                      clear hv e1 e2 e3 hkx hx HE1 HE2 HE3
                      generalize nOf x = nx at *
                      generalize hQT : T ++ (of.take j).filterMap k1 = QT at *
                      go_wp2_with (first
                        | (go_at_call 10; refine (item_any x _ (by omega)).mono ?_; rintro e w5 ⟨rfl, hb5⟩; rw [HV.out]; have HS5 := hid (HSJ.out.later hb5); clear hb5)
                        | (at_builtin; go_must (refine wpList_append_own _ rfl _ _ 30 rfl w.heap.size 9 ii (.string ⟨#[]⟩) 1 16 Try.underlying30 HII.out.1 HII.out.2.1 HII.out.2.2.1 HII.out.2.2.2 rfl (by decide) _ _ _ rfl ((HS5.out.alloc _).td.1) ⟨w5.heap.size, 0, none⟩ 1 1 [.string nx] rfl rfl (cell_one_new _ _ _) (by simp [Value.oneCell']) (by unfold maxLen; omega) (by omega) (by have := HS5.out.be.size; simp; omega) ?_); intro v' w6 hown6 hg6 _; have HS6 := hid ((HS5.out.alloc _).push (s := nx) hown6 hg6 hnz); clear hown6 hg6))
                      exact ⟨⟨j + 1, by omega, by go_num, hid (by rw [HEE.out.1, HEE.out.2.1, HEE.out.2.2, ← List.append_assoc, hQT]; exact HS6.out)⟩, by simp [intOf]; omega⟩
                    · have hnz : (nOf x).size ≤ maxLen := by have := nOf_size x (.inr hkx); unfold maxLen; omega
                      rw [hkx] at hv
                      have HV := hid hv
                      have HEE := hid (show _ ∧ _ ∧ _ from ⟨HE1.out.trans e1, HE2.out.trans e2, HE3.out.trans e3⟩)
                      clear hv e1 e2 e3 hkx hx HE1 HE2 HE3
                      generalize nOf x = nx at *
                      generalize hQO : opts ++ (of.take j).filterMap k2 = QO at *
                      go_wp2_with (first
                        | (go_at_call 10; refine (item_any x _ (by omega)).mono ?_; rintro e w5 ⟨rfl, hb5⟩; rw [HV.out]; have HS5 := hid (HSJ.out.later hb5); clear hb5)
                        | (at_mapUpdate; go_must (refine wpList_upd_s rfl _ _ _ rfl setTy hks (b + 1) QO rfl HS5.out.op hlO nx rfl rfl hnz ?_); intro w6 hs6 hg6; have HS6 := hid (HS5.out.putOp hs6 hg6 hnz); clear hs6 hg6))
                      exact ⟨⟨j + 1, by omega, by go_num, hid (by rw [HEE.out.1, HEE.out.2.1, HEE.out.2.2, ← List.append_assoc, hQO]; exact HS6.out)⟩, by simp [intOf]; omega⟩
                    · have hc1 : (kOf x == 1) = false := by simpa using hk1
                      have hc2 : (kOf x == 2) = false := by simpa using hk2
                      have HV := hid hv
                      have HEE := hid (show _ ∧ _ ∧ _ from ⟨HE1.out.trans e1, HE2.out.trans e2, HE3.out.trans e3⟩)
                      have hnz : x.size ≤ maxLen := hsx
                      clear hv e1 e2 e3 hk1 hk2 hx HE1 HE2 HE3
                      generalize kOf x = kx at *
                      generalize hQP : pulled ++ (of.take j).filterMap k3 = QP at *
                      go_wp2_with (first
                        | (go_at_call 10; refine (item_any x _ (by omega)).mono ?_; rintro e w5 ⟨rfl, hb5⟩; rw [HV.out]; have HS5 := hid (HSJ.out.later hb5); clear hb5)
                        | (at_mapUpdate; go_must (refine wpList_upd_s rfl _ _ _ rfl setTy hks (b + 1 + 1) QP rfl HS5.out.pu hlP x rfl rfl hnz ?_); intro w6 hs6 hg6; have HS6 := hid (HS5.out.putPu hs6 hg6 hnz); clear hs6 hg6))
                      exact ⟨⟨j + 1, by omega, by go_num, hid (by rw [HEE.out.1, HEE.out.2.1, HEE.out.2.2, ← List.append_assoc, hQP]; exact HS6.out)⟩, by simp [intOf]; omega⟩
                  · have i7 : ¬ (↑j : Int) < ↑of.length := by omega
                    have hjl : of.take j = of := List.take_of_length_le (by omega)
                    rw [hjl] at HSJ
                    have hl3 := three_length of
                    go_wp2
                    exact ⟨⟨on ++ [s], _, _, _, HI1, HSJ, hid (by have := HBD2.out; have := HIN.out; simp only [List.length_append, List.length_singleton] at *; omega)⟩, by
                      rw [restW_eq HSJ.out.hon HLN.out, HW0.out, HSJ.out.len]; have := HIN.out; simp only [lenV, List.length_append] at *; omega⟩
  · have HMAY := hid hm
    clear hm
    go_enter Try.func17, Try.ntmps17
    go_wp2_with (first
      | (go_at_call 13; refine (imay_any _ l _ H.out HSZ.out).mono ?_; rintro e w1 ⟨rfl, hb1⟩; rw [HM.out]))
    ((try simp only [Exit.inBlock, Exit.then]); refine bodyPost_ret (results_tmp4 rfl _ _ _) rfl ?_)
    exact ⟨hb1, .inl ⟨HMAY.out, rfl⟩⟩
end Go.Proofs.Ytdcdpkpomhjilaa
