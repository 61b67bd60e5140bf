/- Contract: linchpinref11.Close. -/
import Derived.Test.YtdcdpkpomhjilaaSc
import Derived.Test.YtdcdpkpomhjilaaSn
import Derived.Test.YtdcdpkpomhjilaaSq
namespace Go.Proofs.Ytdcdpkpomhjilaa
open Go Go.RowKit

theorem PutOk.cells {w : World} {v : Value} {l : List ByteArray} (h : PutOk w v l) : ∃ A cap, v = .slice A l.length cap ∧ cap ≤ 2 ^ 63 - 1 ∧ l.length ≤ cap ∧ Hid (∀ k, (hk : k < l.length) → ∃ g o, A = some ⟨g, o, none⟩ ∧ g < w.heap.size ∧ w.cell? ⟨g, o + k, none⟩ = some (.string l[k]) ∧ l[k].size ≤ maxLen) := by
  obtain ⟨A, cap, hv, h1, h2, h3⟩ := h.1.strs
  unfold maxLen at h2
  exact ⟨A, cap, hv, h2, h1, hid h3⟩
theorem rd_cells {w : World} {v : Value} {l : List ByteArray} (h : SliceRd tStr w (Lt w.heap.size) v l) : ∃ A cap, v = .slice A l.length cap ∧ cap ≤ 2 ^ 63 - 1 ∧ l.length ≤ cap ∧ Hid (∀ k, (hk : k < l.length) → ∃ g o, A = some ⟨g, o, none⟩ ∧ g < w.heap.size ∧ w.cell? ⟨g, o + k, none⟩ = some (.string l[k]) ∧ l[k].size ≤ maxLen) := by
  obtain ⟨A, cap, hv, h1, h2, h3⟩ := h.strs
  unfold maxLen at h2
  exact ⟨A, cap, hv, h2, h1, hid h3⟩
theorem putAll_len {S L : List ByteArray} {n : Nat} (h : S.length + L.length ≤ n) : (putAll S L).length ≤ n := Nat.le_trans putAll_length h
/-- What the reference's rounds need of the features. -/
theorem of_small {l : List Feat} (h : FSmall l) {f x : ByteArray} (hx : x ∈ ofF l f) : x.size ≤ 100000 := by
  obtain ⟨g, hg, hx⟩ := ofF_mem hx
  exact h g hg x hx
theorem k1_some {x : ByteArray} (L : List ByteArray) (h : kOf x = 1) : (L ++ [x]).filterMap k1 = L.filterMap k1 ++ [nOf x] := by
  rw [List.filterMap_append]
  simp [k1, h]
theorem k1_none {x : ByteArray} (L : List ByteArray) (h : kOf x ≠ 1) : (L ++ [x]).filterMap k1 = L.filterMap k1 := by
  rw [List.filterMap_append]
  simp [k1, h]

set_option maxRecDepth 100000 in
set_option maxHeartbeats 8000000 in
theorem rclose_any (v av : Value) (l : List Feat) (asked : List ByteArray) (w : World) (h : SliceRd tFeat w (Lt w.heap.size) v l) (ha : SliceRd tStr w (Lt w.heap.size) av asked) (hsz : FSmall l) (hal : asked.length ≤ 1000) :
    Calls Try.prog 18 #[v, av] w (ClosePost l asked w) := by
  obtain ⟨A, cap, rfl, hcap, hmax, -⟩ := h.feats
  obtain ⟨A', cap', rfl, hmax', hcap', HC'⟩ := rd_cells ha
  unfold maxLen at hmax
  have H := hid h
  have HSZ := hid hsz
  clear h ha hsz
  rcases bc (mayF l) with ⟨hm, HM⟩ | ⟨hm, HM⟩
  · have HMAY := hid hm
    have HLF := hid (fun f => ofF_length (n := 6) (fun g hg => ((may_of hm).2 g hg).1) f)
    have hl8 := (may_of hm).1
    clear hm
    go_enter Try.func18, Try.ntmps18
    go_wp2_with (first
      | (go_at_call 14; refine (rmay_any _ l _ H.out HSZ.out).mono ?_; rintro e w1 ⟨rfl, hb1⟩; rw [HM.out]))
    have HB1 := hid hb1
    clear hb1
    go_loopw [8, 11] (fun ov iv wr => ∃ k : Nat, k ≤ asked.length ∧ iv = .int .i64 k ∧ Hid (PutOk wr ov (putAll [] (asked.take k))) ∧ Hid (∀ i, (hi : i < asked.length) → i < k → knownB l asked[i] = true) ∧ Hid (Below w.heap.size w wr)) (fun _ iv _ => asked.length - (intOf iv).toNat)
    case atStart => exact ⟨0, Nat.zero_le _, rfl, hid (PutOk.nil _), hid (fun i hi hk => by omega), HB1⟩
    case round =>
      obtain ⟨k, hk, rfl, HON, hall, hb⟩ := hrel
      have i1 : (0 : Int) ≤ ↑k := by omega
      by_cases hlt : k < asked.length
      · obtain ⟨g, o, hA, hF, g0, hsk⟩ := HC'.out k hlt
        subst hA
        have c0 := cell_below hb.out hF g0
        clear g0
        have i2 : (↑k : Int) < ↑asked.length := by omega
        rcases bc (knownB l asked[k]) with ⟨hq, HK⟩ | ⟨hq, HK⟩
        · have HN := hid (show ∀ i, (hi : i < asked.length) → i < k + 1 → knownB l asked[i] = true from fun i hi hk => by
            by_cases e : i = k
            · subst e; exact hq
            · exact hall.out i hi (by omega))
          have hln : (putAll [] (asked.take k)).length ≤ 1000000 := putAll_len (by rw [List.length_take, List.length_nil]; omega)
          have HTK := hid (show putAll [] (asked.take (k + 1)) = putF (putAll [] (asked.take k)) asked[k] by rw [List.take_succ_eq_append_getElem hlt, putAll_snoc])
          clear hq
          go_wp2_with (first
            | (go_at_call 38; refine (is_any _ l asked[k] _ (H.out.lift hb.out hb.out.size)).mono ?_; rintro e w2 ⟨rfl, hb2⟩; rw [HK.out]; have HB2 := hid (hb.out.trans (hb2.mono hb.out.size)); have HON2 := hid (HON.out.lift hb2); have c1 := cell_below HB2.out hF (HC'.out k hlt |> fun ⟨_, _, e, _, h, _⟩ => by cases e; exact h); clear hb2)
            | (go_at_call 39; refine (rput_any _ _ asked[k] _ HON2.out hsk hln).mono ?_; rintro e w3 ⟨v3, rfl, hp3, hb3⟩; have HON3 := hid hp3; have HB3 := hid (HB2.out.trans (hb3.mono HB2.out.size)); clear hp3 hb3))
          exact ⟨⟨k + 1, by omega, by go_num, hid (by rw [HTK.out]; exact HON3.out), HN, HB3⟩, by simp [intOf]; omega⟩
        · have HN := hid (all_bad (p := knownB l) hlt hq)
          clear hq
          go_wp2_with (first
            | (go_at_call 38; refine (is_any _ l asked[k] _ (H.out.lift hb.out hb.out.size)).mono ?_; rintro e w2 ⟨rfl, hb2⟩; rw [HK.out]))
          ((try simp only [Exit.inBlock, Exit.then]); refine bodyPost_ret (results_tmp4 rfl _ _ _) rfl ?_)
          exact ⟨hb.out.trans (hb2.mono hb.out.size), .inr (.inl ⟨HMAY.out, HN.out, rfl⟩)⟩
      · have i2 : ¬ (↑k : Int) < ↑asked.length := by omega
        have HKN := hid (all_upto (p := knownB l) fun i hi => hall.out i hi (by omega))
        have hkk : asked.take k = asked := List.take_of_length_le (by omega)
        rw [hkk] at HON
        have HI0 := hid (RInv.start (l := l) (asked := asked) (List.all_eq_true.1 HKN.out))
        clear hall hkk
        go_wp2
        go_loopw [8, 12] (fun ov iv wr => ∃ (n : Nat) (on : List ByteArray), n ≤ l.length + 1 ∧ iv = .int .i64 n ∧ Hid (RInv l asked on n) ∧ Hid (PutOk wr ov on) ∧ Hid (Below w.heap.size w wr)) (fun _ iv _ => l.length + 1 - (intOf iv).toNat)
        case atStart => exact ⟨0, _, Nat.zero_le _, rfl, HI0, HON, hb⟩
        case round =>
          clear i1 i2 hb HON HI0
          obtain ⟨n, on, hn, rfl, HI, HON, hb⟩ := hrel
          have hfew := known_few HI.out.rise HI.out.k
          obtain ⟨oA, oc, rfl, hom, hoc, HOC⟩ := HON.out.cells
          by_cases hlt : n ≤ l.length
          · have i2 : (↑n : Int) ≤ ↑l.length := by omega
            have HI1 := hid (HI.out.round HMAY.out)
            have HLA := hid (fun i => adds_length (k := k1) (l := l) (n := 6) (fun g hg => ((may_of HMAY.out).2 g hg).1) (on.take i))
            go_wp2
            go_loopw [8, 57] (fun cv iv wx => ∃ i : Nat, i ≤ on.length ∧ iv = .int .i64 i ∧ Hid (PutOk wx cv (putAll on (adds k1 l (on.take i)))) ∧ Hid (Below wr.heap.size wr wx)) (fun _ iv _ => on.length - (intOf iv).toNat)
            case atStart => exact ⟨0, Nat.zero_le _, rfl, HON, hid (b0 _)⟩
            case round =>
              obtain ⟨i, hi, rfl, HCU, hbx⟩ := hrel
              have j1 : (0 : Int) ≤ ↑i := by omega
              by_cases hli : i < on.length
              · obtain ⟨g, o, hA, hF, g0, -⟩ := HOC.out i hli
                subst hA
                have c0 := cell_below hbx.out hF g0
                clear g0
                have j2 : (↑i : Int) < ↑on.length := by omega
                have HAT := hid (adds_take k1 l hli)
                have hla := HLA.out i
                rw [List.length_take] at hla
                have hlf := HLF.out on[i]
                have HBX := hid (hb.out.trans (hbx.out.mono hb.out.size))
                generalize hff : on[i] = ff at *
                go_wp2_with (first
                  | (go_at_call 40; refine (of_any _ l ff _ (H.out.lift HBX.out HBX.out.size)).mono ?_; rintro e w2 ⟨v2, rfl, hrd, hb2⟩; have HB2 := hid (bstep hbx.out hb2); have HCU2 := hid (HCU.out.lift hb2); obtain ⟨fA, fc, rfl, hfm, hfc, HFC⟩ := rd_cells (hrd.lift hb2 hb2.size); clear hrd hb2))
                have HFS := hid (fun (x : ByteArray) (hx : x ∈ ofF l ff) => of_small HSZ.out hx)
                have HFK := hid (fun (x : ByteArray) (hx : x ∈ ofF l ff) => show x.size ≤ maxLen by have := of_small HSZ.out hx; unfold maxLen; omega)
                generalize hof : ofF l ff = of at *
                clear c0
                go_loopw [8, 65] (fun cv iv wy => ∃ j : Nat, j ≤ of.length ∧ iv = .int .i64 j ∧ Hid (PutOk wy cv (putAll on (adds k1 l (on.take i) ++ (of.take j).filterMap k1))) ∧ Hid (Below w2.heap.size w2 wy)) (fun _ iv _ => of.length - (intOf iv).toNat)
                case atStart => exact ⟨0, Nat.zero_le _, rfl, hid (by simpa using HCU2.out), hid (b0 _)⟩
                case round =>
                  obtain ⟨j, hj, rfl, HCJ, hby⟩ := hrel
                  have q1 : (0 : Int) ≤ ↑j := by omega
                  by_cases hlj : j < of.length
                  · obtain ⟨g2, o2, hA2, hF2, g20, -⟩ := HFC.out j hlj
                    subst hA2
                    have d0 := cell_below hby.out hF2 g20
                    clear g20
                    have q2 : (↑j : Int) < ↑of.length := by omega
                    have hs1 := HFS.out of[j] (List.getElem_mem hlj)
                    have hs2 := HFK.out of[j] (List.getElem_mem hlj)
                    have HE1 := hid (fmt_take (k := k1) hlj)
                    have hl3 := List.length_filterMap_le k1 (of.take j)
                    rw [List.length_take] at hl3
                    have hln : (putAll on (adds k1 l (on.take i) ++ (of.take j).filterMap k1)).length ≤ 1000000 := putAll_len (by rw [List.length_append]; omega)
                    generalize hx : of[j] = x at *
                    obtain ⟨bx, hv⟩ := itemV_eq x
                    by_cases hkx : kOf x = 1
                    · have hnz : (nOf x).size ≤ maxLen := Nat.le_trans (nOf_size x (.inl hkx)) hs2
                      have HEE := hid (show putAll on (adds k1 l (on.take i) ++ (of.take (j + 1)).filterMap k1) = putF (putAll on (adds k1 l (on.take i) ++ (of.take j).filterMap k1)) (nOf x) by rw [HE1.out, k1_some _ hkx, ← List.append_assoc, putAll_snoc])
                      rw [hkx] at hv
                      have HV := hid hv
                      clear hv hkx hx HE1
                      generalize nOf x = nx at *
                      go_wp2_with (first
                        | (go_at_call 11; refine (ritem_any x _ hs1).mono ?_; rintro e w5 ⟨rfl, hb5⟩; rw [HV.out]; have HCJ5 := hid (HCJ.out.lift hb5); have HB5 := hid (bstep hby.out hb5); clear hb5)
                        | (go_at_call 39; refine (rput_any _ _ nx _ HCJ5.out hnz hln).mono ?_; rintro e w6 ⟨v6, rfl, hp6, hb6⟩; have HP6 := hid hp6; have HB6 := hid (bstep HB5.out hb6); clear hp6 hb6))
                      exact ⟨⟨j + 1, by omega, by go_num, hid (by rw [HEE.out]; exact HP6.out), HB6⟩, by simp [intOf]; omega⟩
                    · have hc1 : (kOf x == 1) = false := by simpa using hkx
                      have HEE := hid (show putAll on (adds k1 l (on.take i) ++ (of.take (j + 1)).filterMap k1) = putAll on (adds k1 l (on.take i) ++ (of.take j).filterMap k1) by rw [HE1.out, k1_none _ hkx])
                      have HV := hid hv
                      clear hv hkx hx HE1
                      generalize kOf x = kx at *
                      go_wp2_with (first
                        | (go_at_call 11; refine (ritem_any x _ hs1).mono ?_; rintro e w5 ⟨rfl, hb5⟩; rw [HV.out]; have HCJ5 := hid (HCJ.out.lift hb5); have HB5 := hid (bstep hby.out hb5); clear hb5))
                      exact ⟨⟨j + 1, by omega, by go_num, hid (by rw [HEE.out]; exact HCJ5.out), HB5⟩, by simp [intOf]; omega⟩
                  · have q2 : ¬ (↑j : Int) < ↑of.length := by omega
                    have hjl : of.take j = of := List.take_of_length_le (by omega)
                    rw [hjl, ← HAT.out] at HCJ
                    go_wp2
                    exact ⟨⟨i + 1, by omega, by go_num, HCJ, hid (bstep HB2.out hby.out)⟩, by simp [intOf]; omega⟩
              · have j2 : ¬ (↑i : Int) < ↑on.length := by omega
                have hjl : on.take i = on := List.take_of_length_le (by omega)
                rw [hjl] at HCU
                go_wp2
                exact ⟨⟨n + 1, _, by omega, by go_num, HI1, HCU, hid (hb.out.trans (hbx.out.mono hb.out.size))⟩, by simp [intOf]; omega⟩
          · have i2 : ¬ (↑n : Int) ≤ ↑l.length := by omega
            have HCL := hid (HI.out.closed (by omega))
            clear HI
            have HLA := hid (fun k i => adds_length (k := k) (l := l) (n := 6) (fun g hg => ((may_of HMAY.out).2 g hg).1) (on.take i))
            go_wp2
            go_loopw [9, 10, 84] (fun pv qv iv wx => ∃ i : Nat, i ≤ on.length ∧ iv = .int .i64 i ∧ Hid (PutOk wx pv (putAll [] (adds k2 l (on.take i)))) ∧ Hid (PutOk wx qv (putAll [] (adds k3 l (on.take i)))) ∧ Hid (Below wr.heap.size wr wx)) (fun _ _ iv _ => on.length - (intOf iv).toNat)
            case atStart => exact ⟨0, Nat.zero_le _, rfl, hid (PutOk.nil _), hid (PutOk.nil _), hid (b0 _)⟩
            case round =>
              obtain ⟨i, hi, rfl, HP, HQ, hbx⟩ := hrel
              have j1 : (0 : Int) ≤ ↑i := by omega
              by_cases hli : i < on.length
              · obtain ⟨g, o, hA, hF, g0, -⟩ := HOC.out i hli
                subst hA
                have c0 := cell_below hbx.out hF g0
                clear g0
                have j2 : (↑i : Int) < ↑on.length := by omega
                have HAT := hid (fun k => adds_take k l hli)
                have hla2 := HLA.out k2 i
                have hla3 := HLA.out k3 i
                rw [List.length_take] at hla2 hla3
                have hlf := HLF.out on[i]
                have HBX := hid (hb.out.trans (hbx.out.mono hb.out.size))
                generalize hff : on[i] = ff at *
                go_wp2_with (first
                  | (go_at_call 40; refine (of_any _ l ff _ (H.out.lift HBX.out HBX.out.size)).mono ?_; rintro e w2 ⟨v2, rfl, hrd, hb2⟩; have HB2 := hid (bstep hbx.out hb2); have HP2 := hid (HP.out.lift hb2); have HQ2 := hid (HQ.out.lift hb2); obtain ⟨fA, fc, rfl, hfm, hfc, HFC⟩ := rd_cells (hrd.lift hb2 hb2.size); clear hrd hb2))
                have HFS := hid (fun (x : ByteArray) (hx : x ∈ ofF l ff) => of_small HSZ.out hx)
                have HFK := hid (fun (x : ByteArray) (hx : x ∈ ofF l ff) => show x.size ≤ maxLen by have := of_small HSZ.out hx; unfold maxLen; omega)
                have HF0 := hid (fun (x : ByteArray) (hx : x ∈ ofF l ff) => show kOf x ≠ 0 by obtain ⟨g, hg, hx⟩ := ofF_mem hx; exact (((may_of HMAY.out).2 g hg).2 x hx).1)
                generalize hof : ofF l ff = of at *
                clear c0
                go_loopw [9, 10, 92] (fun pv qv iv wy => ∃ j : Nat, j ≤ of.length ∧ iv = .int .i64 j ∧ Hid (PutOk wy pv (putAll [] (adds k2 l (on.take i) ++ (of.take j).filterMap k2))) ∧ Hid (PutOk wy qv (putAll [] (adds k3 l (on.take i) ++ (of.take j).filterMap k3))) ∧ Hid (Below w2.heap.size w2 wy)) (fun _ _ iv _ => of.length - (intOf iv).toNat)
                case atStart => exact ⟨0, Nat.zero_le _, rfl, hid (by simpa using HP2.out), hid (by simpa using HQ2.out), hid (b0 _)⟩
                case round =>
                  obtain ⟨j, hj, rfl, HPJ, HQJ, hby⟩ := hrel
                  have q1 : (0 : Int) ≤ ↑j := by omega
                  by_cases hlj : j < of.length
                  · obtain ⟨g2, o2, hA2, hF2, g20, -⟩ := HFC.out j hlj
                    subst hA2
                    have d0 := cell_below hby.out hF2 g20
                    clear g20
                    have q2 : (↑j : Int) < ↑of.length := by omega
                    have hs1 := HFS.out of[j] (List.getElem_mem hlj)
                    have hs2 := HFK.out of[j] (List.getElem_mem hlj)
                    have hk0 := HF0.out of[j] (List.getElem_mem hlj)
                    have HE2 := hid (fmt_take (k := k2) hlj)
                    have HE3 := hid (fmt_take (k := k3) hlj)
                    have hl2 := List.length_filterMap_le k2 (of.take j)
                    have hl3 := List.length_filterMap_le k3 (of.take j)
                    rw [List.length_take] at hl2 hl3
                    have hln2 : (putAll [] (adds k2 l (on.take i) ++ (of.take j).filterMap k2)).length ≤ 1000000 := putAll_len (by rw [List.length_append, List.length_nil]; omega)
                    have hln3 : (putAll [] (adds k3 l (on.take i) ++ (of.take j).filterMap k3)).length ≤ 1000000 := putAll_len (by rw [List.length_append, List.length_nil]; omega)
                    generalize hx : of[j] = x at *
                    obtain ⟨bx, hv⟩ := itemV_eq x
                    rcases three_snoc (of.take j) x with ⟨hkx, e1, e2, e3⟩ | ⟨hkx, e1, e2, e3⟩ | ⟨hk1, hk2, e1, e2, e3⟩
                    · have HEE := hid (show _ ∧ _ from ⟨HE2.out.trans e2, HE3.out.trans e3⟩)
                      rw [hkx] at hv
                      have HV := hid hv
                      clear hv e1 e2 e3 hkx hk0 hx HE2 HE3
                      generalize nOf x = nx at *
                      go_wp2_with (first
                        | (go_at_call 11; refine (ritem_any x _ hs1).mono ?_; rintro e w5 ⟨rfl, hb5⟩; rw [HV.out]; have HP5 := hid (HPJ.out.lift hb5); have HQ5 := hid (HQJ.out.lift hb5); have HB5 := hid (bstep hby.out hb5); clear hb5))
                      exact ⟨⟨j + 1, by omega, by go_num, hid (by rw [HEE.out.1]; exact HP5.out), hid (by rw [HEE.out.2]; exact HQ5.out), HB5⟩, by simp [intOf]; omega⟩
                    · have hnz : (nOf x).size ≤ maxLen := Nat.le_trans (nOf_size x (.inr hkx)) hs2
                      have HEE := hid (show putAll [] (adds k2 l (on.take i) ++ (of.take (j + 1)).filterMap k2) = putF (putAll [] (adds k2 l (on.take i) ++ (of.take j).filterMap k2)) (nOf x) ∧ _ from ⟨by rw [HE2.out, e2, ← List.append_assoc, putAll_snoc], HE3.out.trans e3⟩)
                      rw [hkx] at hv
                      have HV := hid hv
                      clear hv e1 e2 e3 hkx hk0 hx HE2 HE3
                      generalize nOf x = nx at *
                      go_wp2_with (first
                        | (go_at_call 11; refine (ritem_any x _ hs1).mono ?_; rintro e w5 ⟨rfl, hb5⟩; rw [HV.out]; have HP5 := hid (HPJ.out.lift hb5); have HQ5 := hid (HQJ.out.lift hb5); have HB5 := hid (bstep hby.out hb5); clear hb5)
                        | (go_at_call 39; refine (rput_any _ _ nx _ HP5.out hnz hln2).mono ?_; rintro e w6 ⟨v6, rfl, hp6, hb6⟩; have HP6 := hid hp6; have HQ6 := hid (HQ5.out.lift hb6); have HB6 := hid (bstep HB5.out hb6); clear hp6 hb6))
                      exact ⟨⟨j + 1, by omega, by go_num, hid (by rw [HEE.out.1]; exact HP6.out), hid (by rw [HEE.out.2]; exact HQ6.out), HB6⟩, by simp [intOf]; omega⟩
                    · have hk3 : kOf x = 3 := by rcases kOf_range x with h | h | h | h <;> omega
                      have HEE := hid (show _ ∧ putAll [] (adds k3 l (on.take i) ++ (of.take (j + 1)).filterMap k3) = putF (putAll [] (adds k3 l (on.take i) ++ (of.take j).filterMap k3)) x from ⟨HE2.out.trans e2, by rw [HE3.out, e3, ← List.append_assoc, putAll_snoc]⟩)
                      rw [hk3] at hv
                      have HV := hid hv
                      clear hv e1 e2 e3 hk1 hk2 hk3 hk0 hx HE2 HE3
                      generalize nOf x = nx at *
                      go_wp2_with (first
                        | (go_at_call 11; refine (ritem_any x _ hs1).mono ?_; rintro e w5 ⟨rfl, hb5⟩; rw [HV.out]; have HP5 := hid (HPJ.out.lift hb5); have HQ5 := hid (HQJ.out.lift hb5); have HB5 := hid (bstep hby.out hb5); clear hb5)
                        | (go_at_call 39; refine (rput_any _ _ x _ HQ5.out hs2 hln3).mono ?_; rintro e w6 ⟨v6, rfl, hp6, hb6⟩; have HQ6 := hid hp6; have HP6 := hid (HP5.out.lift hb6); have HB6 := hid (bstep HB5.out hb6); clear hp6 hb6))
                      exact ⟨⟨j + 1, by omega, by go_num, hid (by rw [HEE.out.1]; exact HP6.out), hid (by rw [HEE.out.2]; exact HQ6.out), HB6⟩, by simp [intOf]; omega⟩
                  · have q2 : ¬ (↑j : Int) < ↑of.length := by omega
                    have hjl : of.take j = of := List.take_of_length_le (by omega)
                    rw [hjl, ← HAT.out] at HPJ HQJ
                    go_wp2
                    exact ⟨⟨i + 1, by omega, by go_num, HPJ, HQJ, hid (bstep HB2.out hby.out)⟩, by simp [intOf]; omega⟩
              · have j2 : ¬ (↑i : Int) < ↑on.length := by omega
                have hjl : on.take i = on := List.take_of_length_le (by omega)
                rw [hjl] at HP HQ
                have HON2 := hid (HON.out.lift hbx.out)
                go_wp2
                ((try simp only [Exit.inBlock, Exit.then]); refine bodyPost_ret (results_tmp4 rfl _ _ _) rfl ?_)
                exact ⟨hb.out.trans (hbx.out.mono hb.out.size), .inr (.inr ⟨HMAY.out, HKN.out, _, _, _, _, _, _, rfl, HCL.out, HON2.out.1, HP.out.1, HQ.out.1⟩)⟩
  · have HMAY := hid hm
    clear hm
    go_enter Try.func18, Try.ntmps18
    go_wp2_with (first
      | (go_at_call 14; refine (rmay_any _ l _ H.out HSZ.out).mono ?_; rintro e w1 ⟨rfl, hb1⟩; rw [HM.out]))
    ((try simp only [Exit.inBlock, Exit.then]); refine bodyPost_ret (results_tmp4 rfl _ _ _) rfl ?_)
    exact ⟨hb1, .inl ⟨HMAY.out, rfl⟩⟩
end Go.Proofs.Ytdcdpkpomhjilaa
