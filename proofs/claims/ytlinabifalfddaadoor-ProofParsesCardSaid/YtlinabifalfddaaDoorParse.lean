/- Contract: proof.Parse. -/
import Derived.Test.YtlinabifalfddaaDoorRow
import Derived.Test.YtlinabifalfddaaDoorW33
namespace Go.Proofs.YtlinabifalfddaaDoor
open Go Go.RowKit

theorem parseGo_fuel : ∀ (f g : Nat) (s : List UInt8) (out : List Row), s.length < f → s.length < g → parseGo f s out = parseGo g s out
  | 0, _, s, _, h, _ => absurd h (by omega)
  | _, 0, s, _, _, h => absurd h (by omega)
  | f + 1, g + 1, s, out, hf, hg => by
    unfold parseGo
    by_cases hs : s = []
    · rw [if_pos hs, if_pos hs]
    · rw [if_neg hs, if_neg hs]
      cases rowR (cutC 10 s).1 with
      | none => rfl
      | some r =>
        simp only
        by_cases hc : (cutC 10 s).2.2 = true ∧ out.length < 20000
        · rw [if_pos hc, if_pos hc]
          have := cut_len 10 s hc.1
          exact parseGo_fuel f g _ _ (by omega) (by omega)
        · rw [if_neg hc, if_neg hc]
theorem parse_step {eR eT : TypeId} {w wr wc w2 : World} {B : Nat} {v v2 : Value} {L : List Row} {tvs : List Value} {r : Row} {tv : Value} {O : Obj} (hb : Below B w wr) (hcop : Copied eR eT wr B v L tvs) (hbu : Below wr.heap.size wr wc)
    (hown : wc.ownsRow B eT 2 tv r.terms.length (termCells r.terms)) (htb : ∀ gg, tv.ownBlock = some gg → wr.heap.size ≤ gg) (hr : RowI r) (hB : B ≤ wr.heap.size)
    (hg2 : (wc.alloc O).grownBy w2 v.ownBlock) (hown2 : w2.ownsRow B eR 5 v2 (L.length + 1) (rowsCells L tvs ++ rowCells r tv)) :
    Below B w w2 ∧ Copied eR eT w2 B v2 (L ++ [r]) (tvs ++ [tv]) := by
  have hbA : Below wr.heap.size wr (wc.alloc O) := hbu.alloc hbu.size _
  refine ⟨(hb.trans (hbA.mono hB)).grown hg2 (Nat.le_trans hB hbA.size) (fun k hk => (hcop.lt.1 k hk).1), (hcop.below hbA (Nat.le_refl _)).snoc hown2 hg2 hr (hown.alloc _) ?_⟩
  intro k hk g hg hgt
  have h1 := (hcop.lt.2 k hk g hg).2
  have h2 := htb g hgt
  omega
/-- What proof.Parse answers. -/
def ParsePost (p : List Row × Int × Int) (w : World) (e : Ending) (w' : World) : Prop :=
  ∃ v, e = .returned (.tuple #[v, .int .i64 p.2.1, .int .i64 p.2.2]) ∧ SliceRd tRow w' (Lt w'.heap.size) v p.1 ∧ Below w.heap.size w w'

set_option maxRecDepth 100000 in
set_option maxHeartbeats 2000000 in
theorem parse_any (s : ByteArray) (w : World) (hs : s.size ≤ 1048576) (hm : ∃ m, w.cell? ⟨0, 0, none⟩ = some (.int .i64 m)) :
    Calls Tryd.prog 23 #[.string s] w (ParsePost (parseF s.data.toList) w) := by
  have hm2 : ∀ w', Below w.heap.size w w' → ∃ m, w'.cell? ⟨0, 0, none⟩ = some (.int .i64 m) := fun w' hb => by
    obtain ⟨m, hm⟩ := hm
    have hz : 0 < w.heap.size := by
      rcases Nat.eq_zero_or_pos w.heap.size with h0 | h0
      · exfalso
        have : w.heap = #[] := Array.eq_empty_of_size_eq_zero h0
        simp [World.cell?, this] at hm
      · exact h0
    exact ⟨m, cell_below hb hz hm⟩
  have HM := hid hm
  clear hm
  obtain ⟨ir, hir⟩ := info_parts row_info
  have HIR := hid hir
  clear hir
  go_enter Tryd.func23, Tryd.ntmps23
  go_wp2_with fail
  have HPF := hid (show parseF s.data.toList = parsed (parseGo (s.data.toList.length + 1) s.data.toList []) from rfl)
  go_loopw [0, 5] (fun tx ov wr => ∃ (S : ByteArray) (out : List Row) (tvs : List Value), tx = .string S ∧ S.size ≤ s.size ∧ out.length ≤ 20000 ∧ Hid (parseF s.data.toList = parsed (parseGo (S.data.toList.length + 1) S.data.toList out)) ∧ Hid (Copied 27 52 wr w.heap.size ov out tvs) ∧ Hid (Below w.heap.size w wr)) (fun tx _ _ => match tx with | .string S => S.size | _ => 0)
  case atStart => exact ⟨s, [], [], rfl, Nat.le_refl _, Nat.zero_le _, HPF, hid (Copied.nil (by decide) _ _), hid (Below.refl _ _)⟩
  case round =>
    obtain ⟨S, out, tvs, rfl, hS, hout, hpf, hcop, hb⟩ := hrel
    obtain ⟨A, cap, rfl⟩ := own_form hcop.out.own
    by_cases hS0 : S.data.toList = []
    · have hSe : S = ⟨#[]⟩ := bytes_of hS0
      subst hSe
      have HP := hid (show parseF s.data.toList = parsed (.ok out) from hpf.out)
      by_cases hm : MayP out
      · have HP2 := hid (show parseF s.data.toList = (out, 0, 0) by rw [HP.out]; unfold parsed; simp only [if_pos hm])
        have HDM := hid (decide_eq_true hm)
        clear hm
        go_wp2_with (first
          | (go_at_call 12
             refine (may_any _ out _ (hcop.out.rd (F := Lt wr.heap.size) (fun g _ h => h))).mono ?_
             rintro e w1 ⟨rfl, hb1⟩
             rw [HDM.out]))
        go_ret3
        rw [HP2.out]
        exact ⟨_, rfl, (hcop.out.rd (F := Lt wr.heap.size) (fun g _ h => h)).lift hb1 hb1.size, hb.out.trans (hb1.mono hb.out.size)⟩
      · have HP2 := hid (show parseF s.data.toList = ([], 33, 0) by rw [HP.out]; unfold parsed; simp only [if_neg hm])
        have HDM := hid (decide_eq_false hm)
        clear hm
        go_wp2_with (first
          | (go_at_call 12
             refine (may_any _ out _ (hcop.out.rd (F := Lt wr.heap.size) (fun g _ h => h))).mono ?_
             rintro e w1 ⟨rfl, hb1⟩
             rw [HDM.out]))
        go_ret3
        rw [HP2.out]
        exact ⟨_, rfl, SliceRd.nil _ _ _, hb.out.trans (hb1.mono hb.out.size)⟩
    · have hS9 : S.toList.isEmpty = false := by
        rw [ByteArray.toList_eq]
        cases hl : S.data.toList with
        | nil => exact absurd hl hS0
        | cons _ _ => rfl
      have hsz : S.size ≤ 2000000 := by omega
      have hm3 := hm2 _ hb.out
      have hlen := cut_lens 10 S.data.toList
      have hSz : S.data.toList.length = S.size := by simp
      have HCUT := hid (fun w' hs hm => cut_any S 10 w' hs hm)
      have HCL := hid (cut_len 10 S.data.toList)
      have HGO := hid (show parseF s.data.toList = parsed (match rowR (cutC 10 S.data.toList).1 with
        | some r => if (cutC 10 S.data.toList).2.2 = true ∧ out.length < 20000 then parseGo S.data.toList.length (cutC 10 S.data.toList).2.1 (out ++ [r]) else .bad (out.length + 1)
        | none => .bad (out.length + 1)) by
        rw [hpf.out]
        conv => lhs; unfold parseGo
        rw [if_neg hS0]
        rfl)
      generalize hca : (cutC 10 S.data.toList).1 = ca at hlen HCUT HGO
      generalize hcb : (cutC 10 S.data.toList).2.1 = cb at hlen HCUT HCL HGO
      generalize hcc : (cutC 10 S.data.toList).2.2 = cf at HCUT HCL HGO
      clear hca hcb hcc hS0
      have hla : (⟨ca.toArray⟩ : ByteArray).size ≤ 2000000 := by show ca.toArray.size ≤ _; simp; omega
      cases hR : rowR ca with
      | none =>
        have HR := hid hR
        have HP := hid (show parseF s.data.toList = ([], 2, ((out.length + 1 : Nat) : Int)) by rw [HGO.out, hR]; rfl)
        clear hR
        go_wp2_with (first
          | (go_at_call 40
             refine (HCUT.out _ hsz hm3).mono ?_
             rintro e w1 ⟨rfl, n1, hn1⟩
             have hd1 : Below wr.heap.size wr w1 := by rw [hn1]; exact below_drewN (Below.refl _ _) n1
             have hz1 : w1.heap.size = wr.heap.size := by rw [hn1]; rfl
             have hm4 := hm2 _ (hb.out.trans (hd1.mono hb.out.size))
             clear hn1)
          | (go_at_call 41
             refine (prow_any ⟨ca.toArray⟩ _ hla hm4).mono ?_
             rw [show (⟨ca.toArray⟩ : ByteArray).data.toList = ca from rfl, HR.out]
             rintro e w2 ⟨rfl, hb2⟩
             have hd2 : Below wr.heap.size wr w2 := hd1.trans (hb2.mono (by omega))
             clear hb2))
        all_goals
          go_ret3
          rw [HP.out]
          exact ⟨_, rfl, SliceRd.nil _ _ _, hb.out.trans ((hd2.alloc hd2.size _).mono hb.out.size)⟩
      | some r =>
        have HR := hid hR
        rw [hR] at HGO
        replace HGO := hid (show parseF s.data.toList = parsed (if cf = true ∧ out.length < 20000 then parseGo S.data.toList.length cb (out ++ [r]) else .bad (out.length + 1)) from HGO.out)
        clear hR
        cases cf with
        | false =>
          have HP := hid (show parseF s.data.toList = ([], 2, ((out.length + 1 : Nat) : Int)) by rw [HGO.out, if_neg (by simp)]; rfl)
          go_wp2_with (first
            | (go_at_call 40
               refine (HCUT.out _ hsz hm3).mono ?_
               rintro e w1 ⟨rfl, n1, hn1⟩
               have hd1 : Below wr.heap.size wr w1 := by rw [hn1]; exact below_drewN (Below.refl _ _) n1
               have hz1 : w1.heap.size = wr.heap.size := by rw [hn1]; rfl
               have hm4 := hm2 _ (hb.out.trans (hd1.mono hb.out.size))
               clear hn1)
            | (go_at_call 41
               refine (prow_any ⟨ca.toArray⟩ _ hla hm4).mono ?_
               rw [show (⟨ca.toArray⟩ : ByteArray).data.toList = ca from rfl, HR.out]
               rintro e w2 ⟨TA, tc, rfl, hown, hI, hlen, hb2⟩
               have hd2 : Below wr.heap.size wr w2 := hd1.trans (hb2.mono (by omega))
               rw [hz1] at hown
               have HOWN := hid hown
               have HI := hid hI
               clear hb2 hown hI))
          all_goals
            go_ret3
            rw [HP.out]
            exact ⟨_, rfl, SliceRd.nil _ _ _, hb.out.trans ((hd2.alloc hd2.size _).mono hb.out.size)⟩
        | true =>
          by_cases hl : out.length < 20000
          · have HCB := hid (HCL.out rfl)
            have HP := hid (show parseF s.data.toList = parsed (parseGo (cb.length + 1) cb (out ++ [r])) by
              rw [HGO.out, if_pos ⟨rfl, hl⟩]
              exact congrArg parsed (parseGo_fuel _ _ _ _ HCB.out (by omega)))
            have hle : ¬ (20000 : Int) ≤ out.length := by omega
            clear HGO HCL
            go_upto_region 9 with (first
              | (go_at_call 40
                 refine (HCUT.out _ hsz hm3).mono ?_
                 rintro e w1 ⟨rfl, n1, hn1⟩
                 have hd1 : Below wr.heap.size wr w1 := by rw [hn1]; exact below_drewN (Below.refl _ _) n1
                 have hz1 : w1.heap.size = wr.heap.size := by rw [hn1]; rfl
                 have hm4 := hm2 _ (hb.out.trans (hd1.mono hb.out.size))
                 clear hn1)
              | (go_at_call 41
                 refine (prow_any ⟨ca.toArray⟩ _ hla hm4).mono ?_
                 rw [show (⟨ca.toArray⟩ : ByteArray).data.toList = ca from rfl, HR.out]
                 rintro e w2 ⟨TA, tc, rfl, hown, hI, hlen, hb2⟩
                 have hd2 : Below wr.heap.size wr w2 := hd1.trans (hb2.mono (by omega))
                 rw [hz1] at hown
                 have HOWN := hid hown
                 have HI := hid hI
                 clear hb2 hown hI))
            obtain ⟨w3, hw3⟩ : ∃ w3 : World, w3 = w2.alloc (.cells #[.int .i64 r.kind, .int .i64 r.unit, .int .i64 r.a, .int .i64 r.b, .slice TA r.terms.length tc] 27) := ⟨_, rfl⟩
            rw [← hw3]
            have hd3 : Below wr.heap.size wr w3 := by rw [hw3]; exact hd2.alloc hd2.size _
            have HOW3 := hid (show w3.ownsRow wr.heap.size 52 2 (.slice TA r.terms.length tc) r.terms.length (termCells r.terms) by rw [hw3]; exact HOWN.out.alloc _)
            obtain ⟨⟨b0, b1, b2, b3, b4⟩, bf⟩ := (show Box 27 w3 w2.heap.size r (.slice TA r.terms.length tc) by rw [hw3]; exact Box.new _ _ _ _).cells
            clear hw3 hd2 HOWN
            go_wp2_with (first
              | (at_builtin
                 refine wpList_append_src _ rfl (.tmp 41) (.tmp 43) _ rfl w.heap.size 27 ir _ 5 56 Tryd.underlying22 HIR.out.1 HIR.out.2.1 HIR.out.2.2.1 HIR.out.2.2.2 rfl (by omega) (.slice A out.length cap) out.length (rowsCells out tvs) rfl (by exact ((hcop.out.below hd3 (Nat.le_refl _)).own).alloc _) (some ⟨w3.heap.size, 0, none⟩) 1 1 (rowCells r (.slice TA r.terms.length tc)) rfl (by exact src_new _ _ rfl 5 _ rfl rfl) (by simp [rowCells, Value.oneCell']) (by unfold maxLen; omega) (by omega) (by have := hb.out.size; have := hd3.size; simp; omega) ?_
                 intro v4 w4 hown4 hg4 _
                 obtain ⟨hB9, hC9⟩ := parse_step hb.out hcop.out hd3 (ownsRow_low HOW3.out hb.out.size) (fun gg hg => (HOW3.out.lt gg hg).1) HI.out hb.out.size hg4 hown4
                 have HB9 := hid hB9
                 have HC9 := hid hC9
                 clear hown4 hg4 hB9 hC9))
            refine ⟨⟨⟨cb.toArray⟩, out ++ [r], tvs ++ [_], rfl, ?_, by rw [List.length_append]; simp; omega, HP, HC9, HB9⟩, ?_⟩
            · show cb.toArray.size ≤ _
              simp
              omega
            · show cb.toArray.size < S.size
              have := HCB.out
              simp
              omega
          · have hle : (20000 : Int) ≤ out.length := by omega
            have HP := hid (show parseF s.data.toList = ([], 2, ((out.length + 1 : Nat) : Int)) by rw [HGO.out, if_neg (fun h => hl h.2)]; rfl)
            go_wp2_with (first
              | (go_at_call 40
                 refine (HCUT.out _ hsz hm3).mono ?_
                 rintro e w1 ⟨rfl, n1, hn1⟩
                 have hd1 : Below wr.heap.size wr w1 := by rw [hn1]; exact below_drewN (Below.refl _ _) n1
                 have hz1 : w1.heap.size = wr.heap.size := by rw [hn1]; rfl
                 have hm4 := hm2 _ (hb.out.trans (hd1.mono hb.out.size))
                 clear hn1)
              | (go_at_call 41
                 refine (prow_any ⟨ca.toArray⟩ _ hla hm4).mono ?_
                 rw [show (⟨ca.toArray⟩ : ByteArray).data.toList = ca from rfl, HR.out]
                 rintro e w2 ⟨TA, tc, rfl, hown, hI, hlen, hb2⟩
                 have hd2 : Below wr.heap.size wr w2 := hd1.trans (hb2.mono (by omega))
                 rw [hz1] at hown
                 have HOWN := hid hown
                 have HI := hid hI
                 clear hb2 hown hI))
            all_goals
              go_ret3
              rw [HP.out]
              exact ⟨_, rfl, SliceRd.nil _ _ _, hb.out.trans ((hd2.alloc hd2.size _).mono hb.out.size)⟩
end Go.Proofs.YtlinabifalfddaaDoor
