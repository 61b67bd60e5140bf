/- Contract: linchpinref29.Parse. -/
import Derived.Test.YtlinabifalfddaaDoorParse
import Derived.Test.YtlinabifalfddaaDoorRRow
import Derived.Test.YtlinabifalfddaaDoorW34
namespace Go.Proofs.YtlinabifalfddaaDoor
open Go Go.RowKit

/-- The lines of a text, read one by one. -/
def parseL : List (List UInt8) → List Row → PR
  | [], out => .ok out
  | [l], out => if l = [] then .ok out else .bad (out.length + 1)
  | l :: l2 :: ls, out => match rowR l with
    | some r => if out.length < 20000 then parseL (l2 :: ls) (out ++ [r]) else .bad (out.length + 1)
    | none => .bad (out.length + 1)
theorem parseL_go : ∀ (f : Nat) (s : List UInt8) (out : List Row), s.length < f → parseGo f s out = parseL (splitC 10 s) out
  | 0, s, _, h => absurd h (by omega)
  | f + 1, s, out, h => by
    rw [split_cut]
    unfold parseGo
    by_cases hs : s = []
    · subst hs; rfl
    · rw [if_neg hs]
      by_cases hf : (cutC 10 s).2.2 = true
      · rw [if_pos hf]
        obtain ⟨l2, ls, e⟩ := List.exists_cons_of_ne_nil (split_ne 10 (cutC 10 s).2.1)
        have hl := cut_len 10 s hf
        rw [e]
        simp only [parseL]
        cases rowR (cutC 10 s).1 with
        | none => rfl
        | some r =>
          simp only [hf, true_and]
          rw [parseL_go f _ _ (by omega), e]
      · rw [if_neg hf]
        have hne : (cutC 10 s).1 ≠ [] := by
          rcases (cut_spec 10 s).2 with ⟨e, _⟩ | ⟨_, e, _⟩
          · exact absurd e hf
          · rw [← e]; exact hs
        simp only [parseL, if_neg hne]
        cases rowR (cutC 10 s).1 with
        | none => rfl
        | some r => simp only; rw [if_neg (fun hc => hf hc.1)]
theorem parseF_L (s : List UInt8) : parseF s = parsed (parseL (splitC 10 s) []) := congrArg parsed (parseL_go _ _ _ (by omega))
theorem parseL_last {l : List UInt8} {ws : List (List UInt8)} {k : Nat} (hk : k + 1 = ws.length) (hl : ws[k]? = some l) (out : List Row) : parseL (ws.drop k) out = if l = [] then .ok out else .bad (out.length + 1) := by
  have e : ws.drop k = [l] := by
    obtain ⟨h1, h2⟩ := List.getElem?_eq_some_iff.1 hl
    rw [List.drop_eq_getElem_cons h1, List.drop_eq_nil_of_le (by omega), h2]
  rw [e]; rfl
theorem parseL_mid {l : List UInt8} {ws : List (List UInt8)} {k : Nat} (hk : k + 1 < ws.length) (hl : ws[k]? = some l) (out : List Row) : parseL (ws.drop k) out = match rowR l with
    | some r => if out.length < 20000 then parseL (ws.drop (k + 1)) (out ++ [r]) else .bad (out.length + 1)
    | none => .bad (out.length + 1) := by
  obtain ⟨h1, h2⟩ := List.getElem?_eq_some_iff.1 hl
  have e : ws.drop k = l :: ws[k + 1] :: ws.drop (k + 2) := by
    rw [List.drop_eq_getElem_cons h1, List.drop_eq_getElem_cons hk, h2]
  have e2 : ws.drop (k + 1) = ws[k + 1] :: ws.drop (k + 2) := List.drop_eq_getElem_cons hk
  rw [e, e2]; rfl

set_option maxRecDepth 100000 in
set_option maxHeartbeats 2000000 in
theorem rparse_any (s : ByteArray) (w : World) (hs : s.size ≤ 1048576) :
    Calls Tryd.prog 24 #[.string s] w (ParsePost (parseF s.data.toList) w) := by
  obtain ⟨ir, hir⟩ := info_parts row_info
  have HIR := hid hir
  clear hir
  have hs2 : s.size ≤ 2000000 := by omega
  go_enter Tryd.func24, Tryd.ntmps24
  go_wp2_with (first
    | (go_at_call 42
       refine (rsplit_any s 10 _ hs2).mono ?_
       rintro e w1 ⟨WB, WA, wcap, rfl, hown, hsp, hb1⟩
       have hwl : 0 < WB.length := by
         rw [← List.length_map (f := fun x : ByteArray => x.data.toList), hsp]
         exact List.length_pos_iff.2 (split_ne _ _)
       have hWL : WB.length ≤ s.size + 1 := by
         have h1 := (split_small 10 _ s.data.toList (Nat.lt_succ_self _)).1
         have h2 : s.data.toList.length = s.size := by simp
         rw [← List.length_map (f := fun x : ByteArray => x.data.toList), hsp]
         omega
       have HSM := hid (show ∀ x ∈ WB, x.size ≤ 2000000 by
         intro x hx
         have h1 := (split_small 10 _ s.data.toList (Nat.lt_succ_self _)).2 x.data.toList (by rw [← hsp]; exact List.mem_map_of_mem hx)
         have h2 : x.data.toList.length = x.size := by simp
         have h3 : s.data.toList.length = s.size := by simp
         omega)
       obtain ⟨g, cap', hv, _, _, hgz, _, _, hcell, _⟩ := own_addr hown hwl
       injection hv with hv1 _ _
       subst hv1
       have HCELL := hid (show ∀ i, (h : i < WB.length) → w1.cell? ⟨g, i, none⟩ = some (.string WB[i]) from fun i h => by
         rw [hcell i (by omega)]; simp [h])
       have HPF := hid (show parseF s.data.toList = parsed (parseL (WB.map fun x => x.data.toList) []) by rw [parseF_L, hsp])
       clear hown hsp hcell))
  have hz1 := hb1.size
  go_loopw [6, 7] (fun ov iv wr => ∃ (k : Nat) (out : List Row) (tvs : List Value), k < WB.length ∧ out.length = k ∧ k ≤ 20000 ∧ iv = .int .i64 k ∧ Hid (parseF s.data.toList = parsed (parseL ((WB.map fun x => x.data.toList).drop k) out)) ∧ Hid (Copied 27 52 wr w1.heap.size ov out tvs) ∧ Hid (Below w1.heap.size w1 wr)) (fun _ iv _ => WB.length - (intOf iv).toNat)
  case atStart => exact ⟨0, [], [], hwl, rfl, Nat.zero_le _, rfl, HPF, hid (Copied.nil (by decide) _ _), hid (Below.refl _ _)⟩
  case round =>
    obtain ⟨_, out, tvs, hk, rfl, hk2, rfl, hpf, hcop, hb⟩ := hrel
    obtain ⟨A, cap, rfl⟩ := own_form hcop.out.own
    have hbw : Below w.heap.size w wr := hb1.trans (hb.out.mono hz1)
    have hcw := cell_below hb.out hgz (HCELL.out _ hk)
    have hsz := HSM.out _ (List.getElem_mem hk)
    have HL := hid (show (WB.map fun x => x.data.toList)[out.length]? = some WB[out.length].data.toList by simp [hk])
    generalize WB[out.length] = W at hcw hsz HL
    have i1 : (↑out.length : Int) < ↑WB.length := by omega
    by_cases hlast : out.length + 1 = WB.length
    · have hq : ((↑out.length : Int) == ↑WB.length - 1) = true := by rw [beq_iff_eq]; omega
      have hpl := hid (parseL_last (by rw [List.length_map]; exact hlast) HL.out out)
      clear hlast
      by_cases hW : W.data.toList = []
      · have HP := hid (show parseF s.data.toList = parsed (.ok out) by rw [hpf.out, hpl.out, if_pos hW])
        have hSe : W = ⟨#[]⟩ := bytes_of hW
        subst hSe
        by_cases hm : MayP out
        · have HP2 := hid (show parseF s.data.toList = (out, 0, 0) by rw [HP.out]; unfold parsed; simp only [if_pos hm])
          have HDM := hid (decide_eq_true hm)
          clear hm
          go_wp2_with (first
            | (go_at_call 13
               refine (rmay_any _ out _ (hcop.out.rd (F := Lt wr.heap.size) (fun g _ h => h))).mono ?_
               rintro e w2 ⟨rfl, hd2⟩
               rw [HDM.out]))
          go_ret3
          rw [HP2.out]
          exact ⟨_, rfl, (hcop.out.rd (F := Lt wr.heap.size) (fun g _ h => h)).lift hd2 hd2.size, hbw.trans (hd2.mono hbw.size)⟩
        · have HP2 := hid (show parseF s.data.toList = ([], 33, 0) by rw [HP.out]; unfold parsed; simp only [if_neg hm])
          have HDM := hid (decide_eq_false hm)
          clear hm
          go_wp2_with (first
            | (go_at_call 13
               refine (rmay_any _ out _ (hcop.out.rd (F := Lt wr.heap.size) (fun g _ h => h))).mono ?_
               rintro e w2 ⟨rfl, hd2⟩
               rw [HDM.out]))
          go_ret3
          rw [HP2.out]
          exact ⟨_, rfl, SliceRd.nil _ _ _, hbw.trans (hd2.mono hbw.size)⟩
      · have HP := hid (show parseF s.data.toList = ([], 2, ((out.length + 1 : Nat) : Int)) by rw [hpf.out, hpl.out, if_neg hW]; rfl)
        have hS9 : W.toList.isEmpty = false := by
          rw [ByteArray.toList_eq]
          cases hl : W.data.toList with
          | nil => exact absurd hl hW
          | cons _ _ => rfl
        clear hW
        cases hR : rowR W.data.toList with
        | none =>
          have HR := hid hR
          clear hR
          go_wp2_with (first
            | (go_at_call 43
               refine (rrow_any W _ hsz).mono ?_
               rw [HR.out]
               rintro e w2 ⟨rfl, hd2⟩))
          all_goals
            go_ret3
            rw [HP.out]
            exact ⟨_, rfl, SliceRd.nil _ _ _, hbw.trans ((hd2.alloc hd2.size _).mono hbw.size)⟩
        | some r =>
          have HR := hid hR
          clear hR
          go_wp2_with (first
            | (go_at_call 43
               refine (rrow_any W _ hsz).mono ?_
               rw [HR.out]
               rintro e w2 ⟨TA, tc, rfl, hown, hI, hlen, hd2⟩
               have HOWN := hid hown
               have HI := hid hI
               clear hown hI))
          all_goals
            go_ret3
            rw [HP.out]
            exact ⟨_, rfl, SliceRd.nil _ _ _, hbw.trans ((hd2.alloc hd2.size _).mono hbw.size)⟩
    · have hq : ((↑out.length : Int) == ↑WB.length - 1) = false := by rw [beq_eq_false_iff_ne]; omega
      have hk3 : out.length + 1 < WB.length := by omega
      have hpl := hid (parseL_mid (by rw [List.length_map]; exact hk3) HL.out out)
      clear hlast
      cases hR : rowR W.data.toList with
      | none =>
        have HP := hid (show parseF s.data.toList = ([], 2, ((out.length + 1 : Nat) : Int)) by rw [hpf.out, hpl.out, hR]; rfl)
        have HR := hid hR
        clear hR
        go_wp2_with (first
          | (go_at_call 43
             refine (rrow_any W _ hsz).mono ?_
             rw [HR.out]
             rintro e w2 ⟨rfl, hd2⟩))
        all_goals
          go_ret3
          rw [HP.out]
          exact ⟨_, rfl, SliceRd.nil _ _ _, hbw.trans ((hd2.alloc hd2.size _).mono hbw.size)⟩
      | some r =>
        have HPP := hid (show parseF s.data.toList = parsed (if out.length < 20000 then parseL ((WB.map fun x => x.data.toList).drop (out.length + 1)) (out ++ [r]) else .bad (out.length + 1)) by rw [hpf.out, hpl.out, hR])
        have HR := hid hR
        clear hR
        by_cases hl : out.length < 20000
        · have HP := hid (show parseF s.data.toList = parsed (parseL ((WB.map fun x => x.data.toList).drop (out.length + 1)) (out ++ [r])) by rw [HPP.out, if_pos hl])
          have hle : ¬ (20000 : Int) ≤ out.length := by omega
          have hB1z := hb.out.size
          go_upto_region 12 with (first
            | (go_at_call 43
               refine (rrow_any W _ hsz).mono ?_
               rw [HR.out]
               rintro e w2 ⟨TA, tc, rfl, hown, hI, hlen, hd2⟩
               have HOWN := hid hown
               have HI := hid hI
               clear hown hI))
          obtain ⟨w3, hw3⟩ : ∃ w3 : World, w3 = w2.alloc (.cells #[.int .i64 r.kind, .int .i64 r.unit, .int .i64 r.a, .int .i64 r.b, .slice TA r.terms.length tc] 27) := ⟨_, rfl⟩
          rw [← hw3]
          have hd3 : Below wr.heap.size wr w3 := by rw [hw3]; exact hd2.alloc hd2.size _
          have HOW3 := hid (show w3.ownsRow wr.heap.size 52 2 (.slice TA r.terms.length tc) r.terms.length (termCells r.terms) by rw [hw3]; exact HOWN.out.alloc _)
          obtain ⟨⟨b0, b1, b2, b3, b4⟩, bf⟩ := (show Box 27 w3 w2.heap.size r (.slice TA r.terms.length tc) by rw [hw3]; exact Box.new _ _ _ _).cells
          clear hw3 hd2 HOWN
          go_wp2_with (first
            | (at_builtin
               refine wpList_append_src _ rfl (.tmp 56) (.tmp 58) _ rfl w1.heap.size 27 ir _ 5 56 Tryd.underlying22 HIR.out.1 HIR.out.2.1 HIR.out.2.2.1 HIR.out.2.2.2 rfl (by omega) (.slice A out.length cap) out.length (rowsCells out tvs) rfl (by exact ((hcop.out.below hd3 (Nat.le_refl _)).own).alloc _) (some ⟨w3.heap.size, 0, none⟩) 1 1 (rowCells r (.slice TA r.terms.length tc)) rfl (by exact src_new _ _ rfl 5 _ rfl rfl) (by simp [rowCells, Value.oneCell']) (by unfold maxLen; omega) (by omega) (by have := hd3.size; simp; omega) ?_
               intro v4 w4 hown4 hg4 _
               obtain ⟨hB9, hC9⟩ := parse_step hb.out hcop.out hd3 (ownsRow_low HOW3.out hB1z) (fun gg hg => (HOW3.out.lt gg hg).1) HI.out hB1z hg4 hown4
               have HB9 := hid hB9
               have HC9 := hid hC9
               clear hown4 hg4 hB9 hC9))
          exact ⟨⟨out.length + 1, out ++ [r], tvs ++ [_], hk3, by simp, by omega, by go_num, HP, HC9, HB9⟩, by simp [intOf]; omega⟩
        · have HP := hid (show parseF s.data.toList = ([], 2, ((out.length + 1 : Nat) : Int)) by rw [HPP.out, if_neg hl]; rfl)
          have hle : (20000 : Int) ≤ out.length := by omega
          go_wp2_with (first
            | (go_at_call 43
               refine (rrow_any W _ hsz).mono ?_
               rw [HR.out]
               rintro e w2 ⟨TA, tc, rfl, hown, hI, hlen, hd2⟩
               have HOWN := hid hown
               have HI := hid hI
               clear hown hI))
          all_goals
            go_ret3
            rw [HP.out]
            exact ⟨_, rfl, SliceRd.nil _ _ _, hbw.trans ((hd2.alloc hd2.size _).mono hbw.size)⟩
end Go.Proofs.YtlinabifalfddaaDoor
