import Derived.Test.YtbfbppjccbppiaaGreatDoorzU
import Derived.Test.YtbfbppjccbppiaaGreatDoorzA
import Derived.Deep.RegionHeld3
import Derived.Deep.DeepCutAuto
import Derived.Deep.RegionLaw
namespace Go.Proofs.YtbfbppjccbppiaaGreatDoor
open Go Go.RowKit
def RowsPost (w : World) (e : Ending) (w' : World) : Prop :=
  ∃ v' L, e = .returned v' ∧ SliceRd tRow w' (Lt w'.heap.size) v' L ∧ L.length ≤ 21 ∧ (∀ r ∈ L, r.terms.length ≤ 7) ∧ Below w.heap.size w w'
set_option maxRecDepth 100000 in
set_option maxHeartbeats 8000000 in
theorem rows_any (v : Value) (l : List Int) (w : World) (h : SliceRd tInt w (Lt w.heap.size) v l) :
    Calls Tryz.prog 18 #[v] w (RowsPost w) := by
  have HH := hid h
  obtain ⟨A, cap, rfl, hcap, hmax, hc⟩ := h.ints
  have HC := hid hc
  unfold maxLen at hmax
  clear h hc
  obtain ⟨ir, hir⟩ := info_parts row_info
  have HIR := hid hir
  obtain ⟨it, hit⟩ := info_parts qk7
  have HIT := hid hit
  clear hir hit
  go_enter Tryz.func18, Tryz.ntmps18
  go_wp2
  go_loopw [3, 4] (fun u v wr => ∃ i : Nat, i ≤ 104 ∧ v = .int .i64 i ∧ Below w.heap.size w wr ∧ Hid (∃ L tvs, Copied 49 66 wr w.heap.size u L tvs ∧ L.length * 5 = i ∧ ∀ r ∈ L, r.terms.length ≤ 7)) (fun _ v _ => l.length - (intOf v).toNat)
  case atStart => exact ⟨0, Nat.zero_le _, rfl, Below.refl _ _, hid ⟨[], [], Copied.nil (by decide) _ _, rfl, fun r hr => by cases hr⟩⟩
  case round =>
    obtain ⟨i, hi, rfl, hb, hcop⟩ := hrel
    obtain ⟨wo, rfl⟩ : ∃ wo : World, wo = wr := ⟨_, rfl⟩
    by_cases hlt : i + 4 < l.length ∧ i < 100
    · skip
      obtain ⟨hl1, hl2⟩ := hlt
      obtain ⟨g, o, hA, hF, g0, j0⟩ := HC.out i (by omega)
      cases hA
      obtain ⟨_, _, hA, _, g1, j1⟩ := HC.out (i + 1) (by omega)
      cases hA
      obtain ⟨_, _, hA, _, g2, j2⟩ := HC.out (i + 2) (by omega)
      cases hA
      obtain ⟨_, _, hA, _, g3, j3⟩ := HC.out (i + 3) (by omega)
      cases hA
      obtain ⟨_, _, hA, _, g4, j4⟩ := HC.out (i + 4) (by omega)
      cases hA
      have c0 := cell_below hb hF g0
      have c1 := cell_below hb hF g1
      have c2 := cell_below hb hF g2
      have c3 := cell_below hb hF g3
      have c4 := cell_below hb hF g4
      clear g0 g1 g2 g3 g4
      have hbb : g < wo.heap.size := Nat.lt_of_lt_of_le hF hb.size
      have p5a := qf4 l[i] 5
      have p5b := qf3 l[i] 5 (by omega)
      have p6a := qf4 l[i+1] 6
      have p6b := qf3 l[i+1] 6 (by omega)
      go_upto_region 5 with (fail)
      go_cut [5] (fun s5 wx => s5 = .pointer (some ⟨wo.heap.size, 0, none⟩) ∧ Below wo.heap.size wo wx ∧ Hid (wx.heap.size = wo.heap.size + 1) ∧ Hid (∃ r : Row, RowI r ∧ r.terms = [] ∧ Box 49 wx wo.heap.size r (.slice none 0 0)))
      case first =>
        have q1 : (0 : Int) ≤ ↑i := by omega
        have q2 : (↑i : Int) < ↑l.length := by omega
        have q3 : (0 : Int) ≤ ↑i + 1 := by omega
        have q4 : (↑i : Int) + 1 < ↑l.length := by omega
        have q5 : ((↑i : Int) + 1).toNat = i + 1 := by omega
        have q6 : IntKind.i64.wrap ((↑i : Int) + 1) = ↑i + 1 := IntWalk.i64_in _ (by omega)
        have q7 : IntKind.i64.wrap (1 + qd7 l[i] 5) = 1 + qd7 l[i] 5 := IntWalk.i64_in _ (by omega)
        go_region_held3 (fun w' => w'.cell? ⟨g, o + i, none⟩ = some (.int .i64 l[i]) ∧ w'.cell? ⟨g, o + (i + 1), none⟩ = some (.int .i64 l[i+1])) (go_keep)
          ((go_at_call 19; refine (qg4 _ _ _ (by assumption) (by unfold I64; omega)).mono ?_; rintro e w' ⟨rfl, rfl⟩))
        all_goals (go_wp2_with fail; go_meet; exact ⟨rfl, ((Below.refl _ _).alloc (Nat.le_refl _) _).drew, hid (by simp), hid ⟨⟨1 + qd7 l[i] 5, qd7 l[i+1] 6, 0, 0, []⟩, rowI_mk ⟨by omega, by omega⟩ ⟨by omega, by omega⟩ ⟨by omega, by omega⟩ ⟨by omega, by omega⟩, rfl, Box.new' _ _ _ _ _ _ _ _⟩⟩)
      case rest =>
        obtain ⟨rfl, hbx, hsx, hbox⟩ := hcut
        obtain ⟨r, hr, hrt, hbox⟩ := hbox.out
        obtain ⟨⟨b0, b1, b2, b3, b4⟩, bf⟩ := hbox.cells
        have hblt := hbox.lt
        have HBOX := hid hbox
        have HRT := hid hrt
        clear hbox hrt
        obtain ⟨L, tvs, hcop', hL, hLt⟩ := hcop.out
        obtain ⟨A3, cap3, rfl⟩ := qb1 hcop'.own
        have HCOP := hid hcop'
        have HLL := hid hL
        clear hcop' hL
        have hbC := fun o => (qb4 hbx).1 g o hbb
        have hne : wo.heap.size ≠ g := by omega
        have hLn : L.length ≤ 20 := by have := HLL.out; omega
        go_upto_region 7 with (fail)
        go_cut [41] (fun s41 wx => wx = wc ∧ ∃ c : Bool, s41 = .bool c ∧ Hid (c = true → 0 < L.length))
        case first =>
          by_cases hz : 0 < L.length
          · go_wp2_with (fail)
            all_goals (go_meet; exact ⟨rfl, _, rfl, hid (fun _ => hz)⟩)
          · go_wp2_with (fail)
            all_goals (go_meet; exact ⟨rfl, _, rfl, hid (fun h => by simp at h <;> omega)⟩)
        case rest =>
          obtain ⟨rfl, c, rfl, hc41⟩ := hcut
          go_upto_if 41 with (fail)
          go_cut [] (fun wx => Below wo.heap.size wo wx ∧ Hid (wx.heap.size = wo.heap.size + 1) ∧ Hid (∃ r : Row, RowI r ∧ r.terms = [] ∧ Box 49 wx wo.heap.size r (.slice none 0 0)))
          case first =>
            cases c with
            | true =>
              have hz : 0 < L.length := hc41.out rfl
              go_wp2_with (fail)
              have q1 : (0 : Int) ≤ ↑i + 2 := by omega
              have q2 : (↑i : Int) + 2 < ↑l.length := by omega
              have q3 : (0 : Int) ≤ ↑i + 3 := by omega
              have q4 : (↑i : Int) + 3 < ↑l.length := by omega
              have q5 : ((↑i : Int) + 2).toNat = i + 2 := by omega
              have q6 : IntKind.i64.wrap ((↑i : Int) + 2) = ↑i + 2 := IntWalk.i64_in _ (by omega)
              have q7 : ((↑i : Int) + 3).toNat = i + 3 := by omega
              have q8 : IntKind.i64.wrap ((↑i : Int) + 3) = ↑i + 3 := IntWalk.i64_in _ (by omega)
              go_region_held3 (fun w' => w'.cell? ⟨g, o + (i + 2), none⟩ = some (.int .i64 l[i+2]) ∧ w'.cell? ⟨g, o + (i + 3), none⟩ = some (.int .i64 l[i+3])) (go_keep)
                ((go_at_call 19; refine (qg4 _ _ _ (by assumption) (by unfold I64; omega)).mono ?_; rintro e w' ⟨rfl, rfl⟩))
              all_goals (go_wp2_with fail; go_meet)
              have pa := qf4 l[i+2] L.length
              have pb := qf3 l[i+2] L.length (by omega)
              have pc := qf4 l[i+3] L.length
              have pd := qf3 l[i+3] L.length (by omega)
              have hB9 := (HBOX.out.set.2.2.1 (qd7 l[i+2] L.length)).set.2.2.2.1 (qd7 l[i+3] L.length)
              refine ⟨((hbx.setCell (p := ⟨wo.heap.size, 2, none⟩) (Nat.le_refl _) _).setCell (p := ⟨wo.heap.size, 3, none⟩) (Nat.le_refl _) _).drew, hid (by simpa using hsx.out), hid ⟨_, ?_, ?_, hB9⟩⟩
              · exact ⟨hr.kind, hr.unit, ⟨by show _ ≤ qd7 _ _; omega, by show qd7 _ _ ≤ _; omega⟩, ⟨by show _ ≤ qd7 _ _; omega, by show qd7 _ _ ≤ _; omega⟩, hr.terms⟩
              · exact HRT.out
            | false =>
              go_wp2_with (fail)
              all_goals go_meet
              · exact ⟨hbx.setCell (p := ⟨wo.heap.size, 0, none⟩) (Nat.le_refl _) _, hid (by simpa using hsx.out), hid ⟨{ r with kind := 2 }, ⟨⟨by show _ ≤ (2 : Int); omega, by show (2 : Int) ≤ _; omega⟩, hr.unit, hr.a, hr.b, hr.terms⟩, HRT.out, HBOX.out.set.1 _⟩⟩
              · exact ⟨hbx, hsx, hid ⟨r, hr, HRT.out, HBOX.out⟩⟩
          case rest =>
            clear b0 b1 b2 b3 b4 bf hblt HBOX HRT hbC hc41 hbx hsx hr
            obtain ⟨hbx, hsx, hbox⟩ := hcut
            obtain ⟨r, hr, hrt, hbox⟩ := hbox.out
            obtain ⟨⟨b0, b1, b2, b3, b4⟩, bf⟩ := hbox.cells
            have hblt := hbox.lt
            have HBOX := hid hbox
            have HRT := hid hrt
            clear hbox hrt
            go_upto_if 64 with (fail)
            go_cut [] (fun wx => Below wo.heap.size wo wx ∧ Hid (wx.heap.size = wo.heap.size + 1) ∧ Hid (∃ r : Row, RowI r ∧ r.terms = [] ∧ Box 49 wx wo.heap.size r (.slice none 0 0)))
            case first =>
              go_wp2_with (fail)
              all_goals go_meet
              · exact ⟨hbx.setCell (p := ⟨wo.heap.size, 1, none⟩) (Nat.le_refl _) _, hid (by simpa using hsx.out), hid ⟨{ r with unit := 0 }, ⟨hr.kind, ⟨by show _ ≤ (0 : Int); omega, by show (0 : Int) ≤ _; omega⟩, hr.a, hr.b, hr.terms⟩, HRT.out, HBOX.out.set.2.1 _⟩⟩
              · exact ⟨hbx, hsx, hid ⟨r, hr, HRT.out, HBOX.out⟩⟩
            case rest =>
              clear b0 b1 b2 b3 b4 bf hblt HBOX HRT hbx hsx hr
              obtain ⟨hbx, hsx, hbox⟩ := hcut
              go_wp2_with (fail)
              have hsz : w.heap.size ≤ wo.heap.size := hb.size
              go_loopw [7] (fun v wx => ∃ u : Nat, u ≤ 6 ∧ v = .int .i64 u ∧ Below wo.heap.size wo wx ∧ Hid (wo.heap.size < wx.heap.size) ∧ Hid (Held 49 66 w.heap.size wo.heap.size u wx)) (fun v _ => 6 - (intOf v).toNat)
              case atStart =>
                obtain ⟨r, hr, hrt, hbox⟩ := hbox.out
                exact ⟨0, by omega, rfl, hbx, hid (by have := hsx.out; omega), hid ⟨r, _, hr, hbox, by rw [hrt]; exact ⟨rfl, .inl ⟨rfl, rfl⟩⟩, by rw [hrt]; exact Nat.le_refl _, fun gg hg => by cases hg⟩⟩
              case round =>
                obtain ⟨u, hu, rfl, hbu, hsu, hboxu⟩ := hrel
                obtain ⟨r, tv, hr, hbox, hown, hlen, htb⟩ := hboxu.out
                obtain ⟨TA, tcap, rfl⟩ := qb1 hown
                obtain ⟨⟨b0, b1, b2, b3, b4⟩, bf⟩ := hbox.cells
                have hblt := hbox.lt
                have HBOX := hid hbox
                have HOWN := hid hown
                have HTB := hid htb
                clear hbox hown htb
                have hbC := fun o => (qb4 hbu).1 g o hbb
                by_cases hu6 : u < 6
                · skip
                  go_upto_region 16 with (fail)
                  go_cut [90] (fun s90 wx => wx = wr ∧ ∃ c : Bool, s90 = .bool c)
                  case first =>
                    have js := i64_shift u j4
                    go_wp2_with (go_at_call 19; refine (qg4 _ _ _ (by assumption) (by unfold I64; omega)).mono ?_; rintro e w' ⟨rfl, rfl⟩)
                    all_goals (go_meet; exact ⟨rfl, _, rfl⟩)
                  case rest =>
                    obtain ⟨rfl, c, rfl⟩ := hcut
                    cases c with
                    | false =>
                      go_wp2
                      exact ⟨⟨u + 1, by omega, by go_num, hbu, hsu, hid ⟨r, _, hr, HBOX.out, HOWN.out, by omega, HTB.out⟩⟩, by simp [intOf]; omega⟩
                    | true =>
                      go_wp2_with (fail)
                      have q1 : (0 : Int) ≤ ↑i + 4 := by omega
                      have q2 : (↑i : Int) + 4 < ↑l.length := by omega
                      have q5 : ((↑i : Int) + 4).toNat = i + 4 := by omega
                      have q6 : IntKind.i64.wrap ((↑i : Int) + 4) = ↑i + 4 := IntWalk.i64_in _ (by omega)
                      go_region_law ((first
                        | (refine qa9 _ rfl (.tmp 92) (.tmp 105) _ rfl w.heap.size 66 it _ 2 16 Tryz.underlying47 HIT.out.1 HIT.out.2.1 HIT.out.2.2.1 HIT.out.2.2.2 rfl (by omega) (.slice TA r.terms.length tcap) r.terms.length (qb2 r.terms) rfl (by exact HOWN.out.alloc _) (some ⟨wc.heap.size, 0, none⟩) 1 1 (qb2 [⟨u, IntKind.i64.wrap (1 + qd7 (IntKind.i64.wrap (IntKind.i64.wrap (l[i + 4] * 7) + ↑u)) 30)⟩]) rfl (by exact qe1 _ _ rfl 2 _ rfl rfl) qr7 (by unfold maxLen; omega) (by omega) (by have := hbu.size; have := hsu.out; simp; omega) ?_
                           intro v1 w1 hown1 hg1 hat1
                           obtain ⟨hB1, hz1⟩ := append_facts hblt HTB.out hg1
                           have hbc1 := fun (b o : Nat) (h : b < wo.heap.size + 1) => hB1.cell (p := ⟨b, o, none⟩) h
                           have hbf1 := fun (b o : Nat) (h : b < wo.heap.size + 1) => hB1.frozen (p := ⟨b, o, none⟩) h
                           obtain ⟨A9, c9, rfl⟩ := qb1 hown1)
                        | (go_simp; go_at_call 19; refine (qg4 _ _ _ (zr1 _) (by unfold I64; omega)).mono ?_; rintro e w' ⟨rfl, rfl⟩)))
                      all_goals go_wp2
                      all_goals
                        obtain ⟨s1, s2, s3⟩ := inner_step (t := ⟨u, IntKind.i64.wrap (1 + qd7 (IntKind.i64.wrap (IntKind.i64.wrap (l[i + 4] * 7) + ↑u)) 30)⟩) hbu hB1 hz1 hblt HBOX.out hown1 HTB.out hat1 (by simp; omega) hr ⟨⟨by show _ ≤ (u : Int); omega, by show (u : Int) ≤ _; omega⟩, zr1 _⟩ hlen
                        exact ⟨⟨u + 1, by omega, by go_num, s1, s2, s3⟩, by simp [intOf]; omega⟩
                · go_upto_if 111 with (fail)
                  go_cut [] (fun wx => Below wo.heap.size wo wx ∧ Hid (wo.heap.size < wx.heap.size) ∧ Hid (Held 49 66 w.heap.size wo.heap.size 7 wx))
                  case first =>
                    by_cases hz : r.terms.length = 0
                    · have hz' : ((r.terms.length : Int) == 0) = true := by rw [beq_iff_eq]; omega
                      have HZ := hid hz
                      clear hz
                      go_wp2_with (fail)
                      go_meet
                      exact one_step ⟨r.unit, 3⟩ hbu hblt HBOX.out hr hsz ⟨hr.unit, ⟨by show _ ≤ (3 : Int); omega, by show (3 : Int) ≤ _; omega⟩⟩
                    · have hz' : ((r.terms.length : Int) == 0) = false := by rw [beq_eq_false_iff_ne]; omega
                      go_wp2_with (fail)
                      go_meet
                      exact ⟨hbu, hsu, hid ⟨r, _, hr, HBOX.out, HOWN.out, by omega, HTB.out⟩⟩
                  case rest =>
                    clear b0 b1 b2 b3 b4 bf hblt HBOX HOWN HTB hbC hbu hsu hboxu hr hlen
                    obtain ⟨hbu, hsu, hboxu⟩ := hcut
                    obtain ⟨r, tv, hr, hbox, hown, hlen, htb⟩ := hboxu.out
                    obtain ⟨TA, tcap, rfl⟩ := qb1 hown
                    obtain ⟨⟨b0, b1, b2, b3, b4⟩, bf⟩ := hbox.cells
                    have hblt := hbox.lt
                    have HBOX := hid hbox
                    have HOWN := hid hown
                    have HTB := hid htb
                    clear hbox hown htb
                    go_wp2_with (first
                     | (at_builtin
                        refine qa5 _ rfl (.tmp 117) (.tmp 119) _ rfl w.heap.size 49 ir _ 5 56 Tryz.underlying28 HIR.out.1 HIR.out.2.1 HIR.out.2.2.1 HIR.out.2.2.2 rfl (by omega) (.slice A3 L.length cap3) L.length (qd2 L tvs) rfl (by exact ((HCOP.out.below hbu (Nat.le_refl _)).own).alloc _) (some ⟨wc.heap.size, 0, none⟩) 1 1 (qe0 r (.slice TA r.terms.length tcap)) rfl (by exact qe1 _ _ rfl 5 _ rfl rfl) (by simp [qe0, Value.oneCell']) (by unfold maxLen; omega) (by omega) (by have := hbu.size; simp; omega) ?_
                        intro v2 w2 hown2 hg2 hat2))
                    obtain ⟨hB9, hC9⟩ := zc7 hb HCOP.out hbu HOWN.out HTB.out hr hsz hg2 hown2
                    refine ⟨⟨i + 5, by omega, by go_num, hB9, hid ⟨L ++ [r], _, hC9, ?_, ?_⟩⟩, by simp [intOf]; omega⟩
                    · have := HLL.out
                      rw [List.length_append]
                      simp
                      omega
                    · intro x hx
                      rcases List.mem_append.1 hx with hx | hx
                      · exact hLt x hx
                      · have : x = r := by simpa using hx
                        subst this; exact hlen
    · obtain ⟨L, tvs, hcop', hL, hLt⟩ := hcop.out
      obtain ⟨A3, cap3, rfl⟩ := qb1 hcop'.own
      have HCOP := hid hcop'
      have HLL := hid hL
      have hLn : L.length ≤ 20 := by have := HLL.out; omega
      clear hcop' hL
      have hsz : w.heap.size ≤ wo.heap.size := hb.size
      have hat64 : I64 (atF l 2) := atF_i64 (fun x hx => by
        obtain ⟨k, hk, rfl⟩ := List.getElem_of_mem hx
        obtain ⟨_, _, _, _, _, j⟩ := HC.out k hk
        exact j) ⟨by omega, by omega⟩
      by_cases h1 : i + 4 < l.length
      · have h2 : 100 ≤ i := by omega
        go_wp2_with (first
          | (go_at_call 45; refine (at_any _ l 2 _ (Lt w.heap.size) (by exact HH.out.below hb) ⟨by omega, by omega⟩).mono ?_; rintro e w' ⟨rfl, rfl⟩)
          | (go_at_call 19; refine (qg4 _ _ _ hat64 (by unfold I64; omega)).mono ?_; rintro e w' ⟨rfl, rfl⟩)
          | (at_builtin; refine qa5 _ rfl (.tmp 125) (.tmp 133) _ rfl w.heap.size 49 ir _ 5 56 Tryz.underlying28 HIR.out.1 HIR.out.2.1 HIR.out.2.2.1 HIR.out.2.2.2 rfl (by omega) (.slice A3 L.length cap3) L.length (qd2 L tvs) rfl (by exact HCOP.out.own.alloc _) (some ⟨wo.heap.size, 0, none⟩) 1 1 (qe0 ⟨5, 1, (L.length : Int) - 1, qd7 (atF l 2) L.length, []⟩ (.slice none 0 0)) rfl (by exact qe1 _ _ rfl 5 _ rfl rfl) (by simp [qe0, Value.oneCell']) (by unfold maxLen; omega) (by omega) (by simp; omega) ?_; intro v2 w2 hown2 hg2 hat2))
        · have pa := qf4 (atF l 2) L.length
          have pb := qf3 (atF l 2) L.length (by omega)
          obtain ⟨hB9, hC9⟩ := zc7 hb HCOP.out (Below.refl _ _) (r := ⟨5, 1, (L.length : Int) - 1, qd7 (atF l 2) L.length, []⟩) (tv := .slice none 0 0) ⟨rfl, .inl ⟨rfl, rfl⟩⟩ (by intro gg hg; cases hg) (rowI_mk ⟨by omega, by omega⟩ ⟨by omega, by omega⟩ ⟨by omega, by omega⟩ ⟨by omega, by omega⟩) hsz hg2 hown2
          go_ret
          refine ⟨v2, _, rfl, hC9.rd (fun g _ h => h), ?_, ?_, hB9⟩
          · rw [List.length_append]; simp; omega
          · intro x hx
            rcases List.mem_append.1 hx with hx | hx
            · exact hLt x hx
            · rw [List.mem_singleton.1 hx]; simp
        · go_ret
          exact ⟨_, L, rfl, HCOP.out.rd (fun g _ h => h), by omega, hLt, hb⟩
      · go_wp2_with (first
          | (go_at_call 45; refine (at_any _ l 2 _ (Lt w.heap.size) (by exact HH.out.below hb) ⟨by omega, by omega⟩).mono ?_; rintro e w' ⟨rfl, rfl⟩)
          | (go_at_call 19; refine (qg4 _ _ _ hat64 (by unfold I64; omega)).mono ?_; rintro e w' ⟨rfl, rfl⟩)
          | (at_builtin; refine qa5 _ rfl (.tmp 125) (.tmp 133) _ rfl w.heap.size 49 ir _ 5 56 Tryz.underlying28 HIR.out.1 HIR.out.2.1 HIR.out.2.2.1 HIR.out.2.2.2 rfl (by omega) (.slice A3 L.length cap3) L.length (qd2 L tvs) rfl (by exact HCOP.out.own.alloc _) (some ⟨wo.heap.size, 0, none⟩) 1 1 (qe0 ⟨5, 1, (L.length : Int) - 1, qd7 (atF l 2) L.length, []⟩ (.slice none 0 0)) rfl (by exact qe1 _ _ rfl 5 _ rfl rfl) (by simp [qe0, Value.oneCell']) (by unfold maxLen; omega) (by omega) (by simp; omega) ?_; intro v2 w2 hown2 hg2 hat2))
        · have pa := qf4 (atF l 2) L.length
          have pb := qf3 (atF l 2) L.length (by omega)
          obtain ⟨hB9, hC9⟩ := zc7 hb HCOP.out (Below.refl _ _) (r := ⟨5, 1, (L.length : Int) - 1, qd7 (atF l 2) L.length, []⟩) (tv := .slice none 0 0) ⟨rfl, .inl ⟨rfl, rfl⟩⟩ (by intro gg hg; cases hg) (rowI_mk ⟨by omega, by omega⟩ ⟨by omega, by omega⟩ ⟨by omega, by omega⟩ ⟨by omega, by omega⟩) hsz hg2 hown2
          go_ret
          refine ⟨v2, _, rfl, hC9.rd (fun g _ h => h), ?_, ?_, hB9⟩
          · rw [List.length_append]; simp; omega
          · intro x hx
            rcases List.mem_append.1 hx with hx | hx
            · exact hLt x hx
            · rw [List.mem_singleton.1 hx]; simp
        · go_ret
          exact ⟨_, L, rfl, HCOP.out.rd (fun g _ h => h), by omega, hLt, hb⟩
end Go.Proofs.YtbfbppjccbppiaaGreatDoor
