/- Contracts: linchpinref29.kind, Line. -/
import Derived.Test.YtlinabifalfddaaDoorD
import Derived.Test.YtlinabifalfddaaDoorPr
import Derived.Test.YtlinabifalfddaaDoorW34
import Derived.Deep.RegionHeld3
import Derived.Deep.DeepCutAuto
import Derived.Deep.DrawnRows
namespace Go.Proofs.YtlinabifalfddaaDoor
open Go Go.RowKit
attribute [local go_sem ↓] Go.wp_at_zero Go.wp_at_succ

theorem itoa_nat (n : Nat) : Lib.itoa n = Lib.decDigits n := by unfold Lib.itoa; rw [if_neg (by omega)]; rfl
theorem digits_int (n : Int) (w : World) (h0 : 0 ≤ n) (h1 : n ≤ 1000000) :
    Calls Tryd.prog 53 #[.int .i64 n] w fun e w' => e = .returned (.string ⟨(Lib.itoa n).toArray⟩) ∧ Below w.heap.size w w' := by
  obtain ⟨m, rfl⟩ := Int.eq_ofNat_of_zero_le h0
  rw [itoa_nat]
  exact digits_any m w (by omega)

theorem kind_any (k : Int) (w : World) :
    Calls Tryd.prog 52 #[.int .i64 k] w fun e w' => e = .returned (.string ⟨(kindWord k).toArray⟩) ∧ w = w' := by
  have hk : (kindWord k = [114, 111, 111, 116] ∧ k = 1) ∨ (kindWord k = [110, 101, 101, 100] ∧ k = 2) ∨ (kindWord k = [98, 97, 114] ∧ k = 3) ∨ (kindWord k = [97, 115, 107] ∧ k = 4) ∨ (kindWord k = [98, 111, 116, 104] ∧ k ≠ 1 ∧ k ≠ 2 ∧ k ≠ 3 ∧ k ≠ 4) := by
    unfold kindWord
    grind
  rcases hk with ⟨e, rfl⟩ | ⟨e, rfl⟩ | ⟨e, rfl⟩ | ⟨e, rfl⟩ | ⟨e, h1, h2, h3, h4⟩
  all_goals
    rw [e]
    clear e
    go_enter Tryd.func52, Tryd.ntmps52
  · go_wp2; go_ret; exact ⟨rfl, rfl⟩
  · go_wp2; go_ret; exact ⟨rfl, rfl⟩
  · go_wp2; go_ret; exact ⟨rfl, rfl⟩
  · go_wp2; go_ret; exact ⟨rfl, rfl⟩
  · have b1 : (k == 1) = false := by simpa using h1
    have b2 : (k == 2) = false := by simpa using h2
    have b3 : (k == 3) = false := by simpa using h3
    have b4 : (k == 4) = false := by simpa using h4
    go_wp2; go_ret; exact ⟨rfl, rfl⟩
structure LineOk (r : Row) : Prop where
  unit : 0 ≤ r.unit ∧ r.unit ≤ 1000000
  both : r.kind = 5 → 0 ≤ r.a ∧ r.a ≤ 1000000 ∧ 0 ≤ r.b ∧ r.b ≤ 1000000
  len : r.terms.length ≤ 48
  terms : ∀ t ∈ r.terms, 0 ≤ t.unit ∧ t.unit ≤ 1000000 ∧ 0 ≤ t.mask ∧ t.mask ≤ 1000000
theorem itoa_len6 {n : Int} (h0 : 0 ≤ n) (h1 : n ≤ 1000000) : (Lib.itoa n).length ≤ 7 := by
  obtain ⟨m, rfl⟩ := Int.eq_ofNat_of_zero_le h0
  rw [itoa_nat, Lib.decDigits_length]
  exact nDigits_le7 (by omega)
theorem app3 (a b c : List UInt8) : (⟨a.toArray⟩ ++ ⟨b.toArray⟩ ++ ⟨c.toArray⟩ : ByteArray) = ⟨(a ++ b ++ c).toArray⟩ := by rw [str_app, str_app]
theorem app5 (a b c d e : List UInt8) : (⟨a.toArray⟩ ++ ⟨b.toArray⟩ ++ ⟨c.toArray⟩ ++ ⟨d.toArray⟩ ++ ⟨e.toArray⟩ : ByteArray) = ⟨(a ++ b ++ c ++ d ++ e).toArray⟩ := by rw [str_app, str_app, str_app, str_app]
/-- A string so long at most. -/
def StrIs (v : Value) (l : List UInt8) (n : Nat) : Prop := ∃ s : List UInt8, v = .string ⟨s.toArray⟩ ∧ s.length ≤ n ∧ Hid (s = l)

set_option maxRecDepth 100000 in
set_option maxHeartbeats 1000000 in
theorem line_any (r : Row) (tv : Value) (w : World) (ht : SliceRd tTerm w (Lt w.heap.size) tv r.terms) (hr : LineOk r) :
    Calls Tryd.prog 36 #[.agg #[.int .i64 r.kind, .int .i64 r.unit, .int .i64 r.a, .int .i64 r.b, tv]] w fun e w' => e = .returned (.string ⟨(lineF r).toArray⟩) ∧ Below w.heap.size w w' := by
  obtain ⟨TA, tcap, rfl, htcap, htmax, htc⟩ := ht.terms
  have HC := hid htc
  have HR := hid hr
  have hu := hr.unit
  clear ht htc hr
  go_enter Tryd.func36, Tryd.ntmps36
  go_upto_region 1 with (fail)
  have hl1 := kindWord_len r.kind
  have hl2 := itoa_len6 hu.1 hu.2
  go_cut [3] (fun s3 wx => StrIs s3 (headF r) 12 ∧ Box 27 wx w.heap.size r (.slice TA r.terms.length tcap) ∧ Below w.heap.size w wx)
  case first =>
    have q1 : ¬ 9223372036854775807 < (kindWord r.kind).length + 1 := by omega
    have q2 : ¬ 9223372036854775807 < (kindWord r.kind).length + 1 + (Lib.itoa r.unit).length := by omega
    go_region_held3 (fun w' => w'.cell? ⟨w.heap.size, 0, none⟩ = some (.int .i64 r.kind) ∧ w'.cell? ⟨w.heap.size, 1, none⟩ = some (.int .i64 r.unit)) (go_keep)
      ((first
        | (go_at_call 52; refine (kind_any _ _).mono ?_; rintro e w' ⟨rfl, rfl⟩)
        | (go_at_call 53; refine (digits_int _ _ (by omega) (by omega)).mono ?_; rintro e w1 ⟨rfl, hb1⟩; obtain ⟨hbc, hbf⟩ := bcell hb1)))
    all_goals (go_wp2_with fail; go_meet)
    exact ⟨⟨kindWord r.kind ++ [32] ++ Lib.itoa r.unit, congrArg Value.string (app3 _ [32] _), by simp; omega, hid (by simp [headF])⟩, (Box.new _ w r _).keep (hb1.block _ (by simp)), ((Below.refl _ _).alloc (Nat.le_refl _) _).drew.trans (hb1.mono (by simp))⟩
  case rest =>
    obtain ⟨⟨S, rfl, hSl, hS⟩, hbox, hb⟩ := hcut
    obtain ⟨⟨b0, b1, b2, b3, b4⟩, bf⟩ := hbox.cells
    have hblt := hbox.lt
    have HBOX := hid hbox
    clear hbox
    go_upto_if 15 with (fail)
    go_cut [3] (fun s3 wx => StrIs s3 (headF r ++ bothF r) 30 ∧ Box 27 wx w.heap.size r (.slice TA r.terms.length tcap) ∧ Below w.heap.size w wx)
    case first =>
      by_cases h5 : r.kind = 5
      · have hbf : bothF r = 32 :: Lib.itoa r.a ++ 32 :: Lib.itoa r.b := by simp [bothF, h5]
        have hab := HR.out.both h5
        have l1 := itoa_len6 hab.1 hab.2.1
        have l2 := itoa_len6 hab.2.2.1 hab.2.2.2
        have k5 : (r.kind == 5) = true := by simpa using h5
        have HBF := hid hbf
        clear h5 hbf
        go_wp2_with fail
        have q1 : ¬ 9223372036854775807 < S.length + 1 := by omega
        have q2 : ¬ 9223372036854775807 < S.length + 1 + (Lib.itoa r.a).length := by omega
        have q3 : ¬ 9223372036854775807 < S.length + 1 + (Lib.itoa r.a).length + 1 := by omega
        have q4 : ¬ 9223372036854775807 < S.length + 1 + (Lib.itoa r.a).length + 1 + (Lib.itoa r.b).length := by omega
        have tok := hid True.intro
        go_region_held3 (fun w' => w'.cell? ⟨w.heap.size, 2, none⟩ = some (.int .i64 r.a) ∧ w'.cell? ⟨w.heap.size, 3, none⟩ = some (.int .i64 r.b)) (first | exact ⟨by assumption, by assumption⟩ | go_keep)
          ((first
            | (go_at_call 53; clear tok; refine (digits_int _ _ (by omega) (by omega)).mono ?_; rintro e w1 ⟨rfl, hb1⟩
               replace hb1 : Below wc.heap.size wc w1 := ((Below.refl _ _).drew).trans hb1
               have n2 := cell_below hb1 hblt b2; have n3 := cell_below hb1 hblt b3; have hz1 := Nat.lt_of_lt_of_le hblt hb1.size)
            | (go_at_call 53; refine (digits_int _ _ (by omega) (by omega)).mono ?_; rintro e w2 ⟨rfl, hb2⟩
               have m2 := cell_below hb2 hz1 n2; have m3 := cell_below hb2 hz1 n3)))
        all_goals (go_wp2_with fail; go_meet)
        exact ⟨⟨S ++ [32] ++ Lib.itoa r.a ++ [32] ++ Lib.itoa r.b, congrArg Value.string (app5 S [32] _ [32] _), by simp; omega, hid (by rw [hS.out, HBF.out]; simp)⟩, (HBOX.out.keep (hb1.block _ hblt)).keep (hb2.block _ hz1), (hb.trans (hb1.mono hb.size)).trans (hb2.mono (Nat.le_trans hb.size hb1.size))⟩
      · have k5 : (r.kind == 5) = false := by simpa using h5
        have hbf : bothF r = [] := by simp [bothF, h5]
        have HBF := hid hbf
        clear h5 hbf
        go_wp2_with fail
        go_meet
        exact ⟨⟨S, rfl, by omega, hid (by rw [hS.out, HBF.out]; simp)⟩, HBOX.out, hb⟩
    case rest =>
      clear b0 b1 b2 b3 b4 bf hblt HBOX hS hSl hl1 hl2 hb
      obtain ⟨hst, hbox, hb⟩ := hcut
      have HST := hid hst
      have HBX := hid hbox
      have HB := hid hb
      clear hst hbox hb
      unfold maxLen at htmax
      have hlen := HR.out.len
      go_wp2_with fail
      go_loopw [3, 4] (fun sv iv wr => ∃ j : Nat, j ≤ r.terms.length ∧ iv = .int .i64 j ∧ Hid (StrIs sv (headF r ++ bothF r ++ (r.terms.take j).flatMap termF) (30 + 16 * j)) ∧ Hid (Box 27 wr w.heap.size r (.slice TA r.terms.length tcap)) ∧ Hid (Below w.heap.size w wr)) (fun _ iv _ => r.terms.length - (intOf iv).toNat)
      case atStart =>
        obtain ⟨s, h1, h2, h3⟩ := HST.out
        exact ⟨0, Nat.zero_le _, rfl, hid ⟨s, h1, by omega, hid (by rw [h3.out]; simp)⟩, HBX, HB⟩
      case round =>
        obtain ⟨j, hj, rfl, hst, hbox, hb⟩ := hrel
        obtain ⟨S, rfl, hSl, hS⟩ := hst.out
        obtain ⟨⟨b0, b1, b2, b3, b4⟩, bf⟩ := hbox.out.cells
        have hblt := hbox.out.lt
        clear b0 b1 b2 b3 hst
        by_cases hjt : j < r.terms.length
        · obtain ⟨g, o, hA, hF, t0, t1, -, -⟩ := HC.out j hjt
          subst hA
          have s0 := cell_below hb.out hF t0
          have s1 := cell_below hb.out hF t1
          have hg : g < wr.heap.size := Nat.lt_of_lt_of_le hF hb.out.size
          clear t0 t1
          obtain ⟨u1, u2, u3, u4⟩ := HR.out.terms _ (List.getElem_mem hjt)
          have l1 := itoa_len6 u1 u2
          have l2 := itoa_len6 u3 u4
          have i1 : (0 : Int) ≤ ↑j := by omega
          have i2 : (↑j : Int) < ↑r.terms.length := by omega
          go_wp2_with fail
          have q1 : ¬ 9223372036854775807 < S.length + 1 := by omega
          have q2 : ¬ 9223372036854775807 < S.length + 1 + (Lib.itoa r.terms[j].unit).length := by omega
          have q3 : ¬ 9223372036854775807 < S.length + 1 + (Lib.itoa r.terms[j].unit).length + 1 := by omega
          have q4 : ¬ 9223372036854775807 < S.length + 1 + (Lib.itoa r.terms[j].unit).length + 1 + (Lib.itoa r.terms[j].mask).length := by omega
          have tok := hid True.intro
          go_region_held3 (fun w' => w'.cell? ⟨w.heap.size, 4, none⟩ = some (.slice (some ⟨g, o, none⟩) r.terms.length tcap) ∧ w'.cell? ⟨g, o + j * 2, none⟩ = some (.int .i64 r.terms[j].unit) ∧ w'.cell? ⟨g, o + j * 2 + 1, none⟩ = some (.int .i64 r.terms[j].mask)) (first | exact ⟨by assumption, by assumption, by assumption⟩ | go_keep)
            ((first
              | (go_at_call 53; clear tok; refine (digits_int _ _ (by omega) (by omega)).mono ?_; rintro e w1 ⟨rfl, hb1⟩
                 replace hb1 : Below wr.heap.size wr w1 := ((Below.refl _ _).drew).trans hb1
                 have n2 := cell_below hb1 hblt b4; have n3 := cell_below hb1 hg s0; have n4 := cell_below hb1 hg s1; have hz1 := Nat.lt_of_lt_of_le hblt hb1.size; have hz2 := Nat.lt_of_lt_of_le hg hb1.size)
              | (go_at_call 53; refine (digits_int _ _ (by omega) (by omega)).mono ?_; rintro e w2 ⟨rfl, hb2⟩
                 have m2 := cell_below hb2 hz1 n2; have m3 := cell_below hb2 hz2 n3; have m4 := cell_below hb2 hz2 n4)))
          all_goals (go_wp2_with fail)
          exact ⟨⟨j + 1, by omega, by go_num, hid ⟨S ++ [32] ++ Lib.itoa r.terms[j].unit ++ [58] ++ Lib.itoa r.terms[j].mask, congrArg Value.string (app5 S [32] _ [58] _), by simp; omega, hid (by rw [hS.out, termF_take hjt]; simp [termF])⟩, hid ((hbox.out.keep (hb1.block _ hblt)).keep (hb2.block _ hz1)), hid ((hb.out.trans (hb1.mono hb.out.size)).trans (hb2.mono (Nat.le_trans hb.out.size hb1.size)))⟩, by simp [intOf]; omega⟩
        · have hj' : j = r.terms.length := by omega
          have HS' : Hid (S = lineF r) := hid (by rw [hS.out, hj', List.take_length]; rfl)
          clear hS hj'
          go_wp2
          go_ret
          exact ⟨by rw [HS'.out]; rfl, hb.out⟩
end Go.Proofs.YtlinabifalfddaaDoor
