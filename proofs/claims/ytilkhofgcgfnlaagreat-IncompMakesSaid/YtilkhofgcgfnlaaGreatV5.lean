/- Contracts: linchpinref2.May, Texts, one, pres, Compare. -/
import Derived.Test.YtilkhofgcgfnlaaGreatV4
import Derived.Outline
namespace Go.Proofs.YtilkhofgcgfnlaaGreat
open Go Go.RowKit

set_option maxHeartbeats 1000000 in
theorem vmay_any (a b c : Int) (p q : ByteArray) (w : World) (h : VB a b c p q) :
    Calls Tryz.prog 52 #[.agg #[.int .i64 a, .int .i64 b, .int .i64 c, .string p, .string q]] w fun e w' => e = .returned (.bool (mayV ⟨a, b, c, p, q⟩)) ∧ Below w.heap.size w w' := by
  obtain ⟨ha, hb, hc, hp, hq⟩ := h
  go_enter Tryz.func52, Tryz.ntmps52
  go_wp2_with (first
    | (go_at_call 70; refine (num_any _ _).mono ?_; rintro e w' ⟨rfl, rfl⟩)
    | (go_at_call 71; (with_reducible refine (tags_any p true _ hp).mono ?_); rintro e w1 ⟨rfl, hb1⟩; obtain ⟨hbc, hbf⟩ := bcell hb1)
    | (go_at_call 71; (with_reducible refine (tags_any q false _ hq).mono ?_); rintro e w2 ⟨rfl, hb2⟩))
  all_goals go_ret
  all_goals refine ⟨ret_bool (by simp [mayV, *]), ?_⟩
  all_goals first
    | exact balloc (b0 w) _
    | exact bstep (balloc (b0 w) _) hb1
    | exact bstep (bstep (balloc (b0 w) _) hb1) hb2

/-- Texts held against each other. -/
def textsF (a b : ByteArray) : Int := if Op.bytesLess a.toList b.toList = true then -1 else if (!a.toList == b.toList) = true then 1 else 0

set_option maxHeartbeats 400000 in
theorem texts_any (a b : ByteArray) (w : World) :
    Calls Tryz.prog 125 #[.string a, .string b] w fun e w' => e = .returned (.int .i64 (textsF a b)) ∧ w' = w := by
  go_enter Tryz.func125, Tryz.ntmps125
  go_wp2
  all_goals go_ret
  · exact ⟨ret_int (by unfold textsF; rw [if_pos (by assumption)]), rfl⟩
  · exact ⟨ret_int (by unfold textsF; rw [if_neg (by rw [‹Op.bytesLess _ _ = false›]; simp), if_pos (by assumption)]), rfl⟩
  · exact ⟨ret_int (by unfold textsF; rw [if_neg (by rw [‹Op.bytesLess _ _ = false›]; simp), if_neg (by rw [‹(!_ == _) = false›]; simp)]), rfl⟩

def numV (s : List UInt8) : Int := match numberF s with | some n => (n : Int) | none => 0
theorem numRes_eq (s : List UInt8) : numRes s = .tuple #[.int .i64 (numV s), .bool (numberF s).isSome] := by
  unfold numRes numV
  cases numberF s <;> rfl
/-- Tags held against each other. -/
def oneF (a b : ByteArray) : Int :=
  if numericB a.data.toList = true then (if numericB b.data.toList = true then intsF (numV a.data.toList) (numV b.data.toList) else -1)
  else if numericB b.data.toList = true then 1 else textsF a b

set_option maxHeartbeats 400000 in
theorem one_any (a b : ByteArray) (w : World) (ha : a.size ≤ 1000) (hb : b.size ≤ 1000) :
    Calls Tryz.prog 124 #[.string a, .string b] w fun e w' => e = .returned (.int .i64 (oneF a b)) ∧ w' = w := by
  cases hx : numericB a.data.toList with
  | true =>
    cases hy : numericB b.data.toList with
    | true =>
      have HX := hid hx
      have HY := hid hy
      have H : Hid (oneF a b = intsF (numV a.data.toList) (numV b.data.toList)) := hid (by unfold oneF; rw [if_pos hx, if_pos hy])
      clear hx hy
      go_enter Tryz.func124, Tryz.ntmps124
      go_wp2_with (first
        | (go_at_call 86; (with_reducible refine (numeric_any a _ ha).mono ?_); rintro e w' ⟨rfl, rfl⟩; rw [HX.out])
        | (go_at_call 86; (with_reducible refine (numeric_any b _ hb).mono ?_); rintro e w' ⟨rfl, rfl⟩; rw [HY.out])
        | (go_at_call 85; (with_reducible refine (number1_any a _ ha).mono ?_); rintro e w' ⟨rfl, rfl⟩; rw [numRes_eq])
        | (go_at_call 85; (with_reducible refine (number1_any b _ hb).mono ?_); rintro e w' ⟨rfl, rfl⟩; rw [numRes_eq])
        | (go_at_call 121; refine (ints_any _ _ _).mono ?_; rintro e w' ⟨rfl, rfl⟩))
      go_ret
      exact ⟨ret_int H.out.symm, rfl⟩
    | false =>
      have HX := hid hx
      have HY := hid hy
      have H : Hid (oneF a b = -1) := hid (by unfold oneF; rw [if_pos hx, if_neg (by rw [hy]; simp)])
      clear hx hy
      go_enter Tryz.func124, Tryz.ntmps124
      go_wp2_with (first
        | (go_at_call 86; (with_reducible refine (numeric_any a _ ha).mono ?_); rintro e w' ⟨rfl, rfl⟩; rw [HX.out])
        | (go_at_call 86; (with_reducible refine (numeric_any b _ hb).mono ?_); rintro e w' ⟨rfl, rfl⟩; rw [HY.out]))
      go_ret
      exact ⟨ret_int H.out.symm, rfl⟩
  | false =>
    cases hy : numericB b.data.toList with
    | true =>
      have HX := hid hx
      have HY := hid hy
      have H : Hid (oneF a b = 1) := hid (by unfold oneF; rw [if_neg (by rw [hx]; simp), if_pos hy])
      clear hx hy
      go_enter Tryz.func124, Tryz.ntmps124
      go_wp2_with (first
        | (go_at_call 86; (with_reducible refine (numeric_any a _ ha).mono ?_); rintro e w' ⟨rfl, rfl⟩; rw [HX.out])
        | (go_at_call 86; (with_reducible refine (numeric_any b _ hb).mono ?_); rintro e w' ⟨rfl, rfl⟩; rw [HY.out]))
      go_ret
      exact ⟨ret_int H.out.symm, rfl⟩
    | false =>
      have HX := hid hx
      have HY := hid hy
      have H : Hid (oneF a b = textsF a b) := hid (by unfold oneF; rw [if_neg (by rw [hx]; simp), if_neg (by rw [hy]; simp)])
      clear hx hy
      go_enter Tryz.func124, Tryz.ntmps124
      go_wp2_with (first
        | (go_at_call 86; (with_reducible refine (numeric_any a _ ha).mono ?_); rintro e w' ⟨rfl, rfl⟩; rw [HX.out])
        | (go_at_call 86; (with_reducible refine (numeric_any b _ hb).mono ?_); rintro e w' ⟨rfl, rfl⟩; rw [HY.out])
        | (go_at_call 125; refine (texts_any _ _ _).mono ?_; rintro e w' ⟨rfl, rfl⟩))
      go_ret
      exact ⟨ret_int H.out.symm, rfl⟩
end Go.Proofs.YtilkhofgcgfnlaaGreat
