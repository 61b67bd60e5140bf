/- Contracts: mark.text, mark.whole. -/
import Derived.Test.YtmdnleafpmondaaDoorU3a
import Derived.Test.YtmdnleafpmondaaDoorU3b
import Derived.Test.YtmdnleafpmondaaDoorzT
namespace Go.Proofs.YtmdnleafpmondaaDoor
open Go Go.RowKit

theorem text_any (g : Frm) : TextAt 52 g := by
  induction g with
  | is k s => exact text_is k s
  | no a ih =>
    cases a with
    | is k s => exact text_nois k s
    | no b => exact text_no _ rfl ih
    | two c b d => exact text_no _ rfl ih
  | two c a b iha ihb =>
    cases c with
    | false => exact text_and a b iha ihb
    | true => exact text_or a b iha ihb
def wholeL (l : List Node) : List UInt8 := match treeF l with | some f => textL f | none => []

set_option maxRecDepth 100000 in
theorem whole_any (v : Value) (l : List Node) (w : World) (h : SliceRd tNode w (Lt w.heap.size) v l) (h15 : l.length ≤ 15) (ht : treeB l = true) :
    Calls Tryd.prog 36 #[v] w fun e w' => e = .returned (strV (wholeL l)) ∧ Below w.heap.size w w' := by
  have H := hid h
  obtain ⟨A, cap, rfl, hcap, hmax, -⟩ := h.shape
  unfold maxLen at hmax
  clear h
  by_cases h0 : l.length = 0
  · have hn : l = [] := List.eq_nil_of_length_eq_zero h0
    subst hn
    go_enter Tryd.func36, Tryd.ntmps36
    go_wp2
    go_ret
    exact ⟨rfl, Below.refl _ _⟩
  · obtain ⟨f, hf⟩ : ∃ f, treeF l = some f := by
      unfold treeB at ht
      cases l with
      | nil => exact absurd rfl h0
      | cons n l => exact Option.isSome_iff_exists.1 ht
    have hs := Frm.subs_last f
    have hl := treeF_len hf
    have HT := hid (text_any f _ l _ w (l.length - 1) H.out (treeF_at hf) (by rw [hl]; exact hs) h15)
    have HW := hid (show wholeL l = textL f by unfold wholeL; rw [hf])
    have e1 : IntKind.i64.wrap ((l.length : Int) - 1) = (l.length - 1 : Nat) := by rw [IntWalk.i64_in _ (by omega)]; omega
    have c0 : ((l.length : Int) == 0) = false := by rw [beq_eq_false_iff_ne]; omega
    have e2 : (l.length : Int) - 1 = (l.length - 1 : Nat) := by omega
    clear ht hf hs hl
    go_enter Tryd.func36, Tryd.ntmps36
    go_wp2_with (first | (rw [e2] at *; go_at_call 52; refine HT.out.mono ?_; rintro e w1 ⟨rfl, hb1⟩))
    go_ret
    exact ⟨by rw [HW.out]; rfl, hb1⟩
end Go.Proofs.YtmdnleafpmondaaDoor
