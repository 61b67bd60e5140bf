/- Plain law: what is left of a marker, asked again. -/
import Derived.Test.YtmdnleafpmondaaDoorU29
import Derived.Test.YtmdnleafpmondaaDoorU32
namespace Go.Proofs.YtmdnleafpmondaaDoor
open Go Go.RowKit

theorem wholeL_some {l : List Node} {f : Frm} (h : treeF l = some f) : wholeL l = textL f := by
  unfold wholeL
  rw [h]
theorem may_left {l : List Node} {f : Frm} {e : Nat → ByteArray} (hm : mayB l = true) (hf : treeF l = some f) : mayB ((leftF e f).post 0) = true := by
  have hl := treeF_len hf
  have hok := treeF_ok hf
  have hk : treeF ((leftF e f).post 0) = some (leftF e f) := treeF_post (left_ok hok)
  unfold mayB at hm ⊢
  rw [wholeL_some hf, Bool.and_eq_true, Bool.and_eq_true, decide_eq_true_eq, decide_eq_true_eq] at hm
  rw [wholeL_some hk, Bool.and_eq_true, Bool.and_eq_true, decide_eq_true_eq, decide_eq_true_eq]
  obtain ⟨⟨h1, h2⟩, h3⟩ := hm
  refine ⟨⟨?_, ?_⟩, ?_⟩
  · rw [Frm.post_length]
    have := @left_size e f
    omega
  · unfold treeB
    rw [hk]
    simp
  · have := (@left_len e f).1
    omega
theorem ext_val {l : List Node} {en en' : EnvT} (he : Ext en.at en'.at) (hok' : en'.ok = true) (hm : mayB l = true) (hok : en.ok = true) (h1 : evalV l en ≠ 1) : evalV l en' = evalV l en := by
  unfold evalV at h1 ⊢
  rw [if_pos ⟨hm, hok⟩] at h1
  rw [if_pos ⟨hm, hok'⟩, if_pos ⟨hm, hok⟩]
  cases hf : treeF l with
  | none => rfl
  | some f =>
    rw [hf] at h1
    exact stable he h1
theorem under_none {l : List Node} {en : EnvT} (h1 : evalV l en ≠ 1) : underV l en = [] := by
  unfold underV
  rw [if_neg h1]
theorem under_some {l : List Node} {en : EnvT} {f : Frm} (h1 : evalV l en = 1) (hf : treeF l = some f) : underV l en = (leftF en.at f).post 0 := by
  unfold underV
  rw [if_pos h1, hf]
theorem left_val {l : List Node} {en en' : EnvT} (he : Ext en.at en'.at) (hok' : en'.ok = true) (h1 : evalV l en = 1) : mayB (underV l en) = true ∧ evalV (underV l en) en' = evalV l en' ∧ underV (underV l en) en' = underV l en' := by
  obtain ⟨hm, hok, f, hf, hev⟩ := eval_one h1
  have hml := may_left (e := en.at) hm hf
  have hU := under_some h1 hf
  have hk : treeF ((leftF en.at f).post 0) = some (leftF en.at f) := treeF_post (left_ok (treeF_ok hf))
  have hL : evalV ((leftF en.at f).post 0) en' = evalF en'.at (leftF en.at f) := by
    unfold evalV
    rw [if_pos ⟨hml, hok'⟩, hk]
  have hM : evalV l en' = evalF en'.at f := by
    unfold evalV
    rw [if_pos ⟨hm, hok'⟩, hf]
  rw [hU]
  refine ⟨hml, by rw [hL, hM, left_eval he hev], ?_⟩
  by_cases h2 : evalV l en' = 1
  · rw [under_some (en := en') (by rw [hL, left_eval he hev, ← hM]; exact h2) hk, under_some h2 hf, left_twice he hev (by rw [← hM]; exact h2)]
  · rw [under_none (l := l) h2, under_none (by rw [hL, left_eval he hev, ← hM]; exact h2)]
/-- One platform, and another where that one knows nothing. -/
def joinS (a b : ByteArray) : ByteArray := if a.toList.isEmpty = true then b else a
def joinE (e f : EnvT) : EnvT := ⟨joinS e.a f.a, joinS e.b f.b, joinS e.c f.c⟩
theorem joinE_at (e f : EnvT) (k : Nat) : (joinE e f).at k = joinS (e.at k) (f.at k) := by
  unfold joinE EnvT.at
  split <;> rfl
theorem isEmpty_iff' (s : ByteArray) : s.toList.isEmpty = true ↔ s = ByteArray.empty := by
  rw [List.isEmpty_iff, ByteArray.toList_eq]
  constructor
  · intro h
    exact ByteArray.ext (Array.ext' h)
  · rintro rfl
    rfl
theorem join_ext (e f : EnvT) : Ext e.at (joinE e f).at := fun k hk => by
  rw [joinE_at]
  unfold joinS
  rw [if_neg (fun h => hk ((isEmpty_iff' _).1 h))]
theorem join_ok {e f : EnvT} (h : e.ok = true) (h' : f.ok = true) : (joinE e f).ok = true := EnvT.goodAt fun k _ => by
  rw [joinE_at]
  unfold joinS
  split
  · exact EnvT.okAt h' k
  · exact EnvT.okAt h k
end Go.Proofs.YtmdnleafpmondaaDoor
