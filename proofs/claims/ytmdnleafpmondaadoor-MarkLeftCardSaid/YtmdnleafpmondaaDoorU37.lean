/- Plain law: what is left, asked with the rest of a platform. -/
import Derived.Test.YtmdnleafpmondaaDoorU35
namespace Go.Proofs.YtmdnleafpmondaaDoor
open Go Go.RowKit

theorem subs_asks {f g : Frm} (h : g ∈ Frm.subs f) : ∀ k, asks g k → asks f k := by
  induction f with
  | is k s => simp only [Frm.subs, List.mem_singleton] at h; subst h; exact fun _ h => h
  | no a ih =>
    simp only [Frm.subs, List.mem_append, List.mem_singleton] at h
    rcases h with h | rfl
    · exact fun k hk => ih h k hk
    · exact fun _ h => h
  | two c a b iha ihb =>
    simp only [Frm.subs, List.mem_append, List.mem_singleton] at h
    rcases h with h | h | rfl
    · exact fun k hk => .inl (iha h k hk)
    · exact fun k hk => .inr (ihb h k hk)
    · exact fun _ h => h
/-- The rest of a platform. -/
def restS (a b : ByteArray) : ByteArray := if a.toList.isEmpty = true then b else ⟨#[]⟩
def restE (e f : EnvT) : EnvT := ⟨restS e.a f.a, restS e.b f.b, restS e.c f.c⟩
theorem restE_at (e f : EnvT) (k : Nat) : (restE e f).at k = restS (e.at k) (f.at k) := by
  unfold restE EnvT.at
  split <;> rfl
theorem rest_ok {e f : EnvT} (h' : f.ok = true) : (restE e f).ok = true := EnvT.goodAt fun k _ => by
  rw [restE_at]
  unfold restS
  split
  · exact EnvT.okAt h' k
  · decide +kernel
theorem rest_val {l : List Node} {en fn : EnvT} (hok' : fn.ok = true) (h1 : evalV l en = 1) : evalV (underV l en) (restE en fn) = evalV l (joinE en fn) := by
  obtain ⟨hm, hok, f, hf, hev⟩ := eval_one h1
  obtain ⟨hml, hv, -⟩ := left_val (join_ext en fn) (join_ok hok hok') h1
  rw [← hv]
  have hU := under_some h1 hf
  have hk : treeF ((leftF en.at f).post 0) = some (leftF en.at f) := treeF_post (left_ok (treeF_ok hf))
  rw [hU] at hml ⊢
  unfold evalV
  rw [if_pos ⟨hml, rest_ok hok'⟩, if_pos ⟨hml, join_ok hok hok'⟩, hk]
  refine eval_congr fun k hk2 => ?_
  have h0 := left_asks hev k hk2
  rw [restE_at, joinE_at]
  unfold restS joinS
  rw [if_pos ((isEmpty_iff' _).2 h0), if_pos ((isEmpty_iff' _).2 h0)]
/-- What is left asks no key that was known. -/
theorem under_keys {l : List Node} {en : EnvT} {j : Nat} {n : Node} (hj : (underV l en)[j]? = some n) (hop : n.op = 1) : ∃ k : Nat, n.key = k ∧ k < 3 ∧ en.at k = ByteArray.empty := by
  by_cases h1 : evalV l en = 1
  · obtain ⟨hm, hok, f, hf, hev⟩ := eval_one h1
    have hU := under_some h1 hf
    have hk : treeF ((leftF en.at f).post 0) = some (leftF en.at f) := treeF_post (left_ok (treeF_ok hf))
    rw [hU] at hj
    have ht := treeF_at hk
    have hlt : j < (Frm.subs (leftF en.at f)).length := by rw [← ht.len]; exact get_lt hj
    obtain ⟨g, hg⟩ : ∃ g, g = (Frm.subs (leftF en.at f))[j] := ⟨_, rfl⟩
    have hg2 : (Frm.subs (leftF en.at f))[j]? = some g := by rw [List.getElem?_eq_getElem hlt, hg]
    have hn := ht.node j g hg2
    rw [hj] at hn
    injection hn with hn
    have ha := subs_asks (List.mem_of_getElem? hg2)
    have hok2 := ht.ok j g hg2
    subst hn
    cases g with
    | is k s => exact ⟨k, rfl, hok2.1, left_asks hev k (ha k rfl)⟩
    | no a => exact absurd hop (by simp [nodeOf])
    | two c a b => exact absurd hop (by cases c <;> simp [nodeOf])
  · rw [under_none h1] at hj
    cases hj
end Go.Proofs.YtmdnleafpmondaaDoor
