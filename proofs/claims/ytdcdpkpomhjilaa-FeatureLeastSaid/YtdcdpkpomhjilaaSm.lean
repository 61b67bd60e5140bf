/- Sets of texts that the call makes: map[string]struct{}. No program stands here. -/
import Derived.Test.YtdcdpkpomhjilaaS0
import Derived.Test.YtdcdpkpomhjilaaOwnF
import Derived.Maps.OwnSet
import Derived.Maps.RangeWalk
import Derived.Sort.KeysCollected
import Derived.Sort.OwnSorted
namespace Go.Proofs.Ytdcdpkpomhjilaa
open Go Go.RowKit Go.Maps

section
variable {P : Program} {kt et T : TypeId} {w w' : World} {b : Nat} {L : List ByteArray}
theorem keyOf_str (hk : P.underlying kt = some .string) {s : ByteArray} (h : s.size ≤ maxLen) : keyOf P kt (.string s) = some (.string s.data.toList) := by
  simp [keyOf, hk, mapKey, h]
/-- Block b holds the set of the texts of L, put one by one. -/
def SetS (P : Program) (kt : TypeId) (w : World) (b : Nat) (L : List ByteArray) : Prop :=
  ∃ D : DataW Unit, w.ownsMap P kt unitElem b L.length D ∧ Tidy D ∧ ∀ s : ByteArray, s.size ≤ maxLen → (has D (.string s.data.toList) = true ↔ s ∈ L)
theorem SetS.lt (h : SetS P kt w b L) : b < w.heap.size := by obtain ⟨D, h1, _⟩ := h; exact h1.lt
theorem SetS.keep (h : SetS P kt w b L) (hk : w'.heap[b]? = w.heap[b]?) : SetS P kt w' b L := by
  obtain ⟨D, ⟨es, clock, h1, h2⟩, h3⟩ := h
  exact ⟨D, ⟨es, clock, hk.trans h1, h2⟩, h3⟩
theorem SetS.below {B : Nat} (h : SetS P kt w b L) (hb : Below B w w') (hB : b < B) : SetS P kt w' b L := h.keep (hb.block b hB)
theorem SetS.made (P : Program) (kt : TypeId) (w : World) : SetS P kt (w.alloc (.map #[] 0)) w.heap.size [] :=
  ⟨.map [], World.ownsMap_made _ _ _ _, tidy_empty, fun _ _ => ⟨fun h => (by cases h), fun h => (by cases h)⟩⟩
theorem SetS.mem_iff {L' : List ByteArray} (h : SetS P kt w b L) (h' : SetS P kt w b L') {s : ByteArray} (hs : s.size ≤ maxLen) : s ∈ L ↔ s ∈ L' := by
  obtain ⟨D, ⟨es, cl, h1, _, _, h2⟩, _, h3⟩ := h
  obtain ⟨D', ⟨es', cl', h1', _, _, h2'⟩, _, h3'⟩ := h'
  rw [h1] at h1'
  injection h1' with h1'
  injection h1' with h1' _
  subst h1'
  have e : D = D' := h2.trans h2'.symm
  subst e
  exact (h3 s hs).symm.trans (h3' s hs)
theorem wpList_look_s {ops : Array Oper} {rest : List Oper} {o : Oper} {a : Act} {Q : Exit → Act → World → Prop} (hg : o.guard = none) (m x : Operand) (hop : o.op = Op.lookup T m x true)
    (hT : P.underlying T = some (.map kt et)) (hk : P.underlying kt = some .string) (hz : (zeroValue et).run P w = .ok (.agg #[]) w) (b : Nat) (L : List ByteArray) (hm : a.eval m = .map (some b)) (h : SetS P kt w b L) (s : ByteArray) (hx : a.eval x = .string s) (hs : s.size ≤ maxLen)
    (c : Bool) (hc : s ∈ L ↔ c = true) (hK : wpList P ops Q rest (a.put o.dst (.tuple #[.agg #[], .bool c])) w) : wpList P ops Q (o :: rest) a w := by
  obtain ⟨D, h1, _, h3⟩ := h
  refine wpList_lookup_own_unit w hg m x T hop kt et (string_keyed hk) hT hz b L.length D hm h1 (.string s) _ hx (keyOf_str hk hs) ?_
  have : has D (.string s.data.toList) = c := by rw [Bool.eq_iff_iff, h3 s hs, hc]
  rw [this]
  exact hK
theorem wpList_upd_s {ops : Array Oper} {rest : List Oper} {o : Oper} {a : Act} {Q : Exit → Act → World → Prop} (hg : o.guard = none) (m x v : Operand) (hop : o.op = Op.mapUpdate T m x v)
    (hT : P.underlying T = some (.map kt et)) (hk : P.underlying kt = some .string) (b : Nat) (L : List ByteArray) (hm : a.eval m = .map (some b)) (h : SetS P kt w b L) (hn : L.length < maxLen) (s : ByteArray) (hx : a.eval x = .string s) (hv : a.eval v = .agg #[]) (hs : s.size ≤ maxLen)
    (hK : ∀ w', SetS P kt w' b (L ++ [s]) → w.grownBy w' (some b) → wpList P ops Q rest (a.put o.dst undef) w') : wpList P ops Q (o :: rest) a w := by
  obtain ⟨D, h1, h2, h3⟩ := h
  refine wpList_mapUpdate_own w hg m x v T hop kt et (string_keyed hk) hT unitElem b L.length D hm h1 hn _ _ (.string s.data.toList) hx hv (keyOf_str hk hs) (.agg []) [] unitElem_mk fun w' h4 h5 => ?_
  have kl : ∀ l : List UInt8, WideAt.IsKeyLit (Lit.string l) := fun _ => trivial
  refine hK w' ⟨_, by rw [List.length_append]; exact h4, h2.put (kl _) _, fun j hj => ?_⟩ h5
  by_cases e : j = s
  · subst e
    rw [has_put_same h2.isMap (kl _) _]
    exact ⟨fun _ => by simp, fun _ => rfl⟩
  · have hne : Lit.string j.data.toList ≠ Lit.string s.data.toList := fun h => e (by
      injection h with h
      exact ByteArray.ext (Array.toList_inj.1 h))
    rw [has_put_other hne, h3 j hj]
    simp [e]
/-- A map's keys, all met: the texts of L, each once. -/
theorem SetS.keys (h : SetS P kt w b L) (hL : ∀ s ∈ L, s.size ≤ maxLen) (hk : P.underlying kt = some .string) : ∃ D : DataW Unit, w.ownsMap P kt unitElem b L.length D ∧ Maps.size D ≤ L.length ∧ (∀ ss : List (List UInt8), ss.Perm (strKeys D) → ss.Nodup ∧ ∀ u : ByteArray, u.data.toList ∈ ss ↔ u ∈ L) ∧ ∀ x ∈ strKeys D, x.length ≤ maxLen := by
  obtain ⟨D, h1, h2, h3⟩ := h
  refine ⟨D, h1, h1.size_le, fun ss hp => ?_, fun x hx => strKeys_le h1 hk x hx⟩
  obtain ⟨es, hD, hpw, _⟩ := h1.entries (string_keyed hk)
  obtain ⟨es', hD', hko⟩ := h1.keysOf
  obtain rfl : es = es' := by rw [hD] at hD'; simpa using hD'
  have hkey : ∀ p ∈ es, ∃ x : List UInt8, p.1 = .string x ∧ x.length ≤ maxLen := fun p hp => by
    obtain ⟨v, hv⟩ := hko p hp
    obtain ⟨x, _, hx, hw⟩ := Maps.keyOf_str hk hv
    exact ⟨x, hx, hw⟩
  have hnd : (strKeys D).Nodup := by
    rw [hD]
    show (es.map fun p => strOf p.1).Nodup
    refine List.pairwise_map.2 (hpw.imp_of_mem fun {p q} hp' hq' hne e => hne ?_)
    obtain ⟨a, ha, _⟩ := hkey p hp'
    obtain ⟨c, hc, _⟩ := hkey q hq'
    rw [ha, hc] at e ⊢
    exact congrArg _ e
  refine ⟨hp.nodup_iff.2 hnd, fun u => ?_⟩
  rw [hp.mem_iff]
  have hm : u.data.toList ∈ strKeys D ↔ ∃ p ∈ es, p.1 = .string u.data.toList := by
    rw [hD]
    show u.data.toList ∈ es.map (fun p => strOf p.1) ↔ _
    rw [List.mem_map]
    constructor
    · rintro ⟨p, hp', e⟩
      obtain ⟨a, ha, _⟩ := hkey p hp'
      rw [ha] at e
      exact ⟨p, hp', by rw [ha]; exact congrArg _ e⟩
    · rintro ⟨p, hp', e⟩
      exact ⟨p, hp', by rw [e]; rfl⟩
  rw [hm]
  have hs' : (∃ p ∈ es, p.1 = .string u.data.toList) ↔ has D (.string u.data.toList) = true := by
    rw [hD, has_eq, List.any_eq_true]
    constructor
    · rintro ⟨p, hp', e⟩
      exact ⟨p, hp', by rw [e]; simp [Lit.sameKey]⟩
    · rintro ⟨p, hp', e⟩
      obtain ⟨x, hx, _⟩ := hkey p hp'
      rw [hx] at e
      exact ⟨p, hp', by rw [hx]; simp [Lit.sameKey] at e; rw [e]⟩
  rw [hs']
  constructor
  · intro hh
    have hsz : u.size ≤ maxLen := by
      obtain ⟨p, hp', e⟩ := hs'.2 hh
      obtain ⟨x, hx, hl⟩ := hkey p hp'
      rw [e] at hx
      injection hx with hx
      subst hx
      rw [Array.length_toList] at hl
      exact hl
    exact (h3 u hsz).1 hh
  · intro hu
    exact (h3 u (hL u hu)).2 hu
end
theorem below_map' {w0 w w' : World} {b : Nat} (h : Below w0.heap.size w0 w) (hg : w.grownBy w' (some b)) (hb : w0.heap.size ≤ b) : Below w0.heap.size w0 w' :=
  h.grown hg h.size (fun k hk => by cases hk; exact hb)
end Go.Proofs.Ytdcdpkpomhjilaa
