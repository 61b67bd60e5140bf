/- Features in memory; contracts: Find (both), known, Is, Of, few. -/
import Derived.Test.YtdcdpkpomhjilaaS5
namespace Go.Proofs.Ytdcdpkpomhjilaa
open Go Go.RowKit

structure Feat where
  name : ByteArray
  of : List ByteArray
  deriving DecidableEq, Inhabited
def tFeat : Ty Feat where
  size := 2
  rd w F cs r := ∃ v, cs = [.string r.name, v] ∧ r.name.size ≤ maxLen ∧ SliceRd tStr w F v r.of
  len h := by obtain ⟨v, rfl, _⟩ := h; rfl
  keep hk h := by obtain ⟨v, h0, h1, h5⟩ := h; exact ⟨v, h0, h1, h5.keep hk⟩
  more hF h := by obtain ⟨v, h0, h1, h5⟩ := h; exact ⟨v, h0, h1, h5.more hF⟩
theorem SliceRd.feats {w : World} {F : Nat → Prop} {v : Value} {l : List Feat} (h : SliceRd tFeat w F v l) :
    ∃ A cap, v = .slice A l.length cap ∧ l.length ≤ cap ∧ cap ≤ maxLen ∧
      ∀ k, (hk : k < l.length) → ∃ g o tA tn tc, A = some ⟨g, o, none⟩ ∧ F g ∧ w.cell? ⟨g, o + k * 2, none⟩ = some (.string l[k].name) ∧ w.cell? ⟨g, o + k * 2 + 1, none⟩ = some (.slice tA tn tc) ∧ tn = l[k].of.length ∧ l[k].name.size ≤ maxLen ∧ SliceRd tStr w F (.slice tA tn tc) l[k].of := by
  obtain ⟨A, cap, hv, h1, h2, h3⟩ := h.shape
  refine ⟨A, cap, hv, h1, h2, fun k hk => ?_⟩
  obtain ⟨g, o, cs, hA, hF, hc, hcell, tv, rfl, i0, ht⟩ := h3 k hk
  obtain ⟨tA, tc, rfl, -⟩ := ht.strs
  exact ⟨g, o, tA, _, tc, hA, hF, hcell 0 (by show 0 < 2; omega), hcell 1 (by show 1 < 2; omega), rfl, i0, ht⟩
/-- Where a name stands. -/
def findF (l : List Feat) (n : ByteArray) : Int := match l.findIdx? fun f => decide (f.name = n) with
  | some i => i
  | none => -1
theorem findF_hit {l : List Feat} {n : ByteArray} {k : Nat} (hk : k < l.length) (h : l[k].name = n) (hb : ∀ i, (hi : i < k) → l[i].name ≠ n) : findF l n = k := by
  unfold findF
  have : l.findIdx? (fun f => decide (f.name = n)) = some k := by
    rw [List.findIdx?_eq_some_iff_getElem]
    exact ⟨hk, by simpa using h, fun j hj => by simpa using hb j hj⟩
  rw [this]
theorem findF_miss {l : List Feat} {n : ByteArray} (hb : ∀ i, (hi : i < l.length) → l[i].name ≠ n) : findF l n = -1 := by
  unfold findF
  have : l.findIdx? (fun f => decide (f.name = n)) = none := by
    rw [List.findIdx?_eq_none_iff]
    intro x hx
    obtain ⟨i, hi, rfl⟩ := List.getElem_of_mem hx
    simpa using hb i hi
  rw [this]
theorem findF_spec (l : List Feat) (n : ByteArray) : (findF l n = -1 ∧ ∀ i, (hi : i < l.length) → l[i].name ≠ n) ∨ ∃ k, ∃ hk : k < l.length, findF l n = (k : Nat) ∧ l[k].name = n := by
  unfold findF
  cases h : l.findIdx? fun f => decide (f.name = n) with
  | none =>
    rw [List.findIdx?_eq_none_iff] at h
    exact .inl ⟨rfl, fun i hi => by simpa using h _ (List.getElem_mem hi)⟩
  | some k =>
    rw [List.findIdx?_eq_some_iff_getElem] at h
    obtain ⟨hk, h1, _⟩ := h
    exact .inr ⟨k, hk, rfl, by simpa using h1⟩
theorem rint {k : IntKind} {a b : Int} (h : a = b) : Ending.returned (.int k a) = .returned (.int k b) := by rw [h]

set_option maxRecDepth 100000 in
set_option maxHeartbeats 1000000 in
theorem rfind_any (v : Value) (l : List Feat) (n : ByteArray) (w : World) (h : SliceRd tFeat w (Lt w.heap.size) v l) :
    Calls Try.prog 16 #[v, .string n] w fun e w' => e = .returned (.int .i64 (findF l n)) ∧ Below w.heap.size w w' := by
  obtain ⟨A, cap, rfl, hcap, hmax, hc⟩ := h.feats
  unfold maxLen at hmax
  have HC := hid hc
  clear hc h
  go_enter Try.func16, Try.ntmps16
  go_wp2
  go_loopw [5] (fun iv wr => ∃ k : Nat, k ≤ l.length ∧ iv = .int .i64 k ∧ Hid (∀ i, (hi : i < l.length) → i < k → l[i].name ≠ n) ∧ Below w.heap.size w wr) (fun iv _ => l.length - (intOf iv).toNat)
  case atStart => exact ⟨0, Nat.zero_le _, rfl, hid (fun i hi hk => by omega), Below.refl _ _⟩
  case round =>
    obtain ⟨k, hk, rfl, hall, hb⟩ := hrel
    have i1 : (0 : Int) ≤ ↑k := by omega
    by_cases hlt : k < l.length
    · obtain ⟨g, o, tA, tn, tc, hA, hF, g0, -⟩ := HC.out k hlt
      subst hA
      have c0 := cell_below hb hF g0
      clear g0
      have i2 : (↑k : Int) < ↑l.length := by omega
      rcases bc (decide (l[k].name = n)) with ⟨h, HB⟩ | ⟨h, HB⟩
      · have hq : (l[k].name.toList == n.toList) = true := by rw [eqS_iff]; exact h
        have HN := hid (findF_hit (l := l) (n := n) hlt (by simpa using HB.out) (fun i hi => hall.out i (by omega) hi))
        clear h
        go_wp2
        go_ret
        exact ⟨rint HN.out.symm, hb⟩
      · have hq : (l[k].name.toList == n.toList) = false := by rw [eqS_iff]; exact h
        have HN := hid (show ∀ i, (hi : i < l.length) → i < k + 1 → l[i].name ≠ n from fun i hi hk => by
          by_cases e : i = k
          · subst e; simpa using HB.out
          · exact hall.out i hi (by omega))
        clear h
        go_wp2
        exact ⟨⟨k + 1, by omega, by go_num, HN, hb⟩, by simp [intOf]; omega⟩
    · have i2 : ¬ (↑k : Int) < ↑l.length := by omega
      have HN := hid (findF_miss (l := l) (n := n) fun i hi => hall.out i hi (by omega))
      go_wp2
      go_ret
      exact ⟨rint HN.out.symm, hb⟩

set_option maxRecDepth 100000 in
set_option maxHeartbeats 1000000 in
theorem ifind_any (v : Value) (l : List Feat) (n : ByteArray) (w : World) (h : SliceRd tFeat w (Lt w.heap.size) v l) :
    Calls Try.prog 15 #[v, .string n] w fun e w' => e = .returned (.int .i64 (findF l n)) ∧ Below w.heap.size w w' := by
  obtain ⟨A, cap, rfl, hcap, hmax, hc⟩ := h.feats
  unfold maxLen at hmax
  have HC := hid hc
  clear hc h
  go_enter Try.func15, Try.ntmps15
  go_wp2
  go_loopw [9] (fun iv wr => ∃ k : Nat, k ≤ l.length ∧ iv = .int .i64 k ∧ Hid (∀ i, (hi : i < l.length) → i < k → l[i].name ≠ n) ∧ Below w.heap.size w wr) (fun iv _ => l.length - (intOf iv).toNat)
  case atStart => exact ⟨0, Nat.zero_le _, rfl, hid (fun i hi hk => by omega), Below.refl _ _⟩
  case round =>
    obtain ⟨k, hk, rfl, hall, hb⟩ := hrel
    have i1 : (0 : Int) ≤ ↑k := by omega
    by_cases hlt : k < l.length
    · obtain ⟨g, o, tA, tn, tc, hA, hF, g0, g1, -⟩ := HC.out k hlt
      subst hA
      have c0 := cell_below hb hF g0
      have c1 := cell_below hb hF g1
      clear g0 g1
      have i2 : (↑k : Int) < ↑l.length := by omega
      rcases bc (decide (l[k].name = n)) with ⟨h, HB⟩ | ⟨h, HB⟩
      · have hq : (l[k].name.toList == n.toList) = true := by rw [eqS_iff]; exact h
        have HN := hid (findF_hit (l := l) (n := n) hlt (by simpa using HB.out) (fun i hi => hall.out i (by omega) hi))
        clear h
        go_wp2
        go_ret
        exact ⟨rint HN.out.symm, balloc hb _⟩
      · have hq : (l[k].name.toList == n.toList) = false := by rw [eqS_iff]; exact h
        have HN := hid (show ∀ i, (hi : i < l.length) → i < k + 1 → l[i].name ≠ n from fun i hi hk => by
          by_cases e : i = k
          · subst e; simpa using HB.out
          · exact hall.out i hi (by omega))
        clear h
        go_wp2
        exact ⟨⟨k + 1, by omega, by go_num, HN, balloc hb _⟩, by simp [intOf]; omega⟩
    · have i2 : ¬ (↑k : Int) < ↑l.length := by omega
      have HN := hid (findF_miss (l := l) (n := n) fun i hi => hall.out i hi (by omega))
      go_wp2
      go_ret
      exact ⟨rint HN.out.symm, hb⟩

def dflt : ByteArray := ⟨#[100, 101, 102, 97, 117, 108, 116]⟩
theorem eq_dflt (n : ByteArray) : (n.toList == [100, 101, 102, 97, 117, 108, 116]) = decide (n = dflt) := by
  have h : dflt.toList = [100, 101, 102, 97, 117, 108, 116] := by rw [ByteArray.toList_eq]; rfl
  rw [← h, eqS_iff]
def knownB (l : List Feat) (n : ByteArray) : Bool := decide (n = dflt) || decide (0 ≤ findF l n)

set_option maxRecDepth 100000 in
set_option maxHeartbeats 1000000 in
theorem known_any (v : Value) (l : List Feat) (n : ByteArray) (w : World) (h : SliceRd tFeat w (Lt w.heap.size) v l) :
    Calls Try.prog 34 #[v, .string n] w fun e w' => e = .returned (.bool (knownB l n)) ∧ Below w.heap.size w w' := by
  obtain ⟨A, cap, rfl, hcap, hmax, hc⟩ := h.feats
  have H := hid h
  clear hc h
  rcases bc (decide (n = dflt)) with ⟨h1, HB⟩ | ⟨h1, HB⟩
  · have hq : (n.toList == [100, 101, 102, 97, 117, 108, 116]) = true := by rw [eq_dflt]; exact h1
    have HN : Hid (knownB l n = true) := hid (by unfold knownB; rw [h1]; rfl)
    clear h1
    go_enter Try.func34, Try.ntmps34
    go_wp2
    go_ret
    exact ⟨rbool HN.out.symm, Below.refl _ _⟩
  · have hq : (n.toList == [100, 101, 102, 97, 117, 108, 116]) = false := by rw [eq_dflt]; exact h1
    have HN : Hid (knownB l n = decide (0 ≤ findF l n)) := hid (by unfold knownB; rw [h1]; rfl)
    clear h1
    go_enter Try.func34, Try.ntmps34
    go_wp2_with (first
      | (go_at_call 15; refine (ifind_any _ l n _ H.out).mono ?_; rintro e w1 ⟨rfl, hb⟩))
    go_ret
    exact ⟨rbool HN.out.symm, hb⟩

set_option maxRecDepth 100000 in
set_option maxHeartbeats 1000000 in
theorem is_any (v : Value) (l : List Feat) (n : ByteArray) (w : World) (h : SliceRd tFeat w (Lt w.heap.size) v l) :
    Calls Try.prog 38 #[v, .string n] w fun e w' => e = .returned (.bool (knownB l n)) ∧ Below w.heap.size w w' := by
  obtain ⟨A, cap, rfl, hcap, hmax, hc⟩ := h.feats
  have H := hid h
  clear hc h
  rcases bc (decide (n = dflt)) with ⟨h1, HB⟩ | ⟨h1, HB⟩
  · have hq : (n.toList == [100, 101, 102, 97, 117, 108, 116]) = true := by rw [eq_dflt]; exact h1
    have HN : Hid (knownB l n = true) := hid (by unfold knownB; rw [h1]; rfl)
    clear h1
    go_enter Try.func38, Try.ntmps38
    go_wp2
    go_ret
    exact ⟨rbool HN.out.symm, Below.refl _ _⟩
  · have hq : (n.toList == [100, 101, 102, 97, 117, 108, 116]) = false := by rw [eq_dflt]; exact h1
    have HN : Hid (knownB l n = decide (0 ≤ findF l n)) := hid (by unfold knownB; rw [h1]; rfl)
    clear h1
    go_enter Try.func38, Try.ntmps38
    go_wp2_with (first
      | (go_at_call 16; refine (rfind_any _ l n _ H.out).mono ?_; rintro e w1 ⟨rfl, hb⟩))
    go_ret
    exact ⟨rbool HN.out.symm, hb⟩

/-- The items of a feature. -/
def ofF (l : List Feat) (n : ByteArray) : List ByteArray := if findF l n < 0 then [] else (l.getD (findF l n).toNat default).of
set_option maxRecDepth 100000 in
set_option maxHeartbeats 1000000 in
theorem of_any (v : Value) (l : List Feat) (n : ByteArray) (w : World) (h : SliceRd tFeat w (Lt w.heap.size) v l) :
    Calls Try.prog 40 #[v, .string n] w fun e w' => ∃ v', e = .returned v' ∧ SliceRd tStr w (Lt w.heap.size) v' (ofF l n) ∧ Below w.heap.size w w' := by
  obtain ⟨A, cap, rfl, hcap, hmax, hc⟩ := h.feats
  unfold maxLen at hmax
  have H := hid h
  have HC := hid hc
  clear hc h
  rcases findF_spec l n with ⟨hm, _⟩ | ⟨k, hk, hf, hn⟩
  · have HM := hid hm
    have HN : Hid (ofF l n = []) := hid (by unfold ofF; rw [if_pos (by omega)])
    clear hm
    go_enter Try.func40, Try.ntmps40
    go_wp2_with (first
      | (go_at_call 16; refine (rfind_any _ l n _ H.out).mono ?_; rintro e w1 ⟨rfl, hb⟩; rw [HM.out]))
    go_ret
    exact ⟨_, rfl, by rw [HN.out]; exact SliceRd.nil _ _ _, hb⟩
  · obtain ⟨g, o, tA, tn, tc, hA, hF, g0, g1, hl, -, hrd⟩ := HC.out k hk
    subst hA
    have HM := hid hf
    have HN : Hid (ofF l n = l[k].of) := hid (by unfold ofF; rw [if_neg (by omega), hf, List.getD_eq_getElem?_getD, Int.toNat_natCast, List.getElem?_eq_getElem hk]; rfl)
    have HR := hid hrd
    have i1 : (0 : Int) ≤ ↑k := by omega
    have i2 : (↑k : Int) < ↑l.length := by omega
    clear hf hrd hl hn
    go_enter Try.func40, Try.ntmps40
    go_wp2_with (first
      | (go_at_call 16; refine (rfind_any _ l n _ H.out).mono ?_; rintro e w1 ⟨rfl, hb⟩; rw [HM.out]; have c1 := cell_below hb hF g1))
    go_ret
    exact ⟨_, rfl, by rw [HN.out]; exact HR.out, hb⟩
end Go.Proofs.Ytdcdpkpomhjilaa
