/- Contracts: linchpinlaw11.sample, awake, few. -/
import Derived.Test.YtdcdpkpomhjilaaSd
namespace Go.Proofs.Ytdcdpkpomhjilaa
open Go Go.RowKit

def fcells : List Feat → List Value → List Value
  | f :: l, v :: tvs => [.string f.name, v] ++ fcells l tvs
  | _, _ => []
theorem fcells_get : ∀ {l : List Feat} {tvs : List Value} (_ : tvs.length = l.length) {k : Nat} (hk : k < l.length) (hk' : k < tvs.length) (j : Nat), j < 2 → (fcells l tvs)[k * 2 + j]? = [Value.string l[k].name, tvs[k]][j]?
  | f :: l, v :: tvs, h, 0, _, _, j, hj => by
    simp only [fcells, Nat.zero_mul, Nat.zero_add]
    rw [List.getElem?_append_left (by simp; omega)]
    rfl
  | f :: l, v :: tvs, h, k + 1, hk, hk', j, hj => by
    have := fcells_get (l := l) (tvs := tvs) (by simpa using h) (k := k) (by simpa using hk) (by simpa using hk') j hj
    simp only [fcells]
    rw [List.getElem?_append_right (by simp; omega)]
    have e : (k + 1) * 2 + j - [Value.string f.name, v].length = k * 2 + j := by simp; omega
    rw [e, this]
    rfl
  | [], _, _, _, hk, _, _, _ => by simp at hk
  | _ :: _, [], _, _, _, hk', _, _ => by simp at hk'
theorem feats_new {w : World} (e : TypeId) (l : List Feat) (tvs : List Value) (hlen : tvs.length = l.length) (h : ∀ k, (hk : k < l.length) → (hk' : k < tvs.length) → SliceRd tStr w (Lt w.heap.size) tvs[k] l[k].of ∧ l[k].name.size ≤ maxLen) (cs : Array Value) (hc : cs.toList = fcells l tvs) (hm : l.length ≤ maxLen) :
    SliceRd tFeat (w.alloc (.cells cs e)) (Lt (w.alloc (.cells cs e)).heap.size) (.slice (some ⟨w.heap.size, 0, none⟩) l.length l.length) l := by
  have hb := balloc (b0 w) (.cells cs e)
  have hz : w.heap.size < (w.alloc (.cells cs e)).heap.size := by simp
  refine ⟨_, _, rfl, Nat.le_refl _, hm, fun k hk => ?_⟩
  have hk' : k < tvs.length := by omega
  obtain ⟨h1, h2⟩ := h k hk hk'
  refine ⟨w.heap.size, 0, [.string l[k].name, tvs[k]], rfl, hz, rfl, fun j hj => ?_, ⟨tvs[k], rfl, h2, h1.lift hb hb.size⟩⟩
  have := fcells_get hlen hk hk' j hj
  rw [← this, ← hc, Array.getElem?_toList]
  show (w.alloc (.cells cs e)).cell? ⟨w.heap.size, 0 + k * 2 + j, none⟩ = _
  rw [World.cell?_alloc_new, Nat.zero_add]
theorem strs_new {w : World} (e : TypeId) (l : List ByteArray) (cs : Array Value) (hc : cs.toList = l.map Value.string) (hs : ∀ x ∈ l, x.size ≤ maxLen) (hm : l.length ≤ maxLen) :
    SliceRd tStr (w.alloc (.cells cs e)) (Lt (w.alloc (.cells cs e)).heap.size) (.slice (some ⟨w.heap.size, 0, none⟩) l.length l.length) l := by
  have hz : w.heap.size < (w.alloc (.cells cs e)).heap.size := by simp
  refine ⟨_, _, rfl, Nat.le_refl _, hm, fun k hk => ⟨w.heap.size, 0, [.string l[k]], rfl, hz, rfl, fun j hj => ?_, ⟨rfl, hs _ (List.getElem_mem hk)⟩⟩⟩
  have hj : j < 1 := hj
  obtain rfl : j = 0 := by omega
  show (w.alloc (.cells cs e)).cell? ⟨w.heap.size, 0 + k * 1 + 0, none⟩ = _
  rw [World.cell?_alloc_new, ← Array.getElem?_toList, hc]
  simp [hk]
def sX : ByteArray := ⟨#[120]⟩
def sZ : ByteArray := ⟨#[122]⟩
def sO : ByteArray := ⟨#[111]⟩
def sQO : ByteArray := ⟨#[63, 111]⟩
def sBY : ByteArray := ⟨#[98, 47, 121]⟩
def sampleL : List Feat := [⟨dflt, [sX]⟩, ⟨sX, [sQO, sBY, sZ]⟩, ⟨sZ, [sX]⟩]

set_option maxRecDepth 100000 in
set_option maxHeartbeats 1000000 in
theorem sample_any (w : World) :
    Calls Try.prog 25 #[] w fun e w' => ∃ v, e = .returned v ∧ SliceRd tFeat w' (Lt w'.heap.size) v sampleL ∧ Below w.heap.size w w' := by
  go_enter Try.func25, Try.ntmps25
  go_wp2
  go_ret
  obtain ⟨w1, hw1⟩ : ∃ w1, w1 = w.alloc (.cells #[.string sX] 9) := ⟨_, rfl⟩
  obtain ⟨w2, hw2⟩ : ∃ w2, w2 = w1.alloc (.cells #[.string sQO, .string sBY, .string sZ] 9) := ⟨_, rfl⟩
  obtain ⟨w3, hw3⟩ : ∃ w3, w3 = w2.alloc (.cells #[.string sX] 9) := ⟨_, rfl⟩
  have z1 : w1.heap.size = w.heap.size + 1 := by rw [hw1]; simp
  have z2 : w2.heap.size = w.heap.size + 2 := by rw [hw2]; simp [z1]
  have z3 : w3.heap.size = w.heap.size + 3 := by rw [hw3]; simp [z2]
  have b1 : Below w.heap.size w w1 := hw1 ▸ balloc (b0 w) _
  have b12 : Below w1.heap.size w1 w2 := hw2 ▸ balloc (b0 w1) _
  have b23 : Below w2.heap.size w2 w3 := hw3 ▸ balloc (b0 w2) _
  have small : ∀ x ∈ [sX, sQO, sBY, sZ], x.size ≤ maxLen := by
    intro x hx
    simp only [List.mem_cons, List.not_mem_nil, or_false] at hx
    unfold maxLen
    rcases hx with rfl | rfl | rfl | rfl <;> decide
  have r1 : SliceRd tStr w1 (Lt w1.heap.size) (.slice (some ⟨w.heap.size, 0, none⟩) 1 1) [sX] := hw1 ▸ strs_new _ [sX] _ rfl (fun x hx => small x (by simp at *; simp [hx])) (by unfold maxLen; decide)
  have r2 : SliceRd tStr w2 (Lt w2.heap.size) (.slice (some ⟨w1.heap.size, 0, none⟩) 3 3) [sQO, sBY, sZ] := hw2 ▸ strs_new _ [sQO, sBY, sZ] _ rfl (fun x hx => small x (List.mem_cons_of_mem _ hx)) (by unfold maxLen; decide)
  have r3 : SliceRd tStr w3 (Lt w3.heap.size) (.slice (some ⟨w2.heap.size, 0, none⟩) 1 1) [sX] := hw3 ▸ strs_new _ [sX] _ rfl (fun x hx => small x (by simp at *; simp [hx])) (by unfold maxLen; decide)
  have r1' := (r1.lift b12 b12.size).lift b23 b23.size
  have r2' := r2.lift b23 b23.size
  refine ⟨_, rfl, ?_, ?_⟩
  rotate_left
  · exact balloc (balloc (balloc (balloc (b0 w) _) _) _) _
  · have := feats_new (w := w3) 56 sampleL [.slice (some ⟨w.heap.size, 0, none⟩) 1 1, .slice (some ⟨w1.heap.size, 0, none⟩) 3 3, .slice (some ⟨w2.heap.size, 0, none⟩) 1 1] rfl (fun k hk hk' => by
      have hk : k < 3 := hk
      match k, hk with
      | 0, _ => exact ⟨r1', by show ByteArray.size dflt ≤ maxLen; unfold maxLen; decide⟩
      | 1, _ => exact ⟨r2', by show ByteArray.size sX ≤ maxLen; unfold maxLen; decide⟩
      | 2, _ => exact ⟨r3, by show ByteArray.size sZ ≤ maxLen; unfold maxLen; decide⟩) #[.string dflt, .slice (some ⟨w.heap.size, 0, none⟩) 1 1, .string sX, .slice (some ⟨w1.heap.size, 0, none⟩) 3 3, .string sZ, .slice (some ⟨w2.heap.size, 0, none⟩) 1 1] rfl (by unfold maxLen; decide)
    rw [z1, z2, z3] at this
    rw [hw3, hw2, hw1] at this
    exact this

theorem may_sample : mayF sampleL = true := by kernel_rfl
theorem known_sample : [dflt].all (knownB sampleL) = true := by kernel_rfl
theorem find_sample : findF sampleL sZ = 2 := by kernel_rfl
theorem item_by : itemV sBY.data.toList = .tuple #[.int .i64 3, .string ⟨#[98]⟩, .string ⟨#[121]⟩] := by kernel_rfl
def onL : List ByteArray := [dflt, sX, sZ]
theorem closed_sample : Closed sampleL [dflt] onL [sO] [sBY] := by
  have h := RInv.start (l := sampleL) (asked := [dflt]) (List.all_eq_true.1 known_sample)
  have h1 := ((h.round may_sample).round may_sample).round may_sample
  have h2 := (h1.round may_sample).closed (by decide)
  have e : putAll (putAll (putAll (putAll (putAll [] [dflt]) (adds k1 sampleL (putAll [] [dflt]))) (adds k1 sampleL (putAll (putAll [] [dflt]) (adds k1 sampleL (putAll [] [dflt]))))) (adds k1 sampleL (putAll (putAll (putAll [] [dflt]) (adds k1 sampleL (putAll [] [dflt]))) (adds k1 sampleL (putAll (putAll [] [dflt]) (adds k1 sampleL (putAll [] [dflt]))))))) (adds k1 sampleL (putAll (putAll (putAll (putAll [] [dflt]) (adds k1 sampleL (putAll [] [dflt]))) (adds k1 sampleL (putAll (putAll [] [dflt]) (adds k1 sampleL (putAll [] [dflt]))))) (adds k1 sampleL (putAll (putAll (putAll [] [dflt]) (adds k1 sampleL (putAll [] [dflt]))) (adds k1 sampleL (putAll (putAll [] [dflt]) (adds k1 sampleL (putAll [] [dflt])))))))) = onL := by kernel_rfl
  rw [e] at h2
  have e2 : putAll [] (adds k2 sampleL onL) = [sO] := by kernel_rfl
  have e3 : putAll [] (adds k3 sampleL onL) = [sBY] := by kernel_rfl
  rw [e2, e3] at h2
  exact h2
theorem close_good {l : List Feat} {asked A B C : List ByteArray} {w w' : World} {e : Ending} (h : ClosePost l asked w e w') (hm : mayF l = true) (hk : asked.all (knownB l) = true) (hc : Closed l asked A B C) :
    Below w.heap.size w w' ∧ ∃ va vb vc, e = .returned (.tuple #[va, vb, vc, .int .i64 0]) ∧ SliceRd tStr w' (Lt w'.heap.size) va A ∧ SliceRd tStr w' (Lt w'.heap.size) vb B ∧ SliceRd tStr w' (Lt w'.heap.size) vc C := by
  obtain ⟨hb, ⟨h1, _⟩ | ⟨_, h1, _⟩ | ⟨_, _, va, vb, vc, A', B', C', rfl, hc', ra, rb, rc⟩⟩ := h
  · rw [hm] at h1; cases h1
  · rw [hk] at h1; cases h1
  · obtain ⟨rfl, rfl, rfl⟩ := hc.uniq hc'
    exact ⟨hb, va, vb, vc, rfl, ra, rb, rc⟩
theorem close_sample {w w' : World} {e : Ending} (h : ClosePost sampleL [dflt] w e w') : Below w.heap.size w w' ∧ ∃ aA ac bg bo bc cA cc, e = .returned (.tuple #[.slice aA 3 ac, .slice (some ⟨bg, bo, none⟩) 1 bc, .slice cA 1 cc, .int .i64 0]) ∧ w'.cell? ⟨bg, bo, none⟩ = some (.string ⟨#[111]⟩) := by
  obtain ⟨hb, va, vb, vc, rfl, ra, rb, rc⟩ := close_good h may_sample known_sample closed_sample
  obtain ⟨aA, ac, rfl, _⟩ := ra.strs
  obtain ⟨bA, bc, rfl, _, _, hb1⟩ := rb.strs
  obtain ⟨cA, cc, rfl, _⟩ := rc.strs
  obtain ⟨bg, bo, rfl, _, hb2, _⟩ := hb1 0 (by decide)
  exact ⟨hb, aA, ac, bg, bo, bc, cA, cc, rfl, hb2⟩
theorem sample_small : FSmall sampleL := by
  intro f hf s hs
  have h1 : ∀ f ∈ sampleL, ∀ s ∈ f.of, s = sX ∨ s = sQO ∨ s = sBY ∨ s = sZ := by
    intro f hf s hs
    simp only [sampleL, List.mem_cons, List.not_mem_nil, or_false] at hf
    rcases hf with rfl | rfl | rfl <;> simp only [List.mem_cons, List.not_mem_nil, or_false] at hs
    · exact .inl hs
    · rcases hs with h | h | h <;> simp [h]
    · exact .inl hs
  rcases h1 f hf s hs with rfl | rfl | rfl | rfl <;> decide

set_option maxRecDepth 100000 in
set_option maxHeartbeats 1000000 in
theorem awake_any (w : World) :
    Calls Try.prog 9 #[] w fun e w' => e = .returned (.bool true) ∧ Below w.heap.size w w' := by
  have tok1 := hid True.intro
  have tok2 := hid True.intro
  have HMS := hid may_sample
  have HFS := hid find_sample
  have HIB := hid item_by
  go_enter Try.func9, Try.ntmps9
  go_wp2_with (first
    | (go_at_call 25; clear tok1; refine (sample_any _).mono ?_; rintro e w1 ⟨v1, rfl, hr1, hb1⟩; have HR1 := hid hr1; have HB1 := hid hb1; clear hr1 hb1)
    | (go_at_call 17; go_must (refine (iclose_any _ _ sampleL [dflt] _ (HR1.out.lift (balloc (b0 _) _) (balloc (b0 _) _).size) (strs_new (w := w1) 9 [dflt] _ rfl (by intro x hx; rw [List.mem_singleton.1 hx]; unfold maxLen; decide) (by unfold maxLen; decide)) sample_small (by decide)).mono ?_); intro e w2 hp; obtain ⟨hb2, aA, ac, bg, bo, bc, cA, cc, rfl, c0⟩ := close_sample hp; have HB2 := hid (bstep (balloc HB1.out _) hb2); clear hp hb2)
    | (go_at_call 10; refine (item_any sBY _ (by decide)).mono ?_; rintro e w3 ⟨rfl, hb3⟩; rw [HIB.out]; have HB3 := hid (bstep HB2.out hb3); have c1 := cell_below hb3 (World.block_lt_of_cell? _ _ c0) c0; clear hb3)
    | (go_at_call 25; clear tok2; refine (sample_any _).mono ?_; rintro e w4 ⟨v4, rfl, hr4, hb4⟩; have HR4 := hid hr4; have HB4 := hid (bstep HB3.out hb4); clear hr4 hb4)
    | (go_at_call 13; refine (imay_any _ sampleL _ HR4.out sample_small).mono ?_; rintro e w5 ⟨rfl, hb5⟩; rw [HMS.out]; have HB5 := hid (bstep HB4.out hb5); clear hb5)
    | (go_at_call 25; refine (sample_any _).mono ?_; rintro e w6 ⟨v6, rfl, hr6, hb6⟩; have HR6 := hid hr6; have HB6 := hid (bstep HB5.out hb6); clear hr6 hb6)
    | (go_at_call 15; refine (ifind_any _ sampleL sZ _ HR6.out).mono ?_; rintro e w7 ⟨rfl, hb7⟩; rw [HFS.out]; have HB7 := hid (bstep HB6.out hb7); clear hb7))
  go_ret
  exact ⟨rfl, HB7.out⟩
end Go.Proofs.Ytdcdpkpomhjilaa
