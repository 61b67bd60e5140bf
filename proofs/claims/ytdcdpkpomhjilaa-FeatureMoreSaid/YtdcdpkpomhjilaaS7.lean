/- Contracts: linchpinref11.items, May; feature.May. -/
import Derived.Test.YtdcdpkpomhjilaaS6
import Derived.Test.YtdcdpkpomhjilaaLater
namespace Go.Proofs.Ytdcdpkpomhjilaa
open Go Go.RowKit

def itemOk (l : List Feat) (s : ByteArray) : Bool := decide ((itemF s.data.toList).1 ≠ 0) && (decide ((itemF s.data.toList).1 ≠ 1) || knownB l ⟨(itemF s.data.toList).2.1.toArray⟩)
def itemsB (l : List Feat) (of : List ByteArray) : Bool := decide (of.length ≤ 6) && (risesB of && of.all (itemOk l))
def featOk (l : List Feat) (i : Nat) : Bool := wordB (l.getD i default).name.data.toList && ((decide (i = 0) || ltS (l.getD (i - 1) default).name (l.getD i default).name) && itemsB l (l.getD i default).of)
def mayF (l : List Feat) : Bool := decide (l.length ≤ 8) && (List.range l.length).all (featOk l)
theorem mayF_bad {l : List Feat} {i : Nat} (hi : i < l.length) (h : featOk l i = false) : mayF l = false := by
  unfold mayF
  rw [Bool.and_eq_false_iff]
  right
  rw [List.all_eq_false]
  exact ⟨i, List.mem_range.2 hi, by rw [h]; simp⟩
theorem mayF_good {l : List Feat} (h8 : l.length ≤ 8) (h : ∀ i, i < l.length → featOk l i = true) : mayF l = true := by
  unfold mayF
  rw [decide_eq_true h8, Bool.true_and, List.all_eq_true]
  exact fun i hi => h i (List.mem_range.1 hi)
theorem all_bad {l : List ByteArray} {p : ByteArray → Bool} {k : Nat} (h : k < l.length) (hp : p l[k] = false) : l.all p = false := by
  rw [List.all_eq_false]
  exact ⟨l[k], List.getElem_mem h, by rw [hp]; simp⟩
theorem all_upto {l : List ByteArray} {p : ByteArray → Bool} (h : ∀ i, (hi : i < l.length) → p l[i] = true) : l.all p = true := by
  rw [List.all_eq_true]
  intro x hx
  obtain ⟨i, hi, rfl⟩ := List.getElem_of_mem hx
  exact h i hi
/-- An item's kind and name, and whether it is good. -/
theorem item_cases (l : List Feat) (s : ByteArray) : ∃ (k : Int) (a b : ByteArray), Hid (itemV s.data.toList = .tuple #[.int .i64 k, .string a, .string b]) ∧
    ((((k == 0) = true) ∧ Hid (itemOk l s = false)) ∨ ((k == 0) = false ∧ (k == 1) = false ∧ Hid (itemOk l s = true)) ∨ ((k == 0) = false ∧ (k == 1) = true ∧ Hid (itemOk l s = knownB l a))) := by
  refine ⟨(itemF s.data.toList).1, ⟨(itemF s.data.toList).2.1.toArray⟩, ⟨(itemF s.data.toList).2.2.toArray⟩, hid rfl, ?_⟩
  unfold itemOk
  rcases eqI (itemF s.data.toList).1 0 with ⟨h, d⟩ | ⟨h, d⟩
  · exact .inl ⟨h, hid (by rw [d]; rfl)⟩
  · rcases eqI (itemF s.data.toList).1 1 with ⟨h', d'⟩ | ⟨h', d'⟩
    · exact .inr (.inr ⟨h, h', hid (by rw [d']; rfl)⟩)
    · exact .inr (.inl ⟨h, h', hid (by rw [decide_eq_true d, decide_eq_true d']; rfl)⟩)

set_option maxRecDepth 100000 in
set_option maxHeartbeats 2000000 in
theorem items_any (v ov : Value) (l : List Feat) (of : List ByteArray) (w : World) (h : SliceRd tFeat w (Lt w.heap.size) v l) (ho : SliceRd tStr w (Lt w.heap.size) ov of) (hsz : ∀ s ∈ of, s.size ≤ 100000) :
    Calls Try.prog 35 #[v, ov] w fun e w' => e = .returned (.bool (itemsB l of)) ∧ Below w.heap.size w w' := by
  obtain ⟨A, cap, rfl, -, -, -⟩ := h.feats
  obtain ⟨A', cap', rfl, hcap', hmax', hc'⟩ := ho.strs
  unfold maxLen at hmax'
  have H := hid h
  have HO := hid ho
  have HC' := hid hc'
  have HSZ := hid hsz
  clear h ho hc' hsz
  by_cases h6 : (6 : Int) < of.length
  · have HN : Hid (itemsB l of = false) := hid (by unfold itemsB; rw [decide_eq_false (by omega)]; rfl)
    go_enter Try.func35, Try.ntmps35
    go_wp2
    go_ret
    exact ⟨rbool HN.out.symm, Below.refl _ _⟩
  rcases bc (risesB of) with ⟨h, HR⟩ | ⟨h, HR⟩
  · have HN : Hid (itemsB l of = of.all (itemOk l)) := hid (by unfold itemsB; rw [decide_eq_true (by omega), h]; rfl)
    clear h
    go_enter Try.func35, Try.ntmps35
    go_wp2_with (first
      | (go_at_call 22; refine (rising_any _ of _ HO.out).mono ?_; rintro e w1 ⟨rfl, hb1⟩; rw [HR.out]))
    go_loopw [5] (fun iv wr => ∃ k : Nat, k ≤ of.length ∧ iv = .int .i64 k ∧ Hid (∀ i, (hi : i < of.length) → i < k → itemOk l of[i] = true) ∧ Hid (Below w.heap.size w wr)) (fun iv _ => of.length - (intOf iv).toNat)
    case atStart => exact ⟨0, Nat.zero_le _, rfl, hid (fun i hi hk => by omega), hid hb1⟩
    case round =>
      clear hb1
      obtain ⟨k, hk, rfl, hall, hb⟩ := hrel
      have i1 : (0 : Int) ≤ ↑k := by omega
      by_cases hlt : k < of.length
      · obtain ⟨g, o, hA, hF, g0, -⟩ := HC'.out k hlt
        subst hA
        have c0 := cell_below hb.out hF g0
        clear g0
        have i2 : (↑k : Int) < ↑of.length := by omega
        have hs1 := HSZ.out of[k] (List.getElem_mem hlt)
        have HRD := hid (H.out.lift hb.out hb.out.size)
        obtain ⟨kk, a, b, HI, hcs⟩ := item_cases l of[k]
        have HBAD := hid (fun (hf : itemOk l of[k] = false) => HN.out.trans (all_bad (p := itemOk l) hlt hf))
        have HOK := hid (fun (hf : itemOk l of[k] = true) => show ∀ i, (hi : i < of.length) → i < k + 1 → itemOk l of[i] = true from fun i hi hk => by
          by_cases e : i = k
          · subst e; exact hf
          · exact hall.out i hi (by omega))
        rcases hcs with ⟨c1, hg⟩ | ⟨c1, c2, hg⟩ | ⟨c1, c2, hg⟩
        · have HB := hid (HBAD.out hg.out)
          clear hg
          go_wp2_with (first
            | (go_at_call 11; refine (ritem_any of[k] _ hs1).mono ?_; rintro e w2 ⟨rfl, hb2⟩; rw [HI.out]))
          go_ret
          exact ⟨rbool HB.out.symm, hb.out.trans (hb2.mono hb.out.size)⟩
        · have HB := hid (HOK.out hg.out)
          clear hg
          go_wp2_with (first
            | (go_at_call 11; refine (ritem_any of[k] _ hs1).mono ?_; rintro e w2 ⟨rfl, hb2⟩; rw [HI.out]))
          exact ⟨⟨k + 1, by omega, by go_num, HB, hid (hb.out.trans (hb2.mono hb.out.size))⟩, by simp [intOf]; omega⟩
        · rcases bc (knownB l a) with ⟨hq, HK⟩ | ⟨hq, HK⟩
          · have HB := hid (HOK.out (hg.out.trans hq))
            clear hg hq
            go_wp2_with (first
              | (go_at_call 11; refine (ritem_any of[k] _ hs1).mono ?_; rintro e w2 ⟨rfl, hb2⟩; rw [HI.out])
              | (go_at_call 38; refine (is_any _ l a _ (HRD.out.lift hb2 hb2.size)).mono ?_; rintro e w3 ⟨rfl, hb3⟩; rw [HK.out]))
            exact ⟨⟨k + 1, by omega, by go_num, HB, hid (hb.out.trans ((bstep hb2 hb3).mono hb.out.size))⟩, by simp [intOf]; omega⟩
          · have HB := hid (HBAD.out (hg.out.trans hq))
            clear hg hq
            go_wp2_with (first
              | (go_at_call 11; refine (ritem_any of[k] _ hs1).mono ?_; rintro e w2 ⟨rfl, hb2⟩; rw [HI.out])
              | (go_at_call 38; refine (is_any _ l a _ (HRD.out.lift hb2 hb2.size)).mono ?_; rintro e w3 ⟨rfl, hb3⟩; rw [HK.out]))
            go_ret
            exact ⟨rbool HB.out.symm, hb.out.trans ((bstep hb2 hb3).mono hb.out.size)⟩
      · have i2 : ¬ (↑k : Int) < ↑of.length := by omega
        have HG := hid (HN.out.trans (all_upto (p := itemOk l) fun i hi => hall.out i hi (by omega)))
        go_wp2
        go_ret
        exact ⟨rbool HG.out.symm, hb.out⟩
  · have HN : Hid (itemsB l of = false) := hid (by unfold itemsB; rw [h]; simp)
    clear h
    go_enter Try.func35, Try.ntmps35
    go_wp2_with (first
      | (go_at_call 22; refine (rising_any _ of _ HO.out).mono ?_; rintro e w1 ⟨rfl, hb1⟩; rw [HR.out]))
    go_ret
    exact ⟨rbool HN.out.symm, hb1⟩
end Go.Proofs.Ytdcdpkpomhjilaa
