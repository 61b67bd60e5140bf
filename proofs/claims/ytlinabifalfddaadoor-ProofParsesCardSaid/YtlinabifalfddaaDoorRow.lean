/- Contract: proof.row. -/
import Derived.Test.YtlinabifalfddaaDoorSplit
import Derived.Test.YtlinabifalfddaaDoorNum
import Derived.Test.YtlinabifalfddaaDoorInj
import Derived.Test.YtlinabifalfddaaDoorW9
import Derived.Deep.DeepCutAuto
namespace Go.Proofs.YtlinabifalfddaaDoor
open Go Go.RowKit

def kindA1 : Array MapEntry := #[⟨.string ⟨#[114, 111, 111, 116]⟩, .int .i64 1, 0⟩]
def kindA2 : Array MapEntry := #[⟨.string ⟨#[114, 111, 111, 116]⟩, .int .i64 1, 0⟩, ⟨.string ⟨#[110, 101, 101, 100]⟩, .int .i64 2, 1⟩]
def kindA3 : Array MapEntry := #[⟨.string ⟨#[114, 111, 111, 116]⟩, .int .i64 1, 0⟩, ⟨.string ⟨#[110, 101, 101, 100]⟩, .int .i64 2, 1⟩, ⟨.string ⟨#[98, 97, 114]⟩, .int .i64 3, 2⟩]
def kindA4 : Array MapEntry := #[⟨.string ⟨#[114, 111, 111, 116]⟩, .int .i64 1, 0⟩, ⟨.string ⟨#[110, 101, 101, 100]⟩, .int .i64 2, 1⟩, ⟨.string ⟨#[98, 97, 114]⟩, .int .i64 3, 2⟩, ⟨.string ⟨#[97, 115, 107]⟩, .int .i64 4, 3⟩]
def kindA5 : Array MapEntry := #[⟨.string ⟨#[114, 111, 111, 116]⟩, .int .i64 1, 0⟩, ⟨.string ⟨#[110, 101, 101, 100]⟩, .int .i64 2, 1⟩, ⟨.string ⟨#[98, 97, 114]⟩, .int .i64 3, 2⟩, ⟨.string ⟨#[97, 115, 107]⟩, .int .i64 4, 3⟩, ⟨.string ⟨#[98, 111, 116, 104]⟩, .int .i64 5, 4⟩]
def kindF (k : ByteArray) : Option Value := if kindNum k.data.toList = 0 then none else some (.int .i64 (kindNum k.data.toList : Nat))
theorem bytes_of {k : ByteArray} {l : List UInt8} (h : k.data.toList = l) : k = ⟨l.toArray⟩ := by
  apply ByteArray.ext
  apply Array.ext'
  simp [h]
theorem kind_map {w : World} {b : Nat} (h : w.heap[b]? = some (.map kindA5 5)) : MapF kStr w b 5 kindF := by
  refine ⟨kindA5, 5, h, rfl, ?_, ?_, ?_⟩
  · intro x hx
    simp only [kindA5, List.mem_cons, List.not_mem_nil, or_false] at hx
    rcases hx with rfl | rfl | rfl | rfl | rfl <;> exact ⟨_, rfl⟩
  · have : (kindA5.toList.map (·.key)) = [.string ⟨#[114, 111, 111, 116]⟩, .string ⟨#[110, 101, 101, 100]⟩, .string ⟨#[98, 97, 114]⟩, .string ⟨#[97, 115, 107]⟩, .string ⟨#[98, 111, 116, 104]⟩] := rfl
    rw [this]
    simp
  · intro k v
    have key : ∀ (l : List UInt8) (n : Nat), kindNum l = n → (k = ⟨l.toArray⟩ ∧ Value.int .i64 (n : Int) = v → kindF k = some v ∨ n = 0) := by
      rintro l n rfl ⟨rfl, rfl⟩
      by_cases hz : kindNum l = 0
      · exact .inr hz
      · refine .inl ?_
        unfold kindF
        rw [if_neg hz]
    constructor
    · intro hk
      unfold kindF at hk
      split at hk
      · cases hk
      · rename_i hz
        have hv := Option.some.inj hk
        have hb := (kind_back hz)
        have hlist : ∀ l : List UInt8, k.data.toList = l → Value.string k = .string ⟨l.toArray⟩ := fun l hl => by rw [bytes_of hl]
        unfold kindNum at hv hz
        split at hv
        · rename_i e; exact ⟨⟨.string ⟨#[114, 111, 111, 116]⟩, .int .i64 1, 0⟩, by simp [kindA5], (hlist _ e).symm, hv⟩
        · split at hv
          · rename_i e; exact ⟨⟨.string ⟨#[110, 101, 101, 100]⟩, .int .i64 2, 1⟩, by simp [kindA5], (hlist _ e).symm, hv⟩
          · split at hv
            · rename_i e; exact ⟨⟨.string ⟨#[98, 97, 114]⟩, .int .i64 3, 2⟩, by simp [kindA5], (hlist _ e).symm, hv⟩
            · split at hv
              · rename_i e; exact ⟨⟨.string ⟨#[97, 115, 107]⟩, .int .i64 4, 3⟩, by simp [kindA5], (hlist _ e).symm, hv⟩
              · split at hv
                · rename_i e; exact ⟨⟨.string ⟨#[98, 111, 116, 104]⟩, .int .i64 5, 4⟩, by simp [kindA5], (hlist _ e).symm, hv⟩
                · rename_i h1 h2 h3 h4 h5
                  rw [if_neg h1, if_neg h2, if_neg h3, if_neg h4, if_neg h5] at hz
                  exact absurd rfl hz
    · rintro ⟨e, he, h1, h2⟩
      simp only [kindA5, List.mem_cons, List.not_mem_nil, or_false] at he
      have hkk : ∀ l : List UInt8, Value.string ⟨l.toArray⟩ = kStr.enc k → k = ⟨l.toArray⟩ := fun l hl => (kStr.inj (k := ⟨l.toArray⟩) (j := k) hl).symm
      rcases he with rfl | rfl | rfl | rfl | rfl
      · rw [hkk _ h1, ← h2]; rfl
      · rw [hkk _ h1, ← h2]; rfl
      · rw [hkk _ h1, ← h2]; rfl
      · rw [hkk _ h1, ← h2]; rfl
      · rw [hkk _ h1, ← h2]; rfl
theorem kindF_at (k : ByteArray) : (kindF k).getD (.int .i64 0) = .int .i64 (kindNum k.data.toList : Nat) := by
  unfold kindF
  split
  · rename_i h; rw [h]; rfl
  · rfl

theorem zero_int (w : World) : (zeroValue 3).run Tryd.prog w = .ok (.int .i64 0) w := by kernel_rfl
/-- The walk's memory: the answer's cell, the words, the row that is filled. -/
structure RowSt (w : World) (WB : List ByteArray) (r : Row) (tv : Value) (wx : World) : Prop where
  below : Below w.heap.size w wx
  res : Box 27 wx w.heap.size ⟨0, 0, 0, 0, []⟩ (.slice none 0 0)
  words : Arr 9 wx (w.heap.size + 2) (WB.map Value.string)
  box : Box 27 wx (w.heap.size + 3) r tv
theorem RowSt.keep {w wx wy : World} {WB : List ByteArray} {r : Row} {tv : Value} (h : RowSt w WB r tv wx) (hb : Below (w.heap.size + 4) wx wy) : RowSt w WB r tv wy :=
  ⟨h.below.trans (hb.mono (by omega)), h.res.keep (hb.block _ (by omega)), h.words.below hb (by omega), h.box.keep (hb.block _ (by omega))⟩
theorem RowSt.below' {w wx wy : World} {WB : List ByteArray} {r : Row} {tv : Value} (h : RowSt w WB r tv wx) (hb : Below wx.heap.size wx wy) : RowSt w WB r tv wy := h.keep (hb.mono h.box.lt)
theorem RowSt.word {w wx : World} {WB : List ByteArray} {r : Row} {tv : Value} (h : RowSt w WB r tv wx) {i : Nat} (hi : i < WB.length) : wx.cell? ⟨w.heap.size + 2, i, none⟩ = some (.string WB[i]) := by
  have := h.words.cell (i := i) (by simpa using hi)
  simpa using this
/-- Pointers to a row's numbers. -/
def ptrs (b n : Nat) : List Value := (List.range n).map fun i => .pointer (some ⟨b, 1 + i, none⟩)
theorem ptrs_get {b n i : Nat} (h : i < n) : (ptrs b n)[i]? = some (.pointer (some ⟨b, 1 + i, none⟩)) := by simp [ptrs, h]
theorem RowSt.num {w wx : World} {WB : List ByteArray} {kn : Nat} {ns : List Nat} {tv : Value} (h : RowSt w WB (rowOf kn ns []) tv wx) (hn : ns.length < 3) (x : Nat) : RowSt w WB (rowOf kn (ns ++ [x]) []) tv (wx.setCell ⟨w.heap.size + 3, 1 + ns.length, none⟩ (.int .i64 (x : Int))) := by
  refine ⟨h.below.setCell (p := ⟨w.heap.size + 3, 1 + ns.length, none⟩) (by show _ ≤ w.heap.size + 3; omega) _, h.res.keep (heap_setCell_other _ _ _ _ (by show _ ≠ w.heap.size + 3; omega)), h.words.other (by show _ ≠ w.heap.size + 3; omega) _, ?_⟩
  match ns, hn with
  | [], _ => exact h.box.set.2.1 (x : Int)
  | [a], _ => exact h.box.set.2.2.1 (x : Int)
  | [a, b], _ => exact h.box.set.2.2.2.1 (x : Int)
theorem Box.fill {eR : TypeId} {w : World} {b : Nat} {r : Row} {tv : Value} (h : Box eR w b r tv) (k u x y : Int) (ts : List Term) (tv' : Value) :
    Box eR (((((w.setCell ⟨b, 0, none⟩ (.int .i64 k)).setCell ⟨b, 1, none⟩ (.int .i64 u)).setCell ⟨b, 2, none⟩ (.int .i64 x)).setCell ⟨b, 3, none⟩ (.int .i64 y)).setCell ⟨b, 4, none⟩ tv') b ⟨k, u, x, y, ts⟩ tv' :=
  ((((h.set.1 k).set.2.1 u).set.2.2.1 x).set.2.2.2.1 y).set.2.2.2.2 tv' ts
theorem Box.keeps {w w0 : World} {B b : Nat} (h : Below B w0 w) (hb : B ≤ b) (v0 v1 v2 v3 v4 : Value) :
    Below B w0 (((((w.setCell ⟨b, 0, none⟩ v0).setCell ⟨b, 1, none⟩ v1).setCell ⟨b, 2, none⟩ v2).setCell ⟨b, 3, none⟩ v3).setCell ⟨b, 4, none⟩ v4) :=
  ((((h.setCell (p := ⟨b, 0, none⟩) hb _).setCell (p := ⟨b, 1, none⟩) hb _).setCell (p := ⟨b, 2, none⟩) hb _).setCell (p := ⟨b, 3, none⟩) hb _).setCell (p := ⟨b, 4, none⟩) hb _
theorem Box.apart {w : World} {b g : Nat} (h : g ≠ b) (v0 v1 v2 v3 v4 : Value) : (((((w.setCell ⟨b, 0, none⟩ v0).setCell ⟨b, 1, none⟩ v1).setCell ⟨b, 2, none⟩ v2).setCell ⟨b, 3, none⟩ v3).setCell ⟨b, 4, none⟩ v4).heap[g]? = w.heap[g]? := by
  rw [heap_setCell_other _ _ _ _ h, heap_setCell_other _ _ _ _ h, heap_setCell_other _ _ _ _ h, heap_setCell_other _ _ _ _ h, heap_setCell_other _ _ _ _ h]
theorem row_result {wx : World} {b : Nat} {r : Row} {tv : Value} {ok : Bool} {tmps : Array Value} (h : Box 27 wx b r tv) (h2 : tmps.getD 2 undef = .pointer (some ⟨b, 0, none⟩)) (h3 : tmps.getD 3 undef = .bool ok) :
    (results Tryd.f41 tmps).run Tryd.prog wx = .ok (.tuple #[.agg #[.int .i64 r.kind, .int .i64 r.unit, .int .i64 r.a, .int .i64 r.b, tv], .bool ok]) wx := by
  rw [results_cell_tmp rfl, h2, h3]
  have := run_loadVar_row (P := Tryd.prog) wx b 27 27 _ (0, 0) _ h Tryd.underlying27 rfl (by kernel_rfl)
  simp [asAddr, Result.andThen, this]
theorem RowSt.at {w wx : World} {WB : List ByteArray} {r : Row} {tv : Value} (h : RowSt w WB r tv wx) {i : Nat} (hi : i < 5) : (∃ v, wx.cell? ⟨w.heap.size + 3, i, none⟩ = some v) ∧ ∀ o, wx.frozen? ⟨w.heap.size + 3, o, none⟩ = false := by
  obtain ⟨⟨b0, b1, b2, b3, b4⟩, bf⟩ := h.box.cells
  refine ⟨?_, bf⟩
  match i, hi with
  | 0, _ => exact ⟨_, b0⟩
  | 1, _ => exact ⟨_, b1⟩
  | 2, _ => exact ⟨_, b2⟩
  | 3, _ => exact ⟨_, b3⟩
  | 4, _ => exact ⟨_, b4⟩
theorem allF_snoc {α β : Type} (f : α → Option β) (x : α) : ∀ {l : List α} {r : List β}, allF f l = some r → allF f (l ++ [x]) = (f x).map fun y => r ++ [y]
  | [], r, h => by
    have : r = [] := (Option.some.inj h).symm
    subst this
    simp only [List.nil_append, allF]
    cases f x <;> rfl
  | z :: l, r, h => by
    simp only [allF] at h
    cases hz : f z with
    | none => rw [hz] at h; cases h
    | some y =>
      rw [hz] at h
      cases hl : allF f l with
      | none => rw [hl] at h; cases h
      | some t =>
        rw [hl] at h
        have : r = y :: t := (Option.some.inj h).symm
        subst this
        simp only [List.cons_append, allF]
        rw [hz, allF_snoc f x hl]
        cases f x <;> rfl
theorem allF_none {α β : Type} {f : α → Option β} : ∀ {l : List α} {x : α}, x ∈ l → f x = none → allF f l = none
  | z :: l, x, hm, h => by
    simp only [allF]
    rcases List.mem_cons.1 hm with rfl | hm
    · rw [h]
    · cases f z with
      | none => rfl
      | some y => rw [allF_none hm h]
theorem allF_mem {α β : Type} {f : α → Option β} : ∀ {l : List α} {r : List β}, allF f l = some r → ∀ y ∈ r, ∃ x ∈ l, f x = some y
  | [], r, h, y, hy => by
    have : r = [] := (Option.some.inj h).symm
    subst this; cases hy
  | z :: l, r, h, y, hy => by
    simp only [allF] at h
    cases hz : f z with
    | none => rw [hz] at h; cases h
    | some u =>
      rw [hz] at h
      cases hl : allF f l with
      | none => rw [hl] at h; cases h
      | some t =>
        rw [hl] at h
        have : r = u :: t := (Option.some.inj h).symm
        subst this
        rcases List.mem_cons.1 hy with rfl | hy
        · exact ⟨z, by simp, hz⟩
        · obtain ⟨x, hx, he⟩ := allF_mem hl y hy
          exact ⟨x, by simp [hx], he⟩
theorem kind_le5 (w : List UInt8) : kindNum w ≤ 5 := by
  unfold kindNum
  repeat' split
  all_goals omega
theorem rowI_of {kn : Nat} {ns : List Nat} {ts : List Term} {l1 l2 : List (List UInt8)} (hk : kn ≤ 5) (hn : allF numberF l1 = some ns) (ht : allF termR l2 = some ts) : RowI (rowOf kn ns ts) := by
  have hi : ∀ i, I64 (ns.getD i 0 : Nat) := fun i => by
    rw [List.getD_eq_getElem?_getD]
    cases hx : ns[i]? with
    | none => exact ⟨by decide, by decide⟩
    | some n =>
      obtain ⟨x, _, hx⟩ := allF_mem hn n (List.mem_of_getElem? hx)
      have := (dec_number hx).2
      exact ⟨by show _ ≤ (n : Int); omega, by show (n : Int) ≤ _; omega⟩
  refine ⟨⟨by show _ ≤ (kn : Int); omega, by show (kn : Int) ≤ _; omega⟩, hi 0, hi 1, hi 2, fun t hm => ?_⟩
  obtain ⟨x, _, hx⟩ := allF_mem ht t hm
  obtain ⟨_, h1, h2, h3, h4⟩ := termR_back hx
  exact ⟨⟨by omega, by omega⟩, ⟨by omega, by omega⟩⟩
theorem ownsRow_low {w : World} {B B' : Nat} {e : TypeId} {s n : Nat} {v : Value} {xs : List Value} (h : w.ownsRow B' e s v n xs) (hB : B ≤ B') : w.ownsRow B e s v n xs := by
  refine ⟨h.1, ?_⟩
  rcases h.2 with hn | ⟨g, cap, cur, h1, h2, h3⟩
  · exact .inl hn
  · exact .inr ⟨g, cap, cur, h1, Nat.le_trans hB h2, h3⟩
theorem RowSt.more {w w4 : World} {WB : List ByteArray} {kn : Nat} {ns : List Nat} {ts : List Term} {tv v4 : Value} (t : Term) (h : RowSt w WB (rowOf kn ns ts) tv w4) (ho : w4.ownsRow (w.heap.size + 4) 52 2 v4 (ts.length + 1) (termCells ts ++ termCells [t])) :
    RowSt w WB (rowOf kn ns (ts ++ [t])) v4 (w4.setCell ⟨w.heap.size + 3, 4, none⟩ v4) ∧ (w4.setCell ⟨w.heap.size + 3, 4, none⟩ v4).ownsRow (w.heap.size + 4) 52 2 v4 (ts ++ [t]).length (termCells (ts ++ [t])) := by
  refine ⟨⟨h.below.setCell (p := ⟨w.heap.size + 3, 4, none⟩) (by show _ ≤ w.heap.size + 3; omega) _, h.res.keep (heap_setCell_other _ _ _ _ (by show _ ≠ w.heap.size + 3; omega)), h.words.other (by show _ ≠ w.heap.size + 3; omega) _, h.box.set.2.2.2.2 v4 (ts ++ [t])⟩, ?_⟩
  rw [termCells_append, List.length_append]
  exact ownsRow_keep ho (fun g' hg' => heap_setCell_other _ _ _ _ (by
    have := (ho.lt g' hg').1
    show g' ≠ w.heap.size + 3
    omega))
/-- What proof.number answers. -/
theorem num_any_res (l : List UInt8) : ∃ (v : Int) (ok : Bool), numRes l = .tuple #[.int .i64 v, .bool ok] ∧ ((ok = true ∧ ∃ n : Nat, numberF l = some n ∧ v = n) ∨ (ok = false ∧ numberF l = none)) := by
  unfold numRes
  cases h : numberF l with
  | none => exact ⟨_, _, rfl, .inr ⟨rfl, rfl⟩⟩
  | some n => exact ⟨_, _, rfl, .inl ⟨rfl, n, rfl, rfl⟩⟩
theorem rterm_info : (Tryd.prog.info? 52).map (fun i => (i.zero, i.size, i.bytes)) = some (some (.agg #[.int .i64 0, .int .i64 0]), 2, 16) := by kernel_rfl
theorem cut_lens (c : UInt8) (s : List UInt8) : (cutC c s).1.length ≤ s.length ∧ (cutC c s).2.1.length ≤ s.length := by
  rcases (cut_spec c s).2 with ⟨_, h2⟩ | ⟨_, h2, h3⟩
  · have := congrArg List.length h2
    simp only [List.length_append, List.length_cons] at this
    omega
  · have := congrArg List.length h2
    rw [h3]
    exact ⟨by omega, Nat.zero_le _⟩
theorem ptr_info : (Tryd.prog.info? 79).map (fun i => (i.zero, i.size, i.bytes)) = some (some (.pointer none), 1, 8) := by kernel_rfl

theorem src_made {w : World} {n : Nat} (cs : Array Value) (e : TypeId) (hn : n = w.heap.size) (m size : Nat) (news : List Value) (hs : news.length = m * size) (hc : cs.toList = news) : Src (w.alloc (.cells cs e)) (some ⟨n, 0, none⟩) m size news := by
  subst hn
  refine ⟨hs, fun _ => ⟨_, rfl, fun j u hu => ?_⟩⟩
  rw [add_mk, Nat.zero_add, World.cell?_alloc_new, ← Array.getElem?_toList, hc]
  exact hu
/-- What a line is read as. -/
def RowPost (o : Option Row) (n : Nat) (w : World) (e : Ending) (w' : World) : Prop := match o with
  | some r => ∃ A c, e = .returned (.tuple #[.agg #[.int .i64 r.kind, .int .i64 r.unit, .int .i64 r.a, .int .i64 r.b, .slice A r.terms.length c], .bool true]) ∧ w'.ownsRow w.heap.size 52 2 (.slice A r.terms.length c) r.terms.length (termCells r.terms) ∧ RowI r ∧ r.terms.length ≤ n + 1 ∧ Below w.heap.size w w'
  | none => e = .returned (.tuple #[.agg #[.int .i64 0, .int .i64 0, .int .i64 0, .int .i64 0, .slice none 0 0], .bool false]) ∧ Below w.heap.size w w'

set_option maxRecDepth 100000 in
set_option maxHeartbeats 2000000 in
theorem prow_any (s : ByteArray) (w : World) (hs : s.size ≤ 2000000) (hm : ∃ m, w.cell? ⟨0, 0, none⟩ = some (.int .i64 m)) :
    Calls Tryd.prog 41 #[.string s] w (RowPost (rowR s.data.toList) s.size w) := by
  have hmm := @run_makeMap Tryd.prog
  obtain ⟨wz, hwz⟩ : ∃ wz : World, wz = w.alloc (.cells #[.int .i64 0, .int .i64 0, .int .i64 0, .int .i64 0, .slice none 0 0] 27) := ⟨_, rfl⟩
  have hzs : wz.heap.size = w.heap.size + 1 := by rw [hwz]; simp
  have ins : ∀ (es : Array MapEntry) (c : Nat) (k : ByteArray) (n : Int), Instr.findNow .string (.string k) es.toList 0 = some none →
      (Instr.mapUpdate 63 (.map (some (w.heap.size + 1))) (.string k) (.int .i64 n)).run Tryd.prog ((w.alloc (.cells #[.int .i64 0, .int .i64 0, .int .i64 0, .int .i64 0, .slice none 0 0] 27)).alloc (.map es c)) = .ok () ((w.alloc (.cells #[.int .i64 0, .int .i64 0, .int .i64 0, .int .i64 0, .slice none 0 0] 27)).alloc (.map (es.push ⟨.string k, .int .i64 n, c⟩) (c + 1))) := fun es c k n hf => by
    have := run_insert_new (P := Tryd.prog) (w := wz) Tryd.underlying63 Tryd.underlying9 es c (.string k) (.int .i64 n) trivial hf
    rw [hzs, hwz] at this
    exact this
  have hi1 := ins #[] 0 ⟨#[114, 111, 111, 116]⟩ 1 (by rfl)
  have hi2 := ins kindA1 1 ⟨#[110, 101, 101, 100]⟩ 2 (by rfl)
  have hi3 := ins kindA2 2 ⟨#[98, 97, 114]⟩ 3 (by rfl)
  have hi4 := ins kindA3 3 ⟨#[97, 115, 107]⟩ 4 (by rfl)
  have hi5 := ins kindA4 4 ⟨#[98, 111, 116, 104]⟩ 5 (by rfl)
  clear ins hzs hwz wz
  replace hi1 : _ = Result.ok () ((w.alloc (.cells #[.int .i64 0, .int .i64 0, .int .i64 0, .int .i64 0, .slice none 0 0] 27)).alloc (.map kindA1 1)) := hi1
  replace hi2 : _ = Result.ok () ((w.alloc (.cells #[.int .i64 0, .int .i64 0, .int .i64 0, .int .i64 0, .slice none 0 0] 27)).alloc (.map kindA2 2)) := hi2
  replace hi3 : _ = Result.ok () ((w.alloc (.cells #[.int .i64 0, .int .i64 0, .int .i64 0, .int .i64 0, .slice none 0 0] 27)).alloc (.map kindA3 3)) := hi3
  replace hi4 : _ = Result.ok () ((w.alloc (.cells #[.int .i64 0, .int .i64 0, .int .i64 0, .int .i64 0, .slice none 0 0] 27)).alloc (.map kindA4 4)) := hi4
  replace hi5 : _ = Result.ok () ((w.alloc (.cells #[.int .i64 0, .int .i64 0, .int .i64 0, .int .i64 0, .slice none 0 0] 27)).alloc (.map kindA5 5)) := hi5
  have hm2 : ∀ w', Below w.heap.size w w' → ∃ m, w'.cell? ⟨0, 0, none⟩ = some (.int .i64 m) := fun w' hb => by
    obtain ⟨m, hm⟩ := hm
    have hz : 0 < w.heap.size := by
      rcases Nat.eq_zero_or_pos w.heap.size with h0 | h0
      · exfalso
        have : w.heap = #[] := Array.eq_empty_of_size_eq_zero h0
        simp [World.cell?, this] at hm
      · exact h0
    exact ⟨m, cell_below hb hz hm⟩
  have HM := hid hm
  clear hm
  go_enter Tryd.func41, Tryd.ntmps41
  go_upto_if 35 with (first
    | (go_at_call 55
       refine (split_any s 32 _ hs (hm2 _ (((Below.refl _ _).alloc (Nat.le_refl _) _).alloc (by simp) _))).mono ?_
       rintro e w1 ⟨WB, rfl, rfl, hWB⟩
       have hz2 : ((w.alloc (.cells #[.int .i64 0, .int .i64 0, .int .i64 0, .int .i64 0, .slice none 0 0] 27)).alloc (.map kindA5 5)).heap.size = w.heap.size + 2 := by simp
       rw [hz2]
       obtain ⟨W1, hW1⟩ : ∃ W1 : World, W1 = ((w.alloc (.cells #[.int .i64 0, .int .i64 0, .int .i64 0, .int .i64 0, .slice none 0 0] 27)).alloc (.map kindA5 5)).alloc (.cells (WB.map Value.string).toArray 9) := ⟨_, rfl⟩
       rw [← hW1]
       have hz1 : W1.heap.size = w.heap.size + 3 := by rw [hW1]; simp
       have HBW := hid (show Below w.heap.size w W1 by rw [hW1]; exact (((Below.refl _ _).alloc (Nat.le_refl _) _).alloc (by simp) _).alloc (by simp; omega) _)
       have HWD := hid (show Arr 9 W1 (w.heap.size + 2) (WB.map Value.string) by rw [hW1, ← hz2]; exact Arr.new _ _ _)
       have HMAP := hid (show MapF kStr W1 (w.heap.size + 1) 5 kindF by
         rw [hW1]
         refine kind_map ?_
         rw [Below.heap_alloc _ _ _ (by simp)]
         have := heap_alloc_new (w.alloc (.cells #[.int .i64 0, .int .i64 0, .int .i64 0, .int .i64 0, .slice none 0 0] 27)) (.map kindA5 5)
         simpa using this)
       have HRES := hid (show Arr 27 W1 w.heap.size [.int .i64 0, .int .i64 0, .int .i64 0, .int .i64 0, .slice none 0 0] by
         rw [hW1]
         exact ((Arr.new 27 w [.int .i64 0, .int .i64 0, .int .i64 0, .int .i64 0, .slice none 0 0]).alloc _).alloc _)
       have hwl : 0 < WB.length := by
         rw [← List.length_map (f := fun x : ByteArray => x.data.toList), hWB]
         exact List.length_pos_iff.2 (split_ne _ _)
       have hc0 : W1.cell? ⟨w.heap.size + 2, 0, none⟩ = some (.string WB[0]) := by
         have := HWD.out.cell (i := 0) (by simpa using hwl)
         simpa using this
       have HWB := hid hWB
       have hWL : WB.length ≤ s.size + 1 := by
         have h1 := (split_small 32 _ s.data.toList (Nat.lt_succ_self _)).1
         have h2 : s.data.toList.length = s.size := by simp
         rw [← List.length_map (f := fun x : ByteArray => x.data.toList), hWB]
         omega
       have HSM := hid (show ∀ x ∈ WB, x.size ≤ 2000000 by
         intro x hx
         have h1 := (split_small 32 _ s.data.toList (Nat.lt_succ_self _)).2 x.data.toList (by rw [← hWB]; exact List.mem_map_of_mem hx)
         have h2 : x.data.toList.length = x.size := by simp
         have h3 : s.data.toList.length = s.size := by simp
         omega)
       clear hWB hW1 hi1 hi2 hi3 hi4 hi5 hmm hz2)
    | (at_lookup
       refine wpList_lookup_m rfl _ _ rfl kStr Tryd.underlying63 Tryd.underlying9 (.int .i64 0) (zero_int _) (w.heap.size + 1) 5 _ rfl HMAP.out WB[0] rfl ?_
       rw [kindF_at]))
  obtain ⟨wt, hwt⟩ : ∃ wt : World, wt = (W1.alloc (.cells #[.int .i64 (kindNum WB[0].data.toList : Nat), .int .i64 0, .int .i64 0, .int .i64 0, .slice none 0 0] 27)).alloc (.cells #[.pointer (some ⟨w.heap.size + 3, 1, none⟩)] 79) := ⟨_, rfl⟩
  rw [← hwt]
  have HST := hid (show RowSt w WB (rowOf (kindNum WB[0].data.toList) [] []) (.slice none 0 0) wt by
    have hb : Below W1.heap.size W1 wt := by rw [hwt]; exact ((Below.refl _ _).alloc (Nat.le_refl _) _).alloc (by simp) _
    refine ⟨HBW.out.trans (hb.mono HBW.out.size), HRES.out.below hb (by omega), HWD.out.below hb (by omega), ?_⟩
    have := Box.new 27 W1 (rowOf (kindNum WB[0].data.toList) [] []) (.slice none 0 0)
    rw [hz1] at this
    rw [hwt]
    exact this.keep (Below.heap_alloc _ _ _ (by simp; omega)))
  have HOW := hid (show wt.ownsRow (w.heap.size + 4) 79 1 (.slice (some ⟨w.heap.size + 3 + 1, 0, none⟩) 1 1) 1 (ptrs (w.heap.size + 3) 1) by
    have := own_made (w := W1.alloc (.cells #[.int .i64 (kindNum WB[0].data.toList : Nat), .int .i64 0, .int .i64 0, .int .i64 0, .slice none 0 0] 27)) (B := w.heap.size + 4) (by simp; omega) #[.pointer (some ⟨w.heap.size + 3, 1, none⟩)] 79 1 1 (ptrs (w.heap.size + 3) 1) rfl rfl (by decide)
    rw [hwt]
    simpa [hz1] using this)
  have hzt : wt.heap.size = w.heap.size + 5 := by rw [hwt]; simp; omega
  clear hwt HBW HWD HMAP HRES
  generalize hkn : kindNum WB[0].data.toList = kn at HST ⊢
  have HKN5 := hid (show kn ≤ 5 from hkn ▸ kind_le5 _)
  have hc0' := hid hc0
  clear hc0
  go_cut [7] (fun s7 wx => ∃ g cap : Nat, s7 = .slice (some ⟨g, 0, none⟩) (needs kn - 1) cap ∧ Hid (RowSt w WB (rowOf kn [] []) (.slice none 0 0) wx) ∧ Hid (wx.ownsRow (w.heap.size + 4) 79 1 (.slice (some ⟨g, 0, none⟩) (needs kn - 1) cap) (needs kn - 1) (ptrs (w.heap.size + 3) (needs kn - 1))))
  case first =>
    by_cases h5 : kn = 5
    · have k5 : ((kn : Int) == 5) = true := by simp [h5]
      have hnd : Hid (needs kn - 1 = 3) := hid (by simp [needs, h5])
      clear h5
      obtain ⟨ii, hii⟩ := info_parts ptr_info
      have HII := hid hii
      clear hii
      go_wp2_with (first
        | (at_builtin
           refine wpList_append_src _ rfl (.tmp 36) (.tmp 39) _ rfl (w.heap.size + 4) 79 ii _ 1 8 Tryd.underlying80 HII.out.1 HII.out.2.1 HII.out.2.2.1 HII.out.2.2.2 rfl (by omega) (.slice (some ⟨w.heap.size + 3 + 1, 0, none⟩) 1 1) 1 (ptrs (w.heap.size + 3) 1) rfl (by exact HOW.out.alloc _) (some ⟨w.heap.size + 5, 0, none⟩) 2 2 [.pointer (some ⟨w.heap.size + 3, 2, none⟩), .pointer (some ⟨w.heap.size + 3, 3, none⟩)] rfl (by exact src_made _ _ hzt.symm 2 1 _ rfl rfl) (by simp [Value.oneCell']) (by decide) (by omega) (by simp; omega) ?_
           intro v1 w1 hown1 hg1 hat1
           obtain ⟨g, cap, hv, _, hgl, _, _, _, _, _⟩ := own_addr hown1 (by omega)
           subst hv
           have HO1 := hid hown1
           have HB1 := hid (show Below (w.heap.size + 4) wt w1 by
             refine ((Below.refl (w.heap.size + 4) wt).alloc (by omega) (.cells #[.pointer (some ⟨w.heap.size + 3, 2, none⟩), .pointer (some ⟨w.heap.size + 3, 3, none⟩)] 79)).grown hg1 (by simp; omega) ?_
             intro k hk
             simp only [Value.ownBlock, Option.some.injEq] at hk
             omega)
           clear hown1 hg1 hat1 hgl))
      go_meet
      refine ⟨g, cap, by rw [hnd.out], HST.out.keep HB1.out |> hid, hid ?_⟩
      rw [hnd.out]
      exact HO1.out
    · have k5 : ((kn : Int) == 5) = false := by simp; omega
      have hnd : Hid (needs kn - 1 = 1) := hid (by simp [needs, h5])
      clear h5
      go_wp2_with fail
      go_meet
      refine ⟨_, 1, by rw [hnd.out], HST, hid ?_⟩
      rw [hnd.out]
      exact HOW.out
  case rest =>
    obtain ⟨g, cap, rfl, HST1, HOW1⟩ := hcut
    clear HST HOW hzt
    have hrow := hid (show rowR s.data.toList = rowK kn (WB.map fun x => x.data.toList) by
      unfold rowR rowW
      rw [← HWB.out]
      congr 1
      rw [← hkn]
      congr 1
      match WB, hwl with
      | x :: l, _ => rfl)
    have hnd : ∃ nT, needs kn = nT + 1 ∧ 1 ≤ nT ∧ nT ≤ 3 := by
      unfold needs
      split
      · exact ⟨3, rfl, by omega, by omega⟩
      · exact ⟨1, rfl, by omega, by omega⟩
    obtain ⟨nT, hnT, hn1, hn3⟩ := hnd
    have HNT := hid hnT
    rw [show needs kn - 1 = nT by omega] at HOW1 ⊢
    clear hnT
    obtain ⟨⟨r0, r1, r2, r3, r4⟩, rf⟩ := HST1.out.res.cells
    obtain ⟨⟨b0, -, -, -, -⟩, -⟩ := HST1.out.box.cells
    replace b0 : wc.cell? ⟨w.heap.size + 3, 0, none⟩ = some (.int .i64 (kn : Int)) := b0
    by_cases h0 : kn = 0
    · have HR := hid (show rowR s.data.toList = none by
        rw [hrow.out, rowK, if_pos (.inl h0)])
      subst h0
      go_wp2_with fail
      rw [HR.out]
      exact bodyPost_ret (row_result (HST1.out.res.fill 0 0 0 0 [] _) rfl rfl) rfl ⟨rfl, Box.keeps HST1.out.below (Nat.le_refl _) _ _ _ _ _⟩
    · have k0 : ((kn : Int) == 0) = false := by simp; omega
      by_cases hl : WB.length < nT + 1
      · have HR := hid (show rowR s.data.toList = none by
          rw [hrow.out, rowK, if_pos (.inr (by rw [HNT.out, List.length_map]; exact hl))])
        have e1 : (WB.length : Int) < 1 + nT := by omega
        clear h0 hl
        go_wp2_with fail
        rw [HR.out]
        exact bodyPost_ret (row_result (HST1.out.res.fill 0 0 0 0 [] _) rfl rfl) rfl ⟨rfl, Box.keeps HST1.out.below (Nat.le_refl _) _ _ _ _ _⟩
      · have e1 : ¬ (WB.length : Int) < 1 + nT := by omega
        have HK := hid (show rowR s.data.toList = match allF numberF (((WB.map fun x => x.data.toList).drop 1).take nT), allF termR ((WB.map fun x => x.data.toList).drop (nT + 1)) with
          | some ns, some ts => some (rowOf kn ns ts)
          | _, _ => none by
            rw [hrow.out, rowK, HNT.out, if_neg (by rw [List.length_map]; omega)]
            rfl)
        clear hl h0 hrow
        go_wp2_with fail
        have HR1 := hid (And.intro r0 (And.intro r1 (And.intro r2 (And.intro r3 r4))))
        clear r0 r1 r2 r3 r4 rf b0 k0
        go_loopw [55] (fun iv wr => ∃ (k : Nat) (ns : List Nat), k ≤ nT ∧ iv = .int .i64 k ∧ ns.length = k ∧ Hid (allF numberF (((WB.map fun x => x.data.toList).drop 1).take k) = some ns) ∧ Hid (RowSt w WB (rowOf kn ns []) (.slice none 0 0) wr) ∧ Hid (wr.ownsRow (w.heap.size + 4) 79 1 (.slice (some ⟨g, 0, none⟩) nT cap) nT (ptrs (w.heap.size + 3) nT))) (fun iv _ => nT - (intOf iv).toNat)
        case atStart => exact ⟨0, [], Nat.zero_le _, rfl, rfl, hid rfl, HST1, HOW1⟩
        case round =>
          obtain ⟨k, ns, hk, rfl, hns, hall, hst, how⟩ := hrel
          by_cases hlt : k < nT
          · have hw1 : 1 + k < WB.length := by omega
            have hcw := hst.out.word hw1
            obtain ⟨gg, cc, he, _, _, hgl, _, _, hpc, _⟩ := own_addr how.out (by omega)
            injection he with he1 he2 he3
            injection he1 with he1
            injection he1 with he1
            subst he1
            have hck : wr.cell? ⟨g, k, none⟩ = some (.pointer (some ⟨w.heap.size + 3, 1 + k, none⟩)) := by rw [hpc k (by omega), ptrs_get hlt]
            have hsz := HSM.out _ (List.getElem_mem hw1)
            have i1 : (0 : Int) ≤ ↑k := by omega
            have i2 : (↑k : Int) < ↑nT := by omega
            have i3 : (0 : Int) ≤ 1 + ↑k := by omega
            have i4 : (1 + ↑k : Int) < ↑WB.length := by omega
            have i5 : (1 + ↑k : Int).toNat = 1 + k := by omega
            have HTK := hid (show ((WB.map fun x => x.data.toList).drop 1).take (k + 1) = ((WB.map fun x => x.data.toList).drop 1).take k ++ [WB[1 + k].data.toList] by
              have hh : k < ((WB.map fun x => x.data.toList).drop 1).length := by simp; omega
              rw [List.take_succ_eq_append_getElem hh]
              simp [Nat.add_comm])
            have hpc' := hid hpc
            clear hpc he2 he3
            cases hx : numberF WB[1 + k].data.toList with
            | none =>
              have HNR := hid (show numRes WB[1 + k].data.toList = .tuple #[.int .i64 0, .bool false] by unfold numRes; rw [hx])
              have HR := hid (show rowR s.data.toList = none by
                have hm : WB[1 + k].data.toList ∈ ((WB.map fun x => x.data.toList).drop 1).take nT := List.mem_iff_getElem.2 ⟨k, by simp; omega, by simp [Nat.add_comm]⟩
                rw [HK.out, allF_none hm hx])
              clear hx
              go_wp2_with (first
                | (go_at_call 56
                   refine (number_any WB[1 + k] _ hsz).mono ?_
                   rintro e w1 ⟨rfl, hb1⟩
                   rw [HNR.out]
                   have hst1 := hid (hst.out.below' hb1)
                   obtain ⟨⟨r0, r1, r2, r3, r4⟩, rf⟩ := hst1.out.res.cells))
              rw [HR.out]
              exact bodyPost_ret (row_result (hst1.out.res.fill 0 0 0 0 [] _) rfl rfl) rfl ⟨rfl, Box.keeps hst1.out.below (Nat.le_refl _) _ _ _ _ _⟩
            | some n =>
              have HNR := hid (show numRes WB[1 + k].data.toList = .tuple #[.int .i64 (n : Int), .bool true] by unfold numRes; rw [hx])
              have HX := hid hx
              clear hx
              go_wp2_with (first
                | (go_at_call 56
                   refine (number_any WB[1 + k] _ hsz).mono ?_
                   rintro e w1 ⟨rfl, hb1⟩
                   rw [HNR.out]
                   have hst1 := hid (hst.out.below' hb1)
                   have how1 := hid (ownsRow_below how.out hb1 (fun g hg => (how.out.lt g hg).2))
                   obtain ⟨⟨v1, hv1⟩, hf1⟩ := hst1.out.at (i := 1 + k) (by omega)))
              refine ⟨⟨k + 1, ns ++ [n], by omega, by go_num, by rw [List.length_append, hns]; rfl, hid ?_, hid ?_, hid ?_⟩, by simp [intOf]; omega⟩
              · rw [HTK.out, allF_snoc _ _ hall.out, HX.out]; rfl
              · have := hst1.out.num (by omega) n
                rw [hns] at this
                exact this
              · exact ownsRow_keep how1.out (fun g' hg' => heap_setCell_other _ _ _ _ (by
                  have := (how1.out.lt g' hg').1
                  show g' ≠ w.heap.size + 3
                  omega))
          · have hk' : k = nT := by omega
            subst hk'
            have hx1 : (0 : Int) ≤ 1 + ↑k := by omega
            have hx2 : (1 + ↑k : Int) ≤ ↑WB.length := by omega
            have hx3 : (1 + ↑k : Int).toNat = 1 + k := by omega
            have e1' := hid e1
            clear e1
            have HFULL := hid (show ∀ ts, allF termR ((WB.map fun x => x.data.toList).drop (k + 1)) = some ts → rowR s.data.toList = some (rowOf kn ns ts) from fun ts h => by rw [HK.out, hall.out, h])
            obtain ⟨⟨r0, r1, r2, r3, r4⟩, rf⟩ := hst.out.res.cells
            go_wp2_with fail
            · go_loopw [82] (fun iv wq => iv = .int .i64 0 ∧ wq = wr) (fun _ _ => 0)
              case atStart => exact ⟨rfl, rfl⟩
              case round =>
                obtain ⟨rfl, rfl⟩ := hrel
                obtain ⟨⟨b0, b1, b2, b3, b4⟩, bf⟩ := hst.out.box.cells
                go_wp2_with fail
                have HT0 : Hid (allF termR ((WB.map fun x => x.data.toList).drop (k + 1)) = some []) := hid (by
                  rw [List.drop_eq_nil_of_le (by rw [List.length_map]; omega)]; rfl)
                have HR := HFULL.out [] HT0.out
                rw [HR]
                exact bodyPost_ret (row_result (hst.out.res.fill _ _ _ _ [] _) rfl rfl) rfl ⟨_, _, rfl, ⟨rfl, .inl ⟨rfl, rfl⟩⟩, rowI_of HKN5.out hall.out HT0.out, Nat.zero_le _, Box.keeps hst.out.below (Nat.le_refl _) _ _ _ _ _⟩
            · have hk5 := hid (show ns.length = k from hns)
              obtain ⟨it, hit⟩ := info_parts rterm_info
              have HIT := hid hit
              clear hit
              go_loopw [82] (fun iv wq => ∃ (j : Nat) (ts : List Term) (tv : Value), 1 + k + j ≤ WB.length ∧ iv = .int .i64 j ∧ ts.length = j ∧ Hid (allF termR (((WB.map fun x => x.data.toList).drop (k + 1)).take j) = some ts) ∧ Hid (RowSt w WB (rowOf kn ns ts) tv wq) ∧ Hid (wq.ownsRow (w.heap.size + 4) 52 2 tv ts.length (termCells ts))) (fun iv _ => WB.length - (intOf iv).toNat)
              case atStart => exact ⟨0, [], _, by omega, rfl, rfl, hid rfl, hst, hid ⟨rfl, .inl ⟨rfl, rfl⟩⟩⟩
              case round =>
                obtain ⟨j, ts, tv, hj, rfl, hts, hall2, hst2, how2⟩ := hrel
                obtain ⟨TA, tcap, rfl⟩ := own_form how2.out
                by_cases hjm : 1 + k + j < WB.length
                · have hcw := hst2.out.word hjm
                  have hsz := HSM.out _ (List.getElem_mem hjm)
                  have HTK := hid (show ((WB.map fun x => x.data.toList).drop (k + 1)).take (j + 1) = ((WB.map fun x => x.data.toList).drop (k + 1)).take j ++ [WB[1 + k + j].data.toList] by
                    have hh : j < ((WB.map fun x => x.data.toList).drop (k + 1)).length := by simp; omega
                    rw [List.take_succ_eq_append_getElem hh]
                    simp [Nat.add_comm])
                  have HMEM := hid (show WB[1 + k + j].data.toList ∈ (WB.map fun x => x.data.toList).drop (k + 1) from List.mem_iff_getElem.2 ⟨j, by simp; omega, by simp [Nat.add_comm]⟩)
                  have HNONE := hid (show termR WB[1 + k + j].data.toList = none → rowR s.data.toList = none from fun h => by
                    rw [HK.out, hall.out, allF_none HMEM.out h])
                  generalize WB[1 + k + j] = W at hcw hsz HTK HMEM HNONE
                  have hm3 := hm2 _ hst2.out.below
                  have hlen := cut_lens 58 W.data.toList
                  have hWz : W.data.toList.length = W.size := by simp
                  have HTR := hid (show termR W.data.toList = match numberF (cutC 58 W.data.toList).1, numberF (cutC 58 W.data.toList).2.1 with
                    | some u, some m => some ⟨u, m⟩
                    | _, _ => none from rfl)
                  have HCUT := hid (fun w' hs hm => cut_any W 58 w' hs hm)
                  obtain ⟨v1, k1, hq1, hk1⟩ := num_any_res (cutC 58 W.data.toList).1
                  obtain ⟨v2, k2, hq2, hk2⟩ := num_any_res (cutC 58 W.data.toList).2.1
                  generalize hca : (cutC 58 W.data.toList).1 = ca at hlen HTR HCUT hq1 hk1
                  generalize hcb : (cutC 58 W.data.toList).2.1 = cb at hlen HTR HCUT hq2 hk2
                  generalize hcc : (cutC 58 W.data.toList).2.2 = cf at HCUT
                  clear hca hcb hcc
                  have hla : (⟨ca.toArray⟩ : ByteArray).size ≤ 2000000 := by show ca.toArray.size ≤ _; simp; omega
                  have hlb : (⟨cb.toArray⟩ : ByteArray).size ≤ 2000000 := by show cb.toArray.size ≤ _; simp; omega
                  have hq1' := hid hq1
                  have hq2' := hid hq2
                  have tok := hid True.intro
                  clear hq1 hq2
                  have x1 : (↑j : Int) < ↑WB.length - (1 + ↑k) := by omega
                  have x2 : (↑j : Int) < ↑(WB.length - (1 + k)) := by omega
                  go_upto_region 23 with (first
                    | (go_at_call 40
                       refine (HCUT.out _ hsz hm3).mono ?_
                       rintro e w1 ⟨rfl, n1, hn1⟩
                       have hd1 : Below wr.heap.size wr w1 := by rw [hn1]; exact below_drewN (Below.refl _ _) n1
                       clear hn1)
                    | (go_at_call 56
                       clear tok
                       refine (number_any ⟨ca.toArray⟩ _ hla).mono ?_
                       rintro e w2 ⟨rfl, hb2⟩
                       rw [show (⟨ca.toArray⟩ : ByteArray).data.toList = ca from rfl, hq1'.out]
                       have hd2 : Below wr.heap.size wr w2 := hd1.trans (hb2.mono hd1.size)
                       clear hb2)
                    | (go_at_call 56
                       refine (number_any ⟨cb.toArray⟩ _ hlb).mono ?_
                       rintro e w3 ⟨rfl, hb3⟩
                       rw [show (⟨cb.toArray⟩ : ByteArray).data.toList = cb from rfl, hq2'.out]
                       have hd3 : Below wr.heap.size wr w3 := hd2.trans (hb3.mono hd2.size)
                       clear hb3))
                  have hst3 := hid (hst2.out.below' hd3)
                  have how3 := hid (ownsRow_below how2.out hd3 (fun g hg => (how2.out.lt g hg).2))
                  have hz3 : w.heap.size + 4 ≤ w3.heap.size := hst3.out.box.lt
                  clear hcw hd1 hd2 hd3 r0 r1 r2 r3 r4 rf
                  obtain ⟨⟨r0, r1, r2, r3, r4⟩, rf⟩ := hst3.out.res.cells
                  cases k1 with
                  | false =>
                    have HR := hid (HNONE.out (by
                      rw [HTR.out]
                      rcases hk1 with ⟨h, _⟩ | ⟨_, h⟩
                      · cases h
                      · rw [h]))
                    clear hk1 hk2
                    go_wp2_with fail
                    rw [HR.out]
                    exact bodyPost_ret (row_result (hst3.out.res.fill 0 0 0 0 [] _) rfl rfl) rfl ⟨rfl, Box.keeps hst3.out.below (Nat.le_refl _) _ _ _ _ _⟩
                  | true =>
                    obtain ⟨m1, hm1, rfl⟩ : ∃ n : Nat, numberF ca = some n ∧ v1 = n := by
                      rcases hk1 with ⟨_, h⟩ | ⟨h, _⟩
                      · exact h
                      · cases h
                    cases k2 with
                    | false =>
                      have HR := hid (HNONE.out (by
                        rw [HTR.out, hm1]
                        rcases hk2 with ⟨h, _⟩ | ⟨_, h⟩
                        · cases h
                        · rw [h]))
                      clear hk1 hk2 hm1
                      go_wp2_with fail
                      rw [HR.out]
                      exact bodyPost_ret (row_result (hst3.out.res.fill 0 0 0 0 [] _) rfl rfl) rfl ⟨rfl, Box.keeps hst3.out.below (Nat.le_refl _) _ _ _ _ _⟩
                    | true =>
                      obtain ⟨m2, hm4, rfl⟩ : ∃ n : Nat, numberF cb = some n ∧ v2 = n := by
                        rcases hk2 with ⟨_, h⟩ | ⟨h, _⟩
                        · exact h
                        · cases h
                      have HT := hid (show termR W.data.toList = some ⟨m1, m2⟩ by rw [HTR.out, hm1, hm4])
                      clear hk1 hk2 hm1 hm4 r0 r1 r2 r3 r4 rf
                      obtain ⟨⟨-, -, -, -, b4⟩, bf⟩ := hst3.out.box.cells
                      have hTL : ts.length ≤ 2000001 := by omega
                      have HTS := hid hts
                      clear hts
                      go_wp2_with (first
                        | (at_builtin
                           refine wpList_append_src _ rfl (.tmp 110) (.tmp 114) _ rfl (w.heap.size + 4) 52 it _ 2 16 Tryd.underlying25 HIT.out.1 HIT.out.2.1 HIT.out.2.2.1 HIT.out.2.2.2 rfl (by omega) (.slice TA ts.length tcap) ts.length (termCells ts) rfl (by exact how3.out.alloc _) (some ⟨w3.heap.size, 0, none⟩) 1 1 (termCells [⟨m1, m2⟩]) rfl (by exact src_new _ _ rfl 2 _ rfl rfl) termCells_one (by unfold maxLen; omega) (by omega) (by simp; omega) ?_
                           intro v4 w4 hown4 hg4 _
                           have hB4 : Below (w.heap.size + 4) w3 w4 := Below.grown ((Below.refl _ _).alloc hz3 _) hg4 (by simp; omega) (fun k hk => (how3.out.lt k hk).1)
                           have hst4 := hid (hst3.out.keep hB4)
                           obtain ⟨A4, c4, rfl⟩ := own_form hown4
                           obtain ⟨⟨x4, hx4⟩, hf4⟩ := hst4.out.at (i := 4) (by omega)
                           have how4 := hid hown4
                           clear hown4 hg4 hB4))
                      obtain ⟨n1, n2⟩ := hst4.out.more ⟨m1, m2⟩ how4.out
                      exact ⟨⟨j + 1, ts ++ [⟨m1, m2⟩], _, by omega, by go_num, by simp [HTS.out], hid (by rw [HTK.out, allF_snoc _ _ hall2.out, HT.out]; rfl), hid n1, hid n2⟩, by simp [intOf]; omega⟩
                · have x1 : ¬ (↑j : Int) < ↑WB.length - (1 + ↑k) := by omega
                  have x2 : ¬ (↑j : Int) < ↑(WB.length - (1 + k)) := by omega
                  have HT := hid (show allF termR ((WB.map fun x => x.data.toList).drop (k + 1)) = some ts by
                    rw [← hall2.out, List.take_of_length_le (by simp; omega)])
                  have HJ := hid (show ts.length ≤ s.size + 1 by omega)
                  clear hjm hj hts r0 r1 r2 r3 r4 rf
                  obtain ⟨⟨r0, r1, r2, r3, r4⟩, rf⟩ := hst2.out.res.cells
                  obtain ⟨⟨b0, b1, b2, b3, b4⟩, bf⟩ := hst2.out.box.cells
                  go_wp2_with fail
                  rw [HFULL.out ts HT.out]
                  refine bodyPost_ret (row_result (hst2.out.res.fill _ _ _ _ ts _) rfl rfl) rfl ⟨_, _, rfl, ?_, rowI_of HKN5.out hall.out HT.out, HJ.out, Box.keeps hst2.out.below (Nat.le_refl _) _ _ _ _ _⟩
                  exact ownsRow_low (ownsRow_keep how2.out (fun g' hg' => Box.apart (by have := (how2.out.lt g' hg').1; omega) _ _ _ _ _)) (by omega)
end Go.Proofs.YtlinabifalfddaaDoor
