/- The parser's memory; contracts: parser.now, take, put. -/
import Derived.Test.YtmdnleafpmondaaDoorzU
import Derived.Test.YtmdnleafpmondaaDoorU6
import Derived.Test.YtmdnleafpmondaaDoorzS
import Derived.Deep.DeepMust
namespace Go.Proofs.YtmdnleafpmondaaDoor
open Go Go.RowKit

structure PAt (w : World) (pb : Nat) (wv nv : Value) (ws : List ByteArray) (ns : List Node) (bad : Bool) : Prop where
  box : Arr 54 w pb [wv, nv, .bool bad]
  words : SliceRd tStr w (Lt pb) wv ws
  nodes : OwnF fNode 49 (pb + 1) w nv ns
/-- From one state of a parser to another: what else there is stays. -/
structure PTo (w w' : World) (pb : Nat) (nv nv' : Value) : Prop where
  below : Below pb w w'
  size : w.heap.size ≤ w'.heap.size
  kept : ∀ k, k < w.heap.size → k ≠ pb → nv.ownBlock ≠ some k → w'.heap[k]? = w.heap[k]?
  own : nv'.ownBlock = nv.ownBlock ∨ ∃ g, nv'.ownBlock = some g ∧ w.heap.size ≤ g
theorem PTo.refl (w : World) (pb : Nat) (h : pb < w.heap.size) (nv : Value) : PTo w w pb nv nv := ⟨(b0 w).mono (by omega), Nat.le_refl _, fun _ _ _ _ => rfl, .inl rfl⟩
theorem PTo.trans {w w1 w2 : World} {pb : Nat} {nv nv1 nv2 : Value} (h : PTo w w1 pb nv nv1) (h2 : PTo w1 w2 pb nv1 nv2) : PTo w w2 pb nv nv2 := by
  refine ⟨h.below.trans h2.below, Nat.le_trans h.size h2.size, fun k hk hp ho => ?_, ?_⟩
  · rw [h2.kept k (Nat.lt_of_lt_of_le hk h.size) hp ?_, h.kept k hk hp ho]
    rcases h.own with e | ⟨g, e, hg⟩
    · rw [e]; exact ho
    · rw [e]; intro h'; injection h' with h'; omega
  · rcases h2.own with e | ⟨g, e, hg⟩
    · rcases h.own with e1 | ⟨g, e1, hg⟩
      · exact .inl (e.trans e1)
      · exact .inr ⟨g, e.trans e1, hg⟩
    · exact .inr ⟨g, e, Nat.le_trans h.size hg⟩
theorem PTo.later {w w1 w2 : World} {pb : Nat} {nv nv1 : Value} (h : PTo w w1 pb nv nv1) (hb : Below w1.heap.size w1 w2) (hp : pb < w.heap.size) : PTo w w2 pb nv nv1 :=
  ⟨h.below.trans (hb.mono (by have := h.size; omega)), Nat.le_trans h.size hb.size, fun k hk hp ho => (hb.block k (Nat.lt_of_lt_of_le hk h.size)).trans (h.kept k hk hp ho), h.own⟩
theorem PAt.lt {w : World} {pb : Nat} {wv nv : Value} {ws : List ByteArray} {ns : List Node} {bad : Bool} (h : PAt w pb wv nv ws ns bad) : pb < w.heap.size := h.box.lt
theorem PAt.later {w w' : World} {pb : Nat} {wv nv : Value} {ws : List ByteArray} {ns : List Node} {bad : Bool} (h : PAt w pb wv nv ws ns bad) (hb : Below w.heap.size w w') : PAt w' pb wv nv ws ns bad :=
  ⟨h.box.below hb h.lt, (h.words.keep (Keeps.of_below hb fun _k hk => Nat.lt_trans hk h.lt)), h.nodes.below hb (Nat.le_refl _)⟩
theorem PAt.drew {w : World} {pb : Nat} {wv nv : Value} {ws : List ByteArray} {ns : List Node} {bad : Bool} (h : PAt w pb wv nv ws ns bad) : PAt w.drew pb wv nv ws ns bad := h.later (b0 w).drew
/-- The word that comes. -/
def headW (ws : List ByteArray) : ByteArray := ws.headD ByteArray.empty

set_option maxRecDepth 100000 in
theorem now_any (w : World) (pb : Nat) (wv nv : Value) (ws : List ByteArray) (ns : List Node) (bad : Bool) (h : PAt w pb wv nv ws ns bad) :
    Calls Tryd.prog 59 #[.pointer (some ⟨pb, 0, none⟩)] w fun e w' => e = .returned (.string (headW ws)) ∧ w' = w := by
  have hbx := h.box.cell (i := 0) (by simp)
  obtain ⟨A, cap, rfl, hcap, hmax, hc⟩ := h.words.strs
  have HC := hid hc
  clear h hc
  unfold maxLen at hmax
  simp only [List.getElem_cons_zero] at hbx
  cases ws with
  | nil =>
    go_enter Tryd.func59, Tryd.ntmps59
    go_wp2
    go_ret
    exact ⟨rfl, rfl⟩
  | cons s r =>
    obtain ⟨g, o, rfl, hF, g0, -⟩ := HC.out 0 (by simp)
    simp only [Nat.add_zero, List.getElem_cons_zero] at g0
    simp only [List.length_cons] at hbx hcap ⊢
    have c0 : (((r.length + 1 : Nat) : Int) == 0) = false := by rw [beq_eq_false_iff_ne]; omega
    have i2 : (0 : Int) < ((r.length + 1 : Nat) : Int) := by omega
    generalize r.length + 1 = n at *
    go_enter Tryd.func59, Tryd.ntmps59
    go_wp2
    go_ret
    exact ⟨rfl, rfl⟩
/-- A word was taken, or there was none. -/
def TakePost (w : World) (pb : Nat) (_wv nv : Value) (ws : List ByteArray) (ns : List Node) (bad : Bool) (e : Ending) (w' : World) : Prop :=
  ∃ wv', e = .returned (.string (headW ws)) ∧ PTo w w' pb nv nv ∧ PAt w' pb wv' nv (if headW ws = ByteArray.empty then ws else ws.tail) ns (if headW ws = ByteArray.empty then true else bad)
theorem PAt.set {w : World} {pb : Nat} {wv nv wv' nv' : Value} {ws ws' : List ByteArray} {ns : List Node} {bad bad' : Bool} (h : PAt w pb wv nv ws ns bad) {i : Nat} {x : Value} (hx : [wv, nv, Value.bool bad].set i x = [wv', nv', .bool bad']) (hw : SliceRd tStr w (Lt pb) wv' ws') (hn : nv' = nv) : PAt (w.setCell ⟨pb, i, none⟩ x) pb wv' nv' ws' ns bad' := by
  subst hn
  refine ⟨(h.box.set i x).congr hx, hw.keep fun k hk => heap_setCell_other _ _ _ _ (by have : k < pb := hk; show k ≠ pb; omega), ⟨ownsRow_keep h.nodes.1 fun g hg => heap_setCell_other _ _ _ _ (by have := (h.nodes.lt g hg).1; show g ≠ pb; omega), h.nodes.2⟩⟩
theorem PTo.set (w : World) (pb : Nat) (i : Nat) (x nv : Value) (h : pb < w.heap.size) : PTo w (w.setCell ⟨pb, i, none⟩ x) pb nv nv :=
  ⟨((b0 w).mono (show pb ≤ w.heap.size by omega)).setCell (p := ⟨pb, i, none⟩) (Nat.le_refl _) x, by simp, fun k _ hp _ => heap_setCell_other _ _ _ _ hp, .inl rfl⟩

set_option maxRecDepth 100000 in
set_option maxHeartbeats 1000000 in
theorem take_any (w : World) (pb : Nat) (wv nv : Value) (ws : List ByteArray) (ns : List Node) (bad : Bool) (h : PAt w pb wv nv ws ns bad) :
    Calls Tryd.prog 60 #[.pointer (some ⟨pb, 0, none⟩)] w (TakePost w pb wv nv ws ns bad) := by
  have H := hid h
  have HN := hid (now_any w pb wv nv ws ns bad h)
  have hbx := h.box.cell (i := 0) (by simp)
  have hbx2 := h.box.cell (i := 2) (by simp)
  have hfr := h.box.free
  simp only [List.getElem_cons_zero, List.getElem_cons_succ] at hbx hbx2
  rcases empty_eq (headW ws) with ⟨he, pe⟩ | ⟨he, pe⟩
  · replace pe := hid pe
    clear h
    obtain ⟨s, hs⟩ : ∃ s, s = headW ws := ⟨_, rfl⟩
    rw [← hs] at he HN
    replace hs := hid hs
    go_enter Tryd.func60, Tryd.ntmps60
    go_wp2_with (first | (go_at_call 59; refine HN.out.mono ?_; rintro e w1 ⟨rfl, rfl⟩))
    go_ret
    refine ⟨wv, by rw [pe.out]; rfl, PTo.set _ _ _ _ _ H.out.lt, ?_⟩
    rw [if_pos pe.out, if_pos pe.out]
    exact H.out.set rfl H.out.words rfl
  · cases ws with
    | nil => exact absurd rfl pe
    | cons s r =>
      obtain ⟨A, cap, hv, hcap, hmax, hc⟩ := h.words.strs
      subst hv
      obtain ⟨g, o, hA, hF, g0, -⟩ := hc 0 (by simp)
      subst hA
      have HCUT := hid (fun (A' : Option Addr) (hA : A' = some ⟨g, o + 1, none⟩ ∨ r.length = 0) => h.words.cutS 1 (r.length + 1) (by omega) (by simp) (cap - 1) (by simp only [List.length_cons] at hcap; omega) (by omega) A' (fun g' o' h1 h2 => by
        rcases hA with hA | hA
        · injection h1 with h1; injection h1 with h1 h3; subst h1; subst h3; exact hA
        · omega))
      simp only [List.length_cons] at hbx hcap HN H HCUT ⊢
      unfold maxLen at hmax
      replace pe := hid pe
      clear h hc
      have i1 : (1 : Int) ≤ ((r.length + 1 : Nat) : Int) := by omega
      go_enter Tryd.func60, Tryd.ntmps60
      go_wp2_with (first | (go_at_call 59; refine HN.out.mono ?_; rintro e w1 ⟨rfl, rfl⟩))
      all_goals go_ret
      · refine ⟨.slice (some ⟨g, o, none⟩) r.length 0, rfl, PTo.set _ _ _ _ _ H.out.lt, ?_⟩
        rw [if_neg pe.out, if_neg pe.out]
        have h1 := HCUT.out (some ⟨g, o, none⟩) (.inr (by omega))
        rw [show cap - 1 = 0 by omega] at h1
        simp at h1
        exact H.out.set (nv' := nv) rfl h1 rfl
      · refine ⟨.slice (some ⟨g, o + 1, none⟩) r.length (cap - 1), rfl, PTo.set _ _ _ _ _ H.out.lt, ?_⟩
        rw [if_neg pe.out, if_neg pe.out]
        have h1 := HCUT.out (some ⟨g, o + 1, none⟩) (.inl rfl)
        simp at h1
        exact H.out.set (nv' := nv) rfl h1 rfl
def nodeV (n : Node) : Value := .agg #[.int .i64 n.op, .int .i64 n.a, .int .i64 n.b, .int .i64 n.key, .string n.text]
def PutPost (w : World) (pb : Nat) (wv nv : Value) (ws : List ByteArray) (ns : List Node) (bad : Bool) (n : Node) (e : Ending) (w' : World) : Prop :=
  ∃ nv', e = .returned (.int .i64 ns.length) ∧ PTo w w' pb nv nv' ∧ PAt w' pb wv nv' ws (ns ++ [n]) bad
theorem node_info : (Tryd.prog.info? 49).map (fun i => (i.zero, i.size, i.bytes)) = some (some (.agg #[.int .i64 0, .int .i64 0, .int .i64 0, .int .i64 0, .string ⟨#[]⟩]), 5, 48) := by kernel_rfl
theorem put_box {w w3 w4 : World} {pb : Nat} {wv nv : Value} {ws : List ByteArray} {ns : List Node} {bad : Bool} (h : PAt w pb wv nv ws ns bad) (hb : Below w.heap.size w w3) (hg : w3.grownBy w4 nv.ownBlock) : Arr 54 w4 pb [wv, nv, .bool bad] :=
  (h.box.below hb h.lt).keep (hg.block pb (Nat.lt_of_lt_of_le h.lt hb.size) (fun e => by have := (h.nodes.lt pb e.symm).1; omega))
theorem put_done {w w3 w4 : World} {pb : Nat} {wv nv v4 : Value} {ws : List ByteArray} {ns : List Node} {bad : Bool} {n : Node} (h : PAt w pb wv nv ws ns bad) (hb : Below w.heap.size w w3) (hg : w3.grownBy w4 nv.ownBlock)
    (ho : w4.ownsRow (pb + 1) 49 5 v4 (ns.length + 1) (fNode.all ns ++ fNode.cells n)) (hn : v4.ownBlock = nv.ownBlock ∨ v4.ownBlock = some w3.heap.size) (hok : fNode.ok n) :
    PTo w (w4.setCell ⟨pb, 1, none⟩ v4) pb nv v4 ∧ PAt (w4.setCell ⟨pb, 1, none⟩ v4) pb wv v4 ws (ns ++ [n]) bad := by
  have hlt := h.lt
  have hs3 := hb.size
  have hs4 := hg.size
  have hbox := put_box h hb hg
  have hk : ∀ k, k < w.heap.size → nv.ownBlock ≠ some k → w4.heap[k]? = w.heap[k]? := fun k hk ho => (hg.block k (by omega) (fun e => ho e.symm)).trans (hb.block k hk)
  have hkp : ∀ k, k < pb → w4.heap[k]? = w.heap[k]? := fun k hk' => hk k (by omega) (fun e => by have := (h.nodes.lt k e).1; omega)
  have hset : ∀ k, k ≠ pb → (w4.setCell ⟨pb, 1, none⟩ v4).heap[k]? = w4.heap[k]? := fun k hk => heap_setCell_other _ _ _ _ hk
  have hbw : Below pb w w4 := (hb.mono (by omega)).grown hg (by omega) (fun k e => by have := (h.nodes.lt k e).1; omega)
  refine ⟨⟨hbw.setCell (p := ⟨pb, 1, none⟩) (Nat.le_refl _) _, by simp; omega, fun k hk1 hp ho1 => (hset k hp).trans (hk k hk1 ho1), ?_⟩, ⟨(hbox.set 1 v4).congr rfl, h.words.keep fun k hk1 => (hset k (by have : k < pb := hk1; omega)).trans (hkp k hk1), ?_⟩⟩
  · rcases hn with e | e
    · exact .inl e
    · exact .inr ⟨_, e, hs3⟩
  · exact (OwnF.snoc (f := fNode) h.nodes hok (ownsRow_keep ho fun g hg1 => hset g (by have := (ho.lt g hg1).1; omega)))

set_option maxRecDepth 100000 in
set_option maxHeartbeats 2000000 in
theorem put_any (w : World) (pb : Nat) (wv nv : Value) (ws : List ByteArray) (ns : List Node) (bad : Bool) (n : Node) (h : PAt w pb wv nv ws ns bad) (hn : fNode.ok n) (hl : ns.length ≤ 1000) :
    Calls Tryd.prog 53 #[.pointer (some ⟨pb, 0, none⟩), nodeV n] w (PutPost w pb wv nv ws ns bad n) := by
  have H := hid h
  have HN := hid hn
  obtain ⟨ii, hii⟩ := info_parts node_info
  have HII := hid hii
  clear hii
  obtain ⟨A, c, rfl⟩ := h.nodes.form
  have hlt := h.lt
  have c1 := h.box.cell (i := 1) (by simp)
  simp only [List.getElem_cons_zero, List.getElem_cons_succ] at c1
  clear h hn
  unfold nodeV
  go_enter Tryd.func53, Tryd.ntmps53
  go_wp2_with fail
  have HB0 := hid (balloc (b0 w) (.cells #[.int .i64 n.op, .int .i64 n.a, .int .i64 n.b, .int .i64 n.key, .string n.text] 49))
  go_region_law ((first
    | (refine step_guard (.tmp 9) (.tmp 11) 23 rfl ?_
       refine step_append_src _ rfl (.tmp 9) (.tmp 11) 23 rfl (pb + 1) 49 ii _ 5 48 Tryd.underlying23 HII.out.1 HII.out.2.1 HII.out.2.2.1 HII.out.2.2.2 rfl (by omega) (.slice A ns.length c) ns.length (fNode.all ns) (by rfl) (by first | exact (H.out.nodes.1.alloc _).alloc _ | exact own_alloc_drew (H.out.nodes.1.alloc _) _) _ 1 1 (fNode.cells n) (by rfl) (by first | exact src_new _ _ (by simp) 5 (fNode.cells n) rfl rfl | exact src_new_drew _ _ (by simp) 5 (fNode.cells n) rfl rfl) (by simp [fNode, Value.oneCell']) (by unfold maxLen; omega) (by omega) (by simp; omega) ?_
       intro v4 w4 hown4 hg4 hat4
       have hbx4 := put_box H.out (by first | exact (balloc HB0.out _).drew | exact balloc HB0.out _ | exact balloc HB0.out.drew _) hg4
       have f4 := hbx4.free
       have c4 := hbx4.cell (i := 1) (by simp)
       simp only [List.getElem_cons_zero, List.getElem_cons_succ] at c4
       obtain ⟨A4, cc4, rfl⟩ := own_form hown4)))
  all_goals
    have hd4 := put_done H.out (by first | exact (balloc HB0.out _).drew | exact balloc HB0.out _ | exact balloc HB0.out.drew _) hg4 hown4 (by simpa using hat4) HN.out
    have bx5 := hd4.2.box.cell (i := 1) (by simp)
    simp only [List.getElem_cons_zero, List.getElem_cons_succ] at bx5
    have HD4 := hid hd4
    clear hd4 hown4 hat4 hg4 hbx4 c4 f4
    go_wp2
    go_ret
    exact ⟨_, rfl, HD4.out.1, HD4.out.2⟩
end Go.Proofs.YtmdnleafpmondaaDoor
