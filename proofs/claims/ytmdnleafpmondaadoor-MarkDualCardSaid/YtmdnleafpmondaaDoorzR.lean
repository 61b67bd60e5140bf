import Derived.Test.YtmdnleafpmondaaDoorU12
import Derived.Test.YtmdnleafpmondaaDoorU4
section
/- The reader's memory; contracts: reader.next, take, put. -/
namespace Go.Proofs.YtmdnleafpmondaaDoor
open Go Go.RowKit

structure RBox (w : World) (pb : Nat) (wv nv : Value) (WS : List ByteArray) (at' : Nat) (ns : List Node) (bad : Bool) : Prop where
  box : Arr 59 w pb [wv, .int .i64 at', nv, .bool bad]
  words : SliceRd tStr w (Lt pb) wv WS
  nodes : OwnF fNode 49 (pb + 1) w nv ns
  le : at' ≤ WS.length
theorem RBox.lt {w : World} {pb at' : Nat} {wv nv : Value} {WS : List ByteArray} {ns : List Node} {bad : Bool} (h : RBox w pb wv nv WS at' ns bad) : pb < w.heap.size := h.box.lt
theorem RBox.later {w w' : World} {pb at' : Nat} {wv nv : Value} {WS : List ByteArray} {ns : List Node} {bad : Bool} (h : RBox w pb wv nv WS at' ns bad) (hb : Below w.heap.size w w') : RBox w' pb wv nv WS at' ns bad :=
  ⟨h.box.below hb h.lt, (h.words.keep (Keeps.of_below hb fun _k hk => Nat.lt_trans hk h.lt)), h.nodes.below hb (Nat.le_refl _), h.le⟩
theorem RBox.set {w : World} {pb at' : Nat} {wv nv : Value} {WS : List ByteArray} {at2 : Nat} {ns : List Node} {bad bad' : Bool} (h : RBox w pb wv nv WS at' ns bad) {i : Nat} {x : Value} (hx : [wv, .int .i64 at', nv, Value.bool bad].set i x = [wv, .int .i64 at2, nv, .bool bad']) (hl : at2 ≤ WS.length) : RBox (w.setCell ⟨pb, i, none⟩ x) pb wv nv WS at2 ns bad' :=
  ⟨(h.box.set i x).congr hx, h.words.keep fun k hk => heap_setCell_other _ _ _ _ (by have : k < pb := hk; show k ≠ pb; omega), ⟨ownsRow_keep h.nodes.1 fun g hg => heap_setCell_other _ _ _ _ (by have := (h.nodes.lt g hg).1; show g ≠ pb; omega), h.nodes.2⟩, hl⟩
/-- A reader before some words. -/
def RAt (w : World) (pb : Nat) (wv nv : Value) (ws : List ByteArray) (ns : List Node) (bad : Bool) : Prop := ∃ WS at', RBox w pb wv nv WS at' ns bad ∧ ws = WS.drop at' ∧ WS.length ≤ 100000
theorem RAt.lt {w : World} {pb : Nat} {wv nv : Value} {ws : List ByteArray} {ns : List Node} {bad : Bool} (h : RAt w pb wv nv ws ns bad) : pb < w.heap.size := by obtain ⟨_, _, h, _⟩ := h; exact h.lt
theorem RAt.later {w w' : World} {pb : Nat} {wv nv : Value} {ws : List ByteArray} {ns : List Node} {bad : Bool} (h : RAt w pb wv nv ws ns bad) (hb : Below w.heap.size w w') : RAt w' pb wv nv ws ns bad := by
  obtain ⟨WS, at', h, e⟩ := h
  exact ⟨WS, at', h.later hb, e⟩
theorem RAt.bad {w : World} {pb : Nat} {wv nv : Value} {ws : List ByteArray} {ns : List Node} {bad : Bool} (h : RAt w pb wv nv ws ns bad) : RAt (w.setCell ⟨pb, 3, none⟩ (.bool true)) pb wv nv ws ns true := by
  obtain ⟨WS, at', h, e⟩ := h
  exact ⟨WS, at', h.set rfl h.le, e⟩
theorem RAt.cell3 {w : World} {pb : Nat} {wv nv : Value} {ws : List ByteArray} {ns : List Node} {bad : Bool} (h : RAt w pb wv nv ws ns bad) : w.cell? ⟨pb, 3, none⟩ = some (.bool bad) := by
  obtain ⟨WS, at', h, e⟩ := h
  have := h.box.cell (i := 3) (by simp)
  simpa using this
theorem RAt.free {w : World} {pb : Nat} {wv nv : Value} {ws : List ByteArray} {ns : List Node} {bad : Bool} (h : RAt w pb wv nv ws ns bad) (o : Nat) : w.frozen? ⟨pb, o, none⟩ = false := by
  obtain ⟨WS, at', h, e⟩ := h
  exact h.box.free o
theorem RAt.nodesF {w : World} {pb : Nat} {wv nv : Value} {ws : List ByteArray} {ns : List Node} {bad : Bool} (h : RAt w pb wv nv ws ns bad) : OwnF fNode 49 (pb + 1) w nv ns := by obtain ⟨_, _, h, _⟩ := h; exact h.nodes
/-- Is this the word that comes? -/
def isNext (ws : List ByteArray) (s : ByteArray) : Bool := match ws with | [] => false | w :: _ => decide (w = s)
theorem isNext_t {ws : List ByteArray} {s : ByteArray} (h : isNext ws s = true) : ∃ r, ws = s :: r := by
  cases ws with
  | nil => cases h
  | cons w r => have := of_decide_eq_true h; subst this; exact ⟨r, rfl⟩
theorem isNext_f {ws : List ByteArray} {s : ByteArray} (h : isNext ws s = false) : headW ws ≠ s ∨ ws = [] := by
  cases ws with
  | nil => exact .inr rfl
  | cons w r => exact .inl (of_decide_eq_false h)
def NextPost (w : World) (pb : Nat) (wv nv : Value) (ws : List ByteArray) (ns : List Node) (bad : Bool) (s : ByteArray) (e : Ending) (w' : World) : Prop :=
  e = .returned (.bool (isNext ws s)) ∧ PTo w w' pb nv nv ∧ RAt w' pb wv nv (if isNext ws s = true then ws.tail else ws) ns bad
theorem PTo.drewN {w : World} {pb : Nat} (h : pb < w.heap.size) (nv : Value) (n : Nat) : PTo w (w.drewN n) pb nv nv := ⟨below_drewN ((b0 w).mono (by omega)) n, Nat.le_refl _, fun _ _ _ _ => rfl, .inl rfl⟩
theorem RBox.drewN {w : World} {pb at' : Nat} {wv nv : Value} {WS : List ByteArray} {ns : List Node} {bad : Bool} (h : RBox w pb wv nv WS at' ns bad) (n : Nat) : RBox (w.drewN n) pb wv nv WS at' ns bad := h.later (below_drewN (b0 w) n)

set_option maxRecDepth 100000 in
set_option maxHeartbeats 2000000 in
theorem next_any (w : World) (pb : Nat) (wv nv : Value) (ws : List ByteArray) (ns : List Node) (bad : Bool) (s : ByteArray) (h : RAt w pb wv nv ws ns bad) :
    Calls Tryd.prog 47 #[.pointer (some ⟨pb, 0, none⟩), .string s] w (NextPost w pb wv nv ws ns bad s) := by
  obtain ⟨WS, a, h, rfl, hWS⟩ := h
  have H := hid h
  have c0 := h.box.cell (i := 0) (by simp)
  have c1 := h.box.cell (i := 1) (by simp)
  have hfr := h.box.free
  simp only [List.getElem_cons_zero, List.getElem_cons_succ] at c0 c1
  obtain ⟨A, cap, rfl, hcap, hmax, hc⟩ := h.words.strs
  have HC := hid hc
  have hle := h.le
  unfold maxLen at hmax
  clear h hc
  by_cases hlt : a < WS.length
  · obtain ⟨g, o, rfl, hF, g0, -⟩ := HC.out a hlt
    have hd : WS.drop a = WS[a] :: WS.drop (a + 1) := by rw [List.drop_eq_getElem_cons hlt]
    have HD := hid hd
    have i1 : (0 : Int) ≤ ↑a := by omega
    have i2 := decide_eq_true (show (↑a : Int) < ↑WS.length by omega)
    have i2' := decide_eq_true hlt
    have i3 : (↑a : Int) < ↑WS.length := by omega
    obtain ⟨t, ht⟩ : ∃ t, t = WS[a] := ⟨_, rfl⟩
    rw [← ht] at g0 HD
    clear hd ht
    by_cases hs : t = s
    · have e1 := eqS_t hs
      replace hs := hid hs
      have HIS : Hid (isNext (WS.drop a) s = true) := hid (by rw [HD.out]; exact decide_eq_true hs.out)
      go_enter Tryd.func47, Tryd.ntmps47
      go_wp2_with fail
      go_quiet (fail)
      obtain ⟨wq, hwq⟩ : ∃ wq : World, wq = w.drewN nq := ⟨_, rfl⟩
      have HQ := hid (show RBox wq pb (.slice (some ⟨g, o, none⟩) WS.length cap) nv WS a ns bad by rw [hwq]; exact H.out.drewN _)
      have HP := hid (show PTo w wq pb nv nv by rw [hwq]; exact PTo.drewN H.out.lt nv _)
      have q1 : wq.cell? ⟨pb, 1, none⟩ = some (.int .i64 a) := by rw [hwq]; exact c1
      have q2 := HQ.out.box.free
      rw [← hwq]
      clear hwq c0 c1 hfr g0
      go_wp2
      go_ret
      refine ⟨by rw [HIS.out]; rfl, HP.out.trans (PTo.set _ _ _ _ _ HQ.out.lt), ?_⟩
      rw [if_pos HIS.out, HD.out]
      exact ⟨WS, a + 1, HQ.out.set (at2 := a + 1) (by simp) (by omega), rfl, hWS⟩
    · have e1 := eqS_f hs
      have HIS : Hid (isNext (WS.drop a) s = false) := hid (by rw [HD.out]; exact decide_eq_false hs)
      replace hs := hid hs
      go_enter Tryd.func47, Tryd.ntmps47
      go_wp2_with fail
      go_quiet (fail)
      go_wp2
      go_ret
      refine ⟨by rw [HIS.out]; rfl, PTo.drewN H.out.lt nv _, ?_⟩
      rw [if_neg (by rw [HIS.out]; simp)]
      exact ⟨WS, a, H.out.drewN _, rfl, hWS⟩
  · have HD : Hid (WS.drop a = []) := hid (List.drop_of_length_le (by omega))
    have HIS : Hid (isNext (WS.drop a) s = false) := hid (by rw [HD.out]; rfl)
    have i2 := decide_eq_false (show ¬ (↑a : Int) < ↑WS.length by omega)
    have i2' := decide_eq_false hlt
    go_enter Tryd.func47, Tryd.ntmps47
    go_wp2_with fail
    go_quiet (fail)
    go_wp2
    go_ret
    refine ⟨by rw [HIS.out]; rfl, PTo.drewN H.out.lt nv _, ?_⟩
    rw [if_neg (by rw [HIS.out]; simp)]
    exact ⟨WS, a, H.out.drewN _, rfl, hWS⟩
def RTakePost (w : World) (pb : Nat) (wv nv : Value) (ws : List ByteArray) (ns : List Node) (bad : Bool) (e : Ending) (w' : World) : Prop :=
  e = .returned (.string (headW ws)) ∧ PTo w w' pb nv nv ∧ RAt w' pb wv nv ws.tail ns (if ws = [] then true else bad)

set_option maxRecDepth 100000 in
set_option maxHeartbeats 2000000 in
theorem rtake_any (w : World) (pb : Nat) (wv nv : Value) (ws : List ByteArray) (ns : List Node) (bad : Bool) (h : RAt w pb wv nv ws ns bad) :
    Calls Tryd.prog 83 #[.pointer (some ⟨pb, 0, none⟩)] w (RTakePost w pb wv nv ws ns bad) := by
  obtain ⟨WS, a, h, rfl, hWS⟩ := h
  have H := hid h
  have c0 := h.box.cell (i := 0) (by simp)
  have c1 := h.box.cell (i := 1) (by simp)
  have c3 := h.box.cell (i := 3) (by simp)
  have hfr := h.box.free
  simp only [List.getElem_cons_zero, List.getElem_cons_succ] at c0 c1 c3
  obtain ⟨A, cap, rfl, hcap, hmax, hc⟩ := h.words.strs
  have HC := hid hc
  have hle := h.le
  unfold maxLen at hmax
  clear h hc
  by_cases hlt : a < WS.length
  · obtain ⟨g, o, rfl, hF, g0, -⟩ := HC.out a hlt
    have hd : WS.drop a = WS[a] :: WS.drop (a + 1) := by rw [List.drop_eq_getElem_cons hlt]
    have HD := hid hd
    have i1 : (0 : Int) ≤ ↑a := by omega
    have i2 : ¬ (↑WS.length : Int) ≤ ↑a := by omega
    have i3 : (↑a : Int) < ↑WS.length := by omega
    obtain ⟨t, ht⟩ : ∃ t, t = WS[a] := ⟨_, rfl⟩
    rw [← ht] at g0 HD
    clear hd ht
    go_enter Tryd.func83, Tryd.ntmps83
    go_wp2_with fail
    go_quiet (fail)
    obtain ⟨wq, hwq⟩ : ∃ wq : World, wq = w.drewN nq := ⟨_, rfl⟩
    have HQ := hid (show RBox wq pb (.slice (some ⟨g, o, none⟩) WS.length cap) nv WS a ns bad by rw [hwq]; exact H.out.drewN _)
    have HP := hid (show PTo w wq pb nv nv by rw [hwq]; exact PTo.drewN H.out.lt nv _)
    have q1 : wq.cell? ⟨pb, 1, none⟩ = some (.int .i64 a) := by rw [hwq]; exact c1
    have q2 := HQ.out.box.free
    have q3 : wq.cell? ⟨g, o + a, none⟩ = some (.string t) := by rw [hwq]; exact g0
    rw [← hwq]
    clear hwq c0 c1 c3 hfr g0
    go_wp2_with fail
    obtain ⟨wz, hwz⟩ : ∃ wz : World, wz = wq.setCell ⟨pb, 1, none⟩ (.int .i64 (↑a + 1)) := ⟨_, rfl⟩
    have HZ := hid (show RBox wz pb (.slice (some ⟨g, o, none⟩) WS.length cap) nv WS (a + 1) ns bad by rw [hwz]; exact HQ.out.set (at2 := a + 1) (by simp) (by omega))
    have HPZ := hid (show PTo w wz pb nv nv by rw [hwz]; exact HP.out.trans (PTo.set _ _ _ _ _ HQ.out.lt))
    have z0 := HZ.out.box.cell (i := 0) (by simp)
    have z1 := HZ.out.box.cell (i := 1) (by simp)
    simp only [List.getElem_cons_zero, List.getElem_cons_succ] at z0 z1
    rw [show ((a + 1 : Nat) : Int) = (a : Int) + 1 by omega] at z1
    have z3 : wz.cell? ⟨g, o + a, none⟩ = some (.string t) := by
      rw [hwz]
      exact (World.cell?_of_block (heap_setCell_other _ _ _ _ (by have : g < pb := hF; show g ≠ pb; omega))).trans q3
    rw [← hwz]
    clear hwz q1 q2 q3
    go_quiet (fail)
    go_wp2
    go_ret
    refine ⟨by rw [HD.out]; rfl, HPZ.out.trans (PTo.drewN HZ.out.lt nv _), ?_⟩
    rw [HD.out]
    rw [if_neg (by simp)]
    exact ⟨WS, a + 1, HZ.out.drewN _, rfl, hWS⟩
  · have HD : Hid (WS.drop a = []) := hid (List.drop_of_length_le (by omega))
    have i2 : (↑WS.length : Int) ≤ ↑a := by omega
    go_enter Tryd.func83, Tryd.ntmps83
    go_wp2_with fail
    go_quiet (fail)
    obtain ⟨wq, hwq⟩ : ∃ wq : World, wq = w.drewN nq := ⟨_, rfl⟩
    have HQ := hid (show RBox wq pb (.slice A WS.length cap) nv WS a ns bad by rw [hwq]; exact H.out.drewN _)
    have HP := hid (show PTo w wq pb nv nv by rw [hwq]; exact PTo.drewN H.out.lt nv _)
    have q1 : wq.cell? ⟨pb, 3, none⟩ = some (.bool bad) := by rw [hwq]; exact c3
    have q2 := HQ.out.box.free
    rw [← hwq]
    clear hwq c0 c1 c3 hfr
    go_wp2
    go_ret
    refine ⟨by rw [HD.out]; rfl, HP.out.trans (PTo.set _ _ _ _ _ HQ.out.lt), ?_⟩
    rw [HD.out, if_pos rfl]
    exact ⟨WS, a, HQ.out.set rfl HQ.out.le, HD.out.symm, hWS⟩
theorem rput_box {w w3 w4 : World} {pb at' : Nat} {wv nv : Value} {ws : List ByteArray} {ns : List Node} {bad : Bool} (h : RBox w pb wv nv ws at' ns bad) (hb : Below w.heap.size w w3) (hg : w3.grownBy w4 nv.ownBlock) : Arr 59 w4 pb [wv, .int .i64 at', nv, .bool bad] :=
  (h.box.below hb h.lt).keep (hg.block pb (Nat.lt_of_lt_of_le h.lt hb.size) (fun e => by have := (h.nodes.lt pb e.symm).1; omega))
theorem rput_done {w w3 w4 : World} {pb at' : Nat} {wv nv v4 : Value} {ws : List ByteArray} {ns : List Node} {bad : Bool} {n : Node} (h : RBox w pb wv nv ws at' ns bad) (hb : Below w.heap.size w w3) (hg : w3.grownBy w4 nv.ownBlock)
    (ho : w4.ownsRow (pb + 1) 49 5 v4 (ns.length + 1) (fNode.all ns ++ fNode.cells n)) (hn : v4.ownBlock = nv.ownBlock ∨ v4.ownBlock = some w3.heap.size) (hok : fNode.ok n) :
    PTo w (w4.setCell ⟨pb, 2, none⟩ v4) pb nv v4 ∧ RBox (w4.setCell ⟨pb, 2, none⟩ v4) pb wv v4 ws at' (ns ++ [n]) bad := by
  have hlt := h.lt
  have hs3 := hb.size
  have hs4 := hg.size
  have hbox := rput_box h hb hg
  have hk : ∀ k, k < w.heap.size → nv.ownBlock ≠ some k → w4.heap[k]? = w.heap[k]? := fun k hk ho => (hg.block k (by omega) (fun e => ho e.symm)).trans (hb.block k hk)
  have hkp : ∀ k, k < pb → w4.heap[k]? = w.heap[k]? := fun k hk' => hk k (by omega) (fun e => by have := (h.nodes.lt k e).1; omega)
  have hset : ∀ k, k ≠ pb → (w4.setCell ⟨pb, 2, none⟩ v4).heap[k]? = w4.heap[k]? := fun k hk => heap_setCell_other _ _ _ _ hk
  have hbw : Below pb w w4 := (hb.mono (by omega)).grown hg (by omega) (fun k e => by have := (h.nodes.lt k e).1; omega)
  refine ⟨⟨hbw.setCell (p := ⟨pb, 2, none⟩) (Nat.le_refl _) _, by simp; omega, fun k hk1 hp ho1 => (hset k hp).trans (hk k hk1 ho1), ?_⟩, ⟨(hbox.set 2 v4).congr rfl, h.words.keep fun k hk1 => (hset k (by have : k < pb := hk1; omega)).trans (hkp k hk1), ?_, ?_⟩⟩
  · rcases hn with e | e
    · exact .inl e
    · exact .inr ⟨_, e, hs3⟩
  · exact (OwnF.snoc (f := fNode) h.nodes hok (ownsRow_keep ho fun g hg1 => hset g (by have := (ho.lt g hg1).1; omega)))
  · exact h.le

def RPutB (w : World) (pb : Nat) (wv nv : Value) (WS : List ByteArray) (at' : Nat) (ns : List Node) (bad : Bool) (n : Node) (e : Ending) (w' : World) : Prop :=
  ∃ nv', e = .returned (.int .i64 ns.length) ∧ PTo w w' pb nv nv' ∧ RBox w' pb wv nv' WS at' (ns ++ [n]) bad
def RPutPost (w : World) (pb : Nat) (wv nv : Value) (ws : List ByteArray) (ns : List Node) (bad : Bool) (n : Node) (e : Ending) (w' : World) : Prop :=
  ∃ nv', e = .returned (.int .i64 ns.length) ∧ PTo w w' pb nv nv' ∧ RAt w' pb wv nv' ws (ns ++ [n]) bad
set_option maxRecDepth 100000 in
set_option maxHeartbeats 2000000 in
theorem rputb_any (w : World) (pb : Nat) (at' : Nat) (wv nv : Value) (ws : List ByteArray) (ns : List Node) (bad : Bool) (n : Node) (h : RBox w pb wv nv ws at' ns bad) (hn : fNode.ok n) (hl : ns.length ≤ 1000) :
    Calls Tryd.prog 48 #[.pointer (some ⟨pb, 0, none⟩), nodeV n] w (RPutB w pb wv nv ws at' ns bad n) := by
  have H := hid h
  have HN := hid hn
  obtain ⟨ii, hii⟩ := info_parts node_info
  have HII := hid hii
  clear hii
  obtain ⟨A, c, rfl⟩ := h.nodes.form
  have hlt := h.lt
  have c1 := h.box.cell (i := 2) (by simp)
  simp only [List.getElem_cons_zero, List.getElem_cons_succ] at c1
  clear h hn
  unfold nodeV
  go_enter Tryd.func48, Tryd.ntmps48
  go_wp2_with fail
  have HB0 := hid (balloc (b0 w) (.cells #[.int .i64 n.op, .int .i64 n.a, .int .i64 n.b, .int .i64 n.key, .string n.text] 49))
  go_region_law ((first
    | (refine step_guard (.tmp 9) (.tmp 11) 23 rfl ?_
       refine step_append_src _ rfl (.tmp 9) (.tmp 11) 23 rfl (pb + 1) 49 ii _ 5 48 Tryd.underlying23 HII.out.1 HII.out.2.1 HII.out.2.2.1 HII.out.2.2.2 rfl (by omega) (.slice A ns.length c) ns.length (fNode.all ns) (by rfl) (by first | exact (H.out.nodes.1.alloc _).alloc _ | exact own_alloc_drew (H.out.nodes.1.alloc _) _) _ 1 1 (fNode.cells n) (by rfl) (by first | exact src_new _ _ (by simp) 5 (fNode.cells n) rfl rfl | exact src_new_drew _ _ (by simp) 5 (fNode.cells n) rfl rfl) (by simp [fNode, Value.oneCell']) (by unfold maxLen; omega) (by omega) (by simp; omega) ?_
       intro v4 w4 hown4 hg4 hat4
       have hbx4 := rput_box H.out (by first | exact (balloc HB0.out _).drew | exact balloc HB0.out _ | exact balloc HB0.out.drew _) hg4
       have f4 := hbx4.free
       have c4 := hbx4.cell (i := 2) (by simp)
       simp only [List.getElem_cons_zero, List.getElem_cons_succ] at c4
       obtain ⟨A4, cc4, rfl⟩ := own_form hown4)))
  all_goals
    have hd4 := rput_done H.out (by first | exact (balloc HB0.out _).drew | exact balloc HB0.out _ | exact balloc HB0.out.drew _) hg4 hown4 (by simpa using hat4) HN.out
    have bx5 := hd4.2.box.cell (i := 2) (by simp)
    simp only [List.getElem_cons_zero, List.getElem_cons_succ] at bx5
    have HD4 := hid hd4
    clear hd4 hown4 hat4 hg4 hbx4 c4 f4
    go_wp2
    go_ret
    exact ⟨_, rfl, HD4.out.1, HD4.out.2⟩
theorem rput_any (w : World) (pb : Nat) (wv nv : Value) (ws : List ByteArray) (ns : List Node) (bad : Bool) (n : Node) (h : RAt w pb wv nv ws ns bad) (hn : fNode.ok n) (hl : ns.length ≤ 1000) :
    Calls Tryd.prog 48 #[.pointer (some ⟨pb, 0, none⟩), nodeV n] w (RPutPost w pb wv nv ws ns bad n) := by
  obtain ⟨WS, a, h, rfl, hWS⟩ := h
  refine (rputb_any w pb a wv nv WS ns bad n h hn hl).mono ?_
  rintro e w' ⟨nv', h1, h2, h3⟩
  exact ⟨nv', h1, h2, WS, a, h3, rfl, hWS⟩
end Go.Proofs.YtmdnleafpmondaaDoor
end
section
/- Contract: reader.atom. -/
namespace Go.Proofs.YtmdnleafpmondaaDoor
open Go Go.RowKit

def RGotAt (w : World) (pb : Nat) (nv : Value) (ws : List ByteArray) (ns : List Node) (r : Got) (i : Int) (w' : World) : Prop :=
  ∃ wv' nv' ws' ns' bad', RAt w' pb wv' nv' ws' ns' bad' ∧ PTo w w' pb nv nv' ∧ ns'.length + ws'.length ≤ ns.length + ws.length ∧ ns.length ≤ ns'.length ∧ 0 ≤ i ∧ i ≤ 100000 ∧
    match r with
    | some (f, q) => bad' = false ∧ ws' = q ∧ ns' = ns ++ f.post ns.length ∧ i = ((ns.length + f.size : Nat) : Int) - 1
    | none => bad' = true
def RGotPost (w : World) (pb : Nat) (nv : Value) (ws : List ByteArray) (ns : List Node) (r : Got) (e : Ending) (w' : World) : Prop :=
  ∃ i : Int, e = .returned (.int .i64 i) ∧ RGotAt w pb nv ws ns r i w'
def atomR : List ByteArray → Got
  | [] => none
  | k :: r => atomF k r
def pk (k : ByteArray) : Nat → Int
  | 0 => -1
  | i + 1 => if keyS i = k then i else pk k i
theorem pk_lt (k : ByteArray) : ∀ i, -1 ≤ pk k i ∧ pk k i < i
  | 0 => ⟨Int.le_refl _, (by show (-1 : Int) < 0; decide)⟩
  | i + 1 => by
    have := pk_lt k i
    simp only [pk]
    split <;> omega
theorem pk_key (k : ByteArray) : (pk k 3 < 0 ∧ keyIx k = none) ∨ (0 ≤ pk k 3 ∧ keyIx k = some (pk k 3).toNat) := by
  by_cases h2 : keyS 2 = k
  · right; subst h2; exact ⟨by decide, by decide⟩
  · by_cases h1 : keyS 1 = k
    · right; subst h1; exact ⟨by decide, by decide⟩
    · by_cases h0 : keyS 0 = k
      · right; subst h0; exact ⟨by decide, by decide⟩
      · left
        simp only [pk]
        rw [if_neg h2, if_neg h1, if_neg h0]
        exact ⟨by decide, keyIx_none fun j hj he => by
          match j, hj with
          | 0, _ => exact h0 he
          | 1, _ => exact h1 he
          | 2, _ => exact h2 he⟩
theorem three_takes (ws : List ByteArray) : (ws.tail.tail = [] ∧ atomR ws = none ∧ headW ws.tail.tail = ByteArray.empty) ∨ (ws ≠ [] ∧ ws.tail ≠ [] ∧ ws.tail.tail ≠ [] ∧ ws = headW ws :: headW ws.tail :: headW ws.tail.tail :: ws.tail.tail.tail) := by
  match ws with
  | [] => exact .inl ⟨rfl, rfl, rfl⟩
  | [_] => exact .inl ⟨rfl, rfl, rfl⟩
  | [_, _] => exact .inl ⟨rfl, rfl, rfl⟩
  | a :: b :: c :: r => exact .inr ⟨by simp, by simp, by simp, rfl⟩

set_option maxRecDepth 100000 in
set_option maxHeartbeats 4000000 in
theorem ratom_any (w : World) (pb : Nat) (wv nv : Value) (ws : List ByteArray) (ns : List Node) (h : RAt w pb wv nv ws ns false) (hl : ns.length + ws.length ≤ 1000) (hz : ∀ s ∈ ws, s.size ≤ 1000) :
    Calls Tryd.prog 73 #[.pointer (some ⟨pb, 0, none⟩)] w (RGotPost w pb nv ws ns (atomR ws)) := by
  have HL := hid hl
  have HZ := hid hz
  have T1 := hid (rtake_any w pb wv nv ws ns false h)
  have hplt := h.lt
  have HT := hid (three_takes ws)
  obtain ⟨R, hR⟩ : ∃ R, R = atomR ws := ⟨_, rfl⟩
  rw [← hR]
  have HR := hid hR
  have HRC := hid (fun (k s v : ByteArray) (r : List ByteArray) (h : ws = k :: s :: v :: r) => show R = atomF k (s :: v :: r) by rw [hR, h]; rfl)
  clear h hl hz hR
  go_enter Tryd.func73, Tryd.ntmps73
  go_wp2_with fail
  refine T1.out.mono ?_
  rintro e w1 ⟨rfl, P1, A1⟩
  go_wp2_with fail
  refine (rtake_any w1 pb wv nv _ ns _ A1).mono ?_
  rintro e w2 ⟨rfl, P2, A2⟩
  go_wp2_with fail
  refine (rtake_any w2 pb wv nv _ ns _ A2).mono ?_
  rintro e w3 ⟨rfl, P3, A3⟩
  obtain ⟨bad3, ws3, HA3, HLEN, HCASE⟩ : ∃ bad3 ws3, Hid (RAt w3 pb wv nv ws3 ns bad3) ∧ Hid (ws3.length ≤ ws.length) ∧ Hid ((R = none ∧ headW ws.tail.tail = ByteArray.empty) ∨ (bad3 = false ∧ ws = headW ws :: headW ws.tail :: headW ws.tail.tail :: ws3)) := by
    refine ⟨_, _, hid A3, hid (by simp only [List.length_tail]; omega), hid ?_⟩
    rcases HT.out with ⟨_, h2, h3⟩ | ⟨h1, h2, h3, h4⟩
    · exact .inl ⟨HR.out.trans h2, h3⟩
    · exact .inr ⟨by rw [if_neg h3, if_neg h2, if_neg h1], h4⟩
  obtain ⟨ky, hky⟩ : ∃ ky, ky = headW ws := ⟨_, rfl⟩
  obtain ⟨sg, hsg⟩ : ∃ sg, sg = headW ws.tail := ⟨_, rfl⟩
  obtain ⟨vl, hvl⟩ : ∃ vl, vl = headW ws.tail.tail := ⟨_, rfl⟩
  rw [← hky, ← hsg, ← hvl] at HCASE
  rw [← hvl]
  try rw [← hky]
  try rw [← hsg]
  have HP3 := hid ((P1.trans P2).trans P3)
  clear hky hsg hvl A1 A2 A3 P1 P2 P3 T1 HT
  have hs3 : w.heap.size ≤ w3.heap.size := HP3.out.size
  go_wp2_with fail
  have ha0 := hid (Arr.new 49 w3 [.int .i64 1, .int .i64 0, .int .i64 0, .int .i64 (-1), .string vl])
  have hb0 := hid (balloc (b0 w3) (.cells #[.int .i64 1, .int .i64 0, .int .i64 0, .int .i64 (-1), .string vl] 49))
  obtain ⟨bx, hbx⟩ : ∃ bx, bx = w3.heap.size := ⟨_, rfl⟩
  rw [← hbx] at ha0
  rw [← hbx]
  have hge : w3.heap.size ≤ bx := by omega
  clear hbx
  go_loopw [7] (fun iv wr => ∃ k : Nat, k ≤ 3 ∧ iv = .int .i64 k ∧ Hid (Arr 49 wr bx [.int .i64 1, .int .i64 0, .int .i64 0, .int .i64 (pk ky k), .string vl]) ∧ Hid (Below w3.heap.size w3 wr)) (fun iv _ => 3 - (intOf iv).toNat)
  case atStart => exact ⟨0, by omega, rfl, ha0, hb0⟩
  case round =>
    clear ha0 hb0
    obtain ⟨k, hk, rfl, hbox, hb⟩ := hrel
    have i1 : (0 : Int) ≤ ↑k := by omega
    by_cases hlt : k < 3
    · have i2 : (↑k : Int) < 3 := by omega
      obtain ⟨kk, hkk⟩ : ∃ kk, kk = keyS k := ⟨_, rfl⟩
      have HK := hid (fun (wx : World) => show Calls Tryd.prog 74 #[.int .i64 k] wx fun e w' => e = .returned (.string kk) ∧ Below wx.heap.size wx w' by rw [hkk]; exact rkey_any hlt wx)
      by_cases c1 : kk = ky
      · have d1 := eqS_t c1
        have HPK : Hid (pk ky (k + 1) = k) := hid (by simp only [pk]; rw [if_pos (by rw [← hkk]; exact c1)])
        replace c1 := hid c1
        replace hkk := hid hkk
        go_wp2_with (first | (go_at_call 74; refine (HK.out _).mono ?_; rintro e w4 ⟨rfl, hb4⟩
                              have HX4 := hid (hbox.out.below hb4 hbox.out.lt); have y3 := HX4.out.cell (i := 3) (by simp); have hf4 := HX4.out.free; simp only [List.getElem_cons_zero, List.getElem_cons_succ] at y3))
        refine ⟨⟨k + 1, by omega, by go_num, hid ((HX4.out.set 3 _).congr (by rw [HPK.out]; rfl)), hid ((hb.out.trans (hb4.mono hb.out.size)).setCell (p := ⟨bx, 3, none⟩) hge _)⟩, by simp [intOf]; omega⟩
      · have d1 := eqS_f c1
        have HPK : Hid (pk ky (k + 1) = pk ky k) := hid (by simp only [pk]; rw [if_neg (by rw [← hkk]; exact c1)])
        replace c1 := hid c1
        replace hkk := hid hkk
        go_wp2_with (first | (go_at_call 74; refine (HK.out _).mono ?_; rintro e w4 ⟨rfl, hb4⟩))
        refine ⟨⟨k + 1, by omega, by go_num, hid ((hbox.out.below hb4 hbox.out.lt).congr (by rw [HPK.out])), hid (hb.out.trans (hb4.mono hb.out.size))⟩, by simp [intOf]; omega⟩
    · have hk3 : k = 3 := by omega
      subst hk3
      have i2 : ¬ ((3 : Nat) : Int) < 3 := by omega
      have hpk := pk_key ky
      have hpl := pk_lt ky 3
      obtain ⟨kv, hkv⟩ : ∃ kv, kv = pk ky 3 := ⟨_, rfl⟩
      rw [← hkv] at hbox hpk hpl
      have HPK := hid hpk
      have hk1 := hpl.1
      have hk2 : kv < 3 := hpl.2
      clear hpk hpl hkv HR
      have HA := hid (HA3.out.later hb.out)
      have HP := hid (HP3.out.later hb.out hplt)
      have z5 := HA.out.cell3
      have hfr := HA.out.free
      have z3 := hbox.out.cell (i := 3) (by simp)
      simp only [List.getElem_cons_zero, List.getElem_cons_succ] at z3
      have HNONE := hid (fun (h : keyIx ky = none ∨ signOk sg = false ∨ wordB vl.data.toList = false) => show R = none from by
        rcases HCASE.out with ⟨h1, _⟩ | ⟨_, h1⟩
        · exact h1
        · rw [HRC.out _ _ _ _ h1]; exact atom_none h)
      by_cases c1 : kv < 0
      · have HRN := hid (HNONE.out (.inl (by rcases HPK.out with h | h; exact h.2; omega)))
        go_wp2
        go_ret
        exact ⟨0, rfl, wv, nv, ws3, ns, true, HA.out.bad, HP.out.trans (PTo.set _ _ _ _ _ HA.out.lt), by have := HLEN.out; omega, Nat.le_refl _, by omega, by omega, by rw [HRN.out]⟩
      · have c2 : (0 : Int) ≤ kv := by omega
        rcases Bool.eq_false_or_eq_true (wordB vl.data.toList) with hw | hw
        · have HWS : Hid (bad3 = false ∧ ws = ky :: sg :: vl :: ws3) := hid (by
            rcases HCASE.out with ⟨_, h⟩ | h
            · rw [h] at hw; cases hw
            · exact h)
          have hbad := HWS.out.1
          subst hbad
          have HV : Hid (vl.size ≤ 1000) := hid (HZ.out vl (by rw [HWS.out.2]; simp))
          have HLN := hid (congrArg List.length HWS.out.2)
          have hln : ns.length ≤ 997 := by have := HL.out; have := HLN.out; simp only [List.length_cons] at this; omega
          have HOK : Hid (fNode.ok ⟨1, 0, 0, kv, vl⟩) := hid (node_ok (by omega) (by omega) (by omega) (by omega) (by have := HV.out; omega))
          have HOK2 : Hid (fNode.ok ⟨2, ns.length, 0, 0, ⟨#[]⟩⟩) := hid (node_ok (by omega) (by omega) (by omega) (by omega) (by decide))
          have HKI : Hid (keyIx ky = some kv.toNat ∧ (kv.toNat : Int) = kv) := hid (by
            rcases HPK.out with h | h
            · omega
            · exact ⟨h.2, by omega⟩)
          have HRR : Hid (R = atomF ky (sg :: vl :: ws3)) := hid (HRC.out _ _ _ _ HWS.out.2)
          have tok := hid True.intro
          by_cases s1 : sg = wIs
          · have e1 : (sg.toList == [61]) = true := by rw [eqC]; exact decide_eq_true s1
            have e2 : (sg.toList == [33, 61]) = false := by rw [eqC]; exact decide_eq_false (by rw [s1]; decide)
            replace s1 := hid s1
            go_wp2_with (first
              | (go_at_call 67; refine (rword_any _ _).mono ?_; rintro e w4 ⟨rfl, hbw⟩; rw [hw]; have HA4 := hid (HA.out.later hbw); have HP4 := hid (HP.out.later hbw hplt); have HX4 := hid (hbox.out.below hbw hbox.out.lt); have y0 := HX4.out.cell (i := 0) (by simp); have y1 := HX4.out.cell (i := 1) (by simp); have y2 := HX4.out.cell (i := 2) (by simp); have y3 := HX4.out.cell (i := 3) (by simp); have y4 := HX4.out.cell (i := 4) (by simp); have y5 := HA4.out.cell3; have hf4 := HA4.out.free; simp only [List.getElem_cons_zero, List.getElem_cons_succ] at y0 y1 y2 y3 y4)
              | (go_at_call 48; clear tok; refine (rput_any w4 pb wv nv ws3 ns false ⟨1, 0, 0, kv, vl⟩ HA4.out HOK.out (by omega)).mono ?_; rintro e w5 ⟨nv5, rfl, P5, A5⟩; replace P5 := hid P5; replace A5 := hid A5))
            go_ret
            refine ⟨ns.length, rfl, wv, nv5, ws3, _, false, A5.out, HP4.out.trans P5.out, ?_, ?_, by omega, by omega, ?_⟩
            · have := HLN.out; simp only [List.length_append, List.length_cons, List.length_nil] at *; omega
            · simp
            · rw [HRR.out, s1.out, atom_is HKI.out.1 hw]
              refine ⟨rfl, rfl, ?_, by simp only [Frm.size]; omega⟩
              rw [post_is, HKI.out.2]
          · have e1 : (sg.toList == [61]) = false := by rw [eqC]; exact decide_eq_false s1
            by_cases s2 : sg = wIsNot
            · have e2 : (sg.toList == [33, 61]) = true := by rw [eqC]; exact decide_eq_true s2
              replace s2 := hid s2
              go_wp2_with (first
                | (go_at_call 67; refine (rword_any _ _).mono ?_; rintro e w4 ⟨rfl, hbw⟩; rw [hw]; have HA4 := hid (HA.out.later hbw); have HP4 := hid (HP.out.later hbw hplt); have HX4 := hid (hbox.out.below hbw hbox.out.lt); have y0 := HX4.out.cell (i := 0) (by simp); have y1 := HX4.out.cell (i := 1) (by simp); have y2 := HX4.out.cell (i := 2) (by simp); have y3 := HX4.out.cell (i := 3) (by simp); have y4 := HX4.out.cell (i := 4) (by simp); have y5 := HA4.out.cell3; have hf4 := HA4.out.free; simp only [List.getElem_cons_zero, List.getElem_cons_succ] at y0 y1 y2 y3 y4)
                | (go_at_call 48; clear tok; refine (rput_any w4 pb wv nv ws3 ns false ⟨1, 0, 0, kv, vl⟩ HA4.out HOK.out (by omega)).mono ?_; rintro e w5 ⟨nv5, rfl, P5, A5⟩; replace P5 := hid P5; replace A5 := hid A5)
                | (go_at_call 48; refine (rput_any w5 pb wv nv5 ws3 (ns ++ [⟨1, 0, 0, kv, vl⟩]) false ⟨2, ns.length, 0, 0, ⟨#[]⟩⟩ A5.out HOK2.out (by simp; omega)).mono ?_; rintro e w6 ⟨nv6, rfl, P6, A6⟩; replace P6 := hid P6; replace A6 := hid A6))
              go_ret
              refine ⟨(ns.length : Int) + 1, rfl, wv, nv6, ws3, _, false, A6.out, (HP4.out.trans P5.out).trans P6.out, ?_, ?_, by omega, by omega, ?_⟩
              · have := HLN.out; simp only [List.length_append, List.length_cons, List.length_nil] at *; omega
              · simp
              · rw [HRR.out, s2.out, atom_isnot HKI.out.1 hw]
                refine ⟨rfl, rfl, ?_, by simp only [Frm.size]; omega⟩
                rw [post_isnot, HKI.out.2, List.append_assoc]; rfl
            · have e2 : (sg.toList == [33, 61]) = false := by rw [eqC]; exact decide_eq_false s2
              have HRN := hid (HNONE.out (.inr (.inl (by unfold signOk; rw [decide_eq_false s1, decide_eq_false s2]; rfl))))
              go_wp2_with (first
                | (go_at_call 67; refine (rword_any _ _).mono ?_; rintro e w4 ⟨rfl, hbw⟩; rw [hw]; have HA4 := hid (HA.out.later hbw); have HP4 := hid (HP.out.later hbw hplt); have HX4 := hid (hbox.out.below hbw hbox.out.lt); have y0 := HX4.out.cell (i := 0) (by simp); have y1 := HX4.out.cell (i := 1) (by simp); have y2 := HX4.out.cell (i := 2) (by simp); have y3 := HX4.out.cell (i := 3) (by simp); have y4 := HX4.out.cell (i := 4) (by simp); have y5 := HA4.out.cell3; have hf4 := HA4.out.free; simp only [List.getElem_cons_zero, List.getElem_cons_succ] at y0 y1 y2 y3 y4))
              go_ret
              exact ⟨0, rfl, wv, nv, ws3, ns, true, HA4.out.bad, HP4.out.trans (PTo.set _ _ _ _ _ HA4.out.lt), by have := HLEN.out; omega, Nat.le_refl _, by omega, by omega, by rw [HRN.out]⟩
        · have HRN := hid (HNONE.out (.inr (.inr hw)))
          go_wp2_with (first
            | (go_at_call 67; refine (rword_any _ _).mono ?_; rintro e w4 ⟨rfl, hbw⟩; rw [hw]; have HA4 := hid (HA.out.later hbw); have HP4 := hid (HP.out.later hbw hplt); have HX4 := hid (hbox.out.below hbw hbox.out.lt); have y0 := HX4.out.cell (i := 0) (by simp); have y1 := HX4.out.cell (i := 1) (by simp); have y2 := HX4.out.cell (i := 2) (by simp); have y3 := HX4.out.cell (i := 3) (by simp); have y4 := HX4.out.cell (i := 4) (by simp); have y5 := HA4.out.cell3; have hf4 := HA4.out.free; simp only [List.getElem_cons_zero, List.getElem_cons_succ] at y0 y1 y2 y3 y4))
          go_ret
          exact ⟨0, rfl, wv, nv, ws3, ns, true, HA4.out.bad, HP4.out.trans (PTo.set _ _ _ _ _ HA4.out.lt), by have := HLEN.out; omega, Nat.le_refl _, by omega, by omega, by rw [HRN.out]⟩
end Go.Proofs.YtmdnleafpmondaaDoor
end
