/- Contract: parser.is. -/
import Derived.Test.YtmdnleafpmondaaDoorU11
namespace Go.Proofs.YtmdnleafpmondaaDoor
open Go Go.RowKit

/-- From a state of a parser: what it read, or bad. -/
def GotAt (w : World) (pb : Nat) (nv : Value) (ws : List ByteArray) (ns : List Node) (r : Got) (i : Int) (w' : World) : Prop :=
  ∃ wv' nv' ws' ns' bad', PAt w' pb wv' nv' ws' ns' bad' ∧ PTo w w' pb nv nv' ∧ ns'.length + ws'.length ≤ ns.length + ws.length ∧ ns.length ≤ ns'.length ∧ 0 ≤ i ∧ i ≤ 100000 ∧
    match r with
    | some (f, q) => bad' = false ∧ ws' = q ∧ ns' = ns ++ f.post ns.length ∧ i = ((ns.length + f.size : Nat) : Int) - 1
    | none => bad' = true
def GotPost (w : World) (pb : Nat) (nv : Value) (ws : List ByteArray) (ns : List Node) (r : Got) (e : Ending) (w' : World) : Prop :=
  ∃ i : Int, e = .returned (.int .i64 i) ∧ GotAt w pb nv ws ns r i w'
/-- Two words were taken. -/
theorem atom_bad {key : ByteArray} {ws : List ByteArray} (h : headW ws = ByteArray.empty) : atomF key ws = none := by
  match ws with
  | [] => rfl
  | [_] => rfl
  | s :: v :: r =>
    have hs : s = ByteArray.empty := h
    subst hs
    simp only [atomF]
    cases keyIx key with
    | none => rfl
    | some i =>
      simp only
      split
      · rw [if_neg (by decide), if_neg (by decide)]
      · rfl
theorem atom_bad2 {key : ByteArray} {ws : List ByteArray} (h : headW ws.tail = ByteArray.empty) : atomF key ws = none := by
  match ws with
  | [] => rfl
  | [_] => rfl
  | s :: v :: r =>
    have hs : v = ByteArray.empty := h
    subst hs
    simp only [atomF]
    cases keyIx key with
    | none => rfl
    | some i =>
      simp only
      rw [if_neg (by decide)]
theorem atom_good {ws : List ByteArray} (h1 : headW ws ≠ ByteArray.empty) (h2 : headW ws.tail ≠ ByteArray.empty) : ∃ r, ws = headW ws :: headW ws.tail :: r ∧ ws.tail.tail = r := by
  match ws with
  | [] => exact absurd rfl h1
  | [_] => exact absurd rfl h2
  | s :: v :: r => exact ⟨r, rfl, rfl⟩
def signOk (s : ByteArray) : Bool := decide (s = wIs) || decide (s = wIsNot)
theorem atom_none {key s v : ByteArray} {r : List ByteArray} (h : keyIx key = none ∨ signOk s = false ∨ wordB v.data.toList = false) : atomF key (s :: v :: r) = none := by
  simp only [atomF]
  cases hk : keyIx key with
  | none => rfl
  | some i =>
    simp only
    rcases h with h | h | h
    · rw [hk] at h; cases h
    · unfold signOk at h
      rw [Bool.or_eq_false_iff, decide_eq_false_iff_not, decide_eq_false_iff_not] at h
      rw [if_neg h.1, if_neg h.2]
      simp
    · rw [if_neg (by rw [h]; simp)]
theorem keyIx_of {key : ByteArray} {k : Nat} (hk : k < 3) (h : keyS k = key) : keyIx key = some k := by
  subst h
  match k, hk with
  | 0, _ => rfl
  | 1, _ => rfl
  | 2, _ => rfl
theorem keyIx_none {key : ByteArray} (h : ∀ k, k < 3 → keyS k ≠ key) : keyIx key = none := by
  unfold keyIx
  rw [if_neg (fun e => h 0 (by omega) e.symm), if_neg (fun e => h 1 (by omega) e.symm), if_neg (fun e => h 2 (by omega) e.symm)]
theorem two_takes {w2 : World} {pb : Nat} {wv nv : Value} {ws : List ByteArray} {ns : List Node} {bad : Bool} {key : ByteArray} {R : Got} (hR : R = if bad = true then none else atomF key ws) (hb : bad = true → keyIx key = none)
    (A2 : PAt w2 pb wv nv (if headW (if headW ws = ByteArray.empty then ws else ws.tail) = ByteArray.empty then (if headW ws = ByteArray.empty then ws else ws.tail) else (if headW ws = ByteArray.empty then ws else ws.tail).tail) ns
      (if headW (if headW ws = ByteArray.empty then ws else ws.tail) = ByteArray.empty then true else (if headW ws = ByteArray.empty then true else bad))) :
    ∃ ws2 bad2, PAt w2 pb wv nv ws2 ns bad2 ∧ ws2.length ≤ ws.length ∧ ((bad2 = true ∧ R = none) ∨ (bad2 = false ∧ ws = headW ws :: headW (if headW ws = ByteArray.empty then ws else ws.tail) :: ws2 ∧ R = atomF key ws)) := by
  refine ⟨_, _, A2, ?_, ?_⟩
  · have h1 : ∀ (c : Prop) [Decidable c] (l : List ByteArray), (if c then l else l.tail).length ≤ l.length := fun c _ l => by
      split
      · exact Nat.le_refl _
      · rw [List.length_tail]; omega
    exact Nat.le_trans (h1 _ _) (h1 _ _)
  · have _ := hb
    by_cases h1 : headW ws = ByteArray.empty
    · left
      simp only [h1, if_true]
      exact ⟨trivial, by rw [hR]; split; rfl; exact atom_bad h1⟩
    · by_cases h2 : headW ws.tail = ByteArray.empty
      · left
        simp only [h1, h2, if_true, if_false]
        exact ⟨trivial, by rw [hR]; split; rfl; exact atom_bad2 h2⟩
      · simp only [h1, h2, if_false]
        cases bad with
        | true => exact .inl ⟨rfl, by rw [hR]; rfl⟩
        | false =>
          obtain ⟨r, hr, hr2⟩ := atom_good h1 h2
          exact .inr ⟨rfl, by rw [hr2]; exact hr, by rw [hR]; rfl⟩
theorem eqS_t {a b : ByteArray} (h : a = b) : (a.toList == b.toList) = true := by rw [eqS_iff]; exact decide_eq_true h
theorem eqS_f {a b : ByteArray} (h : a ≠ b) : (a.toList == b.toList) = false := by rw [eqS_iff]; exact decide_eq_false h
theorem eqC {s : ByteArray} {l : List UInt8} : (s.toList == l) = decide (s = ⟨l.toArray⟩) := by
  have := eqS_iff s ⟨l.toArray⟩
  rwa [show (⟨l.toArray⟩ : ByteArray).toList = l by rw [ByteArray.toList_eq]] at this
theorem atom_is {key v : ByteArray} {r : List ByteArray} {k : Nat} (hk : keyIx key = some k) (hv : wordB v.data.toList = true) : atomF key (wIs :: v :: r) = some (.is k v, r) := by
  simp only [atomF, hk, hv, if_true]
theorem atom_isnot {key v : ByteArray} {r : List ByteArray} {k : Nat} (hk : keyIx key = some k) (hv : wordB v.data.toList = true) : atomF key (wIsNot :: v :: r) = some (.no (.is k v), r) := by
  simp only [atomF, hk, hv, if_true]
  rw [if_neg (by decide)]
theorem node_ok {op a b k : Int} {t : ByteArray} (h1 : -1000000 ≤ op ∧ op ≤ 1000000) (h2 : -1000000 ≤ a ∧ a ≤ 1000000) (h3 : -1000000 ≤ b ∧ b ≤ 1000000) (h4 : -1000000 ≤ k ∧ k ≤ 1000000) (h5 : t.size ≤ 1000000) : fNode.ok ⟨op, a, b, k, t⟩ := by
  refine ⟨⟨?_, ?_⟩, ⟨?_, ?_⟩, ⟨?_, ?_⟩, ⟨?_, ?_⟩, ?_⟩ <;> (try unfold maxLen) <;> simp only <;> omega
theorem post_is (k : Nat) (v : ByteArray) (o : Nat) : (Frm.is k v).post o = [⟨1, 0, 0, k, v⟩] := rfl
theorem post_isnot (k : Nat) (v : ByteArray) (o : Nat) : (Frm.no (.is k v)).post o = [⟨1, 0, 0, k, v⟩] ++ [⟨2, o, 0, 0, ByteArray.empty⟩] := by
  simp only [Frm.post, Frm.size]
  congr 3
  omega

set_option maxRecDepth 100000 in
set_option maxHeartbeats 4000000 in
theorem is_any (w : World) (pb : Nat) (wv nv : Value) (ws : List ByteArray) (ns : List Node) (bad : Bool) (key : ByteArray) (h : PAt w pb wv nv ws ns bad) (hb : bad = true → keyIx key = none) (hl : ns.length + ws.length ≤ 1000) (hz : ∀ s ∈ ws, s.size ≤ 1000) :
    Calls Tryd.prog 72 #[.pointer (some ⟨pb, 0, none⟩), .string key] w (GotPost w pb nv ws ns (if bad = true then none else atomF key ws)) := by
  obtain ⟨R, hR⟩ : ∃ R, R = if bad = true then none else atomF key ws := ⟨_, rfl⟩
  rw [← hR]
  have H := hid h
  have HB := hid hb
  have HL := hid hl
  have HR := hid hR
  have HZ := hid hz
  have T1 := hid (take_any w pb wv nv ws ns bad h)
  have hplt := h.lt
  clear h hb hl hR hz
  go_enter Tryd.func72, Tryd.ntmps72
  go_wp2_with fail
  refine T1.out.mono ?_
  rintro e w1 ⟨wv1, rfl, P1, A1⟩
  go_wp2_with fail
  refine (take_any w1 pb wv1 nv _ ns _ A1).mono ?_
  rintro e w2 ⟨wv2, rfl, P2, A2⟩
  obtain ⟨ws2, bad2, A2, hlen, hcase⟩ := two_takes HR.out HB.out A2
  have P := hid (P1.trans P2)
  have HA2 := hid A2
  obtain ⟨sg, hsg⟩ : ∃ sg, sg = headW ws := ⟨_, rfl⟩
  obtain ⟨vl, hvl⟩ : ∃ vl, vl = headW (if headW ws = ByteArray.empty then ws else ws.tail) := ⟨_, rfl⟩
  rw [← hvl]
  rw [← hsg]
  rw [← hvl, ← hsg] at hcase
  have HCASE := hid hcase
  clear hsg hvl hcase A1 A2 P1 P2 T1
  have hs2 : w.heap.size ≤ w2.heap.size := P.out.size
  go_wp2_with (first | (go_at_call 65; refine (keys_any _).mono ?_; rintro e w3 ⟨rfl, hw3⟩; replace hw3 := hid hw3))
  have hb3 : Below w2.heap.size w2 w3 := by rw [hw3.out]; exact balloc (b0 w2) _
  have HK3 := hid (fun (k : Nat) (hk : k < 3) => show w3.cell? ⟨w2.heap.size, k, none⟩ = some (.string (keyS k)) by rw [hw3.out]; exact keys_cell w2 hk)
  have hg3 : w2.heap.size < w3.heap.size := by rw [hw3.out]; simp
  have HA3 := hid (HA2.out.later hb3)
  have HP3 := hid (P.out.later hb3 hplt)
  clear hw3 hb3 HA2 P
  go_loopw [16] (fun iv wr => ∃ k : Nat, k ≤ 3 ∧ iv = .int .i64 k ∧ Hid (∀ j, j < k → keyS j = key → R = none) ∧ Hid (Below w3.heap.size w3 wr)) (fun iv _ => 3 - (intOf iv).toNat)
  case atStart => exact ⟨0, by omega, rfl, hid (fun j hj => by omega), hid (b0 w3)⟩
  case round =>
    obtain ⟨k, hk, rfl, hall, hb⟩ := hrel
    have i1 : (0 : Int) ≤ ↑k := by omega
    have HA := hid (HA3.out.later hb.out)
    have HP := hid (HP3.out.later hb.out hplt)
    have bx2 := HA.out.box.cell (i := 2) (by simp)
    have hfr := HA.out.box.free
    simp only [List.getElem_cons_zero, List.getElem_cons_succ] at bx2
    by_cases hlt : k < 3
    · have i2 : (↑k : Int) < 3 := by omega
      have ck := cell_below hb.out hg3 (HK3.out k hlt)
      have HN := hid (fun (h : keyS k = key → R = none) => show ∀ j, j < k + 1 → keyS j = key → R = none from fun j hj he => by
        by_cases h1 : j = k
        · subst h1; exact h he
        · exact hall.out j (by omega) he)
      obtain ⟨kk, hkk⟩ : ∃ kk, kk = keyS k := ⟨_, rfl⟩
      rw [← hkk] at ck
      by_cases c1 : kk = key
      · have d1 := eqS_t c1
        replace hkk := hid hkk
        replace c1 := hid c1
        have HKI := hid (keyIx_of hlt (hkk.out.symm.trans c1.out))
        have CONT : ∀ (_ : R = none), Hid (∀ j, j < k + 1 → keyS j = key → R = none) := fun h => hid (HN.out fun _ => h)
        rcases HCASE.out with ⟨hbad, hR⟩ | ⟨hbad, hws, hR⟩
        · subst hbad
          replace hR := hid hR
          clear HCASE
          go_wp2
          exact ⟨⟨k + 1, by omega, by go_num, CONT hR.out, hid hb.out⟩, by simp [intOf]; omega⟩
        · subst hbad
          replace hws := hid hws
          replace hR := hid hR
          clear HCASE
          have HV : Hid (vl.size ≤ 1000) := hid (HZ.out vl (by rw [hws.out]; simp))
          have HLN := hid (congrArg List.length hws.out)
          have hln : ns.length ≤ 998 := by have := HL.out; have := HLN.out; simp only [List.length_cons] at this; omega
          have HOK : Hid (fNode.ok ⟨1, 0, 0, k, vl⟩) := hid (node_ok (by omega) (by omega) (by omega) (by omega) (by have := HV.out; omega))
          have HOK2 : Hid (fNode.ok ⟨2, ns.length, 0, 0, ⟨#[]⟩⟩) := hid (node_ok (by omega) (by omega) (by omega) (by omega) (by decide))
          have tok := hid True.intro
          by_cases s1 : sg = wIs
          · have e1 : (sg.toList == [61]) = true := by rw [eqC]; exact decide_eq_true s1
            have e2 : (sg.toList == [33, 61]) = false := by rw [eqC]; exact decide_eq_false (by rw [s1]; decide)
            replace s1 := hid s1
            rcases Bool.eq_false_or_eq_true (wordB vl.data.toList) with hw | hw
            · go_wp2_with (first
                | (go_at_call 51; refine (iword_any _ _).mono ?_; rintro e w4 ⟨rfl, hbw⟩; rw [hw]; have HA4 := hid (HA.out.later hbw); have HP4 := hid (HP.out.later hbw hplt); have HB4 := hid (bstep hb.out hbw); have y2 := HA4.out.box.cell (i := 2) (by simp); have hf4 := HA4.out.box.free; simp only [List.getElem_cons_zero, List.getElem_cons_succ] at y2)
                | (go_at_call 53; clear tok; refine (put_any w4 pb wv2 nv ws2 ns false ⟨1, 0, 0, k, vl⟩ HA4.out HOK.out (by omega)).mono ?_; rintro e w5 ⟨nv5, rfl, P5, A5⟩; replace P5 := hid P5; replace A5 := hid A5))
              go_ret
              refine ⟨ns.length, rfl, wv2, nv5, ws2, _, false, A5.out, HP4.out.trans P5.out, ?_, ?_, by omega, by omega, ?_⟩
              · have := HLN.out; simp only [List.length_append, List.length_cons, List.length_nil] at *; omega
              · simp
              · rw [hR.out, hws.out, s1.out, atom_is HKI.out hw]
                exact ⟨rfl, rfl, rfl, by simp only [Frm.size]; omega⟩
            · go_wp2_with (first
                | (go_at_call 51; refine (iword_any _ _).mono ?_; rintro e w4 ⟨rfl, hbw⟩; rw [hw]; have HA4 := hid (HA.out.later hbw); have HP4 := hid (HP.out.later hbw hplt); have HB4 := hid (bstep hb.out hbw); have y2 := HA4.out.box.cell (i := 2) (by simp); have hf4 := HA4.out.box.free; simp only [List.getElem_cons_zero, List.getElem_cons_succ] at y2))
              exact ⟨⟨k + 1, by omega, by go_num, CONT (by rw [hR.out, hws.out]; exact atom_none (.inr (.inr hw))), hid HB4.out⟩, by simp [intOf]; omega⟩
          · have e1 : (sg.toList == [61]) = false := by rw [eqC]; exact decide_eq_false s1
            by_cases s2 : sg = wIsNot
            · have e2 : (sg.toList == [33, 61]) = true := by rw [eqC]; exact decide_eq_true s2
              replace s2 := hid s2
              rcases Bool.eq_false_or_eq_true (wordB vl.data.toList) with hw | hw
              · go_wp2_with (first
                  | (go_at_call 51; refine (iword_any _ _).mono ?_; rintro e w4 ⟨rfl, hbw⟩; rw [hw]; have HA4 := hid (HA.out.later hbw); have HP4 := hid (HP.out.later hbw hplt); have HB4 := hid (bstep hb.out hbw); have y2 := HA4.out.box.cell (i := 2) (by simp); have hf4 := HA4.out.box.free; simp only [List.getElem_cons_zero, List.getElem_cons_succ] at y2)
                  | (go_at_call 53; clear tok; refine (put_any w4 pb wv2 nv ws2 ns false ⟨1, 0, 0, k, vl⟩ HA4.out HOK.out (by omega)).mono ?_; rintro e w5 ⟨nv5, rfl, P5, A5⟩; replace P5 := hid P5; replace A5 := hid A5)
                  | (go_at_call 53; refine (put_any w5 pb wv2 nv5 ws2 (ns ++ [⟨1, 0, 0, k, vl⟩]) false ⟨2, ns.length, 0, 0, ⟨#[]⟩⟩ A5.out HOK2.out (by simp; omega)).mono ?_; rintro e w6 ⟨nv6, rfl, P6, A6⟩; replace P6 := hid P6; replace A6 := hid A6))
                go_ret
                refine ⟨(ns.length : Int) + 1, rfl, wv2, nv6, ws2, _, false, A6.out, (HP4.out.trans P5.out).trans P6.out, ?_, ?_, by omega, by omega, ?_⟩
                · have := HLN.out; simp only [List.length_append, List.length_cons, List.length_nil] at *; omega
                · simp
                · rw [hR.out, hws.out, s2.out, atom_isnot HKI.out hw]
                  exact ⟨rfl, rfl, by rw [post_isnot, List.append_assoc]; rfl, by simp only [Frm.size]; omega⟩
              · go_wp2_with (first
                  | (go_at_call 51; refine (iword_any _ _).mono ?_; rintro e w4 ⟨rfl, hbw⟩; rw [hw]; have HA4 := hid (HA.out.later hbw); have HP4 := hid (HP.out.later hbw hplt); have HB4 := hid (bstep hb.out hbw); have y2 := HA4.out.box.cell (i := 2) (by simp); have hf4 := HA4.out.box.free; simp only [List.getElem_cons_zero, List.getElem_cons_succ] at y2))
                exact ⟨⟨k + 1, by omega, by go_num, CONT (by rw [hR.out, hws.out]; exact atom_none (.inr (.inr hw))), hid HB4.out⟩, by simp [intOf]; omega⟩
            · have e2 : (sg.toList == [33, 61]) = false := by rw [eqC]; exact decide_eq_false s2
              have HSO := hid (show signOk sg = false by unfold signOk; rw [decide_eq_false s1, decide_eq_false s2]; rfl)
              go_wp2
              exact ⟨⟨k + 1, by omega, by go_num, CONT (by rw [hR.out, hws.out]; exact atom_none (.inr (.inl HSO.out))), hid hb.out⟩, by simp [intOf]; omega⟩
      · have d1 := eqS_f c1
        have H1 := hid (HN.out fun h => absurd (hkk.trans h) c1)
        clear c1 hkk HCASE
        go_wp2
        exact ⟨⟨k + 1, by omega, by go_num, H1, hid hb.out⟩, by simp [intOf]; omega⟩
    · have HRN : Hid (R = none) := hid (by
        by_cases hx : ∃ j, j < 3 ∧ keyS j = key
        · obtain ⟨j, hj, he⟩ := hx
          exact hall.out j (by omega) he
        · have hk0 := keyIx_none (key := key) fun j hj he => hx ⟨j, hj, he⟩
          rcases HCASE.out with ⟨_, hR⟩ | ⟨_, hws, hR⟩
          · exact hR
          · rw [hR, hws]; exact atom_none (.inl hk0))
      clear HCASE
      go_wp2
      go_ret
      refine ⟨0, rfl, wv2, nv, ws2, ns, true, HA.out.set rfl HA.out.words rfl, HP.out.trans (PTo.set _ _ _ _ _ HA.out.lt), by omega, Nat.le_refl _, by omega, by omega, ?_⟩
      rw [HRN.out]
end Go.Proofs.YtmdnleafpmondaaDoor
