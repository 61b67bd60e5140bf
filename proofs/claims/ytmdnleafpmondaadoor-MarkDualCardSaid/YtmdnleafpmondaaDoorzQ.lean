import Derived.Test.YtmdnleafpmondaaDoorzR
import Derived.Test.YtmdnleafpmondaaDoorzN
section
/- Contracts: reader.both, reader.either. -/
namespace Go.Proofs.YtmdnleafpmondaaDoor
open Go Go.RowKit

def RPartC (f : FuncId) (F : List ByteArray → Got) (N : Nat) : Prop := ∀ (w : World) (pb : Nat) (wv nv : Value) (ws : List ByteArray) (ns : List Node), RAt w pb wv nv ws ns false → ws.length < N → ns.length + ws.length ≤ 900 → (∀ s ∈ ws, s.size ≤ 1000) →
  Calls Tryd.prog f #[.pointer (some ⟨pb, 0, none⟩)] w (RGotPost w pb nv ws ns (F ws))
/-- How many words lie before a parser. -/
def rlenAt (w : World) (pb : Nat) : Nat := match w.cell? ⟨pb, 0, none⟩, w.cell? ⟨pb, 1, none⟩ with | some (.slice _ n _), some (.int _ a) => n - a.toNat | _, _ => 0
theorem RAt.lenAtR {w : World} {pb : Nat} {wv nv : Value} {ws : List ByteArray} {ns : List Node} {bad : Bool} (h : RAt w pb wv nv ws ns bad) : rlenAt w pb = ws.length := by
  obtain ⟨WS, a, h, rfl, _⟩ := h
  have h1 := h.box.cell (i := 0) (by simp)
  have h2 := h.box.cell (i := 1) (by simp)
  obtain ⟨A, cap, hv, _⟩ := h.words.shape
  unfold rlenAt
  rw [h1, h2]
  simp only [List.getElem_cons_zero, List.getElem_cons_succ, hv, List.length_drop, Int.toNat_natCast]
/-- What a chain holds at each round. -/
def RChainAt (w : World) (pb : Nat) (nv : Value) (ws : List ByteArray) (ns : List Node) (word : ByteArray) (c : Bool) (F : List ByteArray → Got) (R : Got) (wv1 nv1 : Value) (ws1 : List ByteArray) (ns1 : List Node) (bad1 : Bool) (i : Int) (wr : World) : Prop :=
  RAt wr pb wv1 nv1 ws1 ns1 bad1 ∧ PTo w wr pb nv nv1 ∧ ns1.length + ws1.length ≤ ns.length + ws.length ∧ ns.length ≤ ns1.length ∧ 0 ≤ i ∧ i ≤ 100000 ∧
    ((bad1 = true ∧ R = none) ∨ (bad1 = false ∧ ∃ f m, ns1 = ns ++ f.post ns.length ∧ i = ((ns.length + f.size : Nat) : Int) - 1 ∧ R = loopF word c F m f ws1 ∧ ws1.length ≤ m ∧ ∀ s ∈ ws1, s ∈ ws))
theorem RChainAt.start {w w1 : World} {pb : Nat} {nv : Value} {ws : List ByteArray} {ns : List Node} {word : ByteArray} {c : Bool} {F : List ByteArray → Got} {N : Nat} {i : Int} (hF : Reads F) (hN : ws.length < N) (h : RGotAt w pb nv ws ns (F ws) i w1) :
    ∃ wv1 nv1 ws1 ns1 bad1, RChainAt w pb nv ws ns word c F (chainF word c F N ws) wv1 nv1 ws1 ns1 bad1 i w1 := by
  obtain ⟨wv', nv', ws', ns', bad', h1, h2, h3, h4, h5, h6, h7⟩ := h
  refine ⟨wv', nv', ws', ns', bad', h1, h2, h3, h4, h5, h6, ?_⟩
  unfold chainF
  cases hp : F ws with
  | none => rw [hp] at h7; exact .inl ⟨h7, rfl⟩
  | some x =>
    obtain ⟨f, q⟩ := x
    rw [hp] at h7
    obtain ⟨e1, e2, e3, e4⟩ := h7
    obtain ⟨r1, r2, r3⟩ := hF _ _ _ hp
    subst e2
    exact .inr ⟨e1, f, N, e3, e4, rfl, by omega, r3⟩
theorem RChainAt.done {w wr : World} {pb : Nat} {nv : Value} {ws : List ByteArray} {ns : List Node} {word : ByteArray} {c : Bool} {F : List ByteArray → Got} {R : Got} {wv1 nv1 : Value} {ws1 : List ByteArray} {ns1 : List Node} {bad1 : Bool} {i : Int}
    (h : RChainAt w pb nv ws ns word c F R wv1 nv1 ws1 ns1 bad1 i wr) (hd : bad1 = true ∨ headW ws1 ≠ word ∨ ws1 = []) : RGotAt w pb nv ws ns R i wr := by
  obtain ⟨h1, h2, h3, h4, h5, h6, h7⟩ := h
  refine ⟨wv1, nv1, ws1, ns1, bad1, h1, h2, h3, h4, h5, h6, ?_⟩
  rcases h7 with ⟨e1, e2⟩ | ⟨e1, f, m, e2, e3, e4, e5, _⟩
  · rw [e2]; exact e1
  · rw [e4, loopF_end (by
      rcases hd with hd | hd
      · rw [e1] at hd; cases hd
      · exact hd)]
    exact ⟨e1, rfl, e2, e3⟩
/-- One more part. -/
theorem RChainAt.next {w wr wt wp wq : World} {pb : Nat} {nv : Value} {ws : List ByteArray} {ns : List Node} {word : ByteArray} {c : Bool} {F : List ByteArray → Got} {R : Got} {wv1 nv1 nv3 : Value} {ws1 r ws2 : List ByteArray} {ns1 ns2 : List Node} {bad2 : Bool} {i i2 : Int} {wv2 nv2 : Value}
    (hF : Reads F) (h0 : word ≠ ByteArray.empty) (h : RChainAt w pb nv ws ns word c F R wv1 nv1 ws1 ns1 false i wr) (hw : ws1 = word :: r) (ht : PTo wr wt pb nv1 nv1)
    (g1 : PTo wt wp pb nv1 nv2) (g2 : ns2.length + ws2.length ≤ ns1.length + r.length) (g3 : ns1.length ≤ ns2.length)
    (g4 : match F r with
    | some (f, q) => bad2 = false ∧ ws2 = q ∧ ns2 = ns1 ++ f.post ns1.length ∧ i2 = ((ns1.length + f.size : Nat) : Int) - 1
    | none => bad2 = true) (p1 : PTo wp wq pb nv2 nv3) (p2 : RAt wq pb wv2 nv3 ws2 (ns2 ++ [⟨if c then 4 else 3, i, i2, 0, ⟨#[]⟩⟩]) bad2) (hb : ns2.length ≤ 100000) :
    RChainAt w pb nv ws ns word c F R wv2 nv3 ws2 (ns2 ++ [⟨if c then 4 else 3, i, i2, 0, ⟨#[]⟩⟩]) bad2 (ns2.length : Int) wq ∧ ws2.length < ws1.length := by
  obtain ⟨h1, h2, h3, h4, h5, h6, h7⟩ := h
  have hl : ws1.length = r.length + 1 := by rw [hw]; rfl
  refine ⟨⟨p2, ((h2.trans ht).trans g1).trans p1, by simp only [List.length_append, List.length_cons, List.length_nil]; omega, by simp only [List.length_append]; omega, by omega, by omega, ?_⟩, by omega⟩
  rcases h7 with ⟨e1, _⟩ | ⟨_, f, m, e2, e3, e4, e5, e6⟩
  · cases e1
  · obtain ⟨m', rfl⟩ : ∃ m', m = m' + 1 := ⟨m - 1, by omega⟩
    obtain ⟨r', hr', hlo⟩ := loopF_next (word := word) (c := c) (F := F) (m := m') (a := f) (ws := ws1) (by rw [hw]; rfl) h0
    have hrr : r' = r := by rw [hw] at hr'; injection hr' with _ e; exact e.symm
    subst hrr
    rw [hlo] at e4
    cases hp : F r' with
    | none => rw [hp] at e4 g4; exact .inl ⟨g4, e4⟩
    | some x =>
      obtain ⟨b, q⟩ := x
      rw [hp] at e4 g4
      obtain ⟨k1, k2, k3, k4⟩ := g4
      obtain ⟨r1, r2, r3⟩ := hF _ _ _ hp
      subst k2
      have hn1 : ns1.length = ns.length + f.size := by rw [e2, List.length_append, Frm.post_length]
      refine .inr ⟨k1, .two c f b, m', ?_, ?_, e4, by omega, fun s hs => e6 s (by rw [hw]; exact List.mem_cons_of_mem _ (r3 s hs))⟩
      · rw [opC (a := i) (b := i2) e3 (by rw [k4, hn1]), k3, e2, List.length_append, Frm.post_length]
        simp only [List.append_assoc]
      · rw [k3, List.length_append, Frm.post_length, hn1]
        simp only [Frm.size]
        omega

set_option maxRecDepth 100000 in
set_option maxHeartbeats 4000000 in
theorem rboth_of {N : Nat} (h : RPartC 62 (notF N) N) : RPartC 46 (bothF N) N := by
  intro w pb wv nv ws ns hp hN hl hz
  have hF := notF_reads N
  have HF := hid hF
  have HC := hid h
  have H1 := hid (h w pb wv nv ws ns hp hN hl hz)
  have HL := hid hl
  have HZ := hid hz
  have HN := hid hN
  have hplt := hp.lt
  have HST := hid (fun (i : Int) (w1 : World) => RChainAt.start (w := w) (w1 := w1) (pb := pb) (nv := nv) (ns := ns) (word := wAnd) (c := false) (i := i) hF hN)
  unfold bothF
  obtain ⟨R, hR⟩ : ∃ R, R = chainF wAnd false (notF N) N ws := ⟨_, rfl⟩
  rw [← hR] at HST
  rw [← hR]
  obtain ⟨F, hFF⟩ : ∃ F, F = notF N := ⟨_, rfl⟩
  rw [← hFF] at HF HC H1 HST
  clear hR hFF hF h hp hN hl hz
  go_enter Tryd.func46, Tryd.ntmps46
  go_wp2_with (first | (go_at_call 62; refine H1.out.mono ?_; rintro e w1 ⟨i, rfl, hgot⟩; have HG1 := hid (HST.out i w1 hgot); clear hgot))
  go_loopw [3] (fun av wr => ∃ (wv1 nv1 : Value) (ws1 : List ByteArray) (ns1 : List Node) (bad1 : Bool) (i : Int), av = .int .i64 i ∧ Hid (RChainAt w pb nv ws ns wAnd false F R wv1 nv1 ws1 ns1 bad1 i wr)) (fun _ wr => rlenAt wr pb)
  case atStart =>
    obtain ⟨wv1, nv1, ws1, ns1, bad1, h1⟩ := HG1.out
    exact ⟨wv1, nv1, ws1, ns1, bad1, i, rfl, hid h1⟩
  case round =>
    clear HG1 H1 HST
    obtain ⟨wv1, nv1, ws1, ns1, bad1, i1, rfl, hat⟩ := hrel
    have HA := hid hat.out.1
    have bx2 := HA.out.cell3
    cases bad1 with
    | true =>
      go_wp2
      go_ret
      exact ⟨i1, rfl, hat.out.done (.inl rfl)⟩
    | false =>
      have HNEXT := hid (next_any _ pb wv1 nv1 ws1 ns1 false wAnd HA.out)
      have HLEN := hid HA.out.lenAtR
      unfold wAnd at HNEXT
      rcases Bool.eq_false_or_eq_true (isNext ws1 wAnd) with hi | hi
      · obtain ⟨r, hr⟩ := isNext_t hi
        have HNX := hid (show Calls Tryd.prog 47 #[.pointer (some ⟨pb, 0, none⟩), .string ⟨#[97, 110, 100]⟩] wr fun e w' => e = .returned (.bool true) ∧ PTo wr w' pb nv1 nv1 ∧ RAt w' pb wv1 nv1 r ns1 false from HNEXT.out.mono fun e w' ⟨h1, h2, h3⟩ => by
          rw [if_pos (show isNext ws1 ⟨#[97, 110, 100]⟩ = true from hi)] at h3
          refine ⟨h1.trans (by rw [show isNext ws1 ⟨#[97, 110, 100]⟩ = true from hi]), h2, ?_⟩
          rw [hr] at h3
          exact h3)
        replace hr := hid hr
        replace hi := hid hi
        have HMEM : Hid (ns1.length + r.length ≤ 899 ∧ r.length < N ∧ ∀ s ∈ r, s.size ≤ 1000) := hid (by
          have h3 := hat.out.2.2.1
          have h4 := HL.out
          have h5 := HN.out
          have h6 := hat.out.2.2.2.1
          have h7 := congrArg List.length hr.out
          rw [List.length_cons] at h7
          rcases hat.out.2.2.2.2.2.2 with ⟨e, _⟩ | ⟨_, f, m, _, _, _, _, h8⟩
          · cases e
          · exact ⟨by omega, by omega, fun s hs => HZ.out s (h8 s (by rw [hr.out]; exact List.mem_cons_of_mem _ hs))⟩)
        go_wp2_with (first
          | (go_at_call 47; refine HNX.out.mono ?_; rintro e w3 ⟨rfl, P3, A3⟩; replace A3 := hid A3; replace P3 := hid P3)
          | (go_at_call 62; refine (HC.out w3 pb wv1 nv1 r ns1 A3.out HMEM.out.2.1 (by have := HMEM.out.1; omega) HMEM.out.2.2).mono ?_; rintro e w4 ⟨i4, rfl, wv4, nv4, ws4, ns4, bad4, q1, q2, q3, q4, q5, q6, q7⟩
             replace q1 := hid q1; replace q2 := hid q2; replace q3 := hid q3; replace q4 := hid q4; replace q7 := hid q7)
          | (go_at_call 48; refine (rput_any w4 pb wv4 nv4 ws4 ns4 bad4 ⟨3, i1, i4, 0, ⟨#[]⟩⟩ q1.out (node_ok (by omega) (by have := hat.out.2.2.2.2; omega) (by omega) (by omega) (by decide)) (by have := HMEM.out.1; have := q3.out; omega)).mono ?_; rintro e w5 ⟨nv5, rfl, P5, A5⟩; replace P5 := hid P5; replace A5 := hid A5))
        have hfin := RChainAt.next (c := false) HF.out (by decide) hat.out hr.out P3.out q2.out q3.out q4.out q7.out P5.out A5.out (by have := HMEM.out.1; have := q3.out; omega)
        exact ⟨⟨wv4, nv5, ws4, _, bad4, ns4.length, rfl, hid hfin.1⟩, by rw [A5.out.lenAtR, HLEN.out]; exact hfin.2⟩
      · have HNX := hid (show Calls Tryd.prog 47 #[.pointer (some ⟨pb, 0, none⟩), .string ⟨#[97, 110, 100]⟩] wr fun e w' => e = .returned (.bool false) ∧ PTo wr w' pb nv1 nv1 ∧ RAt w' pb wv1 nv1 ws1 ns1 false from HNEXT.out.mono fun e w' ⟨h1, h2, h3⟩ => by
          rw [if_neg (by rw [show isNext ws1 ⟨#[97, 110, 100]⟩ = false from hi]; simp)] at h3
          exact ⟨h1.trans (by rw [show isNext ws1 ⟨#[97, 110, 100]⟩ = false from hi]), h2, h3⟩)
        have HEND := hid (isNext_f hi)
        replace hi := hid hi
        go_wp2_with (first | (go_at_call 47; refine HNX.out.mono ?_; rintro e w3 ⟨rfl, P3, A3⟩; replace A3 := hid A3; replace P3 := hid P3))
        go_ret
        obtain ⟨k1, k2, k3, k4, k5, k6, k7⟩ := hat.out
        exact ⟨i1, rfl, RChainAt.done ⟨A3.out, k2.trans P3.out, k3, k4, k5, k6, k7⟩ (.inr HEND.out)⟩

set_option maxRecDepth 100000 in
set_option maxHeartbeats 4000000 in
theorem reither_of {N : Nat} (h : RPartC 46 (bothF N) N) : RPartC 29 (oneF N) N := by
  intro w pb wv nv ws ns hp hN hl hz
  have hF := bothF_reads N
  have HF := hid hF
  have HC := hid h
  have H1 := hid (h w pb wv nv ws ns hp hN hl hz)
  have HL := hid hl
  have HZ := hid hz
  have HN := hid hN
  have hplt := hp.lt
  have HST := hid (fun (i : Int) (w1 : World) => RChainAt.start (w := w) (w1 := w1) (pb := pb) (nv := nv) (ns := ns) (word := wOr) (c := true) (i := i) hF hN)
  unfold oneF
  obtain ⟨R, hR⟩ : ∃ R, R = chainF wOr true (bothF N) N ws := ⟨_, rfl⟩
  rw [← hR] at HST
  rw [← hR]
  obtain ⟨F, hFF⟩ : ∃ F, F = bothF N := ⟨_, rfl⟩
  rw [← hFF] at HF HC H1 HST
  clear hR hFF hF h hp hN hl hz
  go_enter Tryd.func29, Tryd.ntmps29
  go_wp2_with (first | (go_at_call 46; refine H1.out.mono ?_; rintro e w1 ⟨i, rfl, hgot⟩; have HG1 := hid (HST.out i w1 hgot); clear hgot))
  go_loopw [3] (fun av wr => ∃ (wv1 nv1 : Value) (ws1 : List ByteArray) (ns1 : List Node) (bad1 : Bool) (i : Int), av = .int .i64 i ∧ Hid (RChainAt w pb nv ws ns wOr true F R wv1 nv1 ws1 ns1 bad1 i wr)) (fun _ wr => rlenAt wr pb)
  case atStart =>
    obtain ⟨wv1, nv1, ws1, ns1, bad1, h1⟩ := HG1.out
    exact ⟨wv1, nv1, ws1, ns1, bad1, i, rfl, hid h1⟩
  case round =>
    clear HG1 H1 HST
    obtain ⟨wv1, nv1, ws1, ns1, bad1, i1, rfl, hat⟩ := hrel
    have HA := hid hat.out.1
    have bx2 := HA.out.cell3
    cases bad1 with
    | true =>
      go_wp2
      go_ret
      exact ⟨i1, rfl, hat.out.done (.inl rfl)⟩
    | false =>
      have HNEXT := hid (next_any _ pb wv1 nv1 ws1 ns1 false wOr HA.out)
      have HLEN := hid HA.out.lenAtR
      unfold wOr at HNEXT
      rcases Bool.eq_false_or_eq_true (isNext ws1 wOr) with hi | hi
      · obtain ⟨r, hr⟩ := isNext_t hi
        have HNX := hid (show Calls Tryd.prog 47 #[.pointer (some ⟨pb, 0, none⟩), .string ⟨#[111, 114]⟩] wr fun e w' => e = .returned (.bool true) ∧ PTo wr w' pb nv1 nv1 ∧ RAt w' pb wv1 nv1 r ns1 false from HNEXT.out.mono fun e w' ⟨h1, h2, h3⟩ => by
          rw [if_pos (show isNext ws1 ⟨#[111, 114]⟩ = true from hi)] at h3
          refine ⟨h1.trans (by rw [show isNext ws1 ⟨#[111, 114]⟩ = true from hi]), h2, ?_⟩
          rw [hr] at h3
          exact h3)
        replace hr := hid hr
        replace hi := hid hi
        have HMEM : Hid (ns1.length + r.length ≤ 899 ∧ r.length < N ∧ ∀ s ∈ r, s.size ≤ 1000) := hid (by
          have h3 := hat.out.2.2.1
          have h4 := HL.out
          have h5 := HN.out
          have h6 := hat.out.2.2.2.1
          have h7 := congrArg List.length hr.out
          rw [List.length_cons] at h7
          rcases hat.out.2.2.2.2.2.2 with ⟨e, _⟩ | ⟨_, f, m, _, _, _, _, h8⟩
          · cases e
          · exact ⟨by omega, by omega, fun s hs => HZ.out s (h8 s (by rw [hr.out]; exact List.mem_cons_of_mem _ hs))⟩)
        go_wp2_with (first
          | (go_at_call 47; refine HNX.out.mono ?_; rintro e w3 ⟨rfl, P3, A3⟩; replace A3 := hid A3; replace P3 := hid P3)
          | (go_at_call 46; refine (HC.out w3 pb wv1 nv1 r ns1 A3.out HMEM.out.2.1 (by have := HMEM.out.1; omega) HMEM.out.2.2).mono ?_; rintro e w4 ⟨i4, rfl, wv4, nv4, ws4, ns4, bad4, q1, q2, q3, q4, q5, q6, q7⟩
             replace q1 := hid q1; replace q2 := hid q2; replace q3 := hid q3; replace q4 := hid q4; replace q7 := hid q7)
          | (go_at_call 48; refine (rput_any w4 pb wv4 nv4 ws4 ns4 bad4 ⟨4, i1, i4, 0, ⟨#[]⟩⟩ q1.out (node_ok (by omega) (by have := hat.out.2.2.2.2; omega) (by omega) (by omega) (by decide)) (by have := HMEM.out.1; have := q3.out; omega)).mono ?_; rintro e w5 ⟨nv5, rfl, P5, A5⟩; replace P5 := hid P5; replace A5 := hid A5))
        have hfin := RChainAt.next (c := true) HF.out (by decide) hat.out hr.out P3.out q2.out q3.out q4.out q7.out P5.out A5.out (by have := HMEM.out.1; have := q3.out; omega)
        exact ⟨⟨wv4, nv5, ws4, _, bad4, ns4.length, rfl, hid hfin.1⟩, by rw [A5.out.lenAtR, HLEN.out]; exact hfin.2⟩
      · have HNX := hid (show Calls Tryd.prog 47 #[.pointer (some ⟨pb, 0, none⟩), .string ⟨#[111, 114]⟩] wr fun e w' => e = .returned (.bool false) ∧ PTo wr w' pb nv1 nv1 ∧ RAt w' pb wv1 nv1 ws1 ns1 false from HNEXT.out.mono fun e w' ⟨h1, h2, h3⟩ => by
          rw [if_neg (by rw [show isNext ws1 ⟨#[111, 114]⟩ = false from hi]; simp)] at h3
          exact ⟨h1.trans (by rw [show isNext ws1 ⟨#[111, 114]⟩ = false from hi]), h2, h3⟩)
        have HEND := hid (isNext_f hi)
        replace hi := hid hi
        go_wp2_with (first | (go_at_call 47; refine HNX.out.mono ?_; rintro e w3 ⟨rfl, P3, A3⟩; replace A3 := hid A3; replace P3 := hid P3))
        go_ret
        obtain ⟨k1, k2, k3, k4, k5, k6, k7⟩ := hat.out
        exact ⟨i1, rfl, RChainAt.done ⟨A3.out, k2.trans P3.out, k3, k4, k5, k6, k7⟩ (.inr HEND.out)⟩
end Go.Proofs.YtmdnleafpmondaaDoor
end
section
/- Contracts: reader.fac, reader.either. -/
namespace Go.Proofs.YtmdnleafpmondaaDoor
open Go Go.RowKit

theorem next_t {w : World} {pb : Nat} {wv nv : Value} {ws r : List ByteArray} {ns : List Node} {bad : Bool} {s : ByteArray} (h : RAt w pb wv nv ws ns bad) (hi : ws = s :: r) :
    Calls Tryd.prog 47 #[.pointer (some ⟨pb, 0, none⟩), .string s] w fun e w' => e = .returned (.bool true) ∧ PTo w w' pb nv nv ∧ RAt w' pb wv nv r ns bad := by
  have e : isNext ws s = true := by rw [hi]; exact decide_eq_true rfl
  refine (next_any w pb wv nv ws ns bad s h).mono ?_
  rintro x w' ⟨h1, h2, h3⟩
  rw [if_pos e, hi] at h3
  exact ⟨h1.trans (by rw [e]), h2, h3⟩
theorem next_f {w : World} {pb : Nat} {wv nv : Value} {ws : List ByteArray} {ns : List Node} {bad : Bool} {s : ByteArray} (h : RAt w pb wv nv ws ns bad) (e : isNext ws s = false) :
    Calls Tryd.prog 47 #[.pointer (some ⟨pb, 0, none⟩), .string s] w fun e w' => e = .returned (.bool false) ∧ PTo w w' pb nv nv ∧ RAt w' pb wv nv ws ns bad := by
  refine (next_any w pb wv nv ws ns bad s h).mono ?_
  rintro x w' ⟨h1, h2, h3⟩
  rw [if_neg (by rw [e]; simp)] at h3
  exact ⟨h1.trans (by rw [e]), h2, h3⟩
theorem atomR_else {n : Nat} {ws : List ByteArray} (h1 : isNext ws wNot = false) (h2 : isNext ws wOpen = false) : notF (n + 1) ws = atomR ws := by
  cases ws with
  | nil => rfl
  | cons w r => exact notF_else (of_decide_eq_false h1) (of_decide_eq_false h2)

set_option maxRecDepth 100000 in
set_option maxHeartbeats 4000000 in
theorem fac_step {n : Nat} (h : RPartC 62 (notF n) n) : RPartC 62 (notF (n + 1)) (n + 1) := by
  intro w pb wv nv ws ns hp hN hl hz
  have H1 := hid (reither_of (rboth_of h))
  have H := hid h
  have HP := hid hp
  have HL := hid hl
  have HZ := hid hz
  have HN := hid hN
  have bx3 := hp.cell3
  obtain ⟨R, hR⟩ : ∃ R, R = notF (n + 1) ws := ⟨_, rfl⟩
  rw [← hR]
  clear h hp hN hl hz
  have HLR : Hid (∀ s r, ws = s :: r → r.length < n ∧ ns.length + r.length ≤ 899 ∧ ∀ x ∈ r, x.size ≤ 1000) := hid (by
    rintro s r rfl
    have := HL.out
    have := HN.out
    simp only [List.length_cons] at *
    exact ⟨by omega, by omega, fun x hx => HZ.out x (List.mem_cons_of_mem _ hx)⟩)
  rcases Bool.eq_false_or_eq_true (isNext ws wNot) with i1 | i1
  · obtain ⟨r, hr⟩ := isNext_t i1
    have HR : Hid (R = (notF n r).map (fun x => (Frm.no x.1, x.2))) := hid (by rw [hR, hr]; exact notF_not)
    have HNX := hid (next_t HP.out hr)
    have HLR := hid (HLR.out _ _ hr)
    have HWL := hid (congrArg List.length hr)
    unfold wNot at HNX
    clear hR i1 hr
    go_enter Tryd.func62, Tryd.ntmps62
    go_wp2_with (first
      | (go_at_call 47; refine HNX.out.mono ?_; rintro e w2 ⟨rfl, P2, A2⟩; replace P2 := hid P2; replace A2 := hid A2)
      | (go_at_call 62; refine (H.out w2 pb wv nv r ns A2.out HLR.out.1 (by have := HLR.out.2.1; omega) HLR.out.2.2).mono ?_; rintro e w4 ⟨i4, rfl, wv4, nv4, ws4, ns4, bad4, q1, q2, q3, q4, q5, q6, q7⟩
         replace q1 := hid q1; replace q2 := hid q2; replace q3 := hid q3; replace q4 := hid q4; replace q7 := hid q7)
      | (go_at_call 48; refine (rput_any w4 pb wv4 nv4 ws4 ns4 bad4 ⟨2, i4, 0, 0, ⟨#[]⟩⟩ q1.out (node_ok (by omega) (by omega) (by omega) (by omega) (by decide)) (by have := HLR.out.2.1; have := q3.out; omega)).mono ?_; rintro e w5 ⟨nv5, rfl, P5, A5⟩; replace P5 := hid P5; replace A5 := hid A5))
    go_ret
    refine ⟨ns4.length, rfl, wv4, nv5, ws4, _, bad4, A5.out, (P2.out.trans q2.out).trans P5.out, ?_, ?_, by omega, by have := HLR.out.2.1; have := q3.out; omega, ?_⟩
    · have := q3.out; have := HWL.out; simp only [List.length_append, List.length_cons, List.length_nil] at *; omega
    · have := q4.out; simp only [List.length_append]; omega
    · rw [HR.out]
      have h7 := q7.out
      cases hx : notF n r with
      | none => rw [hx] at h7; exact h7
      | some x =>
        obtain ⟨f, q⟩ := x
        rw [hx] at h7
        obtain ⟨k1, k2, k3, k4⟩ := h7
        refine ⟨k1, k2, ?_, ?_⟩
        · rw [post_no, ← k4, k3, List.append_assoc]
        · rw [k3, List.length_append, Frm.post_length]; simp only [Frm.size]; omega
  · have HNX := hid (next_f HP.out i1)
    unfold wNot at HNX
    rcases Bool.eq_false_or_eq_true (isNext ws wOpen) with i2 | i2
    · obtain ⟨r, hr⟩ := isNext_t i2
      have HR : Hid (R = closeF (oneF n r)) := hid (by rw [hR, hr]; exact notF_open n r)
      have HLR := hid (HLR.out _ _ hr)
      have HWL := hid (congrArg List.length hr)
      have HNX2 := hid (fun (w2 : World) (h : RAt w2 pb wv nv ws ns false) => next_t (w := w2) h hr)
      unfold wOpen at HNX2
      clear hR i1 i2 hr
      go_enter Tryd.func62, Tryd.ntmps62
      go_wp2_with (first
        | (go_at_call 47; refine HNX.out.mono ?_; rintro e w2 ⟨rfl, P2, A2⟩; replace P2 := hid P2; replace A2 := hid A2; clear HNX)
        | (go_at_call 47; refine (HNX2.out w2 A2.out).mono ?_; rintro e w3 ⟨rfl, P3, A3⟩; replace P3 := hid P3; replace A3 := hid A3; clear HNX2)
        | (go_at_call 29; refine (H1.out w3 pb wv nv r ns A3.out HLR.out.1 (by have := HLR.out.2.1; omega) HLR.out.2.2).mono ?_; rintro e w4 ⟨i4, rfl, wv4, nv4, ws4, ns4, bad4, q1, q2, q3, q4, q5, q6, q7⟩
           replace q1 := hid q1; replace q2 := hid q2; replace q3 := hid q3; replace q4 := hid q4; replace q7 := hid q7)
        | (go_at_call 47; refine (next_any w4 pb wv4 nv4 ws4 ns4 bad4 ⟨#[41]⟩ q1.out).mono ?_; rintro e w5 ⟨rfl, P5, A5⟩; replace P5 := hid P5; replace A5 := hid A5
           have bx5 := A5.out.cell3
           have bf5 := A5.out.free
           rcases Bool.eq_false_or_eq_true (isNext ws4 ⟨#[41]⟩) with e4 | e4))
      · go_ret
        obtain ⟨q', hq'⟩ := isNext_t e4
        have A6 := A5.out
        rw [if_pos e4] at A6
        refine ⟨i4, rfl, wv4, nv4, ws4.tail, ns4, bad4, A6, ((P2.out.trans P3.out).trans q2.out).trans P5.out, ?_, q4.out, q5, q6, ?_⟩
        · have := q3.out; have := HWL.out; simp only [List.length_tail, List.length_cons] at *; omega
        · rw [HR.out]
          have h7 := q7.out
          cases hx : oneF n r with
          | none => rw [hx] at h7; exact h7
          | some x =>
            obtain ⟨f, q⟩ := x
            rw [hx] at h7
            obtain ⟨k1, k2, k3, k4⟩ := h7
            subst k2
            rw [hq']
            show match (if (⟨#[41]⟩ : ByteArray) = wClose then some (f, q') else none : Got) with | some (f, q) => bad4 = false ∧ (⟨#[41]⟩ :: q').tail = q ∧ ns4 = ns ++ f.post ns.length ∧ i4 = ((ns.length + f.size : Nat) : Int) - 1 | none => bad4 = true
            rw [if_pos (show (⟨#[41]⟩ : ByteArray) = wClose from rfl)]
            exact ⟨k1, rfl, k3, k4⟩
      · go_ret
        have A6 := A5.out
        rw [if_neg (by rw [e4]; simp)] at A6
        refine ⟨i4, rfl, wv4, nv4, ws4, ns4, true, by first | exact A6.bad | exact A5.out.bad, (((P2.out.trans P3.out).trans q2.out).trans P5.out).trans (PTo.set _ _ _ _ _ A5.out.lt), ?_, q4.out, q5, q6, ?_⟩
        · have := q3.out; have := HWL.out; simp only [List.length_cons] at *; omega
        · have : R = none := by
            rw [HR.out]
            have h7 := q7.out
            cases hx : oneF n r with
            | none => rfl
            | some x =>
              obtain ⟨f, q⟩ := x
              rw [hx] at h7
              obtain ⟨k1, k2, k3, k4⟩ := h7
              subst k2
              cases ws4 with
              | nil => rfl
              | cons z q' =>
                simp only [closeF]
                rw [if_neg (show z ≠ wClose from of_decide_eq_false e4)]
          rw [this]
    · have HNX2 := hid (fun (w2 : World) (h : RAt w2 pb wv nv ws ns false) => next_f (w := w2) h i2)
      have HR : Hid (R = atomR ws) := hid (hR.trans (atomR_else i1 i2))
      unfold wOpen at HNX2
      clear hR i1 i2
      go_enter Tryd.func62, Tryd.ntmps62
      go_wp2_with (first
        | (go_at_call 47; refine HNX.out.mono ?_; rintro e w2 ⟨rfl, P2, A2⟩; replace P2 := hid P2; replace A2 := hid A2; clear HNX)
        | (go_at_call 47; refine (HNX2.out w2 A2.out).mono ?_; rintro e w3 ⟨rfl, P3, A3⟩; replace P3 := hid P3; replace A3 := hid A3; clear HNX2)
        | (go_at_call 73; refine (ratom_any w3 pb wv nv ws ns A3.out (by have := HL.out; omega) HZ.out).mono ?_; rintro e w4 ⟨i, rfl, hg⟩; replace hg := hid hg))
      go_ret
      rw [HR.out]
      obtain ⟨wv', nv', ws', ns', bad', q1, q2, q3, q4, q5, q6, q7⟩ := hg.out
      exact ⟨i, rfl, wv', nv', ws', ns', bad', q1, (P2.out.trans P3.out).trans q2, q3, q4, q5, q6, q7⟩
theorem fac_any (n : Nat) : RPartC 62 (notF n) n := by
  induction n with
  | zero => intro w pb wv nv ws ns hp hN; omega
  | succ n ih => exact fac_step ih
theorem either_any (n : Nat) : RPartC 29 (oneF n) n := reither_of (rboth_of (fac_any n))
end Go.Proofs.YtmdnleafpmondaaDoor
end
