import Derived.Test.YtmdnleafpmondaaDoorU12
section
/- Contracts: parser.chain, both, one, not. -/
namespace Go.Proofs.YtmdnleafpmondaaDoor
open Go Go.RowKit

def PartC (f : FuncId) (F : List ByteArray → Got) (N : Nat) : Prop := ∀ (w : World) (pb : Nat) (wv nv : Value) (ws : List ByteArray) (ns : List Node), PAt w pb wv nv ws ns false → ws.length < N → ns.length + ws.length ≤ 900 → (∀ s ∈ ws, s.size ≤ 1000) →
  Calls Tryd.prog f #[.pointer (some ⟨pb, 0, none⟩)] w (GotPost w pb nv ws ns (F ws))
theorem loopF_end {word : ByteArray} {c : Bool} {F : List ByteArray → Got} {m : Nat} {a : Frm} {ws : List ByteArray} (h : headW ws ≠ word ∨ ws = []) : loopF word c F m a ws = some (a, ws) := by
  cases m with
  | zero => rfl
  | succ m =>
    cases ws with
    | nil => rfl
    | cons w r =>
      simp only [loopF]
      rw [if_neg]
      intro e
      rcases h with h | h
      · exact h e
      · cases h
theorem loopF_next {word : ByteArray} {c : Bool} {F : List ByteArray → Got} {m : Nat} {a : Frm} {ws : List ByteArray} (h : headW ws = word) (h0 : word ≠ ByteArray.empty) : ∃ r, ws = word :: r ∧ loopF word c F (m + 1) a ws = match F r with | none => none | some (b, q) => loopF word c F m (.two c a b) q := by
  cases ws with
  | nil => exact absurd h.symm h0
  | cons w r =>
    have hw : w = word := h
    subst hw
    refine ⟨r, rfl, ?_⟩
    rw [loopF, if_pos rfl]
    cases F r <;> rfl
theorem opC {c : Bool} {a b : Int} {x y : Frm} {o : Nat} (ha : a = ((o + x.size : Nat) : Int) - 1) (hb : b = ((o + x.size + y.size : Nat) : Int) - 1) : (Frm.two c x y).post o = (x.post o ++ y.post (o + x.size)) ++ [⟨if c then 4 else 3, a, b, 0, ⟨#[]⟩⟩] := by
  subst ha; subst hb
  simp only [Frm.post, List.append_assoc]
  rfl
/-- How many words lie before a parser. -/
def lenAt (w : World) (pb : Nat) : Nat := match w.cell? ⟨pb, 0, none⟩ with | some (.slice _ n _) => n | _ => 0
theorem PAt.lenAt {w : World} {pb : Nat} {wv nv : Value} {ws : List ByteArray} {ns : List Node} {bad : Bool} (h : PAt w pb wv nv ws ns bad) : lenAt w pb = ws.length := by
  have h1 := h.box.cell (i := 0) (by simp)
  obtain ⟨A, cap, hv, _⟩ := h.words.shape
  unfold Go.Proofs.YtmdnleafpmondaaDoor.lenAt
  rw [h1, List.getElem_cons_zero, hv]
/-- What a chain holds at each round. -/
def ChainAt (w : World) (pb : Nat) (nv : Value) (ws : List ByteArray) (ns : List Node) (word : ByteArray) (c : Bool) (F : List ByteArray → Got) (R : Got) (wv1 nv1 : Value) (ws1 : List ByteArray) (ns1 : List Node) (bad1 : Bool) (i : Int) (wr : World) : Prop :=
  PAt wr pb wv1 nv1 ws1 ns1 bad1 ∧ PTo w wr pb nv nv1 ∧ ns1.length + ws1.length ≤ ns.length + ws.length ∧ ns.length ≤ ns1.length ∧ 0 ≤ i ∧ i ≤ 100000 ∧
    ((bad1 = true ∧ R = none) ∨ (bad1 = false ∧ ∃ f m, ns1 = ns ++ f.post ns.length ∧ i = ((ns.length + f.size : Nat) : Int) - 1 ∧ R = loopF word c F m f ws1 ∧ ws1.length ≤ m ∧ ∀ s ∈ ws1, s ∈ ws))
theorem ChainAt.start {w w1 : World} {pb : Nat} {nv : Value} {ws : List ByteArray} {ns : List Node} {word : ByteArray} {c : Bool} {F : List ByteArray → Got} {N : Nat} {i : Int} (hF : Reads F) (hN : ws.length < N) (h : GotAt w pb nv ws ns (F ws) i w1) :
    ∃ wv1 nv1 ws1 ns1 bad1, ChainAt w pb nv ws ns word c F (chainF word c F N ws) wv1 nv1 ws1 ns1 bad1 i w1 := by
  obtain ⟨wv', nv', ws', ns', bad', h1, h2, h3, h4, h5, h6, h7⟩ := h
  refine ⟨wv', nv', ws', ns', bad', h1, h2, h3, h4, h5, h6, ?_⟩
  unfold chainF
  cases hp : F ws with
  | none => rw [hp] at h7; exact .inl ⟨h7, rfl⟩
  | some x =>
    obtain ⟨f, q⟩ := x
    rw [hp] at h7
    obtain ⟨e1, e2, e3, e4⟩ := h7
    obtain ⟨r1, r2, r3⟩ := hF _ _ _ hp
    subst e2
    exact .inr ⟨e1, f, N, e3, e4, rfl, by omega, r3⟩
theorem ChainAt.done {w wr : World} {pb : Nat} {nv : Value} {ws : List ByteArray} {ns : List Node} {word : ByteArray} {c : Bool} {F : List ByteArray → Got} {R : Got} {wv1 nv1 : Value} {ws1 : List ByteArray} {ns1 : List Node} {bad1 : Bool} {i : Int}
    (h : ChainAt w pb nv ws ns word c F R wv1 nv1 ws1 ns1 bad1 i wr) (hd : bad1 = true ∨ headW ws1 ≠ word) : GotAt w pb nv ws ns R i wr := by
  obtain ⟨h1, h2, h3, h4, h5, h6, h7⟩ := h
  refine ⟨wv1, nv1, ws1, ns1, bad1, h1, h2, h3, h4, h5, h6, ?_⟩
  rcases h7 with ⟨e1, e2⟩ | ⟨e1, f, m, e2, e3, e4, e5, _⟩
  · rw [e2]; exact e1
  · rw [e4, loopF_end (by
      rcases hd with hd | hd
      · rw [e1] at hd; cases hd
      · exact .inl hd)]
    exact ⟨e1, rfl, e2, e3⟩
/-- One more part. -/
theorem ChainAt.next {w wr wt wp wq : World} {pb : Nat} {nv : Value} {ws : List ByteArray} {ns : List Node} {word : ByteArray} {c : Bool} {F : List ByteArray → Got} {R : Got} {wv1 nv1 nv3 : Value} {ws1 r ws2 : List ByteArray} {ns1 ns2 : List Node} {bad2 : Bool} {i i2 : Int} {wv2 nv2 : Value}
    (hF : Reads F) (h0 : word ≠ ByteArray.empty) (h : ChainAt w pb nv ws ns word c F R wv1 nv1 ws1 ns1 false i wr) (hw : ws1 = word :: r) (ht : PTo wr wt pb nv1 nv1)
    (g1 : PTo wt wp pb nv1 nv2) (g2 : ns2.length + ws2.length ≤ ns1.length + r.length) (g3 : ns1.length ≤ ns2.length)
    (g4 : match F r with
    | some (f, q) => bad2 = false ∧ ws2 = q ∧ ns2 = ns1 ++ f.post ns1.length ∧ i2 = ((ns1.length + f.size : Nat) : Int) - 1
    | none => bad2 = true) (p1 : PTo wp wq pb nv2 nv3) (p2 : PAt wq pb wv2 nv3 ws2 (ns2 ++ [⟨if c then 4 else 3, i, i2, 0, ⟨#[]⟩⟩]) bad2) (hb : ns2.length ≤ 100000) :
    ChainAt w pb nv ws ns word c F R wv2 nv3 ws2 (ns2 ++ [⟨if c then 4 else 3, i, i2, 0, ⟨#[]⟩⟩]) bad2 (ns2.length : Int) wq ∧ ws2.length < ws1.length := by
  obtain ⟨h1, h2, h3, h4, h5, h6, h7⟩ := h
  have hl : ws1.length = r.length + 1 := by rw [hw]; rfl
  refine ⟨⟨p2, ((h2.trans ht).trans g1).trans p1, by simp only [List.length_append, List.length_cons, List.length_nil]; omega, by simp only [List.length_append]; omega, by omega, by omega, ?_⟩, by omega⟩
  rcases h7 with ⟨e1, _⟩ | ⟨_, f, m, e2, e3, e4, e5, e6⟩
  · cases e1
  · obtain ⟨m', rfl⟩ : ∃ m', m = m' + 1 := ⟨m - 1, by omega⟩
    obtain ⟨r', hr', hlo⟩ := loopF_next (word := word) (c := c) (F := F) (m := m') (a := f) (ws := ws1) (by rw [hw]; rfl) h0
    have hrr : r' = r := by rw [hw] at hr'; injection hr' with _ e; exact e.symm
    subst hrr
    rw [hlo] at e4
    cases hp : F r' with
    | none => rw [hp] at e4 g4; exact .inl ⟨g4, e4⟩
    | some x =>
      obtain ⟨b, q⟩ := x
      rw [hp] at e4 g4
      obtain ⟨k1, k2, k3, k4⟩ := g4
      obtain ⟨r1, r2, r3⟩ := hF _ _ _ hp
      subst k2
      have hn1 : ns1.length = ns.length + f.size := by rw [e2, List.length_append, Frm.post_length]
      refine .inr ⟨k1, .two c f b, m', ?_, ?_, e4, by omega, fun s hs => e6 s (by rw [hw]; exact List.mem_cons_of_mem _ (r3 s hs))⟩
      · rw [opC (a := i) (b := i2) e3 (by rw [k4, hn1]), k3, e2, List.length_append, Frm.post_length]
        simp only [List.append_assoc]
      · rw [k3, List.length_append, Frm.post_length, hn1]
        simp only [Frm.size]
        omega

set_option maxRecDepth 100000 in
set_option maxHeartbeats 4000000 in
theorem chain_both {F : List ByteArray → Got} {N : Nat} (hF : Reads F) (h : PartC 61 F N) (w : World) (pb : Nat) (wv nv : Value) (ws : List ByteArray) (ns : List Node) (hp : PAt w pb wv nv ws ns false) (hN : ws.length < N) (hl : ns.length + ws.length ≤ 900) (hz : ∀ s ∈ ws, s.size ≤ 1000) :
    Calls Tryd.prog 44 #[.pointer (some ⟨pb, 0, none⟩), .string ⟨#[97, 110, 100]⟩, .int .i64 3, .func (.func 61) #[] #[]] w (GotPost w pb nv ws ns (chainF wAnd false F N ws)) := by
  have HF := hid hF
  have HC := hid h
  have H1 := hid (h w pb wv nv ws ns hp hN hl hz)
  have HL := hid hl
  have HZ := hid hz
  have HN := hid hN
  have HST := hid (fun (i : Int) (w1 : World) => ChainAt.start (w := w) (w1 := w1) (pb := pb) (nv := nv) (ns := ns) (word := wAnd) (c := false) (i := i) hF hN)
  obtain ⟨R, hR⟩ : ∃ R, R = chainF wAnd false F N ws := ⟨_, rfl⟩
  rw [← hR] at HST
  rw [← hR]
  clear hR hF h hp hN hl hz
  go_enter Tryd.func44, Tryd.ntmps44
  go_wp2_with (first | (go_at_call 61; refine H1.out.mono ?_; rintro e w1 ⟨i, rfl, hgot⟩; have HG1 := hid (HST.out i w1 hgot); clear hgot))
  go_loopw [9] (fun av wr => ∃ (wv1 nv1 : Value) (ws1 : List ByteArray) (ns1 : List Node) (bad1 : Bool) (i : Int), av = .int .i64 i ∧ Hid (ChainAt w pb nv ws ns wAnd false F R wv1 nv1 ws1 ns1 bad1 i wr)) (fun _ wr => lenAt wr pb)
  case atStart =>
    obtain ⟨wv1, nv1, ws1, ns1, bad1, h1⟩ := HG1.out
    exact ⟨wv1, nv1, ws1, ns1, bad1, i, rfl, hid h1⟩
  case round =>
    clear HG1 H1 HST
    obtain ⟨wv1, nv1, ws1, ns1, bad1, i1, rfl, hat⟩ := hrel
    have HA := hid hat.out.1
    have bx2 := HA.out.box.cell (i := 2) (by simp)
    simp only [List.getElem_cons_zero, List.getElem_cons_succ] at bx2
    cases bad1 with
    | true =>
      go_wp2
      go_ret
      exact ⟨i1, rfl, hat.out.done (.inl rfl)⟩
    | false =>
      have HNOW := hid (now_any _ pb wv1 nv1 ws1 ns1 false HA.out)
      have HTAKE := hid (take_any _ pb wv1 nv1 ws1 ns1 false HA.out)
      have HLEN := hid HA.out.lenAt
      obtain ⟨hd, hhd⟩ : ∃ hd, hd = headW ws1 := ⟨_, rfl⟩
      rw [← hhd] at HNOW
      by_cases hw : headW ws1 = wAnd
      · have e1 : (hd.toList == [97, 110, 100]) = true := by rw [eqC]; exact decide_eq_true (by rw [hhd, hw]; rfl)
        replace hhd := hid hhd
        obtain ⟨r, hr, -⟩ := loopF_next (word := wAnd) (c := false) (F := F) (m := 0) (a := default) hw (by decide)
        replace hr := hid hr
        have HNE : Hid (headW ws1 ≠ ByteArray.empty) := hid (by rw [hw]; decide)
        have HMEM : Hid (ns1.length + r.length ≤ 899 ∧ r.length < N ∧ ∀ s ∈ r, s.size ≤ 1000) := hid (by
          have h3 := hat.out.2.2.1
          have h4 := HL.out
          have h5 := HN.out
          have h6 := hat.out.2.2.2.1
          have h7 := congrArg List.length hr.out
          rw [List.length_cons] at h7
          rcases hat.out.2.2.2.2.2.2 with ⟨e, _⟩ | ⟨_, f, m, _, _, _, _, h8⟩
          · cases e
          · exact ⟨by omega, by omega, fun s hs => HZ.out s (h8 s (by rw [hr.out]; exact List.mem_cons_of_mem _ hs))⟩)
        replace hw := hid hw
        go_wp2_with (first
          | (go_at_call 59; refine HNOW.out.mono ?_; rintro e w2 ⟨rfl, rfl⟩)
          | (go_at_call 60; refine HTAKE.out.mono ?_; rintro e w3 ⟨wv3, rfl, P3, A3⟩; rw [if_neg HNE.out, if_neg HNE.out] at A3; replace A3 := hid A3; replace P3 := hid P3)
          | (go_at_call 61; refine (HC.out w3 pb wv3 nv1 r ns1 (by have := A3.out; rw [hr.out] at this; exact this) HMEM.out.2.1 (by have := HMEM.out.1; omega) HMEM.out.2.2).mono ?_; rintro e w4 ⟨i4, rfl, wv4, nv4, ws4, ns4, bad4, q1, q2, q3, q4, q5, q6, q7⟩
             replace q1 := hid q1; replace q2 := hid q2; replace q3 := hid q3; replace q4 := hid q4; replace q7 := hid q7)
          | (go_at_call 53; refine (put_any w4 pb wv4 nv4 ws4 ns4 bad4 ⟨3, i1, i4, 0, ⟨#[]⟩⟩ q1.out (node_ok (by omega) (by have := hat.out.2.2.2.2; omega) (by omega) (by omega) (by decide)) (by have := HMEM.out.1; have := q3.out; omega)).mono ?_; rintro e w5 ⟨nv5, rfl, P5, A5⟩; replace P5 := hid P5; replace A5 := hid A5))
        have hfin := ChainAt.next (c := false) HF.out (by decide) hat.out hr.out P3.out q2.out q3.out q4.out q7.out P5.out A5.out (by have := HMEM.out.1; have := q3.out; omega)
        exact ⟨⟨wv4, nv5, ws4, _, bad4, ns4.length, rfl, hid hfin.1⟩, by rw [A5.out.lenAt, HLEN.out]; exact hfin.2⟩
      · have e1 : (hd.toList == [97, 110, 100]) = false := by rw [eqC]; exact decide_eq_false (by rw [hhd]; exact hw)
        replace hhd := hid hhd
        replace hw := hid hw
        go_wp2_with (first
          | (go_at_call 59; refine HNOW.out.mono ?_; rintro e w2 ⟨rfl, rfl⟩))
        go_ret
        exact ⟨i1, rfl, hat.out.done (.inr hw.out)⟩

set_option maxRecDepth 100000 in
set_option maxHeartbeats 4000000 in
theorem chain_one {F : List ByteArray → Got} {N : Nat} (hF : Reads F) (h : PartC 45 F N) (w : World) (pb : Nat) (wv nv : Value) (ws : List ByteArray) (ns : List Node) (hp : PAt w pb wv nv ws ns false) (hN : ws.length < N) (hl : ns.length + ws.length ≤ 900) (hz : ∀ s ∈ ws, s.size ≤ 1000) :
    Calls Tryd.prog 44 #[.pointer (some ⟨pb, 0, none⟩), .string ⟨#[111, 114]⟩, .int .i64 4, .func (.func 45) #[] #[]] w (GotPost w pb nv ws ns (chainF wOr true F N ws)) := by
  have HF := hid hF
  have HC := hid h
  have H1 := hid (h w pb wv nv ws ns hp hN hl hz)
  have HL := hid hl
  have HZ := hid hz
  have HN := hid hN
  have HST := hid (fun (i : Int) (w1 : World) => ChainAt.start (w := w) (w1 := w1) (pb := pb) (nv := nv) (ns := ns) (word := wOr) (c := true) (i := i) hF hN)
  obtain ⟨R, hR⟩ : ∃ R, R = chainF wOr true F N ws := ⟨_, rfl⟩
  rw [← hR] at HST
  rw [← hR]
  clear hR hF h hp hN hl hz
  go_enter Tryd.func44, Tryd.ntmps44
  go_wp2_with (first | (go_at_call 45; refine H1.out.mono ?_; rintro e w1 ⟨i, rfl, hgot⟩; have HG1 := hid (HST.out i w1 hgot); clear hgot))
  go_loopw [9] (fun av wr => ∃ (wv1 nv1 : Value) (ws1 : List ByteArray) (ns1 : List Node) (bad1 : Bool) (i : Int), av = .int .i64 i ∧ Hid (ChainAt w pb nv ws ns wOr true F R wv1 nv1 ws1 ns1 bad1 i wr)) (fun _ wr => lenAt wr pb)
  case atStart =>
    obtain ⟨wv1, nv1, ws1, ns1, bad1, h1⟩ := HG1.out
    exact ⟨wv1, nv1, ws1, ns1, bad1, i, rfl, hid h1⟩
  case round =>
    clear HG1 H1 HST
    obtain ⟨wv1, nv1, ws1, ns1, bad1, i1, rfl, hat⟩ := hrel
    have HA := hid hat.out.1
    have bx2 := HA.out.box.cell (i := 2) (by simp)
    simp only [List.getElem_cons_zero, List.getElem_cons_succ] at bx2
    cases bad1 with
    | true =>
      go_wp2
      go_ret
      exact ⟨i1, rfl, hat.out.done (.inl rfl)⟩
    | false =>
      have HNOW := hid (now_any _ pb wv1 nv1 ws1 ns1 false HA.out)
      have HTAKE := hid (take_any _ pb wv1 nv1 ws1 ns1 false HA.out)
      have HLEN := hid HA.out.lenAt
      obtain ⟨hd, hhd⟩ : ∃ hd, hd = headW ws1 := ⟨_, rfl⟩
      rw [← hhd] at HNOW
      by_cases hw : headW ws1 = wOr
      · have e1 : (hd.toList == [111, 114]) = true := by rw [eqC]; exact decide_eq_true (by rw [hhd, hw]; rfl)
        replace hhd := hid hhd
        obtain ⟨r, hr, -⟩ := loopF_next (word := wOr) (c := false) (F := F) (m := 0) (a := default) hw (by decide)
        replace hr := hid hr
        have HNE : Hid (headW ws1 ≠ ByteArray.empty) := hid (by rw [hw]; decide)
        have HMEM : Hid (ns1.length + r.length ≤ 899 ∧ r.length < N ∧ ∀ s ∈ r, s.size ≤ 1000) := hid (by
          have h3 := hat.out.2.2.1
          have h4 := HL.out
          have h5 := HN.out
          have h6 := hat.out.2.2.2.1
          have h7 := congrArg List.length hr.out
          rw [List.length_cons] at h7
          rcases hat.out.2.2.2.2.2.2 with ⟨e, _⟩ | ⟨_, f, m, _, _, _, _, h8⟩
          · cases e
          · exact ⟨by omega, by omega, fun s hs => HZ.out s (h8 s (by rw [hr.out]; exact List.mem_cons_of_mem _ hs))⟩)
        replace hw := hid hw
        go_wp2_with (first
          | (go_at_call 59; refine HNOW.out.mono ?_; rintro e w2 ⟨rfl, rfl⟩)
          | (go_at_call 60; refine HTAKE.out.mono ?_; rintro e w3 ⟨wv3, rfl, P3, A3⟩; rw [if_neg HNE.out, if_neg HNE.out] at A3; replace A3 := hid A3; replace P3 := hid P3)
          | (go_at_call 45; refine (HC.out w3 pb wv3 nv1 r ns1 (by have := A3.out; rw [hr.out] at this; exact this) HMEM.out.2.1 (by have := HMEM.out.1; omega) HMEM.out.2.2).mono ?_; rintro e w4 ⟨i4, rfl, wv4, nv4, ws4, ns4, bad4, q1, q2, q3, q4, q5, q6, q7⟩
             replace q1 := hid q1; replace q2 := hid q2; replace q3 := hid q3; replace q4 := hid q4; replace q7 := hid q7)
          | (go_at_call 53; refine (put_any w4 pb wv4 nv4 ws4 ns4 bad4 ⟨4, i1, i4, 0, ⟨#[]⟩⟩ q1.out (node_ok (by omega) (by have := hat.out.2.2.2.2; omega) (by omega) (by omega) (by decide)) (by have := HMEM.out.1; have := q3.out; omega)).mono ?_; rintro e w5 ⟨nv5, rfl, P5, A5⟩; replace P5 := hid P5; replace A5 := hid A5))
        have hfin := ChainAt.next (c := true) HF.out (by decide) hat.out hr.out P3.out q2.out q3.out q4.out q7.out P5.out A5.out (by have := HMEM.out.1; have := q3.out; omega)
        exact ⟨⟨wv4, nv5, ws4, _, bad4, ns4.length, rfl, hid hfin.1⟩, by rw [A5.out.lenAt, HLEN.out]; exact hfin.2⟩
      · have e1 : (hd.toList == [111, 114]) = false := by rw [eqC]; exact decide_eq_false (by rw [hhd]; exact hw)
        replace hhd := hid hhd
        replace hw := hid hw
        go_wp2_with (first
          | (go_at_call 59; refine HNOW.out.mono ?_; rintro e w2 ⟨rfl, rfl⟩))
        go_ret
        exact ⟨i1, rfl, hat.out.done (.inr hw.out)⟩

def bothC (N : Nat) : Prop := PartC 45 (bothF N) N
set_option maxRecDepth 100000 in
theorem both_of {N : Nat} (h : PartC 61 (notF N) N) : PartC 45 (bothF N) N := by
  intro w pb wv nv ws ns hp hN hl hz
  have H := hid (chain_both (notF_reads N) h w pb wv nv ws ns hp hN hl hz)
  clear h hp hN hl hz
  unfold bothF
  generalize chainF wAnd false (notF N) N ws = R at *
  go_enter Tryd.func45, Tryd.ntmps45
  go_wp2_with (first | (go_at_call 44; refine H.out.mono ?_; rintro e w1 ⟨i, rfl, hg⟩; replace hg := hid hg))
  go_ret
  exact ⟨i, rfl, hg.out⟩
set_option maxRecDepth 100000 in
theorem one_of {N : Nat} (h : PartC 45 (bothF N) N) : PartC 27 (oneF N) N := by
  intro w pb wv nv ws ns hp hN hl hz
  have H := hid (chain_one (bothF_reads N) h w pb wv nv ws ns hp hN hl hz)
  clear h hp hN hl hz
  unfold oneF
  generalize chainF wOr true (bothF N) N ws = R at *
  go_enter Tryd.func27, Tryd.ntmps27
  go_wp2_with (first | (go_at_call 44; refine H.out.mono ?_; rintro e w1 ⟨i, rfl, hg⟩; replace hg := hid hg))
  go_ret
  exact ⟨i, rfl, hg.out⟩
end Go.Proofs.YtmdnleafpmondaaDoor
end
section
/- Contracts: parser.not, one. -/
namespace Go.Proofs.YtmdnleafpmondaaDoor
open Go Go.RowKit

theorem atom_empty (r : List ByteArray) : atomF ByteArray.empty r = none := by
  match r with
  | [] => rfl
  | [_] => rfl
  | s :: v :: r => exact atom_none (.inl (by decide))
theorem notF_empty {n : Nat} {ws : List ByteArray} (h : headW ws = ByteArray.empty) : notF (n + 1) ws = none := by
  cases ws with
  | nil => rfl
  | cons w r =>
    have hw : w = ByteArray.empty := h
    subst hw
    rw [notF, if_neg (by decide), if_neg (by decide)]
    exact atom_empty r
theorem notF_not {n : Nat} {r : List ByteArray} : notF (n + 1) (wNot :: r) = (notF n r).map (fun x => (Frm.no x.1, x.2)) := by
  rw [notF, if_pos rfl]
theorem notF_else {n : Nat} {w : ByteArray} {r : List ByteArray} (h1 : w ≠ wNot) (h2 : w ≠ wOpen) : notF (n + 1) (w :: r) = atomF w r := by
  rw [notF, if_neg h1, if_neg h2]
/-- Behind one word. -/
theorem GotAt.tail {w w1 w2 : World} {pb : Nat} {nv : Value} {s : ByteArray} {r : List ByteArray} {ns : List Node} {R : Got} {i : Int} (h0 : PTo w w1 pb nv nv) (h : GotAt w1 pb nv r ns R i w2) : GotAt w pb nv (s :: r) ns R i w2 := by
  obtain ⟨wv', nv', ws', ns', bad', q1, q2, q3, q4, q5, q6, q7⟩ := h
  exact ⟨wv', nv', ws', ns', bad', q1, h0.trans q2, by simp only [List.length_cons]; omega, q4, q5, q6, q7⟩
theorem post_no (f : Frm) (o : Nat) : (Frm.no f).post o = f.post o ++ [⟨2, ((o + f.size : Nat) : Int) - 1, 0, 0, ⟨#[]⟩⟩] := rfl

set_option maxRecDepth 100000 in
set_option maxHeartbeats 4000000 in
theorem not_step {n : Nat} (h : PartC 61 (notF n) n) : PartC 61 (notF (n + 1)) (n + 1) := by
  intro w pb wv nv ws ns hp hN hl hz
  have H1 := hid (one_of (both_of h))
  have H := hid h
  have HP := hid hp
  have HL := hid hl
  have HZ := hid hz
  have HN := hid hN
  have bx2 := hp.box.cell (i := 2) (by simp)
  simp only [List.getElem_cons_zero, List.getElem_cons_succ] at bx2
  have HT := hid (take_any w pb wv nv ws ns false hp)
  obtain ⟨R, hR⟩ : ∃ R, R = notF (n + 1) ws := ⟨_, rfl⟩
  rw [← hR]
  clear h hp hN hl hz
  by_cases h0 : headW ws = ByteArray.empty
  · have HR : Hid (R = none) := hid (hR.trans (notF_empty h0))
    clear hR
    have HT2 := hid (show Calls Tryd.prog 60 #[.pointer (some ⟨pb, 0, none⟩)] w fun e w' => ∃ wv', e = .returned (.string ⟨#[]⟩) ∧ PTo w w' pb nv nv ∧ PAt w' pb wv' nv ws ns true from HT.out.mono fun e w' ⟨wv', h1, h2, h3⟩ => by
      rw [if_pos h0, if_pos h0] at h3
      exact ⟨wv', by rw [h1, h0]; rfl, h2, h3⟩)
    replace h0 := hid h0
    go_enter Tryd.func61, Tryd.ntmps61
    go_wp2_with (first
      | (go_at_call 60; refine HT2.out.mono ?_; rintro e w2 ⟨wv2, rfl, P2, A2⟩; replace P2 := hid P2; replace A2 := hid A2)
      | (go_at_call 72; refine (is_any w2 pb wv2 nv ws ns true ⟨#[]⟩ A2.out (fun _ => by decide) (by have := HL.out; omega) HZ.out).mono ?_; rintro e w3 ⟨i, rfl, hg⟩; replace hg := hid hg))
    go_ret
    obtain ⟨wv', nv', ws', ns', bad', q1, q2, q3, q4, q5, q6, q7⟩ := hg.out
    rw [HR.out]
    exact ⟨i, rfl, wv', nv', ws', ns', bad', q1, P2.out.trans q2, q3, q4, q5, q6, q7⟩
  · obtain ⟨s, r, rfl⟩ : ∃ s r, ws = s :: r := by
      cases ws with
      | nil => exact absurd rfl h0
      | cons s r => exact ⟨s, r, rfl⟩
    have HT2 := hid (show Calls Tryd.prog 60 #[.pointer (some ⟨pb, 0, none⟩)] w fun e w' => ∃ wv', e = .returned (.string s) ∧ PTo w w' pb nv nv ∧ PAt w' pb wv' nv r ns false from HT.out.mono fun e w' ⟨wv', h1, h2, h3⟩ => by
      rw [if_neg h0, if_neg h0] at h3
      exact ⟨wv', h1, h2, h3⟩)
    have HLR : Hid (r.length < n ∧ ns.length + r.length ≤ 899 ∧ ∀ x ∈ r, x.size ≤ 1000) := hid (by
      have := HL.out
      have := HN.out
      simp only [List.length_cons] at *
      exact ⟨by omega, by omega, fun x hx => HZ.out x (List.mem_cons_of_mem _ hx)⟩)
    replace h0 := hid h0
    clear HT
    by_cases s1 : s = wNot
    · have e1 : (s.toList == [110, 111, 116]) = true := by rw [eqC]; exact decide_eq_true s1
      have HR : Hid (R = (notF n r).map (fun x => (Frm.no x.1, x.2))) := hid (by rw [hR, s1]; exact notF_not)
      replace s1 := hid s1
      clear hR
      go_enter Tryd.func61, Tryd.ntmps61
      go_wp2_with (first
        | (go_at_call 60; refine HT2.out.mono ?_; rintro e w2 ⟨wv2, rfl, P2, A2⟩; replace P2 := hid P2; replace A2 := hid A2)
        | (go_at_call 61; refine (H.out w2 pb wv2 nv r ns A2.out HLR.out.1 (by have := HLR.out.2.1; omega) HLR.out.2.2).mono ?_; rintro e w4 ⟨i4, rfl, wv4, nv4, ws4, ns4, bad4, q1, q2, q3, q4, q5, q6, q7⟩
           replace q1 := hid q1; replace q2 := hid q2; replace q3 := hid q3; replace q4 := hid q4; replace q7 := hid q7)
        | (go_at_call 53; refine (put_any w4 pb wv4 nv4 ws4 ns4 bad4 ⟨2, i4, 0, 0, ⟨#[]⟩⟩ q1.out (node_ok (by omega) (by omega) (by omega) (by omega) (by decide)) (by have := HLR.out.2.1; have := q3.out; omega)).mono ?_; rintro e w5 ⟨nv5, rfl, P5, A5⟩; replace P5 := hid P5; replace A5 := hid A5))
      go_ret
      refine ⟨ns4.length, rfl, wv4, nv5, ws4, _, bad4, A5.out, (P2.out.trans q2.out).trans P5.out, ?_, ?_, by omega, by have := HLR.out.2.1; have := q3.out; omega, ?_⟩
      · have := q3.out; simp only [List.length_append, List.length_cons, List.length_nil]; omega
      · have := q4.out; simp only [List.length_append]; omega
      · rw [HR.out]
        have h7 := q7.out
        cases hx : notF n r with
        | none => rw [hx] at h7; exact h7
        | some x =>
          obtain ⟨f, q⟩ := x
          rw [hx] at h7
          obtain ⟨k1, k2, k3, k4⟩ := h7
          refine ⟨k1, k2, ?_, ?_⟩
          · rw [post_no, ← k4, k3, List.append_assoc]
          · rw [k3, List.length_append, Frm.post_length]; simp only [Frm.size]; omega
    · have e1 : (s.toList == [110, 111, 116]) = false := by rw [eqC]; exact decide_eq_false s1
      by_cases s2 : s = wOpen
      · have e2 : (s.toList == [40]) = true := by rw [eqC]; exact decide_eq_true s2
        have HR : Hid (R = closeF (oneF n r)) := hid (by rw [hR, s2]; exact notF_open n r)
        replace s1 := hid s1
        replace s2 := hid s2
        clear hR
        go_enter Tryd.func61, Tryd.ntmps61
        go_wp2_with (first
          | (go_at_call 60; refine HT2.out.mono ?_; rintro e w2 ⟨wv2, rfl, P2, A2⟩; replace P2 := hid P2; replace A2 := hid A2; clear HT2)
          | (go_at_call 27; refine (H1.out w2 pb wv2 nv r ns A2.out HLR.out.1 (by have := HLR.out.2.1; omega) HLR.out.2.2).mono ?_; rintro e w4 ⟨i4, rfl, wv4, nv4, ws4, ns4, bad4, q1, q2, q3, q4, q5, q6, q7⟩
             replace q1 := hid q1; replace q2 := hid q2; replace q3 := hid q3; replace q4 := hid q4; replace q7 := hid q7)
          | (go_at_call 60; refine (take_any w4 pb wv4 nv4 ws4 ns4 bad4 q1.out).mono ?_; rintro e w5 ⟨wv5, rfl, P5, A5⟩; replace P5 := hid P5; replace A5 := hid A5
             have bx5 := A5.out.box.cell (i := 2) (by simp)
             have bf5 := A5.out.box.free
             simp only [List.getElem_cons_zero, List.getElem_cons_succ] at bx5
             rcases Bool.eq_false_or_eq_true ((headW ws4).toList == [41]) with e4 | e4))
        · go_ret
          have hc : headW ws4 = wClose := by rw [eqC] at e4; exact of_decide_eq_true e4
          have A6 := A5.out
          rw [if_neg (by rw [hc]; decide), if_neg (by rw [hc]; decide)] at A6
          refine ⟨i4, rfl, wv5, nv4, ws4.tail, ns4, bad4, A6, (P2.out.trans q2.out).trans P5.out, ?_, q4.out, q5, q6, ?_⟩
          · have := q3.out; simp only [List.length_tail, List.length_cons]; omega
          · rw [HR.out]
            have h7 := q7.out
            cases hx : oneF n r with
            | none => rw [hx] at h7; exact h7
            | some x =>
              obtain ⟨f, q⟩ := x
              rw [hx] at h7
              obtain ⟨k1, k2, k3, k4⟩ := h7
              subst k2
              cases ws4 with
              | nil => exact absurd hc (by decide)
              | cons z q' =>
                have hz : z = wClose := hc
                subst hz
                simp only [closeF, if_true]
                exact ⟨k1, rfl, k3, k4⟩
        · go_ret
          have hc : headW ws4 ≠ wClose := by rw [eqC] at e4; exact of_decide_eq_false e4
          refine ⟨i4, rfl, wv5, nv4, _, ns4, true, A5.out.set rfl A5.out.words rfl, ((P2.out.trans q2.out).trans P5.out).trans (PTo.set _ _ _ _ _ A5.out.lt), ?_, q4.out, q5, q6, ?_⟩
          · have := q3.out
            simp only [List.length_cons]
            split
            · omega
            · rw [List.length_tail]; omega
          · have : R = none := by
              rw [HR.out]
              have h7 := q7.out
              cases hx : oneF n r with
              | none => rfl
              | some x =>
                obtain ⟨f, q⟩ := x
                rw [hx] at h7
                obtain ⟨k1, k2, k3, k4⟩ := h7
                subst k2
                cases ws4 with
                | nil => rfl
                | cons z q' =>
                  simp only [closeF]
                  rw [if_neg (show z ≠ wClose from hc)]
            rw [this]
      · have e2 : (s.toList == [40]) = false := by rw [eqC]; exact decide_eq_false s2
        have HR : Hid (R = atomF s r) := hid (by rw [hR]; exact notF_else s1 s2)
        replace s1 := hid s1
        replace s2 := hid s2
        clear hR
        go_enter Tryd.func61, Tryd.ntmps61
        go_wp2_with (first
          | (go_at_call 60; refine HT2.out.mono ?_; rintro e w2 ⟨wv2, rfl, P2, A2⟩; replace P2 := hid P2; replace A2 := hid A2)
          | (go_at_call 72; refine (is_any w2 pb wv2 nv r ns false s A2.out (fun h => by cases h) (by have := HLR.out.2.1; omega) HLR.out.2.2).mono ?_; rintro e w3 ⟨i, rfl, hg⟩; replace hg := hid hg))
        go_ret
        rw [HR.out]
        exact ⟨i, rfl, hg.out.tail P2.out⟩
theorem not_any (n : Nat) : PartC 61 (notF n) n := by
  induction n with
  | zero => intro w pb wv nv ws ns hp hN; omega
  | succ n ih => exact not_step ih
theorem one_any (n : Nat) : PartC 27 (oneF n) n := one_of (both_of (not_any n))
end Go.Proofs.YtmdnleafpmondaaDoor
end
