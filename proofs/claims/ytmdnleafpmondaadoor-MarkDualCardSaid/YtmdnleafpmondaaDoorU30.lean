/- Contract: linchpinlaw0.Mark. -/
import Derived.Test.YtmdnleafpmondaaDoorR1
import Derived.Test.YtmdnleafpmondaaDoorU8
import Derived.Test.YtmdnleafpmondaaDoorU12
namespace Go.Proofs.YtmdnleafpmondaaDoor
open Go Go.RowKit

theorem two_keep {α : Type} {f : Flat α} {e e' : TypeId} {B B' s' n' : Nat} {wx w4 : World} {v v' : Value} {l : List α} {xs' : List Value} (hA : OwnF f e B wx v l) (hB : wx.ownsRow B' e' s' v' n' xs') (hne : e ≠ e') (hg : wx.grownBy w4 v'.ownBlock) : OwnF f e B w4 v l :=
  ⟨ownsRow_keep hA.1 fun g hg1 => hg.block g (hA.1.lt g hg1).2 (fun e => own_ne hA.1 hB hne g hg1 e.symm), hA.2⟩
theorem OwnF.drew' {α : Type} {f : Flat α} {e : TypeId} {B : Nat} {w : World} {v : Value} {l : List α} (h : OwnF f e B w v l) : OwnF f e B w.drew v l := h.drew
theorem bel_push_drew {B n s : Nat} {w0 wx w4 : World} {o : Obj} {v : Value} {xs : List Value} {e : TypeId} (hb : Below B w0 wx) (hB : B ≤ wx.heap.size) (ho : wx.ownsRow B e s v n xs) (hg : ((wx.alloc o).drew).grownBy w4 v.ownBlock) : Below B w0 w4 :=
  bel_push (wx := wx.drew) (o := o) hb.drew hB ho hg
theorem wordAt_size (n : Int) : (wordAt n).size ≤ 3 := by
  have h : ∀ t ∈ wordL, t.size ≤ 3 := by decide +kernel
  exact h _ (wordAt_mem n)
def sliceLen : Value → Nat
  | .slice _ n _ => n
  | _ => 0
theorem ne_ty : (49 : TypeId) ≠ 3 := by decide
def MkAt (w1 : World) (B : Nat) (wr : World) (ov qv : Value) (ns : List Node) (os : List Int) : Prop := OwnF fNode 49 B wr ov ns ∧ OwnF fInt 3 B wr qv os ∧ Below B w1 wr ∧ ∀ x ∈ os, -100000 ≤ x ∧ x ≤ 100000
def MarkPost (w : World) (e : Ending) (w' : World) : Prop := ∃ A c l, e = .returned (.agg #[.slice A l.length c]) ∧ SliceRd tNode w' (Lt w'.heap.size) (.slice A l.length c) l ∧ l.length ≤ 15 ∧ Below w.heap.size w w'
theorem results_cell {fn : Func} {t : Tmp} {ty : TypeId} {tmps : Array Value} {P : Program} {w : World} {p : Addr} {v : Value} (h : fn.results = #[.cell t ty]) (hv : tmps.getD t undef = .pointer (some p)) (hl : (loadVar ty p).run P w = .ok v w) : (results fn tmps).run P w = .ok v w := by
  have hv2 : tmps[t]?.getD undef = .pointer (some p) := by rw [← Array.getD_eq_getD_getElem?]; exact hv
  simp [results, h, hv2, asAddr, hl]
theorem mark_result {wx : World} {b : Nat} {v : Value} {tmps : Array Value} (h : Arr 25 wx b [v]) (h2 : tmps.getD 4 undef = .pointer (some ⟨b, 0, none⟩)) :
    (results Tryd.f14 tmps).run Tryd.prog wx = .ok (.agg #[v]) wx := by
  have hl := run_loadVar_row (P := Tryd.prog) wx b 25 25 _ (0, 0) _ h Tryd.underlying25 rfl (by kernel_rfl)
  exact results_cell rfl h2 hl

set_option maxRecDepth 100000 in
set_option maxHeartbeats 8000000 in
theorem mark0_any (v : Value) (l : List Int) (i : Int) (w : World) (h : SliceRd tInt w (Lt w.heap.size) v l) (hi0 : 0 ≤ i) (hi1 : i ≤ 100) :
    Calls Tryd.prog 14 #[v, .int .i64 i] w (MarkPost w) := by
  obtain ⟨ii, hii⟩ := info_parts int_info
  have HII := hid hii
  obtain ⟨iN, hiN⟩ := info_parts node_info
  have HIN := hid hiN
  clear hii hiN
  have H := hid h
  obtain ⟨Av, cv, rfl, -⟩ := h.shape
  have l0 := fromF_lo l i (n := 8) (by decide)
  have l1 := fromF_hi l i (n := 8) (by decide)
  have HF := hid (from_any _ l i 8 (w.alloc (.cells #[.slice none 0 0] 25)) (h.lift (balloc (b0 w) _) (balloc (b0 w) _).size) ⟨by omega, by omega⟩ (by decide) (by decide))
  obtain ⟨n0, hn0⟩ : ∃ n0, n0 = fromF l i 8 := ⟨_, rfl⟩
  rw [← hn0] at HF l0 l1
  have HI64 := hid (ints_i64 h)
  clear h hn0
  obtain ⟨lv, hlv⟩ : ∃ lv, lv = l.length := ⟨_, rfl⟩
  rw [← hlv] at H HF
  rw [← hlv]
  replace hlv := hid hlv
  go_enter Tryd.func14, Tryd.ntmps14
  go_wp2_with (first | (go_at_call 31; refine HF.out.mono ?_; rintro e w1 ⟨rfl, hw1⟩; replace hw1 := hid hw1))
  have HB1 := hid (show Below w.heap.size w w1 by rw [← hw1.out]; exact balloc (b0 w) _)
  have HAR := hid (show Arr 25 w1 w.heap.size [.slice none 0 0] by rw [← hw1.out]; exact Arr.new 25 w [.slice none 0 0])
  have hz1 : w1.heap.size = w.heap.size + 1 := by rw [← hw1.out]; simp
  have H1 := hid (H.out.below HB1.out)
  clear hw1
  go_loopw [5, 6, 7] (fun ov qv mv wr => ∃ (ns : List Node) (os : List Int) (m : Int), mv = .int .i64 m ∧ 0 ≤ m ∧ m ≤ 7 ∧ ns.length + m ≤ 7 ∧ os.length ≤ ns.length ∧ Hid (MkAt w1 (w.heap.size + 1) wr ov qv ns os)) (fun _ _ mv _ => (intOf mv).toNat)
  case atStart => exact ⟨[], [], n0, rfl, l0, by omega, by simp; omega, by simp, hid ⟨OwnF.nil _ _ _ _, OwnF.nil _ _ _ _, (b0 w1).mono (by omega), fun x hx => by cases hx⟩⟩
  case round =>
    obtain ⟨ns, os, m, rfl, m0, m7, hnm, hon, hat⟩ := hrel
    obtain ⟨Ao, co, rfl⟩ := hat.out.1.form
    obtain ⟨Aq, cq, rfl⟩ := hat.out.2.1.form
    have hbr := hat.out.2.2.1
    have hszr : w.heap.size + 1 ≤ wr.heap.size := by have := hbr.size; omega
    obtain ⟨n, hn⟩ : ∃ n, n = ns.length := ⟨_, rfl⟩
    obtain ⟨k, hk⟩ : ∃ k, k = os.length := ⟨_, rfl⟩
    have HON := hid (show wr.ownsRow (w.heap.size + 1) 49 5 (.slice Ao n co) n (fNode.all ns) by have := hat.out.1.1; rw [← hn] at this; exact this)
    have HOI := hid (show OwnF fInt 3 (w.heap.size + 1) wr (.slice Aq k cq) os by have := hat.out.2.1; rw [← hk] at this; exact this)
    have HON2 := hid (show OwnF fNode 49 (w.heap.size + 1) wr (.slice Ao n co) ns by have := hat.out.1; rw [← hn] at this; exact this)
    obtain ⟨-, hcq, hcq2⟩ := HOI.out.cap
    rw [← hn] at hnm hon
    rw [← hk] at hon hcq
    rw [← hn, ← hk]
    unfold maxLen at hcq2
    replace hn := hid hn
    replace hk := hid hk
    have HBR := hid hbr
    have HNOK := hid (hat.out.1.2)
    have HOS := hid (hat.out.2.2.2)
    clear hat hbr
    by_cases hm : 0 < m
    · have HR := hid ((H1.out.below (HBR.out.mono (by omega))).more fun x hx => show x < wr.heap.size by have : x < w.heap.size := hx; omega)
      have s1 : IntKind.i64.wrap (2 * m) = 2 * m := IntWalk.i64_in _ (by omega)
      have s2 : IntKind.i64.wrap (i + 2 * m) = i + 2 * m := IntWalk.i64_in _ (by omega)
      have s3 : IntKind.i64.wrap (i + 2 * m - 1) = i + 2 * m - 1 := IntWalk.i64_in _ (by omega)
      have s4 : IntKind.i64.wrap (m - 1) = m - 1 := IntWalk.i64_in _ (by omega)
      have q0 := fromF_lo l (i + 2 * m - 1) (n := 6) (by decide)
      have q6 := fromF_hi l (i + 2 * m - 1) (n := 6) (by decide)
      have HX := hid (at0_any _ l (i + 2 * m) wr HR.out ⟨by omega, by omega⟩)
      have HQ := hid (from_any _ l (i + 2 * m - 1) 6 wr HR.out ⟨by omega, by omega⟩ (by decide) (by decide))
      have HXI := hid (atF_i64 (i := i + 2 * m) HI64.out)
      obtain ⟨x, hx⟩ : ∃ x, x = atF l (i + 2 * m) := ⟨_, rfl⟩
      obtain ⟨q, hq⟩ : ∃ q, q = fromF l (i + 2 * m - 1) 6 := ⟨_, rfl⟩
      rw [← hx] at HX HXI
      rw [← hq] at HQ q0 q6
      clear hx hq
      rcases eqI q 0 with ⟨eq0, pq0⟩ | ⟨eq0, pq0⟩
      · by_cases hk0 : 0 < k
        · have k2 := decide_eq_true (show (0 : Int) < ↑k by omega)
          have k3 := decide_eq_true hk0
          obtain ⟨gq, cq', hvq, hbq, hgq, -⟩ := HOI.out.block (by rw [← hk.out]; exact hk0)
          injection hvq with e1 e2 e3
          subst e1; subst e3
          clear e2
          have hk1 : k - 1 < os.length := by rw [← hk.out]; omega
          obtain ⟨y, hy⟩ : ∃ y, y = os[k - 1] := ⟨_, rfl⟩
          have y1 : wr.cell? ⟨gq, k - 1, none⟩ = some (.int .i64 y) := ints_cell HOI.out (by rw [List.getElem?_eq_getElem hk1, hy])
          have hyb := HOS.out y (by rw [hy]; exact List.getElem_mem hk1)
          clear hy
          have j1 : (0 : Int) ≤ ↑k - 1 := by omega
          have j2 : (↑k : Int) - 1 < ↑k := by omega
          have j3 : (↑k : Int) - 1 ≤ ↑cq := by omega
          have HND : Hid (fNode.ok ⟨2, y, 0, 0, ⟨#[]⟩⟩) := hid (node_ok (by omega) (by omega) (by omega) (by omega) (by decide))
          replace pq0 := hid pq0
          go_wp2_with (first
            | (go_at_call 32; refine HX.out.mono ?_; rintro e wa ⟨rfl, rfl⟩)
            | (go_at_call 31; refine HQ.out.mono ?_; rintro e wa ⟨rfl, rfl⟩)
            | (at_builtin
               refine wpList_append_src _ rfl (.tmp 52) (.tmp 59) _ rfl (w.heap.size + 1) 49 iN _ 5 48 Tryd.underlying23 HIN.out.1 HIN.out.2.1 HIN.out.2.2.1 HIN.out.2.2.2 rfl (by omega) (.slice Ao n co) n (fNode.all ns) rfl (by exact HON.out.alloc _) (some ⟨wr.heap.size, 0, none⟩) 1 1 (fNode.cells ⟨2, y, 0, 0, ⟨#[]⟩⟩) rfl (by exact src_new _ _ rfl 5 _ rfl rfl) (by simp [fNode, Value.oneCell']) (by unfold maxLen; omega) (by omega) (by have := HBR.out.size; simp; omega) ?_
               intro vn wn hownn hgn _
               have hn4 := two_keep (OwnF.alloc HOI.out _) (show World.ownsRow _ _ _ _ _ _ _ from HON.out.alloc _) (Ne.symm ne_ty) hgn
               have HN4 := hid (OwnF.snoc (f := fNode) (w := wr) (show OwnF fNode 49 (w.heap.size + 1) wr (.slice Ao n co) ns from HON2.out) HND.out (by rw [← hn.out]; exact hownn))
               have HI4 := hid hn4
               have HB4 := hid (bel_push HBR.out hszr HON.out hgn)
               have hz4 := HB4.out.size
               obtain ⟨An, cn, rfl⟩ := own_form hownn
               clear hownn hgn hn4
               have HCUT := hid (HI4.out.cut (k - 1) (by rw [← hk.out]; omega))
               have HQX := hid (show wn.ownsRow (w.heap.size + 1) 3 1 (.slice (some ⟨gq, 0, none⟩) (k - 1) cq) (k - 1) (fInt.all (os.take (k - 1))) by have := HCUT.out.1; rw [List.length_take, ← hk.out, Nat.min_eq_left (by omega)] at this; exact this))
            | (at_builtin
               refine wpList_append_src _ rfl (.tmp 93) (.tmp 97) _ rfl (w.heap.size + 1) 3 ii _ 1 8 Tryd.underlying31 HII.out.1 HII.out.2.1 HII.out.2.2.1 HII.out.2.2.2 rfl (by omega) (.slice (some ⟨gq, 0, none⟩) (k - 1) cq) (k - 1) (fInt.all (os.take (k - 1))) rfl (by exact HQX.out.alloc _) (some ⟨wn.heap.size, 0, none⟩) 1 1 [.int .i64 (n)] rfl (by exact src_new _ _ rfl 1 _ rfl rfl) (by simp [Value.oneCell']) (by unfold maxLen; omega) (by omega) (by have := HB4.out.size; simp; omega) ?_
               intro vi wi howni hgi _))
          have HI5 := hid (open_push (L' := os.take (k - 1) ++ [(n : Int)]) (k := (n : Int)) (by rw [List.length_take, ← hk.out]; omega) (by intro x hx; rcases List.mem_append.1 hx with h | h; (have := HOS.out x (List.mem_of_mem_take h); exact ⟨by omega, by omega⟩); (have : x = (n : Int) := by simpa using h); subst this; exact ⟨by omega, by omega⟩) howni rfl)
          have HN5 := hid (two_keep (OwnF.alloc HN4.out _) (show World.ownsRow _ _ _ _ _ _ _ from HQX.out.alloc _) ne_ty hgi)
          have HB5 := hid (bel_push HB4.out (by omega) HQX.out hgi)
          exact ⟨⟨ns ++ [_], os.take (k - 1) ++ [(n : Int)], m - 1, rfl, by omega, by omega, by rw [List.length_append, ← hn.out]; simp; omega, by rw [List.length_append, List.length_append, ← hn.out]; simp; have := hk.out; omega, hid ⟨by have := HN5.out; simpa [← hn.out] using this, by have := HI5.out; simpa using this, HB5.out, fun x hx => by rcases List.mem_append.1 hx with h | h; (exact HOS.out x (List.mem_of_mem_take h)); (have : x = (n : Int) := by simpa using h); subst this; exact ⟨by omega, by omega⟩⟩⟩, by simp [intOf]; omega⟩
        · have kq2 := decide_eq_true (show q < 3 by omega)
          have kz := decide_eq_false (show ¬ (0 : Int) < ↑k by omega)
          have kz2 := decide_eq_false hk0
          have ko := decide_eq_false (show ¬ (1 : Int) < ↑k by omega)
          have ko2 := decide_eq_false (show ¬ 1 < k by omega)
          replace pq0 := hid pq0
          have HP3 := hid (place0_any x 3 wr HXI.out (by decide) (by decide))
          have HP12 := hid (place0_any x 12 wr HXI.out (by decide) (by decide))
          obtain ⟨p3, hp3⟩ : ∃ p3, p3 = x % 3 := ⟨_, rfl⟩
          obtain ⟨p12, hp12⟩ : ∃ p12, p12 = x % 12 := ⟨_, rfl⟩
          have b3 : 0 ≤ p3 ∧ p3 ≤ 2 := by omega
          have b12 : 0 ≤ p12 ∧ p12 ≤ 11 := by omega
          rw [← hp3] at HP3
          rw [← hp12] at HP12
          clear hp3 hp12
          have b4 : 0 ≤ p12.tdiv 4 ∧ p12.tdiv 4 ≤ 2 := by rw [Int.tdiv_eq_ediv_of_nonneg b12.1]; omega
          obtain ⟨p4, rdE⟩ : ∃ p4, p12.tdiv 4 = p4 := ⟨_, rfl⟩
          rw [rdE] at b4
          have rw1 : IntKind.i64.wrap p4 = p4 := IntWalk.i64_in _ (by omega)
          have rw2 : IntKind.i64.wrap (1 + p4) = 1 + p4 := IntWalk.i64_in _ (by omega)
          have HWD := hid (word_any (1 + p4) wr ⟨by omega, by omega⟩)
          obtain ⟨wd, hwd⟩ : ∃ wd, wd = wordAt (1 + p4) := ⟨_, rfl⟩
          rw [← hwd] at HWD
          have HWS := hid (show wd.size ≤ 3 by rw [hwd]; exact wordAt_size _)
          clear hwd
          have HND : Hid (fNode.ok ⟨1, 0, 0, p3, wd⟩) := hid (node_ok (by omega) (by omega) (by omega) (by omega) (by have := HWS.out; omega))
          go_wp2_with (first
            | (go_at_call 32; refine HX.out.mono ?_; rintro e wa ⟨rfl, rfl⟩)
            | (go_at_call 31; refine HQ.out.mono ?_; rintro e wa ⟨rfl, rfl⟩)
            | (go_at_call 33; first | (refine HP3.out.mono ?_; clear HP3; rintro e wa ⟨rfl, rfl⟩) | (refine HP12.out.mono ?_; rintro e wa ⟨rfl, rfl⟩))
            | (go_at_call 34; refine HWD.out.mono ?_; rintro e wa ⟨rfl, hwa⟩; obtain rfl := hwa.symm)
            | (at_builtin
               refine wpList_append_src _ rfl (.tmp 34) (.tmp 43) _ rfl (w.heap.size + 1) 49 iN _ 5 48 Tryd.underlying23 HIN.out.1 HIN.out.2.1 HIN.out.2.2.1 HIN.out.2.2.2 rfl (by omega) (.slice Ao n co) n (fNode.all ns) rfl (by exact HON.out.alloc _) (some ⟨wr.heap.size, 0, none⟩) 1 1 (fNode.cells ⟨1, 0, 0, p3, wd⟩) rfl (by exact src_new _ _ rfl 5 _ rfl rfl) (by simp [fNode, Value.oneCell']) (by unfold maxLen; omega) (by omega) (by have := HBR.out.size; simp; omega) ?_
               intro vn wn hownn hgn _
               have hn4 := two_keep (OwnF.alloc HOI.out _) (show World.ownsRow _ _ _ _ _ _ _ from HON.out.alloc _) (Ne.symm ne_ty) hgn
               have HN4 := hid (OwnF.snoc (f := fNode) (w := wr) (show OwnF fNode 49 (w.heap.size + 1) wr (.slice Ao n co) ns from HON2.out) HND.out (by rw [← hn.out]; exact hownn))
               have HI4 := hid hn4
               have HB4 := hid (bel_push HBR.out hszr HON.out hgn)
               have hz4 := HB4.out.size
               obtain ⟨An, cn, rfl⟩ := own_form hownn
               clear hownn hgn hn4
               have HQX := hid (show wn.ownsRow (w.heap.size + 1) 3 1 (.slice Aq k cq) k (fInt.all os) by have := HI4.out.1; rw [← hk.out] at this; exact this))
            | (at_builtin
               refine wpList_append_src _ rfl (.tmp 93) (.tmp 97) _ rfl (w.heap.size + 1) 3 ii _ 1 8 Tryd.underlying31 HII.out.1 HII.out.2.1 HII.out.2.2.1 HII.out.2.2.2 rfl (by omega) (.slice Aq (k) cq) (k) (fInt.all (os)) rfl (by exact HQX.out.alloc _) (some ⟨wn.heap.size, 0, none⟩) 1 1 [.int .i64 (n)] rfl (by exact src_new _ _ rfl 1 _ rfl rfl) (by simp [Value.oneCell']) (by unfold maxLen; omega) (by omega) (by have := HB4.out.size; simp; omega) ?_
               intro vi wi howni hgi _))
          trace_state
          have HI5 := hid (open_push (L' := os ++ [(n : Int)]) (k := (n : Int)) (hk.out.symm) (by intro x hx; rcases List.mem_append.1 hx with h | h; (have := HOS.out x h; exact ⟨by omega, by omega⟩); (have : x = (n : Int) := by simpa using h); subst this; exact ⟨by omega, by omega⟩) howni rfl)
          have HN5 := hid (two_keep (OwnF.alloc HN4.out _) (show World.ownsRow _ _ _ _ _ _ _ from HQX.out.alloc _) ne_ty hgi)
          have HB5 := hid (bel_push HB4.out (by omega) HQX.out hgi)
          exact ⟨⟨ns ++ [_], os ++ [(n : Int)], m - 1, rfl, by omega, by omega, by rw [List.length_append, ← hn.out]; simp; omega, by rw [List.length_append, List.length_append, ← hn.out]; simp; have := hk.out; omega, hid ⟨by have := HN5.out; simpa [← hn.out] using this, by have := HI5.out; simpa using this, HB5.out, fun x hx => by rcases List.mem_append.1 hx with h | h; (exact HOS.out x h); (have : x = (n : Int) := by simpa using h); subst this; exact ⟨by omega, by omega⟩⟩⟩, by simp [intOf]; omega⟩
      · by_cases hk1 : 1 < k
        · by_cases hq3 : q < 3
          · have rm1 : ((q.tmod 2)) = q % 2 := by rw [Int.tmod_eq_emod_of_nonneg (by omega)]
            have kq2 := decide_eq_true (show q < 3 by omega)
            have kk2 := decide_eq_true (show (1 : Int) < ↑k by omega)
            have kk3 := decide_eq_true hk1
            obtain ⟨gq, cq', hvq, hbq, hgq, -⟩ := HOI.out.block (by rw [← hk.out]; omega)
            injection hvq with e1 e2 e3
            subst e1; subst e3
            clear e2
            have hk1' : k - 1 < os.length := by rw [← hk.out]; omega
            have hk2' : k - 2 < os.length := by rw [← hk.out]; omega
            obtain ⟨y, hy⟩ : ∃ y, y = os[k - 1] := ⟨_, rfl⟩
            obtain ⟨z, hz⟩ : ∃ z, z = os[k - 2] := ⟨_, rfl⟩
            have y1 : wr.cell? ⟨gq, k - 1, none⟩ = some (.int .i64 y) := ints_cell HOI.out (by rw [List.getElem?_eq_getElem hk1', hy])
            have z1 : wr.cell? ⟨gq, k - 2, none⟩ = some (.int .i64 z) := ints_cell HOI.out (by rw [List.getElem?_eq_getElem hk2', hz])
            have hyb := HOS.out y (by rw [hy]; exact List.getElem_mem hk1')
            have hzb := HOS.out z (by rw [hz]; exact List.getElem_mem hk2')
            clear hy hz
            have j1 : (0 : Int) ≤ ↑k - 1 := by omega
            have j2 : (↑k : Int) - 1 < ↑k := by omega
            have j3 : (↑k : Int) - 2 ≤ ↑cq := by omega
            have j4 : (0 : Int) ≤ ↑k - 2 := by omega
            have j5 : (↑k : Int) - 2 < ↑k := by omega
            obtain ⟨r, rmE⟩ : ∃ r, q.tmod 2 = r := ⟨_, rfl⟩
            rw [rmE] at rm1
            have rb : 0 ≤ r ∧ r ≤ 1 := by omega
            have rw1 : IntKind.i64.wrap r = r := IntWalk.i64_in _ (by omega)
            have rw2 : IntKind.i64.wrap (3 + r) = 3 + r := IntWalk.i64_in _ (by omega)
            have wk1 : IntKind.i64.wrap (↑k - 1) = ↑k - 1 := IntWalk.i64_in _ (by omega)
            have wk2 : IntKind.i64.wrap (↑k - 2) = ↑k - 2 := IntWalk.i64_in _ (by omega)
            have kb1 : (1 : Int) ≤ ↑k := by omega
            have kb2 : (2 : Int) ≤ ↑k := by omega
            have kb3 : 1 ≤ k := by omega
            have kb4 : 2 ≤ k := by omega
            have tk1 : ((k : Int) - 1).toNat = k - 1 := by omega
            have tk2 : ((k : Int) - 2).toNat = k - 2 := by omega
            replace rm1 := hid rm1
            have HND : Hid (fNode.ok ⟨3 + r, z, y, 0, ⟨#[]⟩⟩) := hid (node_ok (by omega) (by omega) (by omega) (by omega) (by decide))
            go_wp2_with (first
              | (go_at_call 32; refine HX.out.mono ?_; rintro e wa ⟨rfl, rfl⟩)
              | (go_at_call 31; refine HQ.out.mono ?_; rintro e wa ⟨rfl, rfl⟩))
            go_region_law ((first
              | (refine step_guard (.tmp 72) (.tmp 87) 23 rfl ?_
                 refine step_append_src _ rfl (.tmp 72) (.tmp 87) 23 rfl (w.heap.size + 1) 49 iN _ 5 48 Tryd.underlying23 HIN.out.1 HIN.out.2.1 HIN.out.2.2.1 HIN.out.2.2.2 rfl (by omega) (.slice Ao n co) n (fNode.all ns) (by rfl) (by first | exact HON.out.alloc _ | exact own_alloc_drew HON.out _) _ 1 1 (fNode.cells ⟨3 + r, z, y, 0, ⟨#[]⟩⟩) (by rfl) (by first | exact src_new _ _ rfl 5 (fNode.cells ⟨3 + r, z, y, 0, ⟨#[]⟩⟩) rfl rfl | exact src_new_drew _ _ rfl 5 (fNode.cells ⟨3 + r, z, y, 0, ⟨#[]⟩⟩) rfl rfl) (by simp [fNode, Value.oneCell']) (by unfold maxLen; omega) (by omega) (by have := HBR.out.size; simp; omega) ?_
                 intro vn wn hownn hgn _
                 have hn4 : OwnF fInt 3 (w.heap.size + 1) wn (.slice (some ⟨gq, 0, none⟩) k cq) os := by
                   first
                     | exact two_keep (OwnF.drew' (OwnF.alloc HOI.out _)) (own_alloc_drew HON.out _) (Ne.symm ne_ty) hgn
                     | exact two_keep (OwnF.alloc (OwnF.drew' HOI.out) _) (show World.ownsRow _ _ _ _ _ _ _ from own_alloc_drew HON.out _) (Ne.symm ne_ty) hgn
                 have HN4 : Hid (OwnF fNode 49 (w.heap.size + 1) wn vn (ns ++ [⟨3 + r, z, y, 0, ⟨#[]⟩⟩])) := hid (OwnF.snoc (f := fNode) (w := wr) (show OwnF fNode 49 (w.heap.size + 1) wr (.slice Ao n co) ns from HON2.out) HND.out (by rw [← hn.out]; exact hownn))
                 have HI4 := hid hn4
                 have HB4 : Hid (Below (w.heap.size + 1) w1 wn) := hid (by first | exact bel_push_drew HBR.out hszr HON.out hgn | exact bel_push HBR.out.drew hszr HON.out hgn)
                 have hz4 := HB4.out.size
                 obtain ⟨An, cn, rfl⟩ := own_form hownn
                 clear hownn hgn hn4)))
            all_goals
              have HCUT := hid (HI4.out.cut (k - 2) (by rw [← hk.out]; omega))
              have HQX := hid (show wn.ownsRow (w.heap.size + 1) 3 1 (.slice (some ⟨gq, 0, none⟩) (k - 2) cq) (k - 2) (fInt.all (os.take (k - 2))) by have := HCUT.out.1; rw [List.length_take, ← hk.out, Nat.min_eq_left (by omega)] at this; exact this)
              go_wp2_with (first
                | (at_builtin
                   refine wpList_append_src _ rfl (.tmp 93) (.tmp 97) _ rfl (w.heap.size + 1) 3 ii _ 1 8 Tryd.underlying31 HII.out.1 HII.out.2.1 HII.out.2.2.1 HII.out.2.2.2 rfl (by omega) (.slice (some ⟨gq, 0, none⟩) (k - 2) cq) (k - 2) (fInt.all (os.take (k - 2))) rfl (by exact HQX.out.alloc _) (some ⟨wn.heap.size, 0, none⟩) 1 1 [.int .i64 (n)] rfl (by exact src_new _ _ rfl 1 _ rfl rfl) (by simp [Value.oneCell']) (by unfold maxLen; omega) (by omega) (by have := HB4.out.size; simp; omega) ?_
                   intro vi wi howni hgi _))
              have HI5 := hid (open_push (L' := os.take (k - 2) ++ [(n : Int)]) (k := (n : Int)) (by rw [List.length_take, ← hk.out]; omega) (by intro x hx; rcases List.mem_append.1 hx with h | h; (have := HOS.out x (List.mem_of_mem_take h); exact ⟨by omega, by omega⟩); (have : x = (n : Int) := by simpa using h); subst this; exact ⟨by omega, by omega⟩) howni rfl)
              have HN5 := hid (two_keep (OwnF.alloc HN4.out _) (show World.ownsRow _ _ _ _ _ _ _ from HQX.out.alloc _) ne_ty hgi)
              have HB5 := hid (bel_push HB4.out (by omega) HQX.out hgi)
              exact ⟨⟨ns ++ [_], os.take (k - 2) ++ [(n : Int)], m - 1, rfl, by omega, by omega, by rw [List.length_append, ← hn.out]; simp; omega, by rw [List.length_append, List.length_append, ← hn.out]; simp; have := hk.out; omega, hid ⟨by have := HN5.out; simpa [← hn.out] using this, by have := HI5.out; simpa using this, HB5.out, fun x hx => by rcases List.mem_append.1 hx with h | h; (exact HOS.out x (List.mem_of_mem_take h)); (have : x = (n : Int) := by simpa using h); subst this; exact ⟨by omega, by omega⟩⟩⟩, by simp [intOf]; omega⟩
          · have kq2 := decide_eq_false hq3
            replace pq0 := hid pq0
            have HP3 := hid (place0_any x 3 wr HXI.out (by decide) (by decide))
            have HP12 := hid (place0_any x 12 wr HXI.out (by decide) (by decide))
            obtain ⟨p3, hp3⟩ : ∃ p3, p3 = x % 3 := ⟨_, rfl⟩
            obtain ⟨p12, hp12⟩ : ∃ p12, p12 = x % 12 := ⟨_, rfl⟩
            have b3 : 0 ≤ p3 ∧ p3 ≤ 2 := by omega
            have b12 : 0 ≤ p12 ∧ p12 ≤ 11 := by omega
            rw [← hp3] at HP3
            rw [← hp12] at HP12
            clear hp3 hp12
            have b4 : 0 ≤ p12.tdiv 4 ∧ p12.tdiv 4 ≤ 2 := by rw [Int.tdiv_eq_ediv_of_nonneg b12.1]; omega
            obtain ⟨p4, rdE⟩ : ∃ p4, p12.tdiv 4 = p4 := ⟨_, rfl⟩
            rw [rdE] at b4
            have rw1 : IntKind.i64.wrap p4 = p4 := IntWalk.i64_in _ (by omega)
            have rw2 : IntKind.i64.wrap (1 + p4) = 1 + p4 := IntWalk.i64_in _ (by omega)
            have HWD := hid (word_any (1 + p4) wr ⟨by omega, by omega⟩)
            obtain ⟨wd, hwd⟩ : ∃ wd, wd = wordAt (1 + p4) := ⟨_, rfl⟩
            rw [← hwd] at HWD
            have HWS := hid (show wd.size ≤ 3 by rw [hwd]; exact wordAt_size _)
            clear hwd
            have HND : Hid (fNode.ok ⟨1, 0, 0, p3, wd⟩) := hid (node_ok (by omega) (by omega) (by omega) (by omega) (by have := HWS.out; omega))
            go_wp2_with (first
              | (go_at_call 32; refine HX.out.mono ?_; rintro e wa ⟨rfl, rfl⟩)
              | (go_at_call 31; refine HQ.out.mono ?_; rintro e wa ⟨rfl, rfl⟩)
              | (go_at_call 33; first | (refine HP3.out.mono ?_; clear HP3; rintro e wa ⟨rfl, rfl⟩) | (refine HP12.out.mono ?_; rintro e wa ⟨rfl, rfl⟩))
              | (go_at_call 34; refine HWD.out.mono ?_; rintro e wa ⟨rfl, hwa⟩; obtain rfl := hwa.symm)
              | (at_builtin
                 refine wpList_append_src _ rfl (.tmp 34) (.tmp 43) _ rfl (w.heap.size + 1) 49 iN _ 5 48 Tryd.underlying23 HIN.out.1 HIN.out.2.1 HIN.out.2.2.1 HIN.out.2.2.2 rfl (by omega) (.slice Ao n co) n (fNode.all ns) rfl (by exact HON.out.alloc _) (some ⟨wr.heap.size, 0, none⟩) 1 1 (fNode.cells ⟨1, 0, 0, p3, wd⟩) rfl (by exact src_new _ _ rfl 5 _ rfl rfl) (by simp [fNode, Value.oneCell']) (by unfold maxLen; omega) (by omega) (by have := HBR.out.size; simp; omega) ?_
                 intro vn wn hownn hgn _
                 have hn4 := two_keep (OwnF.alloc HOI.out _) (show World.ownsRow _ _ _ _ _ _ _ from HON.out.alloc _) (Ne.symm ne_ty) hgn
                 have HN4 := hid (OwnF.snoc (f := fNode) (w := wr) (show OwnF fNode 49 (w.heap.size + 1) wr (.slice Ao n co) ns from HON2.out) HND.out (by rw [← hn.out]; exact hownn))
                 have HI4 := hid hn4
                 have HB4 := hid (bel_push HBR.out hszr HON.out hgn)
                 have hz4 := HB4.out.size
                 obtain ⟨An, cn, rfl⟩ := own_form hownn
                 clear hownn hgn hn4
                 have HQX := hid (show wn.ownsRow (w.heap.size + 1) 3 1 (.slice Aq k cq) k (fInt.all os) by have := HI4.out.1; rw [← hk.out] at this; exact this))
              | (at_builtin
                 refine wpList_append_src _ rfl (.tmp 93) (.tmp 97) _ rfl (w.heap.size + 1) 3 ii _ 1 8 Tryd.underlying31 HII.out.1 HII.out.2.1 HII.out.2.2.1 HII.out.2.2.2 rfl (by omega) (.slice Aq (k) cq) (k) (fInt.all (os)) rfl (by exact HQX.out.alloc _) (some ⟨wn.heap.size, 0, none⟩) 1 1 [.int .i64 (n)] rfl (by exact src_new _ _ rfl 1 _ rfl rfl) (by simp [Value.oneCell']) (by unfold maxLen; omega) (by omega) (by have := HB4.out.size; simp; omega) ?_
                 intro vi wi howni hgi _))
            trace_state
            have HI5 := hid (open_push (L' := os ++ [(n : Int)]) (k := (n : Int)) (hk.out.symm) (by intro x hx; rcases List.mem_append.1 hx with h | h; (have := HOS.out x h; exact ⟨by omega, by omega⟩); (have : x = (n : Int) := by simpa using h); subst this; exact ⟨by omega, by omega⟩) howni rfl)
            have HN5 := hid (two_keep (OwnF.alloc HN4.out _) (show World.ownsRow _ _ _ _ _ _ _ from HQX.out.alloc _) ne_ty hgi)
            have HB5 := hid (bel_push HB4.out (by omega) HQX.out hgi)
            exact ⟨⟨ns ++ [_], os ++ [(n : Int)], m - 1, rfl, by omega, by omega, by rw [List.length_append, ← hn.out]; simp; omega, by rw [List.length_append, List.length_append, ← hn.out]; simp; have := hk.out; omega, hid ⟨by have := HN5.out; simpa [← hn.out] using this, by have := HI5.out; simpa using this, HB5.out, fun x hx => by rcases List.mem_append.1 hx with h | h; (exact HOS.out x h); (have : x = (n : Int) := by simpa using h); subst this; exact ⟨by omega, by omega⟩⟩⟩, by simp [intOf]; omega⟩
        · have ko := decide_eq_false (show ¬ (1 : Int) < ↑k by omega)
          have ko2 := decide_eq_false hk1
          by_cases hq3 : q < 3
          · have kq2 := decide_eq_true hq3
            replace pq0 := hid pq0
            have HP3 := hid (place0_any x 3 wr HXI.out (by decide) (by decide))
            have HP12 := hid (place0_any x 12 wr HXI.out (by decide) (by decide))
            obtain ⟨p3, hp3⟩ : ∃ p3, p3 = x % 3 := ⟨_, rfl⟩
            obtain ⟨p12, hp12⟩ : ∃ p12, p12 = x % 12 := ⟨_, rfl⟩
            have b3 : 0 ≤ p3 ∧ p3 ≤ 2 := by omega
            have b12 : 0 ≤ p12 ∧ p12 ≤ 11 := by omega
            rw [← hp3] at HP3
            rw [← hp12] at HP12
            clear hp3 hp12
            have b4 : 0 ≤ p12.tdiv 4 ∧ p12.tdiv 4 ≤ 2 := by rw [Int.tdiv_eq_ediv_of_nonneg b12.1]; omega
            obtain ⟨p4, rdE⟩ : ∃ p4, p12.tdiv 4 = p4 := ⟨_, rfl⟩
            rw [rdE] at b4
            have rw1 : IntKind.i64.wrap p4 = p4 := IntWalk.i64_in _ (by omega)
            have rw2 : IntKind.i64.wrap (1 + p4) = 1 + p4 := IntWalk.i64_in _ (by omega)
            have HWD := hid (word_any (1 + p4) wr ⟨by omega, by omega⟩)
            obtain ⟨wd, hwd⟩ : ∃ wd, wd = wordAt (1 + p4) := ⟨_, rfl⟩
            rw [← hwd] at HWD
            have HWS := hid (show wd.size ≤ 3 by rw [hwd]; exact wordAt_size _)
            clear hwd
            have HND : Hid (fNode.ok ⟨1, 0, 0, p3, wd⟩) := hid (node_ok (by omega) (by omega) (by omega) (by omega) (by have := HWS.out; omega))
            go_wp2_with (first
              | (go_at_call 32; refine HX.out.mono ?_; rintro e wa ⟨rfl, rfl⟩)
              | (go_at_call 31; refine HQ.out.mono ?_; rintro e wa ⟨rfl, rfl⟩)
              | (go_at_call 33; first | (refine HP3.out.mono ?_; clear HP3; rintro e wa ⟨rfl, rfl⟩) | (refine HP12.out.mono ?_; rintro e wa ⟨rfl, rfl⟩))
              | (go_at_call 34; refine HWD.out.mono ?_; rintro e wa ⟨rfl, hwa⟩; obtain rfl := hwa.symm)
              | (at_builtin
                 refine wpList_append_src _ rfl (.tmp 34) (.tmp 43) _ rfl (w.heap.size + 1) 49 iN _ 5 48 Tryd.underlying23 HIN.out.1 HIN.out.2.1 HIN.out.2.2.1 HIN.out.2.2.2 rfl (by omega) (.slice Ao n co) n (fNode.all ns) rfl (by exact HON.out.alloc _) (some ⟨wr.heap.size, 0, none⟩) 1 1 (fNode.cells ⟨1, 0, 0, p3, wd⟩) rfl (by exact src_new _ _ rfl 5 _ rfl rfl) (by simp [fNode, Value.oneCell']) (by unfold maxLen; omega) (by omega) (by have := HBR.out.size; simp; omega) ?_
                 intro vn wn hownn hgn _
                 have hn4 := two_keep (OwnF.alloc HOI.out _) (show World.ownsRow _ _ _ _ _ _ _ from HON.out.alloc _) (Ne.symm ne_ty) hgn
                 have HN4 := hid (OwnF.snoc (f := fNode) (w := wr) (show OwnF fNode 49 (w.heap.size + 1) wr (.slice Ao n co) ns from HON2.out) HND.out (by rw [← hn.out]; exact hownn))
                 have HI4 := hid hn4
                 have HB4 := hid (bel_push HBR.out hszr HON.out hgn)
                 have hz4 := HB4.out.size
                 obtain ⟨An, cn, rfl⟩ := own_form hownn
                 clear hownn hgn hn4
                 have HQX := hid (show wn.ownsRow (w.heap.size + 1) 3 1 (.slice Aq k cq) k (fInt.all os) by have := HI4.out.1; rw [← hk.out] at this; exact this))
              | (at_builtin
                 refine wpList_append_src _ rfl (.tmp 93) (.tmp 97) _ rfl (w.heap.size + 1) 3 ii _ 1 8 Tryd.underlying31 HII.out.1 HII.out.2.1 HII.out.2.2.1 HII.out.2.2.2 rfl (by omega) (.slice Aq (k) cq) (k) (fInt.all (os)) rfl (by exact HQX.out.alloc _) (some ⟨wn.heap.size, 0, none⟩) 1 1 [.int .i64 (n)] rfl (by exact src_new _ _ rfl 1 _ rfl rfl) (by simp [Value.oneCell']) (by unfold maxLen; omega) (by omega) (by have := HB4.out.size; simp; omega) ?_
                 intro vi wi howni hgi _))
            trace_state
            have HI5 := hid (open_push (L' := os ++ [(n : Int)]) (k := (n : Int)) (hk.out.symm) (by intro x hx; rcases List.mem_append.1 hx with h | h; (have := HOS.out x h; exact ⟨by omega, by omega⟩); (have : x = (n : Int) := by simpa using h); subst this; exact ⟨by omega, by omega⟩) howni rfl)
            have HN5 := hid (two_keep (OwnF.alloc HN4.out _) (show World.ownsRow _ _ _ _ _ _ _ from HQX.out.alloc _) ne_ty hgi)
            have HB5 := hid (bel_push HB4.out (by omega) HQX.out hgi)
            exact ⟨⟨ns ++ [_], os ++ [(n : Int)], m - 1, rfl, by omega, by omega, by rw [List.length_append, ← hn.out]; simp; omega, by rw [List.length_append, List.length_append, ← hn.out]; simp; have := hk.out; omega, hid ⟨by have := HN5.out; simpa [← hn.out] using this, by have := HI5.out; simpa using this, HB5.out, fun x hx => by rcases List.mem_append.1 hx with h | h; (exact HOS.out x h); (have : x = (n : Int) := by simpa using h); subst this; exact ⟨by omega, by omega⟩⟩⟩, by simp [intOf]; omega⟩
          · have kq2 := decide_eq_false hq3
            replace pq0 := hid pq0
            have HP3 := hid (place0_any x 3 wr HXI.out (by decide) (by decide))
            have HP12 := hid (place0_any x 12 wr HXI.out (by decide) (by decide))
            obtain ⟨p3, hp3⟩ : ∃ p3, p3 = x % 3 := ⟨_, rfl⟩
            obtain ⟨p12, hp12⟩ : ∃ p12, p12 = x % 12 := ⟨_, rfl⟩
            have b3 : 0 ≤ p3 ∧ p3 ≤ 2 := by omega
            have b12 : 0 ≤ p12 ∧ p12 ≤ 11 := by omega
            rw [← hp3] at HP3
            rw [← hp12] at HP12
            clear hp3 hp12
            have b4 : 0 ≤ p12.tdiv 4 ∧ p12.tdiv 4 ≤ 2 := by rw [Int.tdiv_eq_ediv_of_nonneg b12.1]; omega
            obtain ⟨p4, rdE⟩ : ∃ p4, p12.tdiv 4 = p4 := ⟨_, rfl⟩
            rw [rdE] at b4
            have rw1 : IntKind.i64.wrap p4 = p4 := IntWalk.i64_in _ (by omega)
            have rw2 : IntKind.i64.wrap (1 + p4) = 1 + p4 := IntWalk.i64_in _ (by omega)
            have HWD := hid (word_any (1 + p4) wr ⟨by omega, by omega⟩)
            obtain ⟨wd, hwd⟩ : ∃ wd, wd = wordAt (1 + p4) := ⟨_, rfl⟩
            rw [← hwd] at HWD
            have HWS := hid (show wd.size ≤ 3 by rw [hwd]; exact wordAt_size _)
            clear hwd
            have HND : Hid (fNode.ok ⟨1, 0, 0, p3, wd⟩) := hid (node_ok (by omega) (by omega) (by omega) (by omega) (by have := HWS.out; omega))
            go_wp2_with (first
              | (go_at_call 32; refine HX.out.mono ?_; rintro e wa ⟨rfl, rfl⟩)
              | (go_at_call 31; refine HQ.out.mono ?_; rintro e wa ⟨rfl, rfl⟩)
              | (go_at_call 33; first | (refine HP3.out.mono ?_; clear HP3; rintro e wa ⟨rfl, rfl⟩) | (refine HP12.out.mono ?_; rintro e wa ⟨rfl, rfl⟩))
              | (go_at_call 34; refine HWD.out.mono ?_; rintro e wa ⟨rfl, hwa⟩; obtain rfl := hwa.symm)
              | (at_builtin
                 refine wpList_append_src _ rfl (.tmp 34) (.tmp 43) _ rfl (w.heap.size + 1) 49 iN _ 5 48 Tryd.underlying23 HIN.out.1 HIN.out.2.1 HIN.out.2.2.1 HIN.out.2.2.2 rfl (by omega) (.slice Ao n co) n (fNode.all ns) rfl (by exact HON.out.alloc _) (some ⟨wr.heap.size, 0, none⟩) 1 1 (fNode.cells ⟨1, 0, 0, p3, wd⟩) rfl (by exact src_new _ _ rfl 5 _ rfl rfl) (by simp [fNode, Value.oneCell']) (by unfold maxLen; omega) (by omega) (by have := HBR.out.size; simp; omega) ?_
                 intro vn wn hownn hgn _
                 have hn4 := two_keep (OwnF.alloc HOI.out _) (show World.ownsRow _ _ _ _ _ _ _ from HON.out.alloc _) (Ne.symm ne_ty) hgn
                 have HN4 := hid (OwnF.snoc (f := fNode) (w := wr) (show OwnF fNode 49 (w.heap.size + 1) wr (.slice Ao n co) ns from HON2.out) HND.out (by rw [← hn.out]; exact hownn))
                 have HI4 := hid hn4
                 have HB4 := hid (bel_push HBR.out hszr HON.out hgn)
                 have hz4 := HB4.out.size
                 obtain ⟨An, cn, rfl⟩ := own_form hownn
                 clear hownn hgn hn4
                 have HQX := hid (show wn.ownsRow (w.heap.size + 1) 3 1 (.slice Aq k cq) k (fInt.all os) by have := HI4.out.1; rw [← hk.out] at this; exact this))
              | (at_builtin
                 refine wpList_append_src _ rfl (.tmp 93) (.tmp 97) _ rfl (w.heap.size + 1) 3 ii _ 1 8 Tryd.underlying31 HII.out.1 HII.out.2.1 HII.out.2.2.1 HII.out.2.2.2 rfl (by omega) (.slice Aq (k) cq) (k) (fInt.all (os)) rfl (by exact HQX.out.alloc _) (some ⟨wn.heap.size, 0, none⟩) 1 1 [.int .i64 (n)] rfl (by exact src_new _ _ rfl 1 _ rfl rfl) (by simp [Value.oneCell']) (by unfold maxLen; omega) (by omega) (by have := HB4.out.size; simp; omega) ?_
                 intro vi wi howni hgi _))
            trace_state
            have HI5 := hid (open_push (L' := os ++ [(n : Int)]) (k := (n : Int)) (hk.out.symm) (by intro x hx; rcases List.mem_append.1 hx with h | h; (have := HOS.out x h; exact ⟨by omega, by omega⟩); (have : x = (n : Int) := by simpa using h); subst this; exact ⟨by omega, by omega⟩) howni rfl)
            have HN5 := hid (two_keep (OwnF.alloc HN4.out _) (show World.ownsRow _ _ _ _ _ _ _ from HQX.out.alloc _) ne_ty hgi)
            have HB5 := hid (bel_push HB4.out (by omega) HQX.out hgi)
            exact ⟨⟨ns ++ [_], os ++ [(n : Int)], m - 1, rfl, by omega, by omega, by rw [List.length_append, ← hn.out]; simp; omega, by rw [List.length_append, List.length_append, ← hn.out]; simp; have := hk.out; omega, hid ⟨by have := HN5.out; simpa [← hn.out] using this, by have := HI5.out; simpa using this, HB5.out, fun x hx => by rcases List.mem_append.1 hx with h | h; (exact HOS.out x h); (have : x = (n : Int) := by simpa using h); subst this; exact ⟨by omega, by omega⟩⟩⟩, by simp [intOf]; omega⟩
    · have hm0 : m = 0 := by omega
      subst hm0
      go_wp2
      clear HF
      go_loopw [5, 6] (fun ov qv wr => ∃ (ns : List Node) (os : List Int), ns.length + os.length ≤ 14 ∧ Hid (MkAt w1 (w.heap.size + 1) wr ov qv ns os)) (fun _ qv _ => sliceLen qv)
      case atStart => exact ⟨ns, os, by rw [← hn.out, ← hk.out]; omega, hid ⟨HON2.out, HOI.out, HBR.out, HOS.out⟩⟩
      case round =>
        clear HON HOI HON2 HBR HNOK HOS hn hk hnm hon hcq hcq2 hszr
        obtain ⟨ns, os, hno, hat⟩ := hrel
        obtain ⟨Ao, co, rfl⟩ := hat.out.1.form
        obtain ⟨Aq, cq, rfl⟩ := hat.out.2.1.form
        have hbr := hat.out.2.2.1
        have hszr : w.heap.size + 1 ≤ wr.heap.size := by have := hbr.size; omega
        obtain ⟨n, hn⟩ : ∃ n, n = ns.length := ⟨_, rfl⟩
        obtain ⟨k, hk⟩ : ∃ k, k = os.length := ⟨_, rfl⟩
        have HON := hid (show wr.ownsRow (w.heap.size + 1) 49 5 (.slice Ao n co) n (fNode.all ns) by have := hat.out.1.1; rw [← hn] at this; exact this)
        have HOI := hid (show OwnF fInt 3 (w.heap.size + 1) wr (.slice Aq k cq) os by have := hat.out.2.1; rw [← hk] at this; exact this)
        have HON2 := hid (show OwnF fNode 49 (w.heap.size + 1) wr (.slice Ao n co) ns by have := hat.out.1; rw [← hn] at this; exact this)
        obtain ⟨-, hcq, hcq2⟩ := HOI.out.cap
        rw [← hn, ← hk] at hno
        rw [← hk] at hcq
        rw [← hn, ← hk]
        unfold maxLen at hcq2
        replace hn := hid hn
        replace hk := hid hk
        have HBR := hid hbr
        have HOS := hid (hat.out.2.2.2)
        clear hat hbr
        by_cases hk1 : 1 < k
        · have kk2 := decide_eq_true (show (1 : Int) < ↑k by omega)
          have kk3 := decide_eq_true hk1
          obtain ⟨gq, cq', hvq, hbq, hgq, -⟩ := HOI.out.block (by rw [← hk.out]; omega)
          injection hvq with e1 e2 e3
          subst e1; subst e3
          clear e2
          have hk1' : k - 1 < os.length := by rw [← hk.out]; omega
          have hk2' : k - 2 < os.length := by rw [← hk.out]; omega
          obtain ⟨y, hy⟩ : ∃ y, y = os[k - 1] := ⟨_, rfl⟩
          obtain ⟨z, hz⟩ : ∃ z, z = os[k - 2] := ⟨_, rfl⟩
          have y1 : wr.cell? ⟨gq, k - 1, none⟩ = some (.int .i64 y) := ints_cell HOI.out (by rw [List.getElem?_eq_getElem hk1', hy])
          have z1 : wr.cell? ⟨gq, k - 2, none⟩ = some (.int .i64 z) := ints_cell HOI.out (by rw [List.getElem?_eq_getElem hk2', hz])
          have hyb := HOS.out y (by rw [hy]; exact List.getElem_mem hk1')
          have hzb := HOS.out z (by rw [hz]; exact List.getElem_mem hk2')
          clear hy hz
          have j1 : (0 : Int) ≤ ↑k - 1 := by omega
          have j2 : (↑k : Int) - 1 < ↑k := by omega
          have j3 : (↑k : Int) - 2 ≤ ↑cq := by omega
          have j4 : (0 : Int) ≤ ↑k - 2 := by omega
          have j5 : (↑k : Int) - 2 < ↑k := by omega
          have wk1 : IntKind.i64.wrap (↑k - 1) = ↑k - 1 := IntWalk.i64_in _ (by omega)
          have wk2 : IntKind.i64.wrap (↑k - 2) = ↑k - 2 := IntWalk.i64_in _ (by omega)
          have kb1 : (1 : Int) ≤ ↑k := by omega
          have kb2 : (2 : Int) ≤ ↑k := by omega
          have kb3 : 1 ≤ k := by omega
          have kb4 : 2 ≤ k := by omega
          have tk1 : ((k : Int) - 1).toNat = k - 1 := by omega
          have tk2 : ((k : Int) - 2).toNat = k - 2 := by omega
          have HND : Hid (fNode.ok ⟨4, z, y, 0, ⟨#[]⟩⟩) := hid (node_ok (by omega) (by omega) (by omega) (by omega) (by decide))
          go_wp2
          go_region_law ((first
            | (refine step_guard (.tmp 104) (.tmp 116) 23 rfl ?_
               refine step_append_src _ rfl (.tmp 104) (.tmp 116) 23 rfl (w.heap.size + 1) 49 iN _ 5 48 Tryd.underlying23 HIN.out.1 HIN.out.2.1 HIN.out.2.2.1 HIN.out.2.2.2 rfl (by omega) (.slice Ao n co) n (fNode.all ns) (by rfl) (by first | exact HON.out.alloc _ | exact own_alloc_drew HON.out _) _ 1 1 (fNode.cells ⟨4, z, y, 0, ⟨#[]⟩⟩) (by rfl) (by first | exact src_new _ _ rfl 5 (fNode.cells ⟨4, z, y, 0, ⟨#[]⟩⟩) rfl rfl | exact src_new_drew _ _ rfl 5 (fNode.cells ⟨4, z, y, 0, ⟨#[]⟩⟩) rfl rfl) (by simp [fNode, Value.oneCell']) (by unfold maxLen; omega) (by omega) (by have := HBR.out.size; simp; omega) ?_
               intro vn wn hownn hgn _
               have hn4 : OwnF fInt 3 (w.heap.size + 1) wn (.slice (some ⟨gq, 0, none⟩) k cq) os := by
                 first
                   | exact two_keep (OwnF.drew' (OwnF.alloc HOI.out _)) (own_alloc_drew HON.out _) (Ne.symm ne_ty) hgn
                   | exact two_keep (OwnF.alloc (OwnF.drew' HOI.out) _) (show World.ownsRow _ _ _ _ _ _ _ from own_alloc_drew HON.out _) (Ne.symm ne_ty) hgn
               have HN4 : Hid (OwnF fNode 49 (w.heap.size + 1) wn vn (ns ++ [⟨4, z, y, 0, ⟨#[]⟩⟩])) := hid (OwnF.snoc (f := fNode) (w := wr) (show OwnF fNode 49 (w.heap.size + 1) wr (.slice Ao n co) ns from HON2.out) HND.out (by rw [← hn.out]; exact hownn))
               have HI4 := hid hn4
               have HB4 : Hid (Below (w.heap.size + 1) w1 wn) := hid (by first | exact bel_push_drew HBR.out hszr HON.out hgn | exact bel_push HBR.out.drew hszr HON.out hgn)
               have hz4 := HB4.out.size
               obtain ⟨An, cn, rfl⟩ := own_form hownn
               clear hownn hgn hn4)))
          all_goals
            have HCUT := hid (HI4.out.cut (k - 2) (by rw [← hk.out]; omega))
            have HQX := hid (show wn.ownsRow (w.heap.size + 1) 3 1 (.slice (some ⟨gq, 0, none⟩) (k - 2) cq) (k - 2) (fInt.all (os.take (k - 2))) by have := HCUT.out.1; rw [List.length_take, ← hk.out, Nat.min_eq_left (by omega)] at this; exact this)
            go_wp2_with (first
              | (at_builtin
                 refine wpList_append_src _ rfl (.tmp 121) (.tmp 125) _ rfl (w.heap.size + 1) 3 ii _ 1 8 Tryd.underlying31 HII.out.1 HII.out.2.1 HII.out.2.2.1 HII.out.2.2.2 rfl (by omega) (.slice (some ⟨gq, 0, none⟩) (k - 2) cq) (k - 2) (fInt.all (os.take (k - 2))) rfl (by exact HQX.out.alloc _) (some ⟨wn.heap.size, 0, none⟩) 1 1 [.int .i64 (n)] rfl (by exact src_new _ _ rfl 1 _ rfl rfl) (by simp [Value.oneCell']) (by unfold maxLen; omega) (by omega) (by have := HB4.out.size; simp; omega) ?_
                 intro vi wi howni hgi _))
            have HI5 := hid (open_push (L' := os.take (k - 2) ++ [(n : Int)]) (k := (n : Int)) (by rw [List.length_take, ← hk.out]; omega) (by intro x hx; rcases List.mem_append.1 hx with h | h; (have := HOS.out x (List.mem_of_mem_take h); exact ⟨by omega, by omega⟩); (have : x = (n : Int) := by simpa using h); subst this; exact ⟨by omega, by omega⟩) howni rfl)
            have HN5 := hid (two_keep (OwnF.alloc HN4.out _) (show World.ownsRow _ _ _ _ _ _ _ from HQX.out.alloc _) ne_ty hgi)
            have HB5 := hid (bel_push HB4.out (by omega) HQX.out hgi)
            obtain ⟨Ai, ci, rfl⟩ := own_form howni
            exact ⟨⟨ns ++ [_], os.take (k - 2) ++ [(n : Int)], by rw [List.length_append, List.length_append, ← hn.out, List.length_take]; simp; have := hk.out; omega, hid ⟨by have := HN5.out; simpa [← hn.out] using this, by have := HI5.out; simpa using this, HB5.out, fun x hx => by rcases List.mem_append.1 hx with h | h; (exact HOS.out x (List.mem_of_mem_take h)); (have : x = (n : Int) := by simpa using h); subst this; exact ⟨by omega, by omega⟩⟩⟩, by simp only [sliceLen]; omega⟩
        · have kk2 := decide_eq_false (show ¬ (1 : Int) < ↑k by omega)
          have kk3 := decide_eq_false hk1
          have HARr := hid (HAR.out.below HBR.out (by omega))
          have p0 : wr.cell? ⟨w.heap.size, 0, none⟩ = some (.slice none 0 0) := HARr.out.cell (i := 0) (by decide)
          have f0 := HARr.out.free 0
          go_wp2
          have HNz := hid (show OwnF fNode 49 (w.heap.size + 1) (wr.setCell ⟨w.heap.size, 0, none⟩ (.slice Ao n co)) (.slice Ao n co) ns from ⟨ownsRow_keep HON2.out.1 fun g hg => heap_setCell_other _ _ g _ (fun e => by have := (HON2.out.1.lt g hg).1; simp only at e; omega), HON2.out.2⟩)
          have HBz := hid (show Below w.heap.size w (wr.setCell ⟨w.heap.size, 0, none⟩ (.slice Ao n co)) from ((HB1.out.trans (HBR.out.mono (by omega))).setCell (by show w.heap.size ≤ w.heap.size; omega) _))
          exact bodyPost_ret (v := .agg #[.slice Ao n co]) (mark_result (HARr.out.set 0 _) rfl) rfl ⟨Ao, co, ns, by rw [← hn.out], by rw [← hn.out]; exact HNz.out.rd, by rw [← hn.out]; omega, HBz.out⟩
end Go.Proofs.YtmdnleafpmondaaDoor
