/- Contract: linchpinlaw0.Need. -/
import Derived.Test.YtdcdpkpomhjilaaR5
import Derived.Test.YtdcdpkpomhjilaaOwnF
import Derived.Deep.DeepMust
namespace Go.Proofs.Ytdcdpkpomhjilaa
open Go Go.RowKit

/-- What is wanted of a need: its first wish's name, its option. -/
structure NeedD where
  name : ByteArray
  opt : ByteArray
  deriving DecidableEq, Inhabited
def tNeed : Ty NeedD where
  size := 3
  rd w F cs r := ∃ g n c wh, cs = [.slice (some ⟨g, 0, none⟩) n c, .string wh, .string r.opt] ∧ 1 ≤ n ∧ n ≤ 2 ∧ F g ∧ w.cell? ⟨g, 0, none⟩ = some (.string r.name) ∧ r.name ∈ nameL ∧ (r.opt = ⟨#[]⟩ ∨ r.opt ∈ wordL)
  len h := by obtain ⟨g, n, c, wh, rfl, _⟩ := h; rfl
  keep hk h := by obtain ⟨g, n, c, wh, h0, h1, h2, h3, h4, h5⟩ := h; exact ⟨g, n, c, wh, h0, h1, h2, h3, (World.cell?_of_block (hk g h3)).trans h4, h5⟩
  more hF h := by obtain ⟨g, n, c, wh, h0, h1, h2, h3, h4⟩ := h; exact ⟨g, n, c, wh, h0, h1, h2, hF _ h3, h4⟩
theorem wish_info : (Try.prog.info? 82).map (fun i => (i.zero, i.size, i.bytes)) = some (some (.agg #[.string ⟨#[]⟩, .string ⟨#[]⟩, .slice none 0 0, .bool false]), 4, 64) := by kernel_rfl
/-- The need as it is built: a box at T, wishes of the call's own above B. -/
structure NeedIn (w : World) (B R T : Nat) (k : Nat) (av : Value) (xs : List Value) (wh op : ByteArray) : Prop where
  box : w.heap[T]? = some (.cells #[av, .string wh, .string op] 69 (0, 0))
  res : w.heap[R]? = some (.cells #[.slice none 0 0, .string ⟨#[]⟩, .string ⟨#[]⟩] 69 (0, 0))
  own : w.ownsRow B 82 4 av k xs
  nm : 1 ≤ k → ∃ s, s ∈ nameL ∧ xs[0]? = some (.string s)
  rt : R < T
  tb : T < B
theorem NeedIn.lt {w : World} {B R T k : Nat} {av : Value} {xs : List Value} {wh op : ByteArray} (h : NeedIn w B R T k av xs wh op) : T < w.heap.size := (Array.getElem?_eq_some_iff.1 h.box).1
theorem NeedIn.later {w w' : World} {B R T k : Nat} {av : Value} {xs : List Value} {wh op : ByteArray} (h : NeedIn w B R T k av xs wh op) (hb : Below w.heap.size w w') : NeedIn w' B R T k av xs wh op :=
  ⟨(hb.block _ h.lt).trans h.box, (hb.block _ (Nat.lt_trans h.rt h.lt)).trans h.res, ownsRow_keep h.own fun g hg => hb.block g (h.own.lt g hg).2, h.nm, h.rt, h.tb⟩
theorem NeedIn.cells {w : World} {B R T k : Nat} {av : Value} {xs : List Value} {wh op : ByteArray} (h : NeedIn w B R T k av xs wh op) : w.cell? ⟨T, 0, none⟩ = some av ∧ w.cell? ⟨T, 1, none⟩ = some (.string wh) ∧ w.cell? ⟨T, 2, none⟩ = some (.string op) ∧ (∀ o, w.frozen? ⟨T, o, none⟩ = false) ∧ T < w.heap.size := by
  refine ⟨?_, ?_, ?_, fun o => frozen_of_row w T o _ _ h.box, h.lt⟩ <;> (rw [cell_of_row _ _ _ _ _ _ h.box]; rfl)
theorem NeedIn.setWh {w : World} {B R T k : Nat} {av : Value} {xs : List Value} {wh op : ByteArray} (h : NeedIn w B R T k av xs wh op) (s : ByteArray) : NeedIn (w.setCell ⟨T, 1, none⟩ (.string s)) B R T k av xs s op :=
  ⟨heap_setCell_same _ _ 1 _ _ (.string s) h.box, (heap_setCell_other _ _ _ _ (by have := h.rt; show R ≠ T; omega)).trans h.res, ownsRow_keep h.own fun g hg => heap_setCell_other _ _ _ _ (by have := (h.own.lt g hg).1; have := h.tb; show g ≠ T; omega), h.nm, h.rt, h.tb⟩
theorem NeedIn.setOp {w : World} {B R T k : Nat} {av : Value} {xs : List Value} {wh op : ByteArray} (h : NeedIn w B R T k av xs wh op) (s : ByteArray) : NeedIn (w.setCell ⟨T, 2, none⟩ (.string s)) B R T k av xs wh s :=
  ⟨heap_setCell_same _ _ 2 _ _ (.string s) h.box, (heap_setCell_other _ _ _ _ (by have := h.rt; show R ≠ T; omega)).trans h.res, ownsRow_keep h.own fun g hg => heap_setCell_other _ _ _ _ (by have := (h.own.lt g hg).1; have := h.tb; show g ≠ T; omega), h.nm, h.rt, h.tb⟩
theorem NeedIn.grown {w w' : World} {B R T k : Nat} {av : Value} {xs : List Value} {wh op : ByteArray} (h : NeedIn w B R T k av xs wh op) (hg : w.grownBy w' av.ownBlock) : w'.cell? ⟨T, 0, none⟩ = some av ∧ w'.frozen? ⟨T, 0, none⟩ = false ∧ T < w'.heap.size := by
  have hT : w'.heap[T]? = some (.cells #[av, .string wh, .string op] 69 (0, 0)) := (hg.block T h.lt (fun e => by have := (h.own.lt T e.symm).1; have := h.tb; omega)).trans h.box
  refine ⟨?_, frozen_of_row _ _ _ _ _ hT, (Array.getElem?_eq_some_iff.1 hT).1⟩
  rw [cell_of_row _ _ _ _ _ _ hT]; rfl
/-- A wish more. -/
theorem NeedIn.app {w w' : World} {B R T k : Nat} {av v' : Value} {xs news : List Value} {wh op s : ByteArray} (h : NeedIn w B R T k av xs wh op) (hs : s ∈ nameL) (hn : news[0]? = some (.string s)) (ho : w'.ownsRow B 82 4 v' (k + 1) (xs ++ news)) (hg : w.grownBy w' av.ownBlock) :
    NeedIn (w'.setCell ⟨T, 0, none⟩ v') B R T (k + 1) v' (xs ++ news) wh op := by
  have hT : w'.heap[T]? = some (.cells #[av, .string wh, .string op] 69 (0, 0)) := (hg.block T h.lt (fun e => by have := (h.own.lt T e.symm).1; have := h.tb; omega)).trans h.box
  have hR : w'.heap[R]? = some (.cells #[.slice none 0 0, .string ⟨#[]⟩, .string ⟨#[]⟩] 69 (0, 0)) := (hg.block R (Nat.lt_trans h.rt h.lt) (fun e => by have := (h.own.lt R e.symm).1; have := h.tb; have := h.rt; omega)).trans h.res
  refine ⟨heap_setCell_same _ _ 0 _ _ v' hT, (heap_setCell_other _ _ _ _ (by have := h.rt; show R ≠ T; omega)).trans hR, ownsRow_keep ho fun g hg => heap_setCell_other _ _ _ _ (by have := (ho.lt g hg).1; have := h.tb; show g ≠ T; omega), fun _ => ?_, h.rt, h.tb⟩
  by_cases h0 : k = 0
  · subst h0
    have : xs = [] := List.length_eq_zero_iff.1 (by have := h.own.1; simpa using this)
    rw [this, List.nil_append]
    exact ⟨s, hs, hn⟩
  · obtain ⟨u, hu, hx⟩ := h.nm (by omega)
    refine ⟨u, hu, ?_⟩
    rw [List.getElem?_append_left (by have := (List.getElem?_eq_some_iff.1 hx).1; exact this)]
    exact hx
theorem NeedIn.start (w : World) : NeedIn ((w.alloc (.cells #[.slice none 0 0, .string ⟨#[]⟩, .string ⟨#[]⟩] 69)).alloc (.cells #[.slice none 0 0, .string ⟨#[]⟩, .string ⟨#[]⟩] 69)) (w.heap.size + 2) w.heap.size (w.heap.size + 1) 0 (.slice none 0 0) [] ⟨#[]⟩ ⟨#[]⟩ := by
  have e1 : (w.alloc (.cells #[.slice none 0 0, .string ⟨#[]⟩, .string ⟨#[]⟩] 69)).heap.size = w.heap.size + 1 := by simp
  refine ⟨?_, ?_, ⟨rfl, .inl ⟨rfl, rfl⟩⟩, fun h => absurd h (by omega), by omega, by omega⟩
  · have := heap_alloc_new (w.alloc (.cells #[.slice none 0 0, .string ⟨#[]⟩, .string ⟨#[]⟩] 69)) (.cells #[.slice none 0 0, .string ⟨#[]⟩, .string ⟨#[]⟩] 69)
    rwa [e1] at this
  · exact ((balloc (b0 _) _).block _ (by omega)).trans (heap_alloc_new w _)
theorem NeedIn.rcells {w : World} {B R T k : Nat} {av : Value} {xs : List Value} {wh op : ByteArray} (h : NeedIn w B R T k av xs wh op) : w.cell? ⟨R, 0, none⟩ = some (.slice none 0 0) ∧ w.cell? ⟨R, 1, none⟩ = some (.string ⟨#[]⟩) ∧ w.cell? ⟨R, 2, none⟩ = some (.string ⟨#[]⟩) ∧ (∀ o, w.frozen? ⟨R, o, none⟩ = false) ∧ R < w.heap.size := by
  refine ⟨?_, ?_, ?_, fun o => frozen_of_row w R o _ _ h.res, (Array.getElem?_eq_some_iff.1 h.res).1⟩ <;> (rw [cell_of_row _ _ _ _ _ _ h.res]; rfl)
/-- The need is answered. -/
theorem need_end {w W : World} {B R T k : Nat} {av : Value} {xs : List Value} {wh op : ByteArray} (h : NeedIn W B R T k av xs wh op) (hk1 : 1 ≤ k) (hk2 : k ≤ 2) (hb : Below w.heap.size w W) (hR : w.heap.size ≤ R) (ho : op = ⟨#[]⟩ ∨ op ∈ wordL) :
    ∃ wS : World, wS = ((W.setCell ⟨R, 0, none⟩ av).setCell ⟨R, 1, none⟩ (.string wh)).setCell ⟨R, 2, none⟩ (.string op) ∧ wS.cell? ⟨R, 0, none⟩ = some av ∧ wS.cell? ⟨R, 1, none⟩ = some (.string wh) ∧ wS.cell? ⟨R, 2, none⟩ = some (.string op) ∧ R < wS.heap.size ∧ Hid (Below w.heap.size w wS ∧ ∃ r, tNeed.rd wS (fun b => w.heap.size ≤ b ∧ b < wS.heap.size) [av, .string wh, .string op] r) := by
  have h1 := heap_setCell_same _ _ 0 _ _ av h.res
  have h2 := heap_setCell_same _ _ 1 _ _ (.string wh) h1
  have h3 := heap_setCell_same _ _ 2 _ _ (.string op) h2
  have hbS := bset (bset (bset hb (p := ⟨R, 0, none⟩) hR av) (p := ⟨R, 1, none⟩) hR (.string wh)) (p := ⟨R, 2, none⟩) hR (.string op)
  refine ⟨_, rfl, ?_, ?_, ?_, (Array.getElem?_eq_some_iff.1 h3).1, hid ⟨hbS, ?_⟩⟩
  · rw [cell_of_row _ _ _ _ _ _ h3]; rfl
  · rw [cell_of_row _ _ _ _ _ _ h3]; rfl
  · rw [cell_of_row _ _ _ _ _ _ h3]; rfl
  · obtain ⟨s, hs, hx⟩ := h.nm hk1
    rcases h.own.2 with ⟨_, h0⟩ | ⟨g, cap, cur, rfl, hbase, hg, q1, q2, q3, q4⟩
    · omega
    · have hne : g ≠ R := by have := h.rt; have := h.tb; omega
      have hgS := (heap_setCell_other _ ⟨R, 2, none⟩ g (.string op) hne).trans ((heap_setCell_other _ ⟨R, 1, none⟩ g (.string wh) hne).trans ((heap_setCell_other W ⟨R, 0, none⟩ g (.slice (some ⟨g, 0, none⟩) k cap) hne).trans hg))
      refine ⟨⟨s, op⟩, g, k, cap, wh, rfl, hk1, hk2, ⟨by have := h.rt; have := h.tb; omega, (Array.getElem?_eq_some_iff.1 hgS).1⟩, ?_, hs, ho⟩
      rw [cell_of_row _ _ _ _ _ _ hgS, ← Array.getElem?_toList]
      rw [← q4, List.getElem?_take] at hx
      split at hx
      · exact hx
      · cases hx
/-- A need: its first wish's name, its option. -/
def NeedPost (w : World) (e : Ending) (w' : World) : Prop := Below w.heap.size w w' ∧ ∃ a b c r, e = .returned (.agg #[a, b, c]) ∧ tNeed.rd w' (fun x => w.heap.size ≤ x ∧ x < w'.heap.size) [a, b, c] r

set_option maxRecDepth 100000 in
set_option maxHeartbeats 4000000 in
theorem need_any (v : Value) (l : List Int) (i own : Int) (w : World) (h : SliceRd tInt w (Lt w.heap.size) v l) (hi0 : 0 ≤ i) (hi1 : i ≤ 800) (ho0 : 0 ≤ own) (ho1 : own ≤ 100) :
    Calls Try.prog 43 #[v, .int .i64 i, .int .i64 own] w (NeedPost w) := by
  have HA := hid (atAll h)
  have m0 := fromF_lo l i (n := 5) (by decide)
  have m1 := fromF_hi l i (n := 5) (by decide)
  have C5 := hid (fun (wx : World) (hx : SliceRd tInt wx (Lt wx.heap.size) v l) => from_any v l i 5 wx hx ⟨by omega, by omega⟩ (by decide) (by decide))
  have C4 := hid (fun (wx : World) (hx : SliceRd tInt wx (Lt wx.heap.size) v l) => from_any v l (i + 16) 4 wx hx ⟨by omega, by omega⟩ (by decide) (by decide))
  have CA := hid (fun (wx : World) (hx : SliceRd tInt wx (Lt wx.heap.size) v l) => at0_any v l (i + 17) wx hx ⟨by omega, by omega⟩)
  have CW := hid (fun (wx : World) (hx : SliceRd tInt wx (Lt wx.heap.size) v l) => when_any v l (i + 14) wx hx (by omega) (by omega))
  have CO := hid (fun (wx : World) => word_any (atF l (i + 17)) wx (atF_i64 (ints_i64 h)))
  have OM := hid (wordAt_mem (atF l (i + 17)))
  obtain ⟨iw, hiw⟩ := info_parts wish_info
  have HIW := hid hiw
  have hb0 := balloc (balloc (b0 w) (.cells #[.slice none 0 0, .string ⟨#[]⟩, .string ⟨#[]⟩] 69)) (.cells #[.slice none 0 0, .string ⟨#[]⟩, .string ⟨#[]⟩] 69)
  have HA0 := hid (HA.out _ hb0)
  generalize wordAt (atF l (i + 17)) = ow at *
  generalize atF l (i + 17) = an at *
  generalize h5 : fromF l i 5 = p at *
  generalize fromF l (i + 16) 4 = q at *
  clear h hiw
  have HB0 := hid hb0
  clear hb0
  by_cases hp : p = 1
  · subst hp
    have HP := hid h5
    clear h5
    go_enter Try.func43, Try.ntmps43
    go_wp2_with (first
      | (go_at_call 42; (with_reducible refine (C5.out _ HA0.out).mono ?_); rintro e w' ⟨rfl, rfl⟩))
    have HN0 := hid (NeedIn.start w)
    go_loopw [9] (fun iv wr => ∃ (k : Nat) (av : Value) (xs : List Value), k ≤ 2 ∧ iv = .int .i64 k ∧ Hid (NeedIn wr (w.heap.size + 2) w.heap.size (w.heap.size + 1) k av xs ⟨#[]⟩ ⟨#[]⟩) ∧ Hid (Below w.heap.size w wr)) (fun iv _ => 2 - (intOf iv).toNat)
    case atStart => exact ⟨0, _, _, Nat.zero_le _, rfl, HN0, HB0⟩
    case round =>
      obtain ⟨k, av, xs, hk, rfl, HN, hb⟩ := hrel
      have i1 : (0 : Int) ≤ ↑k := by omega
      obtain ⟨x0, x1, x2, xf, xl⟩ := HN.out.cells
      obtain ⟨An, cn, rfl⟩ := own_form HN.out.own
      by_cases hlt : k < 2
      · have i2 : (↑k : Int) < 2 := by omega
        have hdr : Below wr.heap.size wr wr.drew := (b0 wr).drew
        have HAR := HA.out _ (hb.out.trans (hdr.mono hb.out.size))
        have HWI := hid (wish_any v l (i + 1 + 6 * k) own false wr.drew HAR (by omega) (by omega) ho0 ho1)
        have q1 : IntKind.i64.wrap (i + 1) = i + 1 := IntWalk.i64_in _ (by omega)
        have q2 : IntKind.i64.wrap (6 * ↑k) = 6 * ↑k := IntWalk.i64_in _ (by omega)
        have q3 : IntKind.i64.wrap (i + 1 + 6 * ↑k) = i + 1 + 6 * ↑k := IntWalk.i64_in _ (by omega)
        have hB : w.heap.size + 2 ≤ wr.heap.size := by omega
        clear HAR
        go_wp2_with fail
        first
          | go_must (go_region_law ((first
            | (refine step_guard (.tmp 20) (.tmp 31) 67 rfl ?_; refine step_append_src _ rfl (.tmp 20) (.tmp 31) 67 rfl (w.heap.size + 2) 82 iw _ 4 64 Try.underlying67 HIW.out.1 HIW.out.2.1 HIW.out.2.2.1 HIW.out.2.2.2 rfl (by omega) (.slice An k cn) k xs (by rfl) (by exact (HN5.out.own.alloc _)) (some ⟨w5.heap.size, 0, none⟩) 1 1 [.string nm, .string rg, .slice A5 n5 c5, .bool b5] (by rfl) (by first | exact src_new _ _ rfl 4 _ rfl rfl | exact src_new_drew _ _ rfl 4 _ rfl rfl) (by simp [Value.oneCell']) (by unfold maxLen; omega) (by omega) (by have := HB5.out.size; simp; omega) ?_; intro v6 w6 hown6 hg6 hat6; obtain ⟨A6, c6, rfl⟩ := own_form hown6; have HN6 := hid ((HN5.out.later (balloc (b0 w5) _)).app NM.out rfl hown6 hg6); obtain ⟨y0, yf, yl⟩ := (HN5.out.later (balloc (b0 w5) _)).grown hg6; have HB6 := hid (((HB5.out.alloc (Nat.le_trans (by omega) HB5.out.size) _).grown (B := w.heap.size + 2) hg6 (by have := HB5.out.size; simp; omega) (fun j hj => (HN5.out.own.lt j hj).1))); clear hown6 hg6 hat6)
            | (go_simp; go_at_call 54; (with_reducible refine HWI.out.mono ?_); rintro e w5 ⟨hb5, nm, rg, A5, n5, c5, b5, rfl, hnm⟩; have HN5 := hid (HN.out.later (hdr.trans hb5)); have NM := hid hnm; have HB5 := hid (Below.mono (hdr.trans hb5) hB); obtain ⟨z0, z1, z2, zf, zl⟩ := HN5.out.cells; clear hb5 hnm))))
          | fail
        all_goals
          go_wp2
          exact ⟨⟨k + 1, _, _, by omega, by go_num, HN6, hid (bset (hb.out.trans (HB6.out.mono (by omega))) (Nat.le_succ _) _)⟩, by simp [intOf]; omega⟩
      · have i2 : ¬ (↑k : Int) < 2 := by omega
        obtain rfl : k = 2 := by omega
        have HAR := hid (HA.out _ hb.out)
        go_wp2_with (first
          | (go_at_call 45; (with_reducible refine (CW.out _ HAR.out).mono ?_); rintro e w2 ⟨hb2, wh, rfl, hwh⟩; have HN2 := hid (HN.out.later hb2); have HB2 := hid (hb.out.trans (hb2.mono hb.out.size)); obtain ⟨z0, z1, z2, zf, zl⟩ := HN2.out.cells; clear hb2)
          | fail)
        obtain ⟨w3, hw3⟩ : ∃ w3 : World, w3 = w2.setCell ⟨w.heap.size + 1, 1, none⟩ (.string wh) := ⟨_, rfl⟩
        have HN3 : Hid (NeedIn w3 _ _ _ _ _ _ _ _) := hid (hw3 ▸ HN2.out.setWh wh)
        have HB3 : Hid (Below w.heap.size w w3) := hid (hw3 ▸ bset HB2.out (Nat.le_succ _) _)
        have HA3 := hid (HA.out _ HB3.out)
        rw [← hw3]
        clear hw3 x0 x1 x2 xf xl z0 z1 z2 zf zl
        obtain ⟨y0, y1, y2, yf, yl⟩ := HN3.out.cells
        obtain ⟨r0, r1, r2, rf, rl⟩ := HN3.out.rcells
        have hcs : (q == 1) = true ∨ (q == 1) = false := by cases (q == 1) <;> simp
        rcases hcs with hq | hq
        · go_wp2_with (first
            | (go_at_call 42; (with_reducible refine (C4.out _ HA3.out).mono ?_); rintro e w' ⟨rfl, rfl⟩)
            | (go_at_call 53; (with_reducible refine (CA.out _ HA3.out).mono ?_); rintro e w' ⟨rfl, rfl⟩)
            | (go_at_call 55; (with_reducible refine (CO.out _).mono ?_); rintro e w' ⟨rfl, rfl⟩)
            | fail)
          obtain ⟨wS, hwS, t0, t1, t2, -, HE⟩ := need_end (HN3.out.setOp ow) (by decide) (by decide) (bset HB3.out (Nat.le_succ _) _) (Nat.le_refl _) (.inr OM.out)
          rw [← hwS]
          exact bodyPost_ret (v := .agg #[.slice An 2 cn, .string wh, .string ow]) (by simp [results, Try.results43, go_sem, t0, t1, t2]) rfl ⟨HE.out.1, _, _, _, HE.out.2.choose, rfl, HE.out.2.choose_spec⟩
        · go_wp2_with (first
            | (go_at_call 42; (with_reducible refine (C4.out _ HA3.out).mono ?_); rintro e w' ⟨rfl, rfl⟩)
            | fail)
          obtain ⟨wS, hwS, t0, t1, t2, -, HE⟩ := need_end HN3.out (by decide) (by decide) HB3.out (Nat.le_refl _) (.inl rfl)
          rw [← hwS]
          exact bodyPost_ret (v := .agg #[.slice An 2 cn, .string wh, .string ⟨#[]⟩]) (by simp [results, Try.results43, go_sem, t0, t1, t2]) rfl ⟨HE.out.1, _, _, _, HE.out.2.choose, rfl, HE.out.2.choose_spec⟩
  · have hp' : (p == 1) = false := by simpa using hp
    have HP := hid h5
    clear h5 hp
    go_enter Try.func43, Try.ntmps43
    go_wp2_with (first
      | (go_at_call 42; (with_reducible refine (C5.out _ HA0.out).mono ?_); rintro e w' ⟨rfl, rfl⟩))
    have HN0 := hid (NeedIn.start w)
    go_loopw [9] (fun iv wr => ∃ (k : Nat) (av : Value) (xs : List Value), k ≤ 1 ∧ iv = .int .i64 k ∧ Hid (NeedIn wr (w.heap.size + 2) w.heap.size (w.heap.size + 1) k av xs ⟨#[]⟩ ⟨#[]⟩) ∧ Hid (Below w.heap.size w wr)) (fun iv _ => 1 - (intOf iv).toNat)
    case atStart => exact ⟨0, _, _, Nat.zero_le _, rfl, HN0, HB0⟩
    case round =>
      obtain ⟨k, av, xs, hk, rfl, HN, hb⟩ := hrel
      have i1 : (0 : Int) ≤ ↑k := by omega
      obtain ⟨x0, x1, x2, xf, xl⟩ := HN.out.cells
      obtain ⟨An, cn, rfl⟩ := own_form HN.out.own
      by_cases hlt : k < 1
      · have i2 : (↑k : Int) < 1 := by omega
        have hdr : Below wr.heap.size wr wr.drew := (b0 wr).drew
        have HAR := HA.out _ (hb.out.trans (hdr.mono hb.out.size))
        have HWI := hid (wish_any v l (i + 1 + 6 * k) own true wr.drew HAR (by omega) (by omega) ho0 ho1)
        have q1 : IntKind.i64.wrap (i + 1) = i + 1 := IntWalk.i64_in _ (by omega)
        have q2 : IntKind.i64.wrap (6 * ↑k) = 6 * ↑k := IntWalk.i64_in _ (by omega)
        have q3 : IntKind.i64.wrap (i + 1 + 6 * ↑k) = i + 1 + 6 * ↑k := IntWalk.i64_in _ (by omega)
        have hB : w.heap.size + 2 ≤ wr.heap.size := by omega
        clear HAR
        go_wp2_with fail
        first
          | go_must (go_region_law ((first
            | (refine step_guard (.tmp 20) (.tmp 31) 67 rfl ?_; refine step_append_src _ rfl (.tmp 20) (.tmp 31) 67 rfl (w.heap.size + 2) 82 iw _ 4 64 Try.underlying67 HIW.out.1 HIW.out.2.1 HIW.out.2.2.1 HIW.out.2.2.2 rfl (by omega) (.slice An k cn) k xs (by rfl) (by exact (HN5.out.own.alloc _)) (some ⟨w5.heap.size, 0, none⟩) 1 1 [.string nm, .string rg, .slice A5 n5 c5, .bool b5] (by rfl) (by first | exact src_new _ _ rfl 4 _ rfl rfl | exact src_new_drew _ _ rfl 4 _ rfl rfl) (by simp [Value.oneCell']) (by unfold maxLen; omega) (by omega) (by have := HB5.out.size; simp; omega) ?_; intro v6 w6 hown6 hg6 hat6; obtain ⟨A6, c6, rfl⟩ := own_form hown6; have HN6 := hid ((HN5.out.later (balloc (b0 w5) _)).app NM.out rfl hown6 hg6); obtain ⟨y0, yf, yl⟩ := (HN5.out.later (balloc (b0 w5) _)).grown hg6; have HB6 := hid (((HB5.out.alloc (Nat.le_trans (by omega) HB5.out.size) _).grown (B := w.heap.size + 2) hg6 (by have := HB5.out.size; simp; omega) (fun j hj => (HN5.out.own.lt j hj).1))); clear hown6 hg6 hat6)
            | (go_simp; go_at_call 54; (with_reducible refine HWI.out.mono ?_); rintro e w5 ⟨hb5, nm, rg, A5, n5, c5, b5, rfl, hnm⟩; have HN5 := hid (HN.out.later (hdr.trans hb5)); have NM := hid hnm; have HB5 := hid (Below.mono (hdr.trans hb5) hB); obtain ⟨z0, z1, z2, zf, zl⟩ := HN5.out.cells; clear hb5 hnm))))
          | fail
        all_goals
          go_wp2
          exact ⟨⟨k + 1, _, _, by omega, by go_num, HN6, hid (bset (hb.out.trans (HB6.out.mono (by omega))) (Nat.le_succ _) _)⟩, by simp [intOf]; omega⟩
      · have i2 : ¬ (↑k : Int) < 1 := by omega
        obtain rfl : k = 1 := by omega
        have HAR := hid (HA.out _ hb.out)
        go_wp2_with (first
          | (go_at_call 45; (with_reducible refine (CW.out _ HAR.out).mono ?_); rintro e w2 ⟨hb2, wh, rfl, hwh⟩; have HN2 := hid (HN.out.later hb2); have HB2 := hid (hb.out.trans (hb2.mono hb.out.size)); obtain ⟨z0, z1, z2, zf, zl⟩ := HN2.out.cells; clear hb2)
          | fail)
        obtain ⟨w3, hw3⟩ : ∃ w3 : World, w3 = w2.setCell ⟨w.heap.size + 1, 1, none⟩ (.string wh) := ⟨_, rfl⟩
        have HN3 : Hid (NeedIn w3 _ _ _ _ _ _ _ _) := hid (hw3 ▸ HN2.out.setWh wh)
        have HB3 : Hid (Below w.heap.size w w3) := hid (hw3 ▸ bset HB2.out (Nat.le_succ _) _)
        have HA3 := hid (HA.out _ HB3.out)
        rw [← hw3]
        clear hw3 x0 x1 x2 xf xl z0 z1 z2 zf zl
        obtain ⟨y0, y1, y2, yf, yl⟩ := HN3.out.cells
        obtain ⟨r0, r1, r2, rf, rl⟩ := HN3.out.rcells
        have hcs : (q == 1) = true ∨ (q == 1) = false := by cases (q == 1) <;> simp
        rcases hcs with hq | hq
        · go_wp2_with (first
            | (go_at_call 42; (with_reducible refine (C4.out _ HA3.out).mono ?_); rintro e w' ⟨rfl, rfl⟩)
            | (go_at_call 53; (with_reducible refine (CA.out _ HA3.out).mono ?_); rintro e w' ⟨rfl, rfl⟩)
            | (go_at_call 55; (with_reducible refine (CO.out _).mono ?_); rintro e w' ⟨rfl, rfl⟩)
            | fail)
          obtain ⟨wS, hwS, t0, t1, t2, -, HE⟩ := need_end (HN3.out.setOp ow) (by decide) (by decide) (bset HB3.out (Nat.le_succ _) _) (Nat.le_refl _) (.inr OM.out)
          rw [← hwS]
          exact bodyPost_ret (v := .agg #[.slice An 1 cn, .string wh, .string ow]) (by simp [results, Try.results43, go_sem, t0, t1, t2]) rfl ⟨HE.out.1, _, _, _, HE.out.2.choose, rfl, HE.out.2.choose_spec⟩
        · go_wp2_with (first
            | (go_at_call 42; (with_reducible refine (C4.out _ HA3.out).mono ?_); rintro e w' ⟨rfl, rfl⟩)
            | fail)
          obtain ⟨wS, hwS, t0, t1, t2, -, HE⟩ := need_end HN3.out (by decide) (by decide) HB3.out (Nat.le_refl _) (.inl rfl)
          rw [← hwS]
          exact bodyPost_ret (v := .agg #[.slice An 1 cn, .string wh, .string ⟨#[]⟩]) (by simp [results, Try.results43, go_sem, t0, t1, t2]) rfl ⟨HE.out.1, _, _, _, HE.out.2.choose, rfl, HE.out.2.choose_spec⟩
end Go.Proofs.Ytdcdpkpomhjilaa
