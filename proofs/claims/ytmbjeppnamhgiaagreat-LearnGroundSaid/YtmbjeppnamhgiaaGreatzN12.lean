import Derived.Test.YtmbjeppnamhgiaaGreatzT7
import Derived.Lib.AppendZerosOnto
import Derived.Outline
import Derived.Test.YtmbjeppnamhgiaaGreatzN11
import Derived.Test.YtmbjeppnamhgiaaGreatzT16
section
/- Contracts: slices.Grow of nil, slices.Concat of two rows of terms. -/
namespace Go.Proofs.YtmbjeppnamhgiaaGreat
open Go Go.RowKit

theorem zeroCells_size (z : Array Value) (n : Nat) : (Builtin.zeroCells z n).size = n * z.size := by simp [Builtin.zeroCells]
def GrowPostT (n : Nat) (w : World) (e : Ending) (w' : World) : Prop := ∃ v, e = .returned v ∧ OwnF fTerm 54 w.heap.size w' v [] ∧ (∃ A c, v = .slice A 0 c) ∧ Below w.heap.size w w' ∧ n = n
set_option maxRecDepth 100000 in
set_option maxHeartbeats 1000000 in
theorem grow_nil (n : Nat) (w : World) (hn : n ≤ 1000) :
    Calls Tryz.prog 94 #[.slice none 0 0, .int .i64 n] w (GrowPostT n w) := by
  by_cases h0 : n = 0
  · subst h0
    go_enter Tryz.func94, Tryz.ntmps94
    go_wp2
    go_ret
    exact ⟨_, rfl, OwnF.nil _ _ _ _, ⟨none, 0, rfl⟩, b0 w, rfl⟩
  · obtain ⟨it, i1, i2, i3, i4⟩ := info_parts term_info
    have h := fun ty => Lib.run_append_grow_zeros w 34 3 ty 54 it _ .i64 .i64 Tryz.underlying34 Tryz.underlying3 i1 i2 none 0 0 [] (by rw [i3]; exact run_firstCells_none w.drew 2 0 0 0) n (by omega) (by omega) (by omega) (by omega) (by rw [i4]; omega) (by rw [i4]; exact growslice_fits (by omega) (by omega))
    simp only [Nat.zero_add] at h
    have hGn : n ≤ grownCap w n 0 54 := grownCap_ge w _ _ _
    have hG63 := grownCap_le_maxLen w n 0 54 (by unfold maxLen; omega)
    generalize grownCap w n 0 54 = G at *
    have hcs : (([] : List Value).toArray ++ Builtin.zeroCells (Value.agg #[.int .i64 0, .int .i64 0]).cells n ++ Builtin.zeroCells (Value.agg #[.int .i64 0, .int .i64 0]).cells (G - n)).size = G * 2 := by
      simp only [Array.size_append, zeroCells_size]
      simp [Value.cells]
      omega
    have HCS := hid hcs
    have HG := hid hG63
    unfold maxLen at hG63
    clear hcs
    generalize ([] : List Value).toArray ++ Builtin.zeroCells (Value.agg #[.int .i64 0, .int .i64 0]).cells n ++ Builtin.zeroCells (Value.agg #[.int .i64 0, .int .i64 0]).cells (G - n) = cs at *
    clear i1 i2 i3 i4
    go_enter Tryz.func94, Tryz.ntmps94
    go_wp2_with (at_builtin; refine Lib.wpList_append_run _ rfl _ _ _ _ rfl _ _ rfl rfl _ _ (h _) ?_)
    all_goals go_ret
    refine ⟨_, rfl, ⟨⟨rfl, .inr ⟨w.heap.size, G, cs, rfl, Nat.le_refl _, heap_alloc_new w.drew _, Nat.zero_le _, HG.out, HCS.out, rfl⟩⟩, fun x hx => by cases hx⟩, ⟨_, _, rfl⟩, balloc (b0 w).drew _, rfl⟩
theorem OwnF.app {e : TypeId} {B : Nat} {w' : World} {v' : Value} {L l : List Term} (hL : ∀ t ∈ L, fTerm.ok t) (hl : ∀ t ∈ l, I64 t.unit ∧ I64 t.mask) (hown : w'.ownsRow B e 2 v' (L.length + l.length) (fTerm.all L ++ termCells l)) : OwnF fTerm e B w' v' (L ++ l) := by
  refine ⟨?_, fun y hy => ?_⟩
  · rw [fTerm.all_append, fTerm_all l, List.length_append]
    exact hown
  · rcases List.mem_append.1 hy with hy | hy
    · exact hL y hy
    · exact hl y hy
def ConcatPost (l : List Term) (w : World) (e : Ending) (w' : World) : Prop := ∃ v, e = .returned v ∧ OwnF fTerm 54 w.heap.size w' v l ∧ Below w.heap.size w w'
set_option maxRecDepth 100000 in
set_option maxHeartbeats 2000000 in
theorem concat_any (sb : Nat) (av bv : Value) (la lb : List Term) (w : World) (hsb : sb < w.heap.size) (ha : w.cell? ⟨sb, 0, none⟩ = some av) (hb : w.cell? ⟨sb, 1, none⟩ = some bv) (hla : SliceRd tTerm w (Lt w.heap.size) av la) (hlb : SliceRd tTerm w (Lt w.heap.size) bv lb) (hlen : la.length + lb.length ≤ 1000) :
    Calls Tryz.prog 74 #[.slice (some ⟨sb, 0, none⟩) 2 2] w (ConcatPost (la ++ lb) w) := by
  obtain ⟨it, hit⟩ := info_parts term_info
  have HIT := hid hit
  have HLA := hid hla
  have HLB := hid hlb
  have HA := hid ha
  have HB := hid hb
  obtain ⟨A, cap, rfl, -⟩ := hla.terms
  obtain ⟨B, bcap, rfl, -⟩ := hlb.terms
  clear hla hlb hit
  go_enter Tryz.func74, Tryz.ntmps74
  go_wp2_with fail
  go_loopw [3, 5, 11] (fun s _ iv wr => wr = w ∧ ((iv = .int .i64 0 ∧ s = .int .i64 0) ∨ (iv = .int .i64 1 ∧ s = .int .i64 la.length) ∨ (iv = .int .i64 2 ∧ s = .int .i64 ((la.length + lb.length : Nat) : Int)))) (fun _ _ iv _ => 2 - (intOf iv).toNat)
  case atStart => exact ⟨rfl, .inl ⟨rfl, rfl⟩⟩
  case round =>
    obtain ⟨rfl, hr⟩ := hrel
    rcases hr with ⟨rfl, rfl⟩ | ⟨rfl, rfl⟩ | ⟨rfl, rfl⟩
    · have z1 : ¬ ((la.length : Int) < 0) := by omega
      go_wp2
      exact ⟨⟨by first | trivial | rfl, .inr (.inl ⟨by go_num, by go_num⟩)⟩, by simp [intOf]⟩
    · have z1 : ¬ ((la.length : Int) + (lb.length : Int) < 0) := by omega
      go_wp2
      exact ⟨⟨by first | trivial | rfl, .inr (.inr ⟨by go_num, by push_cast; go_num⟩)⟩, by simp [intOf]⟩
    · have hn : la.length + lb.length ≤ 1000 := hlen
      generalize la.length + lb.length = n at hn
      go_wp2_with (go_at_call 94; go_must (refine (grow_nil n _ hn).mono ?_; rintro e w1 ⟨v1, rfl, hown, ⟨A1, c1, rfl⟩, hb1, -⟩; have HO1 := hid hown; have HB1 := hid hb1; clear hown hb1))
      obtain ⟨w0, hw0⟩ : ∃ w0 : World, w0 = wr := ⟨_, rfl⟩
      rw [← hw0] at HA HB HLA HLB HO1 HB1 hsb
      go_loopw [6, 8, 27] (fun ov _ iv wr => Hid (Below w0.heap.size w0 wr) ∧ ((iv = .int .i64 0 ∧ Hid (OwnF fTerm 54 w0.heap.size wr ov [])) ∨ (iv = .int .i64 1 ∧ Hid (OwnF fTerm 54 w0.heap.size wr ov la)) ∨ (iv = .int .i64 2 ∧ Hid (OwnF fTerm 54 w0.heap.size wr ov (la ++ lb))))) (fun _ _ iv _ => 2 - (intOf iv).toNat)
      case atStart => exact ⟨HB1, .inl ⟨rfl, HO1⟩⟩
      case round =>
        obtain ⟨hb, hr⟩ := hrel
        have c0 := cell_below hb.out hsb HA.out
        have c1 := cell_below hb.out hsb HB.out
        have hsz : w0.heap.size ≤ wr.heap.size := hb.out.size
        rcases hr with ⟨rfl, ho⟩ | ⟨rfl, ho⟩ | ⟨rfl, ho⟩
        · obtain ⟨Ao, co, rfl⟩ := ho.out.form
          obtain ⟨-, hsrc, hok⟩ := (HLA.out.below hb.out).src
          have HSRC := hid hsrc
          have HOK := hid hok
          clear hsrc hok
          go_wp2_with (at_builtin; go_must (refine wpList_append_src _ rfl (.tmp 31) (.tmp 32) _ rfl w0.heap.size 54 it _ 2 16 Tryz.underlying34 HIT.out.1 HIT.out.2.1 HIT.out.2.2.1 HIT.out.2.2.2 rfl (by omega) (.slice Ao ([] : List Term).length co) ([] : List Term).length (fTerm.all []) (by rfl) (by exact ho.out.1) A la.length cap (termCells la) (by rfl) (by exact HSRC.out) (by exact termCells_one) (by simp; unfold maxLen; omega) (by simp; omega) (by exact hsz) ?_; intro v2 w2 hown2 hg2 hat2; have HO2 := hid (OwnF.app ho.out.2 HOK.out hown2); have HB2 := hid (own_app (v2 := v2) hb.out ho.out hsz hg2 rfl); clear hown2 hg2 hat2))
          exact ⟨⟨HB2, .inr (.inl ⟨by go_num, HO2⟩)⟩, by simp [intOf]⟩
        · obtain ⟨Ao, co, rfl⟩ := ho.out.form
          obtain ⟨-, hsrc, hok⟩ := (HLB.out.below hb.out).src
          have HSRC := hid hsrc
          have HOK := hid hok
          clear hsrc hok
          go_wp2_with (at_builtin; go_must (refine wpList_append_src _ rfl (.tmp 31) (.tmp 32) _ rfl w0.heap.size 54 it _ 2 16 Tryz.underlying34 HIT.out.1 HIT.out.2.1 HIT.out.2.2.1 HIT.out.2.2.2 rfl (by omega) (.slice Ao la.length co) la.length (fTerm.all la) (by rfl) (by exact ho.out.1) B lb.length bcap (termCells lb) (by rfl) (by exact HSRC.out) (by exact termCells_one) (by unfold maxLen; omega) (by omega) (by exact hsz) ?_; intro v2 w2 hown2 hg2 hat2; have HO2 := hid (OwnF.app ho.out.2 HOK.out hown2); have HB2 := hid (own_app (v2 := v2) hb.out ho.out hsz hg2 rfl); clear hown2 hg2 hat2))
          exact ⟨⟨HB2, .inr (.inr ⟨by go_num, HO2⟩)⟩, by simp [intOf]⟩
        · go_wp2
          go_ret
          rw [← hw0]
          exact ⟨_, rfl, ho.out, hb.out⟩
end Go.Proofs.YtmbjeppnamhgiaaGreat
end
section
/- Contract: incomp.Join. -/
namespace Go.Proofs.YtmbjeppnamhgiaaGreat
open Go Go.RowKit

theorem filter_take {l : List Term} {k : Nat} (hk : k < l.length) (p : Term → Bool) : (l.take (k + 1)).filter p = if p l[k] then (l.take k).filter p ++ [l[k]] else (l.take k).filter p := by
  rw [List.take_succ_eq_append_getElem hk, List.filter_append]
  cases hp : p l[k] <;> simp [hp]
theorem two_slices {w : World} {x y : Value} {t : TypeId} : (w.alloc (.cells #[x, y] t)).cell? ⟨w.heap.size, 0, none⟩ = some x ∧ (w.alloc (.cells #[x, y] t)).cell? ⟨w.heap.size, 1, none⟩ = some y :=
  ⟨(alloc_cell w _ _ 0).trans rfl, (alloc_cell w _ _ 1).trans rfl⟩
set_option maxRecDepth 100000 in
set_option maxHeartbeats 4000000 in
theorem join_new (v lv bv : Value) (ns : List Nat) (Ma Mb : Nat → Nat) (unit : Int) (w : World) (h : UniRd w (Lt w.heap.size) v ns) (ho : NsOk ns) (hl : SliceRd tTerm w (Lt w.heap.size) lv (canon ns Ma)) (hbv : SliceRd tTerm w (Lt w.heap.size) bv (canon ns Mb)) (ha : IncOk ns Ma) (hM : IncOk ns Mb) :
    Calls Tryz.prog 47 #[v, lv, bv, .int .i64 unit] w (TermsNew (joinR ns Ma Mb unit) w) := by
  have HH := hid h
  have HO := hid ho
  have HL := hid hl
  have HBV := hid hbv
  have HA := hid ha
  have HM := hid hM
  have hla := canon_len (ns := ns) Ma
  have hlb := canon_len (ns := ns) Mb
  obtain ⟨g, cap0, rfl, hg, -⟩ := h
  obtain ⟨A, cap, hae, -⟩ := hl.terms
  have HAN := hid (show (canon ns Ma).length ≤ ns.length from hla)
  have HBN := hid (show (canon ns Mb).length ≤ ns.length from hlb)
  generalize (canon ns Ma).length = an at hae
  subst hae
  obtain ⟨B, bcap, hbe, -⟩ := hbv.terms
  generalize (canon ns Mb).length = bn at hbe
  subst hbe
  have h11 := ho.hi
  have h2 := ho.lo
  clear hl hbv ha hM ho hla hlb
  by_cases hun : 0 ≤ unit ∧ unit < ns.length
  · obtain ⟨un, rfl⟩ : ∃ un : Nat, unit = un := ⟨unit.toNat, by omega⟩
    have hunl : un < ns.length := by omega
    have HJ : Hid (joinR ns Ma Mb un = madeN ns (joinN Ma Mb un)) := hid (by unfold joinR; rw [if_neg (by omega)]; simp)
    have HMK := hid (join_make HO.out HA.out HM.out hunl)
    have u1 : ¬ ((un : Int) < 0) := by omega
    have u2 : ¬ ((ns.length : Int) ≤ un) := by omega
    obtain ⟨it, hit⟩ := info_parts term_info
    have HIT := hid hit
    clear hun hit
    go_enter Tryz.func47, Tryz.ntmps47
    go_wp2_with fail
    obtain ⟨w0, hw0⟩ : ∃ w0 : World, w0 = (w.alloc (.cells #[.slice (some ⟨g, 0, none⟩) ns.length cap0] 26)).alloc (.cells #[.slice A an cap, .slice B bn bcap] 34) := ⟨_, rfl⟩
    have hb0 : Below w.heap.size w w0 := by rw [hw0]; exact balloc (balloc (b0 w) _) _
    have hs0 : w0.heap.size = w.heap.size + 2 := by rw [hw0]; simp
    have hl0 : w.heap.size < w0.heap.size := by omega
    have q0 : w0.cell? ⟨w.heap.size, 0, none⟩ = some (.slice (some ⟨g, 0, none⟩) ns.length cap0) := by
      rw [hw0]
      exact cell_below (balloc (b0 (w.alloc _)) _) (by simp) ((alloc_cell w _ _ 0).trans rfl)
    have q12 := two_slices (w := w.alloc (.cells #[.slice (some ⟨g, 0, none⟩) ns.length cap0] 26)) (x := .slice A an cap) (y := .slice B bn bcap) (t := 34)
    rw [← hw0, World.size_alloc] at q12
    have HB0 := hid hb0
    have HQ := hid q0
    have HU0 := hid (uni_later HH.out hb0)
    have HL0 := hid (HL.out.lift hb0 hb0.size)
    have HBV0 := hid (HBV.out.lift hb0 hb0.size)
    rw [← hw0]
    clear hw0 hb0 q0
    refine (concat_any (w.heap.size + 1) _ _ (canon ns Ma) (canon ns Mb) w0 (by omega) q12.1 q12.2 HL0.out HBV0.out (by have := HAN.out; have := HBN.out; omega)).mono ?_
    rintro e w1 ⟨cv, rfl, hown1, hb1⟩
    obtain ⟨Ac, cc, rfl⟩ := hown1.form
    have hll : (canon ns Ma ++ canon ns Mb).length ≤ 22 := by rw [List.length_append]; have := HAN.out; have := HBN.out; omega
    have HRD := hid hown1.rd
    have HB1 := hid hb1
    have HLL := hid hll
    have HJL : Hid ((canon ns Ma ++ canon ns Mb).filter (fun t => t.unit != (un : Int)) ++ [⟨(un : Int), ((Ma un ||| Mb un : Nat) : Int)⟩] = joinL ns Ma Mb un) := hid rfl
    clear hown1 hb1 q12
    generalize canon ns Ma ++ canon ns Mb = l at *
    obtain ⟨A', cap', hcv, -, -, hc⟩ := HRD.out.terms
    have HC := hid hc
    have e1 : Ac = A' := by injection hcv
    subst e1
    clear hc hcv
    go_wp2_with fail
    go_loopw [10, 12, 27] (fun ov _ iv wr => ∃ k : Nat, k ≤ l.length ∧ iv = .int .i64 k ∧ Hid (OwnF fTerm 54 w1.heap.size wr ov ((l.take k).filter fun t => t.unit != (un : Int))) ∧ Hid (Below w1.heap.size w1 wr)) (fun _ _ iv _ => l.length - (intOf iv).toNat)
    case atStart => exact ⟨0, Nat.zero_le _, rfl, hid (OwnF.nil _ _ _ _), hid (b0 w1)⟩
    case round =>
      obtain ⟨k, hk, rfl, hown, hb⟩ := hrel
      obtain ⟨Ao, co, rfl⟩ := hown.out.form
      by_cases hlt : k < l.length
      · obtain ⟨gg, o, hA, hF, g0, g1, i64u, i64m⟩ := HC.out k hlt
        subst hA
        have c0 := cell_below hb.out hF g0
        have c1 := cell_below hb.out hF g1
        have i1 : (0 : Int) ≤ ↑k := by omega
        have i2 : (↑k : Int) < ↑l.length := by omega
        have hfl : ((l.take k).filter fun t => t.unit != (un : Int)).length ≤ 22 := Nat.le_trans (List.length_filter_le _ _) (by rw [List.length_take]; omega)
        have hft := filter_take hlt (fun t => t.unit != (un : Int))
        have hmk : l[k] = ⟨l[k].unit, l[k].mask⟩ := rfl
        rw [hmk] at hft
        obtain ⟨a, hae⟩ : ∃ a, l[k].unit = a := ⟨_, rfl⟩
        obtain ⟨m, hme⟩ : ∃ m, l[k].mask = m := ⟨_, rfl⟩
        rw [hae] at c0 hft i64u
        rw [hme] at c1 hft i64m
        have HI := hid (And.intro i64u i64m)
        clear g0 g1 hae hme hmk i64u i64m
        by_cases he : a = un
        · subst he
          have HFT := hid (show (l.take (k + 1)).filter (fun t => t.unit != (un : Int)) = (l.take k).filter (fun t => t.unit != (un : Int)) by rw [hft]; simp)
          have z1 : ((un : Int) != (un : Int)) = false := by simp
          clear hft
          go_wp2_with fail
          exact ⟨⟨k + 1, by omega, by go_num, hid (by rw [HFT.out]; exact hown.out.below (balloc (b0 wr) _) (Nat.le_refl _)), hid (balloc hb.out _)⟩, by simp [intOf]; omega⟩
        · have HFT := hid (show (l.take (k + 1)).filter (fun t => t.unit != (un : Int)) = (l.take k).filter (fun t => t.unit != (un : Int)) ++ [⟨a, m⟩] by rw [hft, if_pos (by simpa using he)])
          have z1 : (a != (un : Int)) = true := by simpa using he
          generalize (l.take k).filter (fun t => t.unit != (un : Int)) = L at hown hfl HFT
          clear hft he
          go_wp2_with (at_builtin; go_must (refine wpList_append_src _ rfl (.tmp 35) (.tmp 37) _ rfl w1.heap.size 54 it _ 2 16 Tryz.underlying34 HIT.out.1 HIT.out.2.1 HIT.out.2.2.1 HIT.out.2.2.2 rfl (by omega) (.slice Ao L.length co) L.length (fTerm.all L) (by rfl) (by exact (hown.out.1.alloc _).alloc _) _ 1 1 (fTerm.cells ⟨a, m⟩) (by rfl) (by exact src_new _ _ (by simp) 2 _ rfl rfl) (by simp [fTerm, Value.oneCell']) (by unfold maxLen; omega) (by omega) (by have := hb.out.size; simp; omega) ?_; intro v5 w5 hown5 hg5 hat5; have HO5 := hid (hown.out.snoc (e := 54) (B := w1.heap.size) (v' := v5) (show fTerm.ok ⟨a, m⟩ from HI.out) hown5); have HB5 := hid (own_app (v2 := v5) (balloc (balloc hb.out _) _) ((hown.out.alloc _).alloc _) (by have := hb.out.size; simp; omega) hg5 rfl); clear hown5 hg5 hat5))
          exact ⟨⟨k + 1, by omega, by go_num, hid (by rw [HFT.out]; exact HO5.out), HB5⟩, by simp [intOf]; omega⟩
      · have hkl : k = l.length := by omega
        have hfin : (l.take k).filter (fun t => t.unit != (un : Int)) = l.filter (fun t => t.unit != (un : Int)) := by rw [List.take_of_length_le (by omega)]
        rw [hfin] at hown ⊢
        have hfl : (l.filter fun t => t.unit != (un : Int)).length ≤ 22 := Nat.le_trans (List.length_filter_le _ _) hll
        have HUNI64 : Hid (I64 (un : Int) ∧ I64 (((Ma un ||| Mb un : Nat)) : Int)) := hid ⟨⟨by omega, by omega⟩, i64_small (or_le31 (HA.out.le HO.out un hunl) (HM.out.le HO.out un hunl))⟩
        have hor := or_fact (Ma un) (Mb un) (HA.out.le HO.out un hunl) (HM.out.le HO.out un hunl)
        have e1 : maskF ns (canon ns Ma) un = (Ma un : Nat) := by rw [mask_canon, maskN_nat _ hunl]
        have e2 : maskF ns (canon ns Mb) un = (Mb un : Nat) := by rw [mask_canon, maskN_nat _ hunl]
        have hbr := bstep HB1.out hb.out
        have hdr : Below wr.heap.size wr wr.drew := (b0 wr).drew
        have hbd := bstep hbr hdr
        have hld : w.heap.size < wr.heap.size := Nat.lt_of_lt_of_le hl0 hbr.size
        have hd := cell_below hbr hl0 HQ.out
        have hd1 := cell_below HB1.out hl0 HQ.out
        have hmA := mask_any _ _ ns (canon ns Ma) un wr.drew (uni_later HU0.out hbd) HO.out (HL0.out.lift hbd hbd.size)
        rw [e1] at hmA
        have HMA := hid hmA
        have HMB := hid (fun w2 (hb2 : Below wr.drew.heap.size wr.drew w2) => e2 ▸ mask_any _ _ ns (canon ns Mb) un w2 (uni_later (uni_later HU0.out hbd) hb2) HO.out ((HBV0.out.lift hbd hbd.size).lift hb2 hb2.size))
        generalize Ma un ||| Mb un = ro at hor HUNI64 HJL
        generalize Ma un = ma at hor HMA
        generalize Mb un = mb at hor HMB
        generalize (l.filter fun t => t.unit != (un : Int)) = L at hown hfl HJL ⊢
        clear hfin hmA e1 e2
        go_wp2_with fail
        go_region_law ((first
          | (refine step_guard (.tmp 41) (.tmp 53) 34 rfl ?_; refine step_append_src _ rfl (.tmp 41) (.tmp 53) 34 rfl w1.heap.size 54 it _ 2 16 Tryz.underlying34 HIT.out.1 HIT.out.2.1 HIT.out.2.2.1 HIT.out.2.2.2 rfl (by omega) (.slice Ao L.length co) L.length (fTerm.all L) (by rfl) (by exact HO3.out.1.alloc _) _ 1 1 (fTerm.cells ⟨(un : Int), (ro : Int)⟩) (by rfl) (by exact src_new _ _ rfl 2 _ rfl rfl) (by simp [fTerm, Value.oneCell']) (by unfold maxLen; omega) (by omega) (by have := HB3.out.size; simp; omega) ?_; intro v5 w5 hown5 hg5 hat5; have HO5 := hid (HO3.out.snoc (e := 54) (B := w1.heap.size) (v' := v5) (show fTerm.ok ⟨(un : Int), (ro : Int)⟩ from HUNI64.out) hown5); have HB5 := hid (own_app (v2 := v5) (balloc HB3.out _) (HO3.out.alloc _) (by have := HB3.out.size; simp; omega) hg5 rfl); have d5 := cell_below HB5.out (Nat.lt_of_lt_of_le hl0 HB1.out.size) hd1; clear hown5 hg5 hat5)
          | (go_simp; go_at_call_of 76 cap; refine HMA.out.mono ?_; rintro e w2 ⟨rfl, hb2⟩; have d2 := cell_below (bstep hdr hb2) hld hd; have HB2 := hid hb2; clear hb2)
          | (go_simp; go_at_call_of 76 bcap; refine (HMB.out _ HB2.out).mono ?_; rintro e w3 ⟨rfl, hb3⟩; have HW3 := hid (bstep hdr (bstep HB2.out hb3)); have d3 := cell_below HW3.out hld hd; have HB3 := hid (bstep hb.out HW3.out); have hlt3 : w.heap.size < w3.heap.size := Nat.lt_of_lt_of_le hld HW3.out.size; have HO3 := hid (hown.out.below HW3.out (Nat.le_refl _)); clear hb3)
          | (go_simp; go_at_call 75; refine (make_new _ _ ns (joinL ns Ma Mb un) _ (uni_later HU0.out (bstep HB1.out HB5.out)) HO.out (by rw [← HJL.out]; exact HO5.out.rd) (by rw [← HJL.out]; simp; omega)).mono ?_; rintro e w6 ⟨sv, rfl, hrd, hb6⟩)))
        all_goals go_wp2_with fail
        all_goals go_ret2
        all_goals exact ⟨_, by rw [HJ.out, ← HMK.out]; rfl, by rw [HJ.out, ← HMK.out]; exact hrd.more fun _ h => ⟨Nat.le_trans (bstep HB0.out (bstep HB1.out HB5.out)).size h.1, h.2⟩, bstep HB0.out (bstep HB1.out (bstep HB5.out hb6))⟩
  · have HJ : Hid (joinR ns Ma Mb unit = none) := hid (by unfold joinR; rw [if_pos (by omega)])
    by_cases hneg : unit < 0
    · clear hun
      go_enter Tryz.func47, Tryz.ntmps47
      go_wp2_with fail
      go_ret2
      exact ⟨_, by rw [HJ.out]; rfl, by rw [HJ.out]; exact SliceRd.nil _ _ _, balloc (b0 w) _⟩
    · have hbig : (ns.length : Int) ≤ unit := by omega
      clear hun
      go_enter Tryz.func47, Tryz.ntmps47
      go_wp2_with fail
      go_ret2
      exact ⟨_, by rw [HJ.out]; rfl, by rw [HJ.out]; exact SliceRd.nil _ _ _, balloc (b0 w) _⟩
theorem join_any (v lv bv : Value) (ns : List Nat) (Ma Mb : Nat → Nat) (unit : Int) (w : World) (h : UniRd w (Lt w.heap.size) v ns) (ho : NsOk ns) (hl : SliceRd tTerm w (Lt w.heap.size) lv (canon ns Ma)) (hbv : SliceRd tTerm w (Lt w.heap.size) bv (canon ns Mb)) (ha : IncOk ns Ma) (hM : IncOk ns Mb) :
    Calls Tryz.prog 47 #[v, lv, bv, .int .i64 unit] w (TermsPost (joinR ns Ma Mb unit) w) :=
  (join_new v lv bv ns Ma Mb unit w h ho hl hbv ha hM).mono fun _ _ h => h.post
end Go.Proofs.YtmbjeppnamhgiaaGreat
end
