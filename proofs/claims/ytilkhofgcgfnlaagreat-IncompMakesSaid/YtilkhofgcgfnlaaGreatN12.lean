/- Contracts: slices.Grow of nil, slices.Concat of two rows of terms. -/
import Derived.Test.YtilkhofgcgfnlaaGreatN9
import Derived.Lib.AppendZerosOnto
import Derived.Outline
namespace Go.Proofs.YtilkhofgcgfnlaaGreat
open Go Go.RowKit

theorem zeroCells_size (z : Array Value) (n : Nat) : (Builtin.zeroCells z n).size = n * z.size := by simp [Builtin.zeroCells]
def GrowPostT (n : Nat) (w : World) (e : Ending) (w' : World) : Prop := ∃ v, e = .returned v ∧ OwnF fTerm 31 w.heap.size w' v [] ∧ (∃ A c, v = .slice A 0 c) ∧ Below w.heap.size w w' ∧ n = n
set_option maxRecDepth 100000 in
set_option maxHeartbeats 1000000 in
theorem grow_nil (n : Nat) (w : World) (hn : n ≤ 1000) :
    Calls Tryz.prog 68 #[.slice none 0 0, .int .i64 n] w (GrowPostT n w) := by
  by_cases h0 : n = 0
  · subst h0
    go_enter Tryz.func68, Tryz.ntmps68
    go_wp2
    go_ret
    exact ⟨_, rfl, OwnF.nil _ _ _ _, ⟨none, 0, rfl⟩, b0 w, rfl⟩
  · obtain ⟨it, i1, i2, i3, i4⟩ := info_parts term_info
    have h := fun ty => Lib.run_append_grow_zeros w 23 3 ty 31 it _ .i64 .i64 Tryz.underlying23 Tryz.underlying3 i1 i2 none 0 0 [] (by rw [i3]; exact run_firstCells_none w.drew 2 0 0 0) n (by omega) (by omega) (by omega) (by omega) (by rw [i4]; omega) (by rw [i4]; exact growslice_fits (by omega) (by omega))
    simp only [Nat.zero_add] at h
    have hGn : n ≤ grownCap w n 0 31 := grownCap_ge w _ _ _
    have hG63 := grownCap_le_maxLen w n 0 31 (by unfold maxLen; omega)
    generalize grownCap w n 0 31 = G at *
    have hcs : (([] : List Value).toArray ++ Builtin.zeroCells (Value.agg #[.int .i64 0, .int .i64 0]).cells n ++ Builtin.zeroCells (Value.agg #[.int .i64 0, .int .i64 0]).cells (G - n)).size = G * 2 := by
      simp only [Array.size_append, zeroCells_size]
      simp [Value.cells]
      omega
    have HCS := hid hcs
    have HG := hid hG63
    unfold maxLen at hG63
    clear hcs
    generalize ([] : List Value).toArray ++ Builtin.zeroCells (Value.agg #[.int .i64 0, .int .i64 0]).cells n ++ Builtin.zeroCells (Value.agg #[.int .i64 0, .int .i64 0]).cells (G - n) = cs at *
    clear i1 i2 i3 i4
    go_enter Tryz.func68, Tryz.ntmps68
    go_wp2_with (at_builtin; refine Lib.wpList_append_run _ rfl _ _ _ _ rfl _ _ rfl rfl _ _ (h _) ?_)
    all_goals go_ret
    refine ⟨_, rfl, ⟨⟨rfl, .inr ⟨w.heap.size, G, cs, rfl, Nat.le_refl _, heap_alloc_new w.drew _, Nat.zero_le _, HG.out, HCS.out, rfl⟩⟩, fun x hx => by cases hx⟩, ⟨_, _, rfl⟩, balloc (b0 w).drew _, rfl⟩
theorem OwnF.app {e : TypeId} {B : Nat} {w' : World} {v' : Value} {L l : List Term} (hL : ∀ t ∈ L, fTerm.ok t) (hl : ∀ t ∈ l, I64 t.unit ∧ I64 t.mask) (hown : w'.ownsRow B e 2 v' (L.length + l.length) (fTerm.all L ++ termCells l)) : OwnF fTerm e B w' v' (L ++ l) := by
  refine ⟨?_, fun y hy => ?_⟩
  · rw [fTerm.all_append, fTerm_all l, List.length_append]
    exact hown
  · rcases List.mem_append.1 hy with hy | hy
    · exact hL y hy
    · exact hl y hy
def ConcatPost (l : List Term) (w : World) (e : Ending) (w' : World) : Prop := ∃ v, e = .returned v ∧ OwnF fTerm 31 w.heap.size w' v l ∧ Below w.heap.size w w'
set_option maxRecDepth 100000 in
set_option maxHeartbeats 2000000 in
theorem concat_any (sb : Nat) (av bv : Value) (la lb : List Term) (w : World) (hsb : sb < w.heap.size) (ha : w.cell? ⟨sb, 0, none⟩ = some av) (hb : w.cell? ⟨sb, 1, none⟩ = some bv) (hla : SliceRd tTerm w (Lt w.heap.size) av la) (hlb : SliceRd tTerm w (Lt w.heap.size) bv lb) (hlen : la.length + lb.length ≤ 1000) :
    Calls Tryz.prog 44 #[.slice (some ⟨sb, 0, none⟩) 2 2] w (ConcatPost (la ++ lb) w) := by
  obtain ⟨it, hit⟩ := info_parts term_info
  have HIT := hid hit
  have HLA := hid hla
  have HLB := hid hlb
  have HA := hid ha
  have HB := hid hb
  obtain ⟨A, cap, rfl, -⟩ := hla.terms
  obtain ⟨B, bcap, rfl, -⟩ := hlb.terms
  clear hla hlb hit
  go_enter Tryz.func44, Tryz.ntmps44
  go_wp2_with fail
  go_loopw [3, 5, 11] (fun s _ iv wr => wr = w ∧ ((iv = .int .i64 0 ∧ s = .int .i64 0) ∨ (iv = .int .i64 1 ∧ s = .int .i64 la.length) ∨ (iv = .int .i64 2 ∧ s = .int .i64 ((la.length + lb.length : Nat) : Int)))) (fun _ _ iv _ => 2 - (intOf iv).toNat)
  case atStart => exact ⟨rfl, .inl ⟨rfl, rfl⟩⟩
  case round =>
    obtain ⟨rfl, hr⟩ := hrel
    rcases hr with ⟨rfl, rfl⟩ | ⟨rfl, rfl⟩ | ⟨rfl, rfl⟩
    · have z1 : ¬ ((la.length : Int) < 0) := by omega
      go_wp2
      exact ⟨⟨by first | trivial | rfl, .inr (.inl ⟨by go_num, by go_num⟩)⟩, by simp [intOf]⟩
    · have z1 : ¬ ((la.length : Int) + (lb.length : Int) < 0) := by omega
      go_wp2
      exact ⟨⟨by first | trivial | rfl, .inr (.inr ⟨by go_num, by push_cast; go_num⟩)⟩, by simp [intOf]⟩
    · have hn : la.length + lb.length ≤ 1000 := hlen
      generalize la.length + lb.length = n at hn
      go_wp2_with (go_at_call 68; go_must (refine (grow_nil n _ hn).mono ?_; rintro e w1 ⟨v1, rfl, hown, ⟨A1, c1, rfl⟩, hb1, -⟩; have HO1 := hid hown; have HB1 := hid hb1; clear hown hb1))
      obtain ⟨w0, hw0⟩ : ∃ w0 : World, w0 = wr := ⟨_, rfl⟩
      rw [← hw0] at HA HB HLA HLB HO1 HB1 hsb
      go_loopw [6, 8, 27] (fun ov _ iv wr => Hid (Below w0.heap.size w0 wr) ∧ ((iv = .int .i64 0 ∧ Hid (OwnF fTerm 31 w0.heap.size wr ov [])) ∨ (iv = .int .i64 1 ∧ Hid (OwnF fTerm 31 w0.heap.size wr ov la)) ∨ (iv = .int .i64 2 ∧ Hid (OwnF fTerm 31 w0.heap.size wr ov (la ++ lb))))) (fun _ _ iv _ => 2 - (intOf iv).toNat)
      case atStart => exact ⟨HB1, .inl ⟨rfl, HO1⟩⟩
      case round =>
        obtain ⟨hb, hr⟩ := hrel
        have c0 := cell_below hb.out hsb HA.out
        have c1 := cell_below hb.out hsb HB.out
        have hsz : w0.heap.size ≤ wr.heap.size := hb.out.size
        rcases hr with ⟨rfl, ho⟩ | ⟨rfl, ho⟩ | ⟨rfl, ho⟩
        · obtain ⟨Ao, co, rfl⟩ := ho.out.form
          obtain ⟨-, hsrc, hok⟩ := (HLA.out.below hb.out).src
          have HSRC := hid hsrc
          have HOK := hid hok
          clear hsrc hok
          go_wp2_with (at_builtin; go_must (refine wpList_append_src _ rfl (.tmp 31) (.tmp 32) _ rfl w0.heap.size 31 it _ 2 16 Tryz.underlying23 HIT.out.1 HIT.out.2.1 HIT.out.2.2.1 HIT.out.2.2.2 rfl (by omega) (.slice Ao ([] : List Term).length co) ([] : List Term).length (fTerm.all []) (by rfl) (by exact ho.out.1) A la.length cap (termCells la) (by rfl) (by exact HSRC.out) (by exact termCells_one) (by simp; unfold maxLen; omega) (by simp; omega) (by exact hsz) ?_; intro v2 w2 hown2 hg2 hat2; have HO2 := hid (OwnF.app ho.out.2 HOK.out hown2); have HB2 := hid (own_app (v2 := v2) hb.out ho.out hsz hg2 rfl); clear hown2 hg2 hat2))
          exact ⟨⟨HB2, .inr (.inl ⟨by go_num, HO2⟩)⟩, by simp [intOf]⟩
        · obtain ⟨Ao, co, rfl⟩ := ho.out.form
          obtain ⟨-, hsrc, hok⟩ := (HLB.out.below hb.out).src
          have HSRC := hid hsrc
          have HOK := hid hok
          clear hsrc hok
          go_wp2_with (at_builtin; go_must (refine wpList_append_src _ rfl (.tmp 31) (.tmp 32) _ rfl w0.heap.size 31 it _ 2 16 Tryz.underlying23 HIT.out.1 HIT.out.2.1 HIT.out.2.2.1 HIT.out.2.2.2 rfl (by omega) (.slice Ao la.length co) la.length (fTerm.all la) (by rfl) (by exact ho.out.1) B lb.length bcap (termCells lb) (by rfl) (by exact HSRC.out) (by exact termCells_one) (by unfold maxLen; omega) (by omega) (by exact hsz) ?_; intro v2 w2 hown2 hg2 hat2; have HO2 := hid (OwnF.app ho.out.2 HOK.out hown2); have HB2 := hid (own_app (v2 := v2) hb.out ho.out hsz hg2 rfl); clear hown2 hg2 hat2))
          exact ⟨⟨HB2, .inr (.inr ⟨by go_num, HO2⟩)⟩, by simp [intOf]⟩
        · go_wp2
          go_ret
          rw [← hw0]
          exact ⟨_, rfl, ho.out, hb.out⟩
end Go.Proofs.YtilkhofgcgfnlaaGreat
