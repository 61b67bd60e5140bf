import Derived.Test.YtilkhofgcgfnlaaGreatG24
import Derived.Outline
import Derived.Test.YtilkhofgcgfnlaaGreatNs
section
/- Contract: linchpinmade.units. -/
namespace Go.Proofs.YtilkhofgcgfnlaaGreat
open Go Go.RowKit

theorem blk_apart {w w1 : World} {B' : Nat} {T e' : TypeId} {s' n' g : Nat} {v' : Value} {ys' : List Value} {cs : Array Value} (h : w.heap[g]? = some (.cells cs T (0, 0))) (ho : w.ownsRow B' e' s' v' n' ys') (hne : T ≠ e') (o : Obj) (hg : (w.alloc o).grownBy w1 v'.ownBlock) : w1.heap[g]? = some (.cells cs T (0, 0)) := by
  have hl : g < w.heap.size := (Array.getElem?_eq_some_iff.1 h).1
  rw [hg.block g (by simp; omega) ?_, Below.heap_alloc _ _ _ hl]
  · exact h
  · intro e
    rcases ho.2 with ⟨rfl, _⟩ | ⟨g', cap, cur', rfl, _, hgg, _⟩
    · cases e
    · have : g' = g := (Option.some.inj e).symm
      subst this
      rw [hgg] at h
      injection h with h
      injection h with _ h2
      exact hne h2.symm
def nmCells : Array Value := #[.string ⟨#[97, 110, 116]⟩, .string ⟨#[98, 101, 101]⟩, .string ⟨#[99, 111, 119]⟩, .string ⟨#[100, 111, 103]⟩, .string ⟨#[101, 108, 107]⟩]
theorem nm_at {w : World} {g : Nat} (h : w.heap[g]? = some (.cells nmCells 9 (0, 0))) {k : Nat} (hk : k < 5) : ∃ nm, w.cell? ⟨g, k, none⟩ = some (.string nm) := by
  have e := cell_of_row w g k nmCells _ (0, 0) h
  match k, hk with
  | 0, _ => exact ⟨_, e⟩
  | 1, _ => exact ⟨_, e⟩
  | 2, _ => exact ⟨_, e⟩
  | 3, _ => exact ⟨_, e⟩
  | 4, _ => exact ⟨_, e⟩
def vsCells : Array Value := (fVer.all versL).toArray
theorem vs_at {w : World} {g : Nat} (h : w.heap[g]? = some (.cells vsCells 56 (0, 0))) {k : Nat} (hk : k < 4) : ∃ u : Ver, u.B ∧ VerAt w g (k * 5) u := by
  have hB : ∀ u ∈ versL, Ver.B u := by
    intro u hu
    simp only [versL, List.mem_cons, List.not_mem_nil, or_false] at hu
    rcases hu with rfl | rfl | rfl | rfl <;> exact ⟨by decide, by decide, by decide, by decide, by decide⟩
  have e : ∀ o, w.cell? ⟨g, o, none⟩ = vsCells[o]? := fun o => cell_of_row w g o vsCells _ (0, 0) h
  have hk' : k < versL.length := hk
  have hg : ∀ i, i < 5 → vsCells[k * 5 + i]? = (verCells (versL[k]'hk'))[i]? := by
    intro i hi
    have := fVer.all_get (l := versL) (k := k) hk' (j := i) hi
    rw [← Array.getElem?_toList]
    exact this
  exact ⟨versL[k]'hk', hB _ (List.getElem_mem hk), (e _).trans (hg 0 (by omega)), (e _).trans (hg 1 (by omega)), (e _).trans (hg 2 (by omega)), (e _).trans (hg 3 (by omega)), (e _).trans (hg 4 (by omega))⟩
/-- What lies beside the units. -/
def Beside (w : World) (bn bv : Nat) : Prop := w.heap[bn]? = some (.cells nmCells 9 (0, 0)) ∧ w.heap[bv]? = some (.cells vsCells 56 (0, 0))
theorem Beside.gb {w w' : World} {bn bv bG : Nat} (h : Beside w bn bv) (hg : w.grownBy w' (some bG)) (h1 : bG < bn) (h2 : bG < bv) : Beside w' bn bv :=
  ⟨(gb_block hg (by omega) (Array.getElem?_eq_some_iff.1 h.1).1).trans h.1, (gb_block hg (by omega) (Array.getElem?_eq_some_iff.1 h.2).1).trans h.2⟩
theorem Beside.below {w w' : World} {bn bv M : Nat} (h : Beside w bn bv) (hb : Below M w w') (hM : w.heap.size ≤ M) : Beside w' bn bv :=
  ⟨(hb.block _ (Nat.lt_of_lt_of_le (Array.getElem?_eq_some_iff.1 h.1).1 hM)).trans h.1, (hb.block _ (Nat.lt_of_lt_of_le (Array.getElem?_eq_some_iff.1 h.2).1 hM)).trans h.2⟩
def UnitsPost (bG : Nat) (lv : Value) (xs : List Int) (i : Int) (w : World) (e : Ending) (w' : World) : Prop :=
  ∃ (A : Option Addr) (c : Nat) (us : List UnitD) (i' : Int), e = .returned (.slice A us.length c) ∧ Built w.heap.size w' (.slice A us.length c) us (fun _ => 0) ∧ 2 ≤ us.length ∧ us.length ≤ 11 ∧ us.head?.map (·.n) = some 1 ∧ GAt w' bG lv xs i' ∧ i ≤ i' ∧ i' ≤ i + 100 ∧ w.grownBy w' (some bG)
theorem head_snoc {us : List UnitD} {d : UnitD} (h : us.head?.map (·.n) = some 1) : (us ++ [d]).head?.map (·.n) = some 1 := by
  cases us with
  | nil => cases h
  | cons x us => exact h
theorem unit_app {B M bG bn bv : Nat} {wr w8 w0 : World} {lv' lv v8 : Value} {us : List UnitD} {d : UnitD} {xs : List Int} {i' : Int} (hbt : Built B wr lv us (fun _ => 0)) (hM : ∀ k, (hk : k < us.length) → ∀ b, 0 < us[k].n → us[k].A = some ⟨b, 0, none⟩ → b < M) (hcu : CandU wr M d 0) (hMB : B ≤ M) (hs : B ≤ wr.heap.size) (o : Obj) (hg8 : (wr.alloc o).grownBy w8 lv.ownBlock) (hown8 : w8.ownsRow B 62 3 v8 (us.length + 1) (fUnit.all us ++ fUnit.cells d)) (hbs : Beside wr bn bv) (hg : GAt wr bG lv' xs i') (hGl : bG < B) (hgb : w0.grownBy wr (some bG)) (h0 : w0.heap.size ≤ B) (hhd : us.head?.map (·.n) = some 1) :
    ∃ (A8 : Option Addr) (c8 : Nat) (us8 : List UnitD), v8 = .slice A8 us8.length c8 ∧ us8.length = us.length + 1 ∧ Built B w8 v8 us8 (fun _ => 0) ∧ Below B wr w8 ∧ Beside w8 bn bv ∧ GAt w8 bG lv' xs i' ∧ w0.grownBy w8 (some bG) ∧ (∀ b n, CandBlk wr b n 0 → CandBlk w8 b n 0) ∧ us8.head?.map (·.n) = some 1 := by
  have hB := app_below hs hbt.own (Nat.le_refl _) _ hg8
  have hn := hbt.snoc hM hcu hMB hg8 hown8
  obtain ⟨A8, c8, hv⟩ := hn.form
  refine ⟨A8, c8, us ++ [d], hv, by simp, hn, hB, ⟨blk_apart hbs.1 hbt.own (by decide) _ hg8, blk_apart hbs.2 hbt.own (by decide) _ hg8⟩, hg.below hB hGl, gb_below hgb hB h0, ?_, head_snoc hhd⟩
  rintro b n ⟨cur, h1, h2⟩
  exact ⟨cur, blk_apart h1 hbt.own (by decide) _ hg8, h2⟩
theorem built_one (w : World) : Built w.heap.size ((w.alloc (.cells #[.int .i64 0, .int .i64 0, .int .i64 0, .string ⟨#[]⟩, .string ⟨#[]⟩, .int .i64 (-1), .slice none 0 0, .slice none 0 0] 59)).alloc (.cells #[.string ⟨#[]⟩, .string ⟨#[]⟩, .slice (some ⟨w.heap.size, 0, none⟩) 1 1] 62)) (.slice (some ⟨w.heap.size + 1, 0, none⟩) 1 1) [⟨⟨#[]⟩, ⟨#[]⟩, some ⟨w.heap.size, 0, none⟩, 1, 1⟩] (fun _ => 0) := by
  refine ⟨⟨rfl, .inr ⟨w.heap.size + 1, 1, #[.string ⟨#[]⟩, .string ⟨#[]⟩, .slice (some ⟨w.heap.size, 0, none⟩) 1 1], rfl, by omega, ?_, Nat.le_refl _, by unfold maxLen; omega, rfl, rfl⟩⟩, ?_, ?_⟩
  · have := heap_alloc_new (w.alloc (.cells #[.int .i64 0, .int .i64 0, .int .i64 0, .string ⟨#[]⟩, .string ⟨#[]⟩, .int .i64 (-1), .slice none 0 0, .slice none 0 0] 59)) (.cells #[.string ⟨#[]⟩, .string ⟨#[]⟩, .slice (some ⟨w.heap.size, 0, none⟩) 1 1] 62)
    rwa [World.size_alloc] at this
  · intro k hk
    have : k = 0 := by simp at hk; exact hk
    subst this
    have hown : (w.alloc (.cells #[.int .i64 0, .int .i64 0, .int .i64 0, .string ⟨#[]⟩, .string ⟨#[]⟩, .int .i64 (-1), .slice none 0 0, .slice none 0 0] 59)).ownsRow w.heap.size 59 8 (.slice (some ⟨w.heap.size, 0, none⟩) 1 1) [(⟨⟨0, 0, 0, ⟨#[]⟩, ⟨#[]⟩⟩, -1⟩ : CandD)].length (fCand.all [⟨⟨0, 0, 0, ⟨#[]⟩, ⟨#[]⟩⟩, -1⟩]) :=
      ⟨rfl, .inr ⟨_, 1, _, rfl, Nat.le_refl _, heap_alloc_new w _, Nat.le_refl _, by unfold maxLen; omega, rfl, rfl⟩⟩
    obtain ⟨A, c, hv, hc⟩ := own_candBlk hown (fun d hd => by
      have : d = ⟨⟨0, 0, 0, ⟨#[]⟩, ⟨#[]⟩⟩, -1⟩ := by simpa using hd
      subst this
      exact vb_zero)
    injection hv with e1 e2 e3
    obtain ⟨b, hA, hb, hblk⟩ := hc (by decide)
    refine ⟨by show 1 ≤ 4; omega, fun _ => ⟨b, e1.trans hA, hb, hblk.keep (Below.heap_alloc _ _ _ hblk.lt)⟩⟩
  · intro j k hjk hk
    simp at hk
    omega
theorem one_below {w : World} {B M : Nat} {lv : Value} {us : List UnitD} {nf : Nat → Nat} (h : Built B w lv us nf) (hM : w.heap.size ≤ M) : ∀ k, (hk : k < us.length) → ∀ b, 0 < us[k].n → us[k].A = some ⟨b, 0, none⟩ → b < M := by
  intro k hk b hp hA
  obtain ⟨b2, hA2, _, hc⟩ := (h.cands k hk).2 hp
  rw [hA] at hA2
  injection hA2 with hA2
  injection hA2 with hA2
  subst hA2
  have := hc.lt
  omega

set_option maxRecDepth 100000 in
set_option maxHeartbeats 1000000 in
theorem units_g (bG : Nat) (lv : Value) (xs : List Int) (i most : Int) (w : World) (hG : GAt w bG lv xs i) (hi : i + 200 < 1000000) (hm1 : 1 ≤ most) (hm2 : most ≤ 5) :
    Calls Tryz.prog 29 #[.pointer (some ⟨bG, 0, none⟩), .int .i64 most] w (UnitsPost bG lv xs i w) := by
  obtain ⟨iu, hiu⟩ := info_parts unit_info
  have HIU := hid hiu
  obtain ⟨ic, hic⟩ := info_parts cand_info
  have HIC := hid hic
  have hi0 := hG.bd.1
  have hGl := hG.lt
  have HG := hid hG
  clear hG hiu hic
  go_enter Tryz.func29, Tryz.ntmps29
  go_wp2_with fail
  obtain ⟨w0, hw0⟩ : ∃ w0 : World, w0 = ((w.alloc (.cells nmCells 9)).alloc (.cells #[.int .i64 0, .int .i64 0, .int .i64 0, .string ⟨#[]⟩, .string ⟨#[]⟩, .int .i64 (-1), .slice none 0 0, .slice none 0 0] 59)).alloc (.cells #[.string ⟨#[]⟩, .string ⟨#[]⟩, .slice (some ⟨w.heap.size + 1, 0, none⟩) 1 1] 62) := ⟨_, rfl⟩
  have HBW0 : Hid (Below w.heap.size w w0) := hid (by rw [hw0]; exact balloc (balloc (balloc (b0 w) _) _) _)
  have HBT0 : Hid (Built w.heap.size w0 (.slice (some ⟨w.heap.size + 1 + 1, 0, none⟩) 1 1) [⟨⟨#[]⟩, ⟨#[]⟩, some ⟨w.heap.size + 1, 0, none⟩, 1, 1⟩] (fun _ => 0)) := hid (by
    rw [hw0]
    have := built_one (w.alloc (.cells nmCells 9))
    rw [World.size_alloc] at this
    exact ⟨⟨this.own.1, by rcases this.own.2 with h | ⟨g, cap, cur, h1, h2, h3⟩; exact .inl h; exact .inr ⟨g, cap, cur, h1, by omega, h3⟩⟩, fun k hk => ⟨(this.cands k hk).1, fun hp => by obtain ⟨b, hA, hb, hc⟩ := (this.cands k hk).2 hp; exact ⟨b, hA, by omega, hc⟩⟩, this.incr⟩)
  have HNM0 : Hid (w0.heap[w.heap.size]? = some (.cells nmCells 9 (0, 0))) := hid (by
    rw [hw0, Below.heap_alloc _ _ _ (by simp; omega), Below.heap_alloc _ _ _ (by simp)]
    exact heap_alloc_new w _)
  have hz0 : w.heap.size < w0.heap.size := by rw [hw0]; simp; omega
  show Calls _ _ _ (((w.alloc (.cells nmCells 9)).alloc _).alloc _) _
  rw [← hw0]
  clear hw0
  refine (versions_any _).mono ?_
  rintro e w1 ⟨bv, rfl, hbv, hvb, hb1⟩
  have HBS1 : Hid (Beside w1 w.heap.size bv) := hid ⟨(hb1.block _ hz0).trans HNM0.out, hvb⟩
  have HBT1 := hid (HBT0.out.below hb1 (Nat.le_refl _))
  have HG1 := hid (HG.out.below (HBW0.out.trans (hb1.mono HBW0.out.size)) hGl)
  have HGB1 := hid (gb_below (gb_refl w (some bG)) (HBW0.out.trans (hb1.mono HBW0.out.size)) (Nat.le_refl _))
  have hbv2 : bG < bv := by omega
  clear hb1 hvb
  go_wp2
  go_loopw [6, 8] (fun ov nv wr => ∃ (k : Nat) (us : List UnitD) (i' : Int), k ≤ 5 ∧ nv = .int .i64 k ∧ k + 1 ≤ us.length ∧ us.length ≤ 2 * k + 1 ∧ i ≤ i' ∧ i' ≤ i + 7 * k ∧ Hid (Built w.heap.size wr ov us (fun _ => 0)) ∧ Hid (us.head?.map (·.n) = some 1) ∧ Hid (GAt wr bG lv xs i') ∧ Hid (w.grownBy wr (some bG)) ∧ Hid (Beside wr w.heap.size bv)) (fun _ nv _ => 5 - (intOf nv).toNat)
  case atStart => exact ⟨0, _, i, by omega, rfl, by simp, by simp, by omega, by omega, HBT1, hid rfl, HG1, HGB1, HBS1⟩
  case round =>
    obtain ⟨k, us, i', hk, rfl, hu1, hu2, hi1, hi2, hbt, hhd, hg, hgb, hbs⟩ := hrel
    obtain ⟨Al, cl, rfl⟩ := hbt.out.form
    have hsw := hgb.out.size
    by_cases hk5 : k < 5
    · have z5 : decide (k < 5) = true := decide_eq_true hk5
      have z5' : decide ((k : Int) < 5) = true := decide_eq_true (by omega)
      have tok := hid True.intro
      have tok2 := hid True.intro
      go_wp2_with (first
        | (go_at_call 32; clear tok; go_must (refine (next_g bG lv xs i' most _ hg.out (by omega) ⟨by omega, by omega⟩).mono ?_; rintro e w2 ⟨r, rfl, hr0, hr1, -, hg2, hgb2⟩; have hr2 : r < most := hr1 (by omega); clear hr1; have HG2 := hid hg2; have HGB2 := hid (gb_gb hgb.out hgb2); have HBT2 := hid (hbt.out.gb hgb2 hGl); have HBS2 := hid (hbs.out.gb hgb2 hGl hbv2); clear hg2 hgb2))
        | (go_at_call 32; clear tok2; go_must (refine (next_g bG lv xs (i' + 1) 16 _ HG2.out (by omega) ⟨by decide, by decide⟩).mono ?_; rintro e wc ⟨m, rfl, hm0, hm16, -, hg3, hgb3⟩; have HG3 := hid hg3; have HGB3 := hid (gb_gb HGB2.out hgb3); have HBT3 := hid (HBT2.out.gb hgb3 hGl); have HBS3 := hid (HBS2.out.gb hgb3 hGl hbv2); clear hg3 hgb3)))
      · have hsc := HGB3.out.size
        obtain ⟨nm, hnm⟩ := nm_at HBS3.out.1 hk5
        have HNM := hid hnm
        have HVS := hid HBS3.out.2
        clear hnm
        go_loopw [9, 11] (fun cv iv wr => ∃ (j : Nat) (cs : List CandD), j ≤ 4 ∧ iv = .int .i64 j ∧ cs.length ≤ j ∧ Hid (wr.ownsRow wc.heap.size 59 8 cv cs.length (fCand.all cs) ∧ ∀ d ∈ cs, d.v.B) ∧ Hid (Below wc.heap.size wc wr)) (fun _ iv _ => 4 - (intOf iv).toNat)
        case atStart => exact ⟨0, [], by omega, rfl, by simp, hid ⟨⟨rfl, .inl ⟨rfl, rfl⟩⟩, fun d hd => by cases hd⟩, hid (b0 _)⟩
        case round =>
          obtain ⟨j, cs, hj, rfl, hcl, hown, hb⟩ := hrel
          obtain ⟨Ac, cc, rfl⟩ := own_form hown.out.1
          have hsr := hb.out.size
          by_cases hj4 : j < 4
          · obtain ⟨u, hu, hat⟩ := vs_at ((hb.out.block _ (Array.getElem?_eq_some_iff.1 HVS.out).1).trans HVS.out) hj4
            obtain ⟨c0, c1, c2, c3, c4⟩ := hat
            have HU := hid hu
            have HONE := hid (fCand.one ⟨u, 0⟩)
            clear hu
            have i1 : (0 : Int) ≤ ↑j := by omega
            have i2 : (↑j : Int) < 4 := by omega
            go_wp2_with (first
              | (at_builtin
                 go_must (refine wpList_append_src _ rfl (.tmp 48) (.tmp 54) _ rfl wc.heap.size 59 ic _ 8 112 Tryz.underlying60 HIC.out.1 HIC.out.2.1 HIC.out.2.2.1 HIC.out.2.2.2 rfl (by omega) (.slice Ac cs.length cc) cs.length (fCand.all cs) (by rfl) (by exact hown.out.1.alloc _) (some ⟨wr.heap.size, 0, none⟩) 1 1 (candCells ⟨u, 0⟩) (by rfl) (by exact src_new _ _ rfl 8 _ rfl rfl) (by exact HONE.out) (by unfold maxLen; omega) (by omega) (by simp; omega) ?_)
                 intro v7 w7 hown7 hg7 hat7
                 have HOWN7 := hid hown7
                 have HBL7 := hid (show Below wc.heap.size wc w7 from Below.grown (hb.out.alloc hsr _) hg7 (by simp; omega) (fun k hk => (hown.out.1.lt k hk).1))
                 clear hown7 hg7 hat7))
            · refine ⟨⟨j + 1, cs ++ [⟨u, 0⟩], by omega, by go_num, by simp; omega, hid ⟨?_, ?_⟩, HBL7⟩, by simp [intOf]; omega⟩
              · rw [fCand.all_snoc, List.length_append]
                exact HOWN7.out
              · intro d hd
                rcases List.mem_append.1 hd with hd | hd
                · exact hown.out.2 d hd
                · have : d = ⟨u, 0⟩ := by simpa using hd
                  subst this
                  exact HU.out
            · exact ⟨⟨j + 1, cs, by omega, by go_num, by omega, hown, hid hb.out⟩, by simp [intOf]; omega⟩
          · have HBTW := hid (HBT3.out.below hb.out (Nat.le_refl _))
            have HGW := hid (HG3.out.below hb.out HG3.out.lt)
            have HGBW := hid (gb_below HGB3.out hb.out hsc)
            have HBSW := hid (HBS3.out.below hb.out (Nat.le_refl _))
            have HCU : Hid (CandU wr wc.heap.size ⟨nm, ⟨#[]⟩, Ac, cs.length, cc⟩ 0) := hid (by
              obtain ⟨A', c', hv, hc⟩ := own_candBlk hown.out.1 hown.out.2
              injection hv with e1 e2 e3
              subst e1
              exact ⟨by show cs.length ≤ 4; omega, hc⟩)
            have n0 := cell_below hb.out (Array.getElem?_eq_some_iff.1 HBS3.out.1).1 HNM.out
            have k1 : (0 : Int) ≤ ↑k := by omega
            have k2 : (↑k : Int) < 5 := by omega
            have tok3 := hid True.intro
            have tok4 := hid True.intro
            have hsl : us.length ≤ 11 := by omega
            have HONE := hid (fUnit.one ⟨nm, ⟨#[]⟩, Ac, cs.length, cc⟩)
            go_wp2_with (first
              | (at_builtin
                 clear tok3
                 go_must (
                 refine wpList_append_src _ rfl (.tmp 56) (.tmp 63) _ rfl w.heap.size 62 iu _ 3 56 Tryz.underlying25 HIU.out.1 HIU.out.2.1 HIU.out.2.2.1 HIU.out.2.2.2 rfl (by omega) (.slice Al us.length cl) us.length (fUnit.all us) (by rfl) (by exact HBTW.out.own.alloc _) (some ⟨wr.heap.size, 0, none⟩) 1 1 (fUnit.cells ⟨nm, ⟨#[]⟩, Ac, cs.length, cc⟩) (by rfl) (by exact src_new _ _ rfl 3 _ rfl rfl) (by exact HONE.out) (by unfold maxLen; omega) (by omega) (by simp; omega) ?_
                 intro v8 w8 hown8 hg8 hat8
                 obtain ⟨A8, c8, us8, rfl, hl8, hbt8, hbl8, hbs8, hg8', hgb8, hco8, hhd8⟩ := unit_app HBTW.out (one_below HBT3.out (Nat.le_refl _)) HCU.out hsc (Nat.le_trans hsc hsr) _ hg8 hown8 HBSW.out HGW.out hGl HGBW.out (Nat.le_refl _) hhd.out
                 have HL8 := hid hl8
                 have hl81 : us8.length ≤ 2 * k + 2 := by omega
                 have hl82 : k + 2 ≤ us8.length := by omega
                 clear hl8
                 have HBT8 := hid hbt8
                 have HBL8 := hid hbl8
                 have HBS8 := hid hbs8
                 have HG8 := hid hg8'
                 have HGB8 := hid hgb8
                 have HCO8 := hid hco8
                 have HHD8 := hid hhd8
                 clear hbt8 hbl8 hbs8 hg8' hgb8 hco8 hhd8))
              | (go_at_call 32; clear tok4; go_must (refine (next_g bG lv xs (i' + 2) 3 _ (by have := HG8.out; rwa [show i' + 1 + 1 = i' + 2 by omega] at this) (by omega) ⟨by decide, by decide⟩).mono ?_; rintro e w9 ⟨r9, rfl, hr90, hr93, -, hg9, hgb9⟩; have HG9' : Hid (GAt w9 bG lv xs (i' + 3)) := hid (by rwa [show i' + 2 + 1 = i' + 3 by omega] at hg9); have HGB9 := hid (gb_gb HGB8.out hgb9); have HBT9 := hid (HBT8.out.gb hgb9 hGl); have HBS9 := hid (HBS8.out.gb hgb9 hGl hbv2); have hs9 := hgb9.size; have HCO9 := hid (show ∀ b n, CandBlk w8 b n 0 → bG < b → CandBlk w9 b n 0 from fun b n hc hb9 => hc.keep (gb_block hgb9 (by omega) hc.lt)); clear hg9 hgb9)))
            · have hG9 : bG < w9.heap.size := Nat.lt_of_lt_of_le hGl HGB9.out.size
              have hsl8 : us8.length ≤ 11 := by omega
              have hs90 := HGB9.out.size
              rename (r9 == 0) = true => hx0
              clear hx0
              have HCU9 := hid (show 0 < cs.length → ∃ b, Ac = some ⟨b, 0, none⟩ ∧ wc.heap.size ≤ b ∧ CandBlk w9 b cs.length 0 from fun hp => by
                obtain ⟨b, h1, h2, h3⟩ := HCU.out.2 hp
                exact ⟨b, h1, h2, HCO9.out b _ (HCO8.out b _ h3) (by omega)⟩)
              go_loopw [12, 13] (fun sv iv wr => ∃ (j : Nat) (ds : List CandD) (i3 : Int), j ≤ cs.length ∧ iv = .int .i64 j ∧ ds.length ≤ j ∧ i' + 3 ≤ i3 ∧ i3 ≤ i' + 3 + j ∧ Hid (wr.ownsRow w9.heap.size 59 8 sv ds.length (fCand.all ds) ∧ ∀ d ∈ ds, d.v.B) ∧ Hid (GAt wr bG lv xs i3) ∧ Hid (w9.grownBy wr (some bG))) (fun _ iv _ => cs.length - (intOf iv).toNat)
              case atStart => exact ⟨0, [], i' + 3, by omega, rfl, by simp, by omega, by omega, hid ⟨⟨rfl, .inl ⟨rfl, rfl⟩⟩, fun d hd => by cases hd⟩, HG9', hid (gb_refl _ _)⟩
              case round =>
                obtain ⟨j3, ds, i3, hj3, rfl, hdl, hi3, hi4, hown3, hg3, hgb3⟩ := hrel
                obtain ⟨As, cS, rfl⟩ := own_form hown3.out.1
                have hs3 := hgb3.out.size
                have HBT10 := hid (HBT9.out.gb hgb3.out hGl)
                have HBS10 := hid (HBS9.out.gb hgb3.out hGl hbv2)
                have HGB10 := hid (gb_gb HGB9.out hgb3.out)
                have hs10 := HGB10.out.size
                have tok5 := hid True.intro
                have tok6 := hid True.intro
                by_cases hjm : j3 < cs.length
                · obtain ⟨b, rfl, hbw, hbk⟩ := HCU9.out (by omega)
                  have HBK := hid hbk
                  clear hbk
                  have j1 : (0 : Int) ≤ ↑j3 := by omega
                  have j2 : (↑j3 : Int) < ↑cs.length := by omega
                  go_wp2_with (first
                    | (go_at_call 32; clear tok5; go_must (refine (next_g bG lv xs i3 3 _ hg3.out (by omega) ⟨by decide, by decide⟩).mono ?_; rintro e wd ⟨rd, rfl, -, -, -, hgd, hgbd⟩; have HGD := hid hgd; have HGBD := hid (gb_gb hgb3.out hgbd); have HOWND := hid (gb_own hown3.out.1 hgbd hG9); obtain ⟨u, hu, hat⟩ := CandBlk.verAt (k := j3) (HBK.out.keep (gb_block HGBD.out (by omega) HBK.out.lt)) hjm; obtain ⟨c0, c1, c2, c3, c4⟩ := hat; have HU := hid hu; have HONE2 := hid (fCand.one ⟨u, 0⟩); have hsd := HGBD.out.size; clear hgd hgbd hu))
                    | (at_builtin
                       clear tok6
                       go_must (
                       refine wpList_append_src _ rfl (.tmp 81) (.tmp 88) _ rfl w9.heap.size 59 ic _ 8 112 Tryz.underlying60 HIC.out.1 HIC.out.2.1 HIC.out.2.2.1 HIC.out.2.2.2 rfl (by omega) (.slice As ds.length cS) ds.length (fCand.all ds) (by rfl) (by exact HOWND.out.alloc _) (some ⟨wd.heap.size, 0, none⟩) 1 1 (candCells ⟨u, 0⟩) (by rfl) (by exact src_new _ _ rfl 8 _ rfl rfl) (by exact HONE2.out) (by unfold maxLen; omega) (by omega) (by simp; omega) ?_
                       intro v11 w11 hown11 hg11 hat11
                       have HOWN11 := hid hown11
                       have hbl11 := app_below hsd HOWND.out (Nat.le_refl _) _ hg11
                       have HG11 := hid (HGD.out.below hbl11 hG9)
                       have HGB11 := hid (gb_below HGBD.out hbl11 (Nat.le_refl _))
                       clear hown11 hg11 hat11 hbl11)))
                  · refine ⟨⟨j3 + 1, ds ++ [⟨u, 0⟩], i3 + 1, by omega, by go_num, by simp; omega, by omega, by push_cast; omega, hid ⟨?_, ?_⟩, HG11, HGB11⟩, by simp [intOf]; omega⟩
                    · rw [fCand.all_snoc, List.length_append]
                      exact HOWN11.out
                    · intro d hd
                      rcases List.mem_append.1 hd with hd | hd
                      · exact hown3.out.2 d hd
                      · have : d = ⟨u, 0⟩ := by simpa using hd
                        subst this
                        exact HU.out
                  · exact ⟨⟨j3 + 1, ds, i3 + 1, by omega, by go_num, by omega, by omega, by push_cast; omega, hid ⟨HOWND.out, hown3.out.2⟩, HGD, HGBD⟩, by simp [intOf]; omega⟩
                · have HCU3 : Hid (CandU wr w9.heap.size ⟨nm, ⟨#[102]⟩, As, ds.length, cS⟩ 0) := hid (by
                    obtain ⟨A', c', hv, hc⟩ := own_candBlk hown3.out.1 hown3.out.2
                    injection hv with e1 e2 e3
                    subst e1
                    exact ⟨by show ds.length ≤ 4; omega, hc⟩)
                  have n3 := nm_at HBS10.out.1 hk5
                  have HONE3 := hid (fUnit.one ⟨nm, ⟨#[102]⟩, As, ds.length, cS⟩)
                  have nq : wr.cell? ⟨w.heap.size, k, none⟩ = some (.string nm) := by
                    rw [← n0]
                    exact (cell_of_row _ _ _ _ _ _ HBS10.out.1).trans (cell_of_row _ _ _ _ _ _ HBSW.out.1).symm
                  clear n3
                  go_wp2_with (first
                    | (at_builtin
                       clear tok6
                       go_must (
                       refine wpList_append_src _ rfl (.tmp 90) (.tmp 97) _ rfl w.heap.size 62 iu _ 3 56 Tryz.underlying25 HIU.out.1 HIU.out.2.1 HIU.out.2.2.1 HIU.out.2.2.2 rfl (by omega) (.slice A8 us8.length c8) us8.length (fUnit.all us8) (by rfl) (by exact HBT10.out.own.alloc _) (some ⟨wr.heap.size, 0, none⟩) 1 1 (fUnit.cells ⟨nm, ⟨#[102]⟩, As, ds.length, cS⟩) (by rfl) (by exact src_new _ _ rfl 3 _ rfl rfl) (by exact HONE3.out) (by unfold maxLen; omega) (by omega) (by simp; omega) ?_
                       intro v12 w12 hown12 hg12 hat12
                       obtain ⟨A12, c12, us12, rfl, hl12, hbt12, hbl12, hbs12, hg12', hgb12, hco12, hhd12⟩ := unit_app HBT10.out (one_below HBT9.out (Nat.le_refl _)) HCU3.out (by omega) (by omega) _ hg12 hown12 HBS10.out hg3.out hGl HGB10.out (Nat.le_refl _) HHD8.out
                       have HL12 := hid hl12
                       have hl121 : us12.length ≤ 2 * k + 3 := by omega
                       have hl122 : k + 3 ≤ us12.length := by omega
                       clear hl12
                       have HBT12 := hid hbt12
                       have HBS12 := hid hbs12
                       have HG12 := hid hg12'
                       have HGB12 := hid hgb12
                       have HHD12 := hid hhd12
                       clear hown12 hg12 hat12 hbt12 hbl12 hbs12 hg12' hgb12 hco12 hhd12)))
                  exact ⟨⟨k + 1, us12, i3, by omega, by go_num, by omega, by omega, by omega, by push_cast; omega, HBT12, HHD12, HG12, HGB12, HBS12⟩, by simp [intOf]; omega⟩
            · exact ⟨⟨k + 1, us8, i' + 3, by omega, by go_num, by omega, by omega, by omega, by push_cast; omega, HBT9, HHD8, HG9', HGB9, HBS9⟩, by simp [intOf]; omega⟩
            · exact ⟨⟨k + 1, us8, i' + 2, by omega, by go_num, by omega, by omega, by omega, by push_cast; omega, HBT8, HHD8, hid (by have := HG8.out; rwa [show i' + 1 + 1 = i' + 2 by omega] at this), HGB8, HBS8⟩, by simp [intOf]; omega⟩
      · go_ret
        exact ⟨Al, cl, us, i' + 1, rfl, HBT2.out, by omega, by omega, hhd.out, HG2.out, by omega, by omega, HGB2.out⟩
    · have z5 : decide (k < 5) = false := decide_eq_false hk5
      have z5' : decide ((k : Int) < 5) = false := decide_eq_false (by omega)
      have tok := hid True.intro
      go_wp2_with (first
        | (go_at_call 32; clear tok; go_must (refine (next_g bG lv xs i' most _ hg.out (by omega) ⟨by omega, by omega⟩).mono ?_; rintro e w2 ⟨r, rfl, hr0, hr1, -, hg2, hgb2⟩; have hr2 : r < most := hr1 (by omega); clear hr1; have HG2 := hid hg2; have HGB2 := hid (gb_gb hgb.out hgb2); have HBT2 := hid (hbt.out.gb hgb2 hGl); clear hg2 hgb2)))
      all_goals go_ret
      all_goals exact ⟨Al, cl, us, i' + 1, rfl, HBT2.out, by omega, by omega, hhd.out, HG2.out, by omega, by omega, HGB2.out⟩
end Go.Proofs.YtilkhofgcgfnlaaGreat
end
section
/- Units under way: cells, a row of their own as a source, the needs and bars of a candidate set. -/
namespace Go.Proofs.YtilkhofgcgfnlaaGreat
open Go Go.RowKit

theorem src_own {w : World} {B s n c : Nat} {e : TypeId} {A : Option Addr} {xs : List Value} (h : w.ownsRow B e s (.slice A n c) n xs) : Src w A n s xs := by
  refine ⟨h.1, fun hp => ?_⟩
  rcases h.2 with ⟨_, h0⟩ | ⟨g, cap, cur, hv, hb, hg, h3, h4, h5, h6⟩
  · omega
  · injection hv with e1 e2 e3
    refine ⟨⟨g, 0, none⟩, e1, fun j u hu => ?_⟩
    rw [add_mk, Nat.zero_add, cell_of_row w g j cur _ (0, 0) hg, ← Array.getElem?_toList]
    have hj : j < xs.length := (List.getElem?_eq_some_iff.1 hu).1
    rw [← h6] at hu
    rw [List.getElem?_take_of_lt (by rw [← h.1]; exact hj)] at hu
    exact hu
section
variable {B : Nat} {w w' : World} {us : List UnitD} {nf nf' : Nat → Nat}
theorem Built.addr {lv : Value} (h : Built B w lv us nf) (h2 : 0 < us.length) : ∃ g c, lv = .slice (some ⟨g, 0, none⟩) us.length c ∧ B ≤ g ∧ g < w.heap.size := by
  rcases h.own.2 with ⟨_, h0⟩ | ⟨g, cap, cur, hv, hb, hg, h3, h4, h5, h6⟩
  · omega
  · exact ⟨g, cap, hv, hb, (Array.getElem?_eq_some_iff.1 hg).1⟩
theorem Built.unitAt {g c : Nat} (h : Built B w (.slice (some ⟨g, 0, none⟩) us.length c) us nf) {k : Nat} (hk : k < us.length) {d : UnitD} (hd : us[k] = d) : w.cell? ⟨g, k * 3, none⟩ = some (.string d.nm) ∧ w.cell? ⟨g, k * 3 + 1, none⟩ = some (.string d.ft) ∧ w.cell? ⟨g, k * 3 + 2, none⟩ = some (.slice d.A d.n d.c) := by
  subst hd
  rcases h.own.2 with ⟨_, h0⟩ | ⟨g', cap, cur, hv, hb, hg, h3, h4, h5, h6⟩
  · omega
  · injection hv with e1 e2 e3
    injection e1 with e1
    injection e1 with e1
    subst e1
    have hget : ∀ i, i < 3 → w.cell? ⟨g, k * 3 + i, none⟩ = (fUnit.cells us[k])[i]? := by
      intro i hi
      rw [cell_of_row w g _ cur _ (0, 0) hg]
      have hlt : k * 3 + i < us.length * 3 := by omega
      rw [← Array.getElem?_toList, ← List.getElem?_take_of_lt hlt, h6]
      exact fUnit.all_get hk (j := i) hi
    exact ⟨hget 0 (by decide), hget 1 (by decide), hget 2 (by decide)⟩
theorem Built.ne {lv : Value} (h : Built B w lv us nf) {b n m : Nat} (hc : CandBlk w b n m) : ∀ g, lv.ownBlock = some g → g ≠ b := by
  intro g hg e
  subst e
  obtain ⟨cur, h1, _⟩ := hc
  rcases h.own.2 with ⟨rfl, _⟩ | ⟨g', cap, cur', rfl, _, hgg, _⟩
  · cases hg
  · have : g' = g := Option.some.inj hg
    subst this
    rw [hgg] at h1
    injection h1 with h1
    injection h1 with _ h2
    exact absurd h2 (by decide)
theorem Built.setAt {lv : Value} {k j b : Nat} (h : Built B w lv us nf) (hk : k < us.length) {d : UnitD} (hd : us[k] = d) (hA : d.A = some ⟨b, 0, none⟩) (hj : j < d.n) (x : Value) (o : Nat) (ho : o = j * 8 + 6 ∨ o = j * 8 + 7) (h1 : nf k ≤ nf' k) (h1' : o = j * 8 + 6 → j + 1 ≤ nf' k) (h2 : ∀ i, i ≠ k → nf i ≤ nf' i) : Built B (w.setCell ⟨b, o, none⟩ x) lv us nf' := by
  subst hd
  obtain ⟨b2, hA2, hb2, hblk⟩ := (h.cands k hk).2 (by omega)
  have hbb : b2 = b := by
    rw [hA] at hA2
    injection hA2 with hA2
    injection hA2 with hA2
    exact hA2.symm
  subst hbb
  have hoth : ∀ g, g ≠ b2 → (w.setCell ⟨b2, o, none⟩ x).heap[g]? = w.heap[g]? := fun g hg => heap_setCell_other _ _ _ _ hg
  refine ⟨ownsRow_keep h.own fun g hg => hoth g (h.ne hblk g hg), fun i hi => ⟨(h.cands i hi).1, fun hp => ?_⟩, h.incr⟩
  by_cases hik : i = k
  · subst hik
    refine ⟨b2, hA, hb2, ?_⟩
    rcases ho with rfl | rfl
    · exact (hblk.set hj x).1.mono (by have := h1' rfl; omega)
    · exact (hblk.set hj x).2.mono h1
  · obtain ⟨b', hA', hb', hc'⟩ := (h.cands i hi).2 hp
    have hne : b' ≠ b2 := by
      intro e
      subst e
      rcases Nat.lt_or_gt_of_ne hik with hlt | hlt
      · have := h.incr i k hlt hk b' b' hp (by omega) hA' hA
        omega
      · have := h.incr k i hlt hi b' b' (by omega) hp hA hA'
        omega
    exact ⟨b', hA', hb', (hc'.keep (hoth _ hne)).mono (h2 i hik)⟩
theorem Built.mono {lv : Value} (h : Built B w lv us nf) (hn : ∀ i, nf i ≤ nf' i) : Built B w lv us nf' :=
  ⟨h.own, fun k hk => ⟨(h.cands k hk).1, fun hp => by obtain ⟨b, h1, h2, h3⟩ := (h.cands k hk).2 hp; exact ⟨b, h1, h2, h3.mono (hn k)⟩⟩, h.incr⟩
theorem blk_apart0 {B' : Nat} {T e' : TypeId} {s' n' g : Nat} {v' : Value} {ys' : List Value} {cs : Array Value} (h : w.heap[g]? = some (.cells cs T (0, 0))) (ho : w.ownsRow B' e' s' v' n' ys') (hne : T ≠ e') (hg : w.grownBy w' v'.ownBlock) : w'.heap[g]? = some (.cells cs T (0, 0)) := by
  have hl : g < w.heap.size := (Array.getElem?_eq_some_iff.1 h).1
  rw [hg.block g hl ?_]
  · exact h
  · intro e
    rcases ho.2 with ⟨rfl, _⟩ | ⟨g', cap, cur', rfl, _, hgg, _⟩
    · cases e
    · have : g' = g := (Option.some.inj e).symm
      subst this
      rw [hgg] at h
      injection h with h
      injection h with _ h2
      exact hne h2.symm
theorem Built.apart {lv : Value} {B' s' n' : Nat} {e' : TypeId} {v' : Value} {ys' : List Value} (h : Built B w lv us nf) (ho : w.ownsRow B' e' s' v' n' ys') (h1 : 59 ≠ e') (h2 : 62 ≠ e') (hg : w.grownBy w' v'.ownBlock) : Built B w' lv us nf := by
  refine ⟨ownsRow_keep h.own fun g hg' => ?_, fun k hk => ⟨(h.cands k hk).1, fun hp => ?_⟩, h.incr⟩
  · rcases h.own.2 with ⟨hv, _⟩ | ⟨g', cap, cur, hv, hb, hgg, _⟩
    · rw [hv] at hg'
      cases hg'
    · rw [hv] at hg'
      have : g' = g := Option.some.inj hg'
      subst this
      rw [blk_apart0 hgg ho h2 hg, hgg]
  · obtain ⟨b, hA, hb, cur, hc1, hc2⟩ := (h.cands k hk).2 hp
    exact ⟨b, hA, hb, cur, blk_apart0 hc1 ho h1 hg, hc2⟩
theorem app_below0 {B' s n : Nat} {e : TypeId} {v : Value} {ys : List Value} (hs : B ≤ w.heap.size) (ho : w.ownsRow B' e s v n ys) (hB : B ≤ B') (hg : w.grownBy w' v.ownBlock) : Below B w w' :=
  Below.grown (Below.refl B w) hg hs (fun k hk => Nat.le_trans hB (ho.lt k hk).1)
theorem Built.cell {lv : Value} {k b j : Nat} (h : Built B w lv us nf) (hk : k < us.length) {d : UnitD} (hd : us[k] = d) (hA : d.A = some ⟨b, 0, none⟩) (hj : j < d.n) : (∃ nv bv, w.cell? ⟨b, j * 8 + 6, none⟩ = some nv ∧ w.cell? ⟨b, j * 8 + 7, none⟩ = some bv) ∧ (∀ o, w.frozen? ⟨b, o, none⟩ = false) ∧ b < w.heap.size := by
  subst hd
  obtain ⟨b2, hA2, hb2, hblk⟩ := (h.cands k hk).2 (by omega)
  rw [hA] at hA2
  injection hA2 with hA2
  injection hA2 with hA2
  subst hA2
  obtain ⟨⟨nv, bv, h1, h2, _⟩, h3⟩ := hblk.needsAt hj
  exact ⟨⟨nv, bv, h1, h2⟩, h3, hblk.lt⟩
end
/-- Up to where the candidates' needs are told. -/
def nfK (k j : Nat) : Nat → Nat := fun i => if i < k then 4 else if i = k then j else 0
/-- What a world shows, once made. -/
def WorldPost (w : World) (e : Ending) (w' : World) : Prop :=
  ∃ (g c : Nat) (us : List UnitD) (nf : Nat → Nat), e = .returned (.agg #[.slice (some ⟨g, 0, none⟩) us.length c]) ∧ Built (w.heap.size + 2) w' (.slice (some ⟨g, 0, none⟩) us.length c) us nf ∧ 2 ≤ us.length ∧ us.length ≤ 11 ∧ us.head?.map (·.n) = some 1 ∧ Below w.heap.size w w'
end Go.Proofs.YtilkhofgcgfnlaaGreat
end
section
/- Contract: linchpinmade.World. -/
namespace Go.Proofs.YtilkhofgcgfnlaaGreat
open Go Go.RowKit

theorem wantss_info : (Tryz.prog.info? 57).map (fun i => (i.zero, i.size, i.bytes)) = some (some (.slice none 0 0), 1, 24) := by kernel_rfl
set_option maxRecDepth 100000 in
set_option maxHeartbeats 4000000 in
theorem world_any (lv : Value) (xs : List Int) (most : Int) (w : World) (h : SliceRd tInt w (Lt w.heap.size) lv xs) (hm1 : 1 ≤ most) (hm2 : most ≤ 5) :
    Calls Tryz.prog 11 #[lv, .int .i64 most] w (WorldPost w) := by
  obtain ⟨A0, cap0, rfl, -⟩ := h.ints
  obtain ⟨iv, hiv⟩ := info_parts wantss_info
  have HIV := hid hiv
  have HX := hid h
  clear h hiv
  go_enter Tryz.func11, Tryz.ntmps11
  go_wp2_with fail
  obtain ⟨w0, hw0⟩ : ∃ w0 : World, w0 = (w.alloc (.cells #[.slice none 0 0] 27)).alloc (.cells #[.slice A0 xs.length cap0, .int .i64 0] 51) := ⟨_, rfl⟩
  have hz0 : w0.heap.size = w.heap.size + 2 := by rw [hw0]; simp
  have HB0 : Hid (Below w.heap.size w w0) := hid (by rw [hw0]; exact balloc (balloc (b0 w) _) _)
  have HG0 : Hid (GAt w0 (w.heap.size + 1) (.slice A0 xs.length cap0) xs 0) := hid (by
    refine ⟨?_, (HX.out.keep fun k hk => HB0.out.block k hk).more fun k hk => Nat.lt_succ_of_lt hk, by omega⟩
    rw [hw0]
    have := heap_alloc_new (w.alloc (.cells #[.slice none 0 0] 27)) (.cells #[.slice A0 xs.length cap0, .int .i64 0] 51)
    rwa [World.size_alloc] at this)
  have HR0 : Hid (w0.heap[w.heap.size]? = some (.cells #[.slice none 0 0] 27 (0, 0))) := hid (by
    rw [hw0, Below.heap_alloc _ _ _ (by simp)]
    exact heap_alloc_new w _)
  show Calls _ _ _ ((w.alloc (.cells #[.slice none 0 0] 27)).alloc _) _
  rw [← hw0]
  clear hw0
  refine (units_g _ _ xs 0 most _ HG0.out (by omega) hm1 hm2).mono ?_
  rintro e w1 ⟨A, c, us, i1, rfl, hbt, hl2, hl11, hhd, hg1, hi1, hi1', hgb1⟩
  obtain ⟨g, c', hv, hgB, hgl⟩ := hbt.addr (by omega)
  injection hv with e1 e2 e3
  subst e1 e3
  have HBT1 := hid hbt
  have HG1 := hid hg1
  have HGB1 := hid hgb1
  have hs1 := hgb1.size
  have HHD := hid hhd
  obtain ⟨d0, hd0⟩ : ∃ d0, us[0]'(by omega) = d0 := ⟨_, rfl⟩
  have HD0 := hid hd0
  have hn0 : d0.n = 1 := by
    rw [← hd0]
    cases us with
    | nil => cases hhd
    | cons x us => exact Option.some.inj hhd
  obtain ⟨b, hA, hbB, hblk⟩ := (hbt.cands 0 (by omega)).2 (by rw [hd0, hn0]; decide)
  rw [hd0] at hA
  obtain ⟨nm0, ft0, Ad0, nd0, cd0⟩ := d0
  dsimp only at hA hn0
  subst hA hn0
  have hbl := hblk.lt
  have x2 : w1.cell? ⟨g, 2, none⟩ = some (.slice (some ⟨b, 0, none⟩) 1 cd0) := by simpa using (hbt.unitAt (k := 0) (by omega) hd0).2.2
  have HFZ := hid (fun (wx : World) (hh : CandBlk wx b 1 0) o => (hh.needsAt (k := 0) (by decide)).2 o)
  rw [hd0] at hblk
  have HBLK := hid hblk
  clear hbt hg1 hgb1 hhd hd0 hblk
  go_wp2
  have hl0 : (0 : Int) < ↑us.length := by omega
  have HD1 : Hid (Below w1.heap.size w1 w1.drew) := hid (b0 w1).drew
  have HU1 : Hid (UnitsRd w1.drew (Not1 (w.heap.size + 1) w1.drew) (.slice (some ⟨g, 0, none⟩) us.length c) us.length) := hid ((HBT1.out.below HD1.out (Nat.le_refl _)).rd (by omega) hl2 (by omega))
  have HG1' := hid (HG1.out.below HD1.out HG1.out.lt)
  have HGB1' := hid (gb_below HGB1.out HD1.out (by omega))
  have HBT1' := hid (HBT1.out.below HD1.out (Nat.le_refl _))
  have HBLK1' := hid (HBLK.out.keep (HD1.out.block _ hbl))
  first
    | go_must (go_region_with ((go_at_call 30; go_must (refine (needs_g _ _ xs i1 3 _ us.length _ HG1'.out (by omega) (by omega) (by omega) HU1.out).mono ?_; rintro e w2 ⟨A2, n2, c2, cs2, i2, rfl, hown2, -, -, hg2, hi2, hi2', hgb2⟩; have HG2 := hid hg2; have HGB2 := hid (gb_gb HGB1'.out hgb2); have HBT2 := hid (HBT1'.out.gb hgb2 (by omega)); have HBLK2 := hid (HBLK1'.out.keep (gb_block hgb2 (by omega) hbl)); have x3 : w2.cell? ⟨g, 2, none⟩ = some (.slice (some ⟨b, 0, none⟩) 1 cd0) := gb_cell hgb2 (by omega) x2; obtain ⟨⟨nv, bv, y6, y7, -⟩, yf⟩ := HBLK2.out.needsAt (k := 0) (by decide); have hBL := (Below.refl (w.heap.size + 2) w2).setCell (p := ⟨b, 6, none⟩) (show w.heap.size + 2 ≤ b by omega) (.slice A2 n2 c2); have HBT3 := hid (show Built (w.heap.size + 2) (w2.setCell ⟨b, 6, none⟩ (.slice A2 n2 c2)) (.slice (some ⟨g, 0, none⟩) us.length c) us (nfK 1 0) from (hz0 ▸ HBT2.out).setAt (k := 0) (j := 0) (by omega) HD0.out rfl Nat.zero_lt_one _ 6 (.inl rfl) (Nat.zero_le _) (fun _ => by decide) (fun _ _ => Nat.zero_le _)); have HG3 := hid (HG2.out.below hBL (by omega)); have HGB3 := hid (gb_below HGB2.out hBL (by omega)); clear hBL hg2 hgb2 hown2))))
    | fail
  all_goals go_wp2
  all_goals
    go_loopw [7] (fun kv wr => ∃ (k : Nat) (i' : Int), 1 ≤ k ∧ k ≤ us.length ∧ kv = .int .i64 k ∧ 0 ≤ i' ∧ i' ≤ 200 + 100 * k ∧ Hid (Built (w.heap.size + 2) wr (.slice (some ⟨g, 0, none⟩) us.length c) us (nfK k 0)) ∧ Hid (GAt wr (w.heap.size + 1) (.slice A0 xs.length cap0) xs i') ∧ Hid (w0.grownBy wr (some (w.heap.size + 1)))) (fun kv _ => us.length - (intOf kv).toNat)
    case atStart => exact ⟨1, i2, by omega, by omega, rfl, by omega, by omega, HBT3, HG3, HGB3⟩
    case round =>
      obtain ⟨k, i', hk1, hk2, rfl, hi0, hi2, hbt, hg, hgb⟩ := hrel
      by_cases hk : k < us.length
      · obtain ⟨d, hd⟩ : ∃ d, us[k] = d := ⟨_, rfl⟩
        have HD := hid hd
        have hdn : d.n ≤ 4 := by have := (hbt.out.cands k hk).1; rwa [hd] at this
        obtain ⟨nm, ft, Ad, nd, cd⟩ := d
        dsimp only at hdn
        clear hd
        have k1 : (0 : Int) ≤ ↑k := by omega
        have k2 : (↑k : Int) < ↑us.length := by omega
        go_wp2_with fail
        go_loopw [8] (fun jv wr => ∃ (j : Nat) (i3 : Int), j ≤ nd ∧ jv = .int .i64 j ∧ i' ≤ i3 ∧ i3 ≤ i' + 24 * j ∧ Hid (Built (w.heap.size + 2) wr (.slice (some ⟨g, 0, none⟩) us.length c) us (nfK k j)) ∧ Hid (GAt wr (w.heap.size + 1) (.slice A0 xs.length cap0) xs i3) ∧ Hid (w0.grownBy wr (some (w.heap.size + 1)))) (fun jv _ => nd - (intOf jv).toNat)
        case atStart => exact ⟨0, i', by omega, rfl, by omega, by omega, hbt, hg, hgb⟩
        case round =>
          obtain ⟨j, i3, hj, rfl, hi3, hi4, hbt3, hg3, hgb3⟩ := hrel
          obtain ⟨y0, y1, y2⟩ := hbt3.out.unitAt hk HD.out
          dsimp only at y0 y1 y2
          by_cases hjn : j < nd
          · obtain ⟨b', rfl, hbB', hblk'⟩ : ∃ b', Ad = some ⟨b', 0, none⟩ ∧ w.heap.size + 2 ≤ b' ∧ CandBlk wr b' nd (nfK k j k) := by
              have := (hbt3.out.cands k hk).2
              rw [HD.out] at this
              exact this (by show 0 < nd; omega)
            obtain ⟨u, hu, hat⟩ := hblk'.verAt hjn
            obtain ⟨c0, c1, c2, c3, c4⟩ := hat
            obtain ⟨⟨nv, bv, n6, n7, hnil⟩, nfz⟩ := hblk'.needsAt hjn
            have hnil' := hnil (by simp [nfK])
            subst hnil'
            have HU := hid hu
            have HBK := hid hblk'
            clear hnil hu hblk'
            have j1 : (0 : Int) ≤ ↑j := by omega
            have j2 : (↑j : Int) < ↑nd := by omega
            have tok := hid True.intro
            go_wp2_with (first
              | (go_at_call 31; clear tok; go_must (refine (exact_any _ _ _ _ _ _ HU.out).mono ?_; rintro e wa ⟨va, va', La, Ma, rfl, hoa, hoa', hla, hla', hba⟩; obtain ⟨Aa, ca, rfl⟩ := hoa.form; obtain ⟨Aa', ca', rfl⟩ := hoa'.form; have HBA := hid hba; have hbr : b' < wr.heap.size := HBK.out.lt; obtain ⟨⟨nv, bv2, n6a, n7a, hnil⟩, nfa⟩ := (HBK.out.keep (hba.block b' hbr)).needsAt hjn; have hnil' := hnil (by simp [nfK]); subst hnil'; have hba1 : b' < wa.heap.size := Nat.lt_of_lt_of_le hbr hba.size; have hba2 : b' < wa.heap.size + 1 := (by omega); have hba3 : b' ≠ wa.heap.size := (by omega); have hba4 : b' ≠ wa.heap.size + 1 := (by omega); clear hoa hoa' hla hla' hba hnil)))
            · obtain ⟨wq, hwq⟩ : ∃ wq : World, wq = ((wa.setCell ⟨b', j * 8 + 6, none⟩ (.slice (some ⟨wa.heap.size + 1, 0, none⟩) 1 1)).alloc (.cells #[.int .i64 (↑k - 1), .slice Aa La.length ca, .slice Aa' Ma.length ca'] 69)).alloc (.cells #[.slice (some ⟨wa.heap.size, 0, none⟩) 1 1] 57) := ⟨_, rfl⟩
              rw [← hwq]
              obtain ⟨R, hR⟩ : ∃ R : Nat, R = wr.heap.size := ⟨_, rfl⟩
              have hRw : w.heap.size + 2 ≤ R := by have := hgb3.out.size; omega
              have hBQ : Below (w.heap.size + 2) wr wq := by
                rw [hwq]
                exact (((Below.mono HBA.out (by omega)).setCell (p := ⟨b', j * 8 + 6, none⟩) (show w.heap.size + 2 ≤ b' by omega) _).alloc (by have := HBA.out.size; simp; omega) _).alloc (by have := HBA.out.size; simp; omega) _
              have HBTQ : Hid (Built (w.heap.size + 2) wq (.slice (some ⟨g, 0, none⟩) us.length c) us (nfK k (j + 1))) := hid (by
                rw [hwq]
                have h1 := (hbt3.out.below HBA.out (Nat.le_refl _)).setAt (nf' := nfK k (j + 1)) hk HD.out rfl hjn (.slice (some ⟨wa.heap.size + 1, 0, none⟩) 1 1) (j * 8 + 6) (.inl rfl) (by simp [nfK]) (by simp [nfK]) (fun i hi => by simp [nfK, hi])
                exact (h1.below (balloc (b0 _) _) (Nat.le_refl _)).below (balloc (b0 _) _) (Nat.le_refl _))
              have HGQ := hid (hg3.out.below hBQ (by omega))
              have HGBQ := hid (gb_below hgb3.out hBQ (by omega))
              have hsQ : R ≤ wq.heap.size := by rw [hR]; exact hBQ.size
              obtain ⟨An, nn, cn, csn, hnn, n6q, hnv⟩ : ∃ (An : Option Addr) (nn cn : Nat) (csn : List Value), nn ≤ 1 ∧ wq.cell? ⟨b', j * 8 + 6, none⟩ = some (.slice An nn cn) ∧ wq.ownsRow R 57 1 (.slice An nn cn) nn csn := by
                refine ⟨some ⟨wa.heap.size + 1, 0, none⟩, 1, 1, [.slice (some ⟨wa.heap.size, 0, none⟩) 1 1], by omega, ?_, rfl, .inr ⟨wa.heap.size + 1, 1, #[.slice (some ⟨wa.heap.size, 0, none⟩) 1 1], rfl, by have := HBA.out.size; omega, ?_, Nat.le_refl _, by unfold maxLen; omega, rfl, rfl⟩⟩
                · rw [hwq]
                  simp [go_sem, hba1, hba2, n6a]
                · rw [hwq]
                  have := heap_alloc_new ((wa.setCell ⟨b', j * 8 + 6, none⟩ (.slice (some ⟨wa.heap.size + 1, 0, none⟩) 1 1)).alloc (.cells #[.int .i64 (↑k - 1), .slice Aa La.length ca, .slice Aa' Ma.length ca'] 69)) (.cells #[.slice (some ⟨wa.heap.size, 0, none⟩) 1 1] 57)
                  simpa using this
              have HNVQ := hid hnv
              clear hnv hwq hBQ
              obtain ⟨⟨_, bvq, -, n7q⟩, nfq, hbq⟩ := HBTQ.out.cell hk HD.out rfl hjn
              have HDQ : Hid (Below wq.heap.size wq wq.drew) := hid (b0 wq).drew
              have HBTQ' := hid (HBTQ.out.below HDQ.out (Nat.le_refl _))
              have HUQ : Hid (UnitsRd wq.drew (Not1 (w.heap.size + 1) wq.drew) (.slice (some ⟨g, 0, none⟩) us.length c) us.length) := hid (HBTQ'.out.rd (by omega) hl2 (by omega))
              have HGQ' := hid (HGQ.out.below HDQ.out HGQ.out.lt)
              have HGBQ' := hid (gb_below HGBQ.out HDQ.out HGBQ.out.size)
              have HNVQ' : Hid (wq.drew.ownsRow R 57 1 (.slice An nn cn) nn csn) := hid HNVQ.out
              first
                | go_must (go_region_law ((first
                  | (refine step_guard (.tmp 71) (.tmp 74) 53 rfl ?_; refine step_append_src _ rfl (.tmp 71) (.tmp 74) 53 rfl R 57 iv _ 1 24 Tryz.underlying53 HIV.out.1 HIV.out.2.1 HIV.out.2.2.1 HIV.out.2.2.2 rfl (by omega) (.slice An nn cn) nn csn (by rfl) (by exact HNV5.out) A5 n5 c5 cs5 (by rfl) (by exact src_own HOWN5.out) (by exact HONE5.out) (by unfold maxLen; omega) (by omega) hs5 ?_; intro v6 w6 hown6 hg6 hat6; have hb6l : Below (w.heap.size + 2) w5 w6 := (app_below0 (by omega) HNV5.out hRw hg6); have HG6 := hid (HG5.out.below hb6l (by omega)); have HGB6 := hid (gb_below HGB5.out hb6l (by omega)); have HBT6 := hid (HBT5.out.apart HNV5.out (by decide) (by decide) hg6); obtain ⟨A6, c6, rfl⟩ := own_form hown6; obtain ⟨⟨nv6, bv6, n66, n76⟩, nf6, hb6⟩ := HBT6.out.cell hk HD.out rfl hjn; have hbl7 := (Below.refl (w.heap.size + 2) w6).setCell (p := ⟨b', j * 8 + 6, none⟩) (show w.heap.size + 2 ≤ b' by omega) (.slice A6 (nn + n5) c6); have HBT7 := hid (HBT6.out.setAt (nf' := nfK k (j + 1)) hk HD.out rfl hjn (.slice A6 (nn + n5) c6) (j * 8 + 6) (.inl rfl) (Nat.le_refl _) (by simp [nfK]) (fun _ _ => Nat.le_refl _)); have HG7 := hid (HG6.out.below hbl7 (by omega)); have HGB7 := hid (gb_below HGB6.out hbl7 (by omega)); clear hown6 hg6 hat6 hb6l hbl7)
                  | (go_simp; go_at_call 30; (refine (needs_g _ _ xs i3 2 _ us.length _ HGQ'.out (by omega) (by omega) (by omega) HUQ.out).mono ?_; rintro e w5 ⟨A5, n5, c5, cs5, i5, rfl, hown5, hn5, hone5, hg5, hi5, hi5', hgb5⟩; have HG5 := hid hg5; have HGB5 := hid (gb_gb HGBQ'.out hgb5); have HBT5 := hid (HBTQ'.out.gb hgb5 (by omega)); have HNV5 := hid (gb_own HNVQ'.out hgb5 (by omega)); have HOWN5 := hid hown5; have HONE5 := hid hone5; have n65 : w5.cell? ⟨b', j * 8 + 6, none⟩ = some (.slice An nn cn) := (gb_cell hgb5 (by omega) n6q); obtain ⟨⟨_, bv5, -, n75⟩, nf5, hb5⟩ := HBT5.out.cell hk HD.out rfl hjn; have hs5 : R ≤ w5.heap.size := Nat.le_trans hsQ hgb5.size; have hnn5 : n5 ≤ 2 := (by omega); clear hg5 hgb5 hown5 hone5 hn5)))))
                | fail
              all_goals
                have tok8 := hid True.intro
                have tok9 := hid True.intro
                obtain ⟨w7, hw7⟩ : ∃ w7 : World, w7 = w6.setCell ⟨b', j * 8 + 6, none⟩ (.slice A6 (nn + n5) c6) := ⟨_, rfl⟩
                rw [← hw7]
                have HBT7' : Hid (Built (w.heap.size + 2) w7 (.slice (some ⟨g, 0, none⟩) us.length c) us (nfK k (j + 1))) := hid (hw7 ▸ HBT7.out)
                have HG7' : Hid (GAt w7 (w.heap.size + 1) (.slice A0 xs.length cap0) xs i5) := hid (hw7 ▸ HG7.out)
                have HGB7' : Hid (w0.grownBy w7 (some (w.heap.size + 1))) := hid (hw7 ▸ HGB7.out)
                clear hw7
                go_wp2_with (first
                  | (go_at_call 32; clear tok8; go_must (refine (next_g _ _ xs i5 4 _ HG7'.out (by omega) ⟨by decide, by decide⟩).mono ?_; rintro e w8 ⟨r8, rfl, -, -, -, hg8, hgb8⟩; have HG8 := hid hg8; have HGB8 := hid (gb_gb HGB7'.out hgb8); have HBT8 := hid (HBT7'.out.gb hgb8 (by omega)); clear hg8 hgb8))
                  | (go_at_call 33; clear tok9; go_must (refine (want_g _ _ xs (i5 + 1) _ us.length _ HG8.out (by omega) (HBT8.out.rd (by omega) hl2 (by omega))).mono ?_; rintro e w9 ⟨u9, A9, n9, c9, A9', n9', c9', rfl, hg9, hgb9⟩; have HG9 := hid hg9; have HGB9 := hid (gb_gb HGB8.out hgb9); have HBT9 := hid (HBT8.out.gb hgb9 (by omega)); obtain ⟨⟨nv9, bv9, n69, n79⟩, nf9, hb9⟩ := HBT9.out.cell hk HD.out rfl hjn; have hb93 : b' ≠ w9.heap.size := Nat.ne_of_lt hb9; clear hg9 hgb9)))
                · refine ⟨⟨j + 1, i5 + 1 + 3, by omega, by go_num, by omega, by push_cast; omega, hid ?_, hid ?_, hid ?_⟩, by simp [intOf]; omega⟩
                  · exact (HBT9.out.setAt (nf' := nfK k (j + 1)) hk HD.out rfl hjn _ (j * 8 + 7) (.inr rfl) (Nat.le_refl _) (fun h => absurd h (by omega)) (fun _ _ => Nat.le_refl _)).below (balloc (b0 _) _) (Nat.le_refl _)
                  · exact HG9.out.below (((Below.refl (w.heap.size + 2) w9).setCell (p := ⟨b', j * 8 + 7, none⟩) (show w.heap.size + 2 ≤ b' by omega) _).alloc (by simp; omega) _) (by omega)
                  · exact gb_below HGB9.out (((Below.refl (w.heap.size + 2) w9).setCell (p := ⟨b', j * 8 + 7, none⟩) (show w.heap.size + 2 ≤ b' by omega) _).alloc (by simp; omega) _) (by omega)
                · exact ⟨⟨j + 1, i5 + 1, by omega, by go_num, by omega, by push_cast; omega, HBT8, HG8, HGB8⟩, by simp [intOf]; omega⟩
            · obtain ⟨wq, hwq⟩ : ∃ wq : World, wq = wr := ⟨_, rfl⟩
              obtain ⟨R, hR⟩ : ∃ R : Nat, R = wr.heap.size := ⟨_, rfl⟩
              have hRw : w.heap.size + 2 ≤ R := by have := hgb3.out.size; omega
              have HBTQ : Hid (Built (w.heap.size + 2) wq (.slice (some ⟨g, 0, none⟩) us.length c) us (nfK k (j + 1))) := hid (by
                rw [hwq]
                exact hbt3.out.mono fun i => by simp only [nfK]; split; exact Nat.le_refl _; split; omega; exact Nat.le_refl _)
              have HGQ : Hid (GAt wq (w.heap.size + 1) (.slice A0 xs.length cap0) xs i3) := hid (hwq ▸ hg3.out)
              have HGBQ : Hid (w0.grownBy wq (some (w.heap.size + 1))) := hid (hwq ▸ hgb3.out)
              have hsQ : R ≤ wq.heap.size := by rw [hR, hwq]; exact Nat.le_refl _
              obtain ⟨An, nn, cn, csn, hnn, n6q, hnv⟩ : ∃ (An : Option Addr) (nn cn : Nat) (csn : List Value), nn ≤ 1 ∧ wq.cell? ⟨b', j * 8 + 6, none⟩ = some (.slice An nn cn) ∧ wq.ownsRow R 57 1 (.slice An nn cn) nn csn := by
                refine ⟨none, 0, 0, [], by omega, ?_, rfl, .inl ⟨rfl, rfl⟩⟩
                rw [hwq]
                exact n6
              have HNVQ := hid hnv
              rw [← hwq]
              clear hnv hwq
              obtain ⟨⟨_, bvq, -, n7q⟩, nfq, hbq⟩ := HBTQ.out.cell hk HD.out rfl hjn
              have HDQ : Hid (Below wq.heap.size wq wq.drew) := hid (b0 wq).drew
              have HBTQ' := hid (HBTQ.out.below HDQ.out (Nat.le_refl _))
              have HUQ : Hid (UnitsRd wq.drew (Not1 (w.heap.size + 1) wq.drew) (.slice (some ⟨g, 0, none⟩) us.length c) us.length) := hid (HBTQ'.out.rd (by omega) hl2 (by omega))
              have HGQ' := hid (HGQ.out.below HDQ.out HGQ.out.lt)
              have HGBQ' := hid (gb_below HGBQ.out HDQ.out HGBQ.out.size)
              have HNVQ' : Hid (wq.drew.ownsRow R 57 1 (.slice An nn cn) nn csn) := hid HNVQ.out
              first
                | go_must (go_region_law ((first
                  | (refine step_guard (.tmp 71) (.tmp 74) 53 rfl ?_; refine step_append_src _ rfl (.tmp 71) (.tmp 74) 53 rfl R 57 iv _ 1 24 Tryz.underlying53 HIV.out.1 HIV.out.2.1 HIV.out.2.2.1 HIV.out.2.2.2 rfl (by omega) (.slice An nn cn) nn csn (by rfl) (by exact HNV5.out) A5 n5 c5 cs5 (by rfl) (by exact src_own HOWN5.out) (by exact HONE5.out) (by unfold maxLen; omega) (by omega) hs5 ?_; intro v6 w6 hown6 hg6 hat6; have hb6l : Below (w.heap.size + 2) w5 w6 := (app_below0 (by omega) HNV5.out hRw hg6); have HG6 := hid (HG5.out.below hb6l (by omega)); have HGB6 := hid (gb_below HGB5.out hb6l (by omega)); have HBT6 := hid (HBT5.out.apart HNV5.out (by decide) (by decide) hg6); obtain ⟨A6, c6, rfl⟩ := own_form hown6; obtain ⟨⟨nv6, bv6, n66, n76⟩, nf6, hb6⟩ := HBT6.out.cell hk HD.out rfl hjn; have hbl7 := (Below.refl (w.heap.size + 2) w6).setCell (p := ⟨b', j * 8 + 6, none⟩) (show w.heap.size + 2 ≤ b' by omega) (.slice A6 (nn + n5) c6); have HBT7 := hid (HBT6.out.setAt (nf' := nfK k (j + 1)) hk HD.out rfl hjn (.slice A6 (nn + n5) c6) (j * 8 + 6) (.inl rfl) (Nat.le_refl _) (by simp [nfK]) (fun _ _ => Nat.le_refl _)); have HG7 := hid (HG6.out.below hbl7 (by omega)); have HGB7 := hid (gb_below HGB6.out hbl7 (by omega)); clear hown6 hg6 hat6 hb6l hbl7)
                  | (go_simp; go_at_call 30; (refine (needs_g _ _ xs i3 2 _ us.length _ HGQ'.out (by omega) (by omega) (by omega) HUQ.out).mono ?_; rintro e w5 ⟨A5, n5, c5, cs5, i5, rfl, hown5, hn5, hone5, hg5, hi5, hi5', hgb5⟩; have HG5 := hid hg5; have HGB5 := hid (gb_gb HGBQ'.out hgb5); have HBT5 := hid (HBTQ'.out.gb hgb5 (by omega)); have HNV5 := hid (gb_own HNVQ'.out hgb5 (by omega)); have HOWN5 := hid hown5; have HONE5 := hid hone5; have n65 : w5.cell? ⟨b', j * 8 + 6, none⟩ = some (.slice An nn cn) := (gb_cell hgb5 (by omega) n6q); obtain ⟨⟨_, bv5, -, n75⟩, nf5, hb5⟩ := HBT5.out.cell hk HD.out rfl hjn; have hs5 : R ≤ w5.heap.size := Nat.le_trans hsQ hgb5.size; have hnn5 : n5 ≤ 2 := (by omega); clear hg5 hgb5 hown5 hone5 hn5)))))
                | fail
              all_goals
                have tok8 := hid True.intro
                have tok9 := hid True.intro
                obtain ⟨w7, hw7⟩ : ∃ w7 : World, w7 = w6.setCell ⟨b', j * 8 + 6, none⟩ (.slice A6 (nn + n5) c6) := ⟨_, rfl⟩
                rw [← hw7]
                have HBT7' : Hid (Built (w.heap.size + 2) w7 (.slice (some ⟨g, 0, none⟩) us.length c) us (nfK k (j + 1))) := hid (hw7 ▸ HBT7.out)
                have HG7' : Hid (GAt w7 (w.heap.size + 1) (.slice A0 xs.length cap0) xs i5) := hid (hw7 ▸ HG7.out)
                have HGB7' : Hid (w0.grownBy w7 (some (w.heap.size + 1))) := hid (hw7 ▸ HGB7.out)
                clear hw7
                go_wp2_with (first
                  | (go_at_call 32; clear tok8; go_must (refine (next_g _ _ xs i5 4 _ HG7'.out (by omega) ⟨by decide, by decide⟩).mono ?_; rintro e w8 ⟨r8, rfl, -, -, -, hg8, hgb8⟩; have HG8 := hid hg8; have HGB8 := hid (gb_gb HGB7'.out hgb8); have HBT8 := hid (HBT7'.out.gb hgb8 (by omega)); clear hg8 hgb8))
                  | (go_at_call 33; clear tok9; go_must (refine (want_g _ _ xs (i5 + 1) _ us.length _ HG8.out (by omega) (HBT8.out.rd (by omega) hl2 (by omega))).mono ?_; rintro e w9 ⟨u9, A9, n9, c9, A9', n9', c9', rfl, hg9, hgb9⟩; have HG9 := hid hg9; have HGB9 := hid (gb_gb HGB8.out hgb9); have HBT9 := hid (HBT8.out.gb hgb9 (by omega)); obtain ⟨⟨nv9, bv9, n69, n79⟩, nf9, hb9⟩ := HBT9.out.cell hk HD.out rfl hjn; have hb93 : b' ≠ w9.heap.size := Nat.ne_of_lt hb9; clear hg9 hgb9)))
                · refine ⟨⟨j + 1, i5 + 1 + 3, by omega, by go_num, by omega, by push_cast; omega, hid ?_, hid ?_, hid ?_⟩, by simp [intOf]; omega⟩
                  · exact (HBT9.out.setAt (nf' := nfK k (j + 1)) hk HD.out rfl hjn _ (j * 8 + 7) (.inr rfl) (Nat.le_refl _) (fun h => absurd h (by omega)) (fun _ _ => Nat.le_refl _)).below (balloc (b0 _) _) (Nat.le_refl _)
                  · exact HG9.out.below (((Below.refl (w.heap.size + 2) w9).setCell (p := ⟨b', j * 8 + 7, none⟩) (show w.heap.size + 2 ≤ b' by omega) _).alloc (by simp; omega) _) (by omega)
                  · exact gb_below HGB9.out (((Below.refl (w.heap.size + 2) w9).setCell (p := ⟨b', j * 8 + 7, none⟩) (show w.heap.size + 2 ≤ b' by omega) _).alloc (by simp; omega) _) (by omega)
                · exact ⟨⟨j + 1, i5 + 1, by omega, by go_num, by omega, by push_cast; omega, HBT8, HG8, HGB8⟩, by simp [intOf]; omega⟩
          · have hjd : j = nd := by omega
            have HBTN : Hid (Built (w.heap.size + 2) wr (.slice (some ⟨g, 0, none⟩) us.length c) us (nfK (k + 1) 0)) := hid (hbt3.out.mono fun i => by simp only [nfK]; split <;> split <;> (first | omega | (split <;> omega)))
            go_wp2
            exact ⟨⟨k + 1, i3, by omega, by omega, by go_num, by omega, by push_cast; omega, HBTN, hg3, hgb3⟩, by simp [intOf]; omega⟩
      · have hfin := (Below.grown HB0.out hgb.out (by omega) (fun k hk => by have := Option.some.inj hk; omega)).setCell (p := ⟨w.heap.size, 0, none⟩) (Nat.le_refl _) (.slice (some ⟨g, 0, none⟩) us.length c)
        have hrw : wr.heap[w.heap.size]? = some (.cells #[.slice none 0 0] 27 (0, 0)) := (gb_block hgb.out (by omega) (by omega)).trans HR0.out
        have r0 : wr.cell? ⟨w.heap.size, 0, none⟩ = some (.slice none 0 0) := by rw [cell_of_row _ _ _ _ _ _ hrw]; rfl
        have rf : ∀ o, wr.frozen? ⟨w.heap.size, o, none⟩ = false := fun o => frozen_of_row wr w.heap.size o _ _ hrw
        clear hrw
        go_wp2
        exact bodyPost_ret (v := .agg #[.slice (some ⟨g, 0, none⟩) us.length c]) (by simp [results, Tryz.results11, go_sem, r0]) rfl ⟨g, c, us, nfK k 0, rfl, hbt.out.keep (fun k hk _ => heap_setCell_other _ _ _ _ (show k ≠ w.heap.size by omega)), hl2, hl11, HHD.out, hfin⟩
end Go.Proofs.YtilkhofgcgfnlaaGreat
end
section
/- A world to be read: how many candidates each unit has. -/
namespace Go.Proofs.YtilkhofgcgfnlaaGreat
open Go Go.RowKit

/-- Out of a world just made. -/
theorem uni_made {_w w' : World} {g c : Nat} {us : List UnitD} {nf : Nat → Nat} {B : Nat} (h : Built B w' (.slice (some ⟨g, 0, none⟩) us.length c) us nf) (h2 : 2 ≤ us.length) (h11 : us.length ≤ 11) : UniRd w' (Lt w'.heap.size) (.agg #[.slice (some ⟨g, 0, none⟩) us.length c]) (us.map (·.n)) ∧ NsOk (us.map (·.n)) := by
  refine ⟨⟨g, c, by rw [List.length_map], ?_, fun k hk => ?_⟩, by simpa using h2, by simpa using h11, fun k hk => ?_⟩
  · exact (h.own.lt g rfl).2
  · have hk' : k < us.length := by simpa using hk
    refine ⟨us[k].A, us[k].c, ?_⟩
    have := (h.unitAt hk' rfl).2.2
    simpa using this
  · have hk' : k < us.length := by simpa using hk
    have := (h.cands k hk').1
    simpa using this
end Go.Proofs.YtilkhofgcgfnlaaGreat
end
