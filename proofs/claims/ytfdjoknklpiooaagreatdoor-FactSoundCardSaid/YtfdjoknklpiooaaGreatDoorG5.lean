/- Contract: linchpinmade.units. -/
import Derived.Test.YtfdjoknklpiooaaGreatDoorG4
import Derived.Outline
namespace Go.Proofs.YtfdjoknklpiooaaGreatDoor
open Go Go.RowKit

theorem blk_apart {w w1 : World} {B' : Nat} {T e' : TypeId} {s' n' g : Nat} {v' : Value} {ys' : List Value} {cs : Array Value} (h : w.heap[g]? = some (.cells cs T (0, 0))) (ho : w.ownsRow B' e' s' v' n' ys') (hne : T ≠ e') (o : Obj) (hg : (w.alloc o).grownBy w1 v'.ownBlock) : w1.heap[g]? = some (.cells cs T (0, 0)) := by
  have hl : g < w.heap.size := (Array.getElem?_eq_some_iff.1 h).1
  rw [hg.block g (by simp; omega) ?_, Below.heap_alloc _ _ _ hl]
  · exact h
  · intro e
    rcases ho.2 with ⟨rfl, _⟩ | ⟨g', cap, cur', rfl, _, hgg, _⟩
    · cases e
    · have : g' = g := (Option.some.inj e).symm
      subst this
      rw [hgg] at h
      injection h with h
      injection h with _ h2
      exact hne h2.symm
def nmCells : Array Value := #[.string ⟨#[97, 110, 116]⟩, .string ⟨#[98, 101, 101]⟩, .string ⟨#[99, 111, 119]⟩, .string ⟨#[100, 111, 103]⟩, .string ⟨#[101, 108, 107]⟩]
theorem nm_at {w : World} {g : Nat} (h : w.heap[g]? = some (.cells nmCells 9 (0, 0))) {k : Nat} (hk : k < 5) : ∃ nm, w.cell? ⟨g, k, none⟩ = some (.string nm) := by
  have e := cell_of_row w g k nmCells _ (0, 0) h
  match k, hk with
  | 0, _ => exact ⟨_, e⟩
  | 1, _ => exact ⟨_, e⟩
  | 2, _ => exact ⟨_, e⟩
  | 3, _ => exact ⟨_, e⟩
  | 4, _ => exact ⟨_, e⟩
def vsCells : Array Value := (fVer.all versL).toArray
theorem vs_at {w : World} {g : Nat} (h : w.heap[g]? = some (.cells vsCells 54 (0, 0))) {k : Nat} (hk : k < 4) : ∃ u : Ver, u.B ∧ VerAt w g (k * 5) u := by
  have hB : ∀ u ∈ versL, Ver.B u := by
    intro u hu
    simp only [versL, List.mem_cons, List.not_mem_nil, or_false] at hu
    rcases hu with rfl | rfl | rfl | rfl <;> exact ⟨by decide, by decide, by decide, by decide, by decide⟩
  have e : ∀ o, w.cell? ⟨g, o, none⟩ = vsCells[o]? := fun o => cell_of_row w g o vsCells _ (0, 0) h
  have hk' : k < versL.length := hk
  have hg : ∀ i, i < 5 → vsCells[k * 5 + i]? = (verCells (versL[k]'hk'))[i]? := by
    intro i hi
    have := fVer.all_get (l := versL) (k := k) hk' (j := i) hi
    rw [← Array.getElem?_toList]
    exact this
  exact ⟨versL[k]'hk', hB _ (List.getElem_mem hk), (e _).trans (hg 0 (by omega)), (e _).trans (hg 1 (by omega)), (e _).trans (hg 2 (by omega)), (e _).trans (hg 3 (by omega)), (e _).trans (hg 4 (by omega))⟩
/-- What lies beside the units. -/
def Beside (w : World) (bn bv : Nat) : Prop := w.heap[bn]? = some (.cells nmCells 9 (0, 0)) ∧ w.heap[bv]? = some (.cells vsCells 54 (0, 0))
theorem Beside.gb {w w' : World} {bn bv bG : Nat} (h : Beside w bn bv) (hg : w.grownBy w' (some bG)) (h1 : bG < bn) (h2 : bG < bv) : Beside w' bn bv :=
  ⟨(gb_block hg (by omega) (Array.getElem?_eq_some_iff.1 h.1).1).trans h.1, (gb_block hg (by omega) (Array.getElem?_eq_some_iff.1 h.2).1).trans h.2⟩
theorem Beside.below {w w' : World} {bn bv M : Nat} (h : Beside w bn bv) (hb : Below M w w') (hM : w.heap.size ≤ M) : Beside w' bn bv :=
  ⟨(hb.block _ (Nat.lt_of_lt_of_le (Array.getElem?_eq_some_iff.1 h.1).1 hM)).trans h.1, (hb.block _ (Nat.lt_of_lt_of_le (Array.getElem?_eq_some_iff.1 h.2).1 hM)).trans h.2⟩
def UnitsPost (bG : Nat) (lv : Value) (xs : List Int) (i : Int) (w : World) (e : Ending) (w' : World) : Prop :=
  ∃ (A : Option Addr) (c : Nat) (us : List UnitD) (i' : Int), e = .returned (.slice A us.length c) ∧ Built w.heap.size w' (.slice A us.length c) us (fun _ => 0) ∧ 2 ≤ us.length ∧ us.length ≤ 11 ∧ us.head?.map (·.n) = some 1 ∧ GAt w' bG lv xs i' ∧ i ≤ i' ∧ i' ≤ i + 100 ∧ w.grownBy w' (some bG)
theorem head_snoc {us : List UnitD} {d : UnitD} (h : us.head?.map (·.n) = some 1) : (us ++ [d]).head?.map (·.n) = some 1 := by
  cases us with
  | nil => cases h
  | cons x us => exact h
theorem unit_app {B M bG bn bv : Nat} {wr w8 w0 : World} {lv' lv v8 : Value} {us : List UnitD} {d : UnitD} {xs : List Int} {i' : Int} (hbt : Built B wr lv us (fun _ => 0)) (hM : ∀ k, (hk : k < us.length) → ∀ b, 0 < us[k].n → us[k].A = some ⟨b, 0, none⟩ → b < M) (hcu : CandU wr M d 0) (hMB : B ≤ M) (hs : B ≤ wr.heap.size) (o : Obj) (hg8 : (wr.alloc o).grownBy w8 lv.ownBlock) (hown8 : w8.ownsRow B 60 3 v8 (us.length + 1) (fUnit.all us ++ fUnit.cells d)) (hbs : Beside wr bn bv) (hg : GAt wr bG lv' xs i') (hGl : bG < B) (hgb : w0.grownBy wr (some bG)) (h0 : w0.heap.size ≤ B) (hhd : us.head?.map (·.n) = some 1) :
    ∃ (A8 : Option Addr) (c8 : Nat) (us8 : List UnitD), v8 = .slice A8 us8.length c8 ∧ us8.length = us.length + 1 ∧ Built B w8 v8 us8 (fun _ => 0) ∧ Below B wr w8 ∧ Beside w8 bn bv ∧ GAt w8 bG lv' xs i' ∧ w0.grownBy w8 (some bG) ∧ (∀ b n, CandBlk wr b n 0 → CandBlk w8 b n 0) ∧ us8.head?.map (·.n) = some 1 := by
  have hB := app_below hs hbt.own (Nat.le_refl _) _ hg8
  have hn := hbt.snoc hM hcu hMB hg8 hown8
  obtain ⟨A8, c8, hv⟩ := hn.form
  refine ⟨A8, c8, us ++ [d], hv, by simp, hn, hB, ⟨blk_apart hbs.1 hbt.own (by decide) _ hg8, blk_apart hbs.2 hbt.own (by decide) _ hg8⟩, hg.below hB hGl, gb_below hgb hB h0, ?_, head_snoc hhd⟩
  rintro b n ⟨cur, h1, h2⟩
  exact ⟨cur, blk_apart h1 hbt.own (by decide) _ hg8, h2⟩
theorem built_one (w : World) : Built w.heap.size ((w.alloc (.cells #[.int .i64 0, .int .i64 0, .int .i64 0, .string ⟨#[]⟩, .string ⟨#[]⟩, .int .i64 (-1), .slice none 0 0, .slice none 0 0] 57)).alloc (.cells #[.string ⟨#[]⟩, .string ⟨#[]⟩, .slice (some ⟨w.heap.size, 0, none⟩) 1 1] 60)) (.slice (some ⟨w.heap.size + 1, 0, none⟩) 1 1) [⟨⟨#[]⟩, ⟨#[]⟩, some ⟨w.heap.size, 0, none⟩, 1, 1⟩] (fun _ => 0) := by
  refine ⟨⟨rfl, .inr ⟨w.heap.size + 1, 1, #[.string ⟨#[]⟩, .string ⟨#[]⟩, .slice (some ⟨w.heap.size, 0, none⟩) 1 1], rfl, by omega, ?_, Nat.le_refl _, by unfold maxLen; omega, rfl, rfl⟩⟩, ?_, ?_⟩
  · have := heap_alloc_new (w.alloc (.cells #[.int .i64 0, .int .i64 0, .int .i64 0, .string ⟨#[]⟩, .string ⟨#[]⟩, .int .i64 (-1), .slice none 0 0, .slice none 0 0] 57)) (.cells #[.string ⟨#[]⟩, .string ⟨#[]⟩, .slice (some ⟨w.heap.size, 0, none⟩) 1 1] 60)
    rwa [World.size_alloc] at this
  · intro k hk
    have : k = 0 := by simp at hk; exact hk
    subst this
    have hown : (w.alloc (.cells #[.int .i64 0, .int .i64 0, .int .i64 0, .string ⟨#[]⟩, .string ⟨#[]⟩, .int .i64 (-1), .slice none 0 0, .slice none 0 0] 57)).ownsRow w.heap.size 57 8 (.slice (some ⟨w.heap.size, 0, none⟩) 1 1) [(⟨⟨0, 0, 0, ⟨#[]⟩, ⟨#[]⟩⟩, -1⟩ : CandD)].length (fCand.all [⟨⟨0, 0, 0, ⟨#[]⟩, ⟨#[]⟩⟩, -1⟩]) :=
      ⟨rfl, .inr ⟨_, 1, _, rfl, Nat.le_refl _, heap_alloc_new w _, Nat.le_refl _, by unfold maxLen; omega, rfl, rfl⟩⟩
    obtain ⟨A, c, hv, hc⟩ := own_candBlk hown (fun d hd => by
      have : d = ⟨⟨0, 0, 0, ⟨#[]⟩, ⟨#[]⟩⟩, -1⟩ := by simpa using hd
      subst this
      exact vb_zero)
    injection hv with e1 e2 e3
    obtain ⟨b, hA, hb, hblk⟩ := hc (by decide)
    refine ⟨by show 1 ≤ 4; omega, fun _ => ⟨b, e1.trans hA, hb, hblk.keep (Below.heap_alloc _ _ _ hblk.lt)⟩⟩
  · intro j k hjk hk
    simp at hk
    omega
theorem one_below {w : World} {B M : Nat} {lv : Value} {us : List UnitD} {nf : Nat → Nat} (h : Built B w lv us nf) (hM : w.heap.size ≤ M) : ∀ k, (hk : k < us.length) → ∀ b, 0 < us[k].n → us[k].A = some ⟨b, 0, none⟩ → b < M := by
  intro k hk b hp hA
  obtain ⟨b2, hA2, _, hc⟩ := (h.cands k hk).2 hp
  rw [hA] at hA2
  injection hA2 with hA2
  injection hA2 with hA2
  subst hA2
  have := hc.lt
  omega

set_option maxRecDepth 100000 in
set_option maxHeartbeats 1000000 in
theorem units_g (bG : Nat) (lv : Value) (xs : List Int) (i most : Int) (w : World) (hG : GAt w bG lv xs i) (hi : i + 200 < 1000000) (hm1 : 1 ≤ most) (hm2 : most ≤ 5) :
    Calls Tryz.prog 17 #[.pointer (some ⟨bG, 0, none⟩), .int .i64 most] w (UnitsPost bG lv xs i w) := by
  obtain ⟨iu, hiu⟩ := info_parts unit_info
  have HIU := hid hiu
  obtain ⟨ic, hic⟩ := info_parts cand_info
  have HIC := hid hic
  have hi0 := hG.bd.1
  have hGl := hG.lt
  have HG := hid hG
  clear hG hiu hic
  go_enter Tryz.func17, Tryz.ntmps17
  go_wp2_with fail
  obtain ⟨w0, hw0⟩ : ∃ w0 : World, w0 = ((w.alloc (.cells nmCells 9)).alloc (.cells #[.int .i64 0, .int .i64 0, .int .i64 0, .string ⟨#[]⟩, .string ⟨#[]⟩, .int .i64 (-1), .slice none 0 0, .slice none 0 0] 57)).alloc (.cells #[.string ⟨#[]⟩, .string ⟨#[]⟩, .slice (some ⟨w.heap.size + 1, 0, none⟩) 1 1] 60) := ⟨_, rfl⟩
  have HBW0 : Hid (Below w.heap.size w w0) := hid (by rw [hw0]; exact balloc (balloc (balloc (b0 w) _) _) _)
  have HBT0 : Hid (Built w.heap.size w0 (.slice (some ⟨w.heap.size + 1 + 1, 0, none⟩) 1 1) [⟨⟨#[]⟩, ⟨#[]⟩, some ⟨w.heap.size + 1, 0, none⟩, 1, 1⟩] (fun _ => 0)) := hid (by
    rw [hw0]
    have := built_one (w.alloc (.cells nmCells 9))
    rw [World.size_alloc] at this
    exact ⟨⟨this.own.1, by rcases this.own.2 with h | ⟨g, cap, cur, h1, h2, h3⟩; exact .inl h; exact .inr ⟨g, cap, cur, h1, by omega, h3⟩⟩, fun k hk => ⟨(this.cands k hk).1, fun hp => by obtain ⟨b, hA, hb, hc⟩ := (this.cands k hk).2 hp; exact ⟨b, hA, by omega, hc⟩⟩, this.incr⟩)
  have HNM0 : Hid (w0.heap[w.heap.size]? = some (.cells nmCells 9 (0, 0))) := hid (by
    rw [hw0, Below.heap_alloc _ _ _ (by simp; omega), Below.heap_alloc _ _ _ (by simp)]
    exact heap_alloc_new w _)
  have hz0 : w.heap.size < w0.heap.size := by rw [hw0]; simp; omega
  show Calls _ _ _ (((w.alloc (.cells nmCells 9)).alloc _).alloc _) _
  rw [← hw0]
  clear hw0
  refine (versions_any _).mono ?_
  rintro e w1 ⟨bv, rfl, hbv, hvb, hb1⟩
  have HBS1 : Hid (Beside w1 w.heap.size bv) := hid ⟨(hb1.block _ hz0).trans HNM0.out, hvb⟩
  have HBT1 := hid (HBT0.out.below hb1 (Nat.le_refl _))
  have HG1 := hid (HG.out.below (HBW0.out.trans (hb1.mono HBW0.out.size)) hGl)
  have HGB1 := hid (gb_below (gb_refl w (some bG)) (HBW0.out.trans (hb1.mono HBW0.out.size)) (Nat.le_refl _))
  have hbv2 : bG < bv := by omega
  clear hb1 hvb
  go_wp2
  go_loopw [6, 8] (fun ov nv wr => ∃ (k : Nat) (us : List UnitD) (i' : Int), k ≤ 5 ∧ nv = .int .i64 k ∧ k + 1 ≤ us.length ∧ us.length ≤ 2 * k + 1 ∧ i ≤ i' ∧ i' ≤ i + 7 * k ∧ Hid (Built w.heap.size wr ov us (fun _ => 0)) ∧ Hid (us.head?.map (·.n) = some 1) ∧ Hid (GAt wr bG lv xs i') ∧ Hid (w.grownBy wr (some bG)) ∧ Hid (Beside wr w.heap.size bv)) (fun _ nv _ => 5 - (intOf nv).toNat)
  case atStart => exact ⟨0, _, i, by omega, rfl, by simp, by simp, by omega, by omega, HBT1, hid rfl, HG1, HGB1, HBS1⟩
  case round =>
    obtain ⟨k, us, i', hk, rfl, hu1, hu2, hi1, hi2, hbt, hhd, hg, hgb, hbs⟩ := hrel
    obtain ⟨Al, cl, rfl⟩ := hbt.out.form
    have hsw := hgb.out.size
    by_cases hk5 : k < 5
    · have z5 : decide (k < 5) = true := decide_eq_true hk5
      have z5' : decide ((k : Int) < 5) = true := decide_eq_true (by omega)
      have tok := hid True.intro
      have tok2 := hid True.intro
      go_wp2_with (first
        | (go_at_call 20; clear tok; go_must (refine (next_g bG lv xs i' most _ hg.out (by omega) ⟨by omega, by omega⟩).mono ?_; rintro e w2 ⟨r, rfl, hr0, hr1, -, hg2, hgb2⟩; have hr2 : r < most := hr1 (by omega); clear hr1; have HG2 := hid hg2; have HGB2 := hid (gb_gb hgb.out hgb2); have HBT2 := hid (hbt.out.gb hgb2 hGl); have HBS2 := hid (hbs.out.gb hgb2 hGl hbv2); clear hg2 hgb2))
        | (go_at_call 20; clear tok2; go_must (refine (next_g bG lv xs (i' + 1) 16 _ HG2.out (by omega) ⟨by decide, by decide⟩).mono ?_; rintro e wc ⟨m, rfl, hm0, hm16, -, hg3, hgb3⟩; have HG3 := hid hg3; have HGB3 := hid (gb_gb HGB2.out hgb3); have HBT3 := hid (HBT2.out.gb hgb3 hGl); have HBS3 := hid (HBS2.out.gb hgb3 hGl hbv2); clear hg3 hgb3)))
      · have hsc := HGB3.out.size
        obtain ⟨nm, hnm⟩ := nm_at HBS3.out.1 hk5
        have HNM := hid hnm
        have HVS := hid HBS3.out.2
        clear hnm
        go_loopw [9, 11] (fun cv iv wr => ∃ (j : Nat) (cs : List CandD), j ≤ 4 ∧ iv = .int .i64 j ∧ cs.length ≤ j ∧ Hid (wr.ownsRow wc.heap.size 57 8 cv cs.length (fCand.all cs) ∧ ∀ d ∈ cs, d.v.B) ∧ Hid (Below wc.heap.size wc wr)) (fun _ iv _ => 4 - (intOf iv).toNat)
        case atStart => exact ⟨0, [], by omega, rfl, by simp, hid ⟨⟨rfl, .inl ⟨rfl, rfl⟩⟩, fun d hd => by cases hd⟩, hid (b0 _)⟩
        case round =>
          obtain ⟨j, cs, hj, rfl, hcl, hown, hb⟩ := hrel
          obtain ⟨Ac, cc, rfl⟩ := own_form hown.out.1
          have hsr := hb.out.size
          by_cases hj4 : j < 4
          · obtain ⟨u, hu, hat⟩ := vs_at ((hb.out.block _ (Array.getElem?_eq_some_iff.1 HVS.out).1).trans HVS.out) hj4
            obtain ⟨c0, c1, c2, c3, c4⟩ := hat
            have HU := hid hu
            have HONE := hid (fCand.one ⟨u, 0⟩)
            clear hu
            have i1 : (0 : Int) ≤ ↑j := by omega
            have i2 : (↑j : Int) < 4 := by omega
            go_wp2_with (first
              | (at_builtin
                 go_must (refine wpList_append_src _ rfl (.tmp 48) (.tmp 54) _ rfl wc.heap.size 57 ic _ 8 112 Tryz.underlying58 HIC.out.1 HIC.out.2.1 HIC.out.2.2.1 HIC.out.2.2.2 rfl (by omega) (.slice Ac cs.length cc) cs.length (fCand.all cs) (by rfl) (by exact hown.out.1.alloc _) (some ⟨wr.heap.size, 0, none⟩) 1 1 (candCells ⟨u, 0⟩) (by rfl) (by exact src_new _ _ rfl 8 _ rfl rfl) (by exact HONE.out) (by unfold maxLen; omega) (by omega) (by simp; omega) ?_)
                 intro v7 w7 hown7 hg7 hat7
                 have HOWN7 := hid hown7
                 have HBL7 := hid (show Below wc.heap.size wc w7 from Below.grown (hb.out.alloc hsr _) hg7 (by simp; omega) (fun k hk => (hown.out.1.lt k hk).1))
                 clear hown7 hg7 hat7))
            · refine ⟨⟨j + 1, cs ++ [⟨u, 0⟩], by omega, by go_num, by simp; omega, hid ⟨?_, ?_⟩, HBL7⟩, by simp [intOf]; omega⟩
              · rw [fCand.all_snoc, List.length_append]
                exact HOWN7.out
              · intro d hd
                rcases List.mem_append.1 hd with hd | hd
                · exact hown.out.2 d hd
                · have : d = ⟨u, 0⟩ := by simpa using hd
                  subst this
                  exact HU.out
            · exact ⟨⟨j + 1, cs, by omega, by go_num, by omega, hown, hid hb.out⟩, by simp [intOf]; omega⟩
          · have HBTW := hid (HBT3.out.below hb.out (Nat.le_refl _))
            have HGW := hid (HG3.out.below hb.out HG3.out.lt)
            have HGBW := hid (gb_below HGB3.out hb.out hsc)
            have HBSW := hid (HBS3.out.below hb.out (Nat.le_refl _))
            have HCU : Hid (CandU wr wc.heap.size ⟨nm, ⟨#[]⟩, Ac, cs.length, cc⟩ 0) := hid (by
              obtain ⟨A', c', hv, hc⟩ := own_candBlk hown.out.1 hown.out.2
              injection hv with e1 e2 e3
              subst e1
              exact ⟨by show cs.length ≤ 4; omega, hc⟩)
            have n0 := cell_below hb.out (Array.getElem?_eq_some_iff.1 HBS3.out.1).1 HNM.out
            have k1 : (0 : Int) ≤ ↑k := by omega
            have k2 : (↑k : Int) < 5 := by omega
            have tok3 := hid True.intro
            have tok4 := hid True.intro
            have hsl : us.length ≤ 11 := by omega
            have HONE := hid (fUnit.one ⟨nm, ⟨#[]⟩, Ac, cs.length, cc⟩)
            go_wp2_with (first
              | (at_builtin
                 clear tok3
                 go_must (
                 refine wpList_append_src _ rfl (.tmp 56) (.tmp 63) _ rfl w.heap.size 60 iu _ 3 56 Tryz.underlying27 HIU.out.1 HIU.out.2.1 HIU.out.2.2.1 HIU.out.2.2.2 rfl (by omega) (.slice Al us.length cl) us.length (fUnit.all us) (by rfl) (by exact HBTW.out.own.alloc _) (some ⟨wr.heap.size, 0, none⟩) 1 1 (fUnit.cells ⟨nm, ⟨#[]⟩, Ac, cs.length, cc⟩) (by rfl) (by exact src_new _ _ rfl 3 _ rfl rfl) (by exact HONE.out) (by unfold maxLen; omega) (by omega) (by simp; omega) ?_
                 intro v8 w8 hown8 hg8 hat8
                 obtain ⟨A8, c8, us8, rfl, hl8, hbt8, hbl8, hbs8, hg8', hgb8, hco8, hhd8⟩ := unit_app HBTW.out (one_below HBT3.out (Nat.le_refl _)) HCU.out hsc (Nat.le_trans hsc hsr) _ hg8 hown8 HBSW.out HGW.out hGl HGBW.out (Nat.le_refl _) hhd.out
                 have HL8 := hid hl8
                 have hl81 : us8.length ≤ 2 * k + 2 := by omega
                 have hl82 : k + 2 ≤ us8.length := by omega
                 clear hl8
                 have HBT8 := hid hbt8
                 have HBL8 := hid hbl8
                 have HBS8 := hid hbs8
                 have HG8 := hid hg8'
                 have HGB8 := hid hgb8
                 have HCO8 := hid hco8
                 have HHD8 := hid hhd8
                 clear hbt8 hbl8 hbs8 hg8' hgb8 hco8 hhd8))
              | (go_at_call 20; clear tok4; go_must (refine (next_g bG lv xs (i' + 2) 3 _ (by have := HG8.out; rwa [show i' + 1 + 1 = i' + 2 by omega] at this) (by omega) ⟨by decide, by decide⟩).mono ?_; rintro e w9 ⟨r9, rfl, hr90, hr93, -, hg9, hgb9⟩; have HG9' : Hid (GAt w9 bG lv xs (i' + 3)) := hid (by rwa [show i' + 2 + 1 = i' + 3 by omega] at hg9); have HGB9 := hid (gb_gb HGB8.out hgb9); have HBT9 := hid (HBT8.out.gb hgb9 hGl); have HBS9 := hid (HBS8.out.gb hgb9 hGl hbv2); have hs9 := hgb9.size; have HCO9 := hid (show ∀ b n, CandBlk w8 b n 0 → bG < b → CandBlk w9 b n 0 from fun b n hc hb9 => hc.keep (gb_block hgb9 (by omega) hc.lt)); clear hg9 hgb9)))
            · have hG9 : bG < w9.heap.size := Nat.lt_of_lt_of_le hGl HGB9.out.size
              have hsl8 : us8.length ≤ 11 := by omega
              have hs90 := HGB9.out.size
              rename (r9 == 0) = true => hx0
              clear hx0
              have HCU9 := hid (show 0 < cs.length → ∃ b, Ac = some ⟨b, 0, none⟩ ∧ wc.heap.size ≤ b ∧ CandBlk w9 b cs.length 0 from fun hp => by
                obtain ⟨b, h1, h2, h3⟩ := HCU.out.2 hp
                exact ⟨b, h1, h2, HCO9.out b _ (HCO8.out b _ h3) (by omega)⟩)
              go_loopw [12, 13] (fun sv iv wr => ∃ (j : Nat) (ds : List CandD) (i3 : Int), j ≤ cs.length ∧ iv = .int .i64 j ∧ ds.length ≤ j ∧ i' + 3 ≤ i3 ∧ i3 ≤ i' + 3 + j ∧ Hid (wr.ownsRow w9.heap.size 57 8 sv ds.length (fCand.all ds) ∧ ∀ d ∈ ds, d.v.B) ∧ Hid (GAt wr bG lv xs i3) ∧ Hid (w9.grownBy wr (some bG))) (fun _ iv _ => cs.length - (intOf iv).toNat)
              case atStart => exact ⟨0, [], i' + 3, by omega, rfl, by simp, by omega, by omega, hid ⟨⟨rfl, .inl ⟨rfl, rfl⟩⟩, fun d hd => by cases hd⟩, HG9', hid (gb_refl _ _)⟩
              case round =>
                obtain ⟨j3, ds, i3, hj3, rfl, hdl, hi3, hi4, hown3, hg3, hgb3⟩ := hrel
                obtain ⟨As, cS, rfl⟩ := own_form hown3.out.1
                have hs3 := hgb3.out.size
                have HBT10 := hid (HBT9.out.gb hgb3.out hGl)
                have HBS10 := hid (HBS9.out.gb hgb3.out hGl hbv2)
                have HGB10 := hid (gb_gb HGB9.out hgb3.out)
                have hs10 := HGB10.out.size
                have tok5 := hid True.intro
                have tok6 := hid True.intro
                by_cases hjm : j3 < cs.length
                · obtain ⟨b, rfl, hbw, hbk⟩ := HCU9.out (by omega)
                  have HBK := hid hbk
                  clear hbk
                  have j1 : (0 : Int) ≤ ↑j3 := by omega
                  have j2 : (↑j3 : Int) < ↑cs.length := by omega
                  go_wp2_with (first
                    | (go_at_call 20; clear tok5; go_must (refine (next_g bG lv xs i3 3 _ hg3.out (by omega) ⟨by decide, by decide⟩).mono ?_; rintro e wd ⟨rd, rfl, -, -, -, hgd, hgbd⟩; have HGD := hid hgd; have HGBD := hid (gb_gb hgb3.out hgbd); have HOWND := hid (gb_own hown3.out.1 hgbd hG9); obtain ⟨u, hu, hat⟩ := CandBlk.verAt (k := j3) (HBK.out.keep (gb_block HGBD.out (by omega) HBK.out.lt)) hjm; obtain ⟨c0, c1, c2, c3, c4⟩ := hat; have HU := hid hu; have HONE2 := hid (fCand.one ⟨u, 0⟩); have hsd := HGBD.out.size; clear hgd hgbd hu))
                    | (at_builtin
                       clear tok6
                       go_must (
                       refine wpList_append_src _ rfl (.tmp 81) (.tmp 88) _ rfl w9.heap.size 57 ic _ 8 112 Tryz.underlying58 HIC.out.1 HIC.out.2.1 HIC.out.2.2.1 HIC.out.2.2.2 rfl (by omega) (.slice As ds.length cS) ds.length (fCand.all ds) (by rfl) (by exact HOWND.out.alloc _) (some ⟨wd.heap.size, 0, none⟩) 1 1 (candCells ⟨u, 0⟩) (by rfl) (by exact src_new _ _ rfl 8 _ rfl rfl) (by exact HONE2.out) (by unfold maxLen; omega) (by omega) (by simp; omega) ?_
                       intro v11 w11 hown11 hg11 hat11
                       have HOWN11 := hid hown11
                       have hbl11 := app_below hsd HOWND.out (Nat.le_refl _) _ hg11
                       have HG11 := hid (HGD.out.below hbl11 hG9)
                       have HGB11 := hid (gb_below HGBD.out hbl11 (Nat.le_refl _))
                       clear hown11 hg11 hat11 hbl11)))
                  · refine ⟨⟨j3 + 1, ds ++ [⟨u, 0⟩], i3 + 1, by omega, by go_num, by simp; omega, by omega, by push_cast; omega, hid ⟨?_, ?_⟩, HG11, HGB11⟩, by simp [intOf]; omega⟩
                    · rw [fCand.all_snoc, List.length_append]
                      exact HOWN11.out
                    · intro d hd
                      rcases List.mem_append.1 hd with hd | hd
                      · exact hown3.out.2 d hd
                      · have : d = ⟨u, 0⟩ := by simpa using hd
                        subst this
                        exact HU.out
                  · exact ⟨⟨j3 + 1, ds, i3 + 1, by omega, by go_num, by omega, by omega, by push_cast; omega, hid ⟨HOWND.out, hown3.out.2⟩, HGD, HGBD⟩, by simp [intOf]; omega⟩
                · have HCU3 : Hid (CandU wr w9.heap.size ⟨nm, ⟨#[102]⟩, As, ds.length, cS⟩ 0) := hid (by
                    obtain ⟨A', c', hv, hc⟩ := own_candBlk hown3.out.1 hown3.out.2
                    injection hv with e1 e2 e3
                    subst e1
                    exact ⟨by show ds.length ≤ 4; omega, hc⟩)
                  have n3 := nm_at HBS10.out.1 hk5
                  have HONE3 := hid (fUnit.one ⟨nm, ⟨#[102]⟩, As, ds.length, cS⟩)
                  have nq : wr.cell? ⟨w.heap.size, k, none⟩ = some (.string nm) := by
                    rw [← n0]
                    exact (cell_of_row _ _ _ _ _ _ HBS10.out.1).trans (cell_of_row _ _ _ _ _ _ HBSW.out.1).symm
                  clear n3
                  go_wp2_with (first
                    | (at_builtin
                       clear tok6
                       go_must (
                       refine wpList_append_src _ rfl (.tmp 90) (.tmp 97) _ rfl w.heap.size 60 iu _ 3 56 Tryz.underlying27 HIU.out.1 HIU.out.2.1 HIU.out.2.2.1 HIU.out.2.2.2 rfl (by omega) (.slice A8 us8.length c8) us8.length (fUnit.all us8) (by rfl) (by exact HBT10.out.own.alloc _) (some ⟨wr.heap.size, 0, none⟩) 1 1 (fUnit.cells ⟨nm, ⟨#[102]⟩, As, ds.length, cS⟩) (by rfl) (by exact src_new _ _ rfl 3 _ rfl rfl) (by exact HONE3.out) (by unfold maxLen; omega) (by omega) (by simp; omega) ?_
                       intro v12 w12 hown12 hg12 hat12
                       obtain ⟨A12, c12, us12, rfl, hl12, hbt12, hbl12, hbs12, hg12', hgb12, hco12, hhd12⟩ := unit_app HBT10.out (one_below HBT9.out (Nat.le_refl _)) HCU3.out (by omega) (by omega) _ hg12 hown12 HBS10.out hg3.out hGl HGB10.out (Nat.le_refl _) HHD8.out
                       have HL12 := hid hl12
                       have hl121 : us12.length ≤ 2 * k + 3 := by omega
                       have hl122 : k + 3 ≤ us12.length := by omega
                       clear hl12
                       have HBT12 := hid hbt12
                       have HBS12 := hid hbs12
                       have HG12 := hid hg12'
                       have HGB12 := hid hgb12
                       have HHD12 := hid hhd12
                       clear hown12 hg12 hat12 hbt12 hbl12 hbs12 hg12' hgb12 hco12 hhd12)))
                  exact ⟨⟨k + 1, us12, i3, by omega, by go_num, by omega, by omega, by omega, by push_cast; omega, HBT12, HHD12, HG12, HGB12, HBS12⟩, by simp [intOf]; omega⟩
            · exact ⟨⟨k + 1, us8, i' + 3, by omega, by go_num, by omega, by omega, by omega, by push_cast; omega, HBT9, HHD8, HG9', HGB9, HBS9⟩, by simp [intOf]; omega⟩
            · exact ⟨⟨k + 1, us8, i' + 2, by omega, by go_num, by omega, by omega, by omega, by push_cast; omega, HBT8, HHD8, hid (by have := HG8.out; rwa [show i' + 1 + 1 = i' + 2 by omega] at this), HGB8, HBS8⟩, by simp [intOf]; omega⟩
      · go_ret
        exact ⟨Al, cl, us, i' + 1, rfl, HBT2.out, by omega, by omega, hhd.out, HG2.out, by omega, by omega, HGB2.out⟩
    · have z5 : decide (k < 5) = false := decide_eq_false hk5
      have z5' : decide ((k : Int) < 5) = false := decide_eq_false (by omega)
      have tok := hid True.intro
      go_wp2_with (first
        | (go_at_call 20; clear tok; go_must (refine (next_g bG lv xs i' most _ hg.out (by omega) ⟨by omega, by omega⟩).mono ?_; rintro e w2 ⟨r, rfl, hr0, hr1, -, hg2, hgb2⟩; have hr2 : r < most := hr1 (by omega); clear hr1; have HG2 := hid hg2; have HGB2 := hid (gb_gb hgb.out hgb2); have HBT2 := hid (hbt.out.gb hgb2 hGl); clear hg2 hgb2)))
      all_goals go_ret
      all_goals exact ⟨Al, cl, us, i' + 1, rfl, HBT2.out, by omega, by omega, hhd.out, HG2.out, by omega, by omega, HGB2.out⟩
end Go.Proofs.YtfdjoknklpiooaaGreatDoor
