import Derived.Test.YtbfbppjccbppiaaGreatDoorzG3
import Derived.Outline
namespace Go.Proofs.YtbfbppjccbppiaaGreatDoor
open Go Go.RowKit
section
theorem zg2 {w w1 : World} {B' : Nat} {T e' : TypeId} {s' n' g : Nat} {v' : Value} {ys' : List Value} {cs : Array Value} (h : w.heap[g]? = some (.cells cs T (0, 0))) (ho : w.ownsRow B' e' s' v' n' ys') (hne : T ≠ e') (o : Obj) (hg : (w.alloc o).grownBy w1 v'.ownBlock) : w1.heap[g]? = some (.cells cs T (0, 0)) := by
  have hl : g < w.heap.size := (Array.getElem?_eq_some_iff.1 h).1
  rw [hg.block g (by simp; omega) ?_, Below.heap_alloc _ _ _ hl]
  · exact h
  · intro e
    rcases ho.2 with ⟨rfl, _⟩ | ⟨g', cap, cur', rfl, _, hgg, _⟩
    · cases e
    · have : g' = g := (Option.some.inj e).symm
      subst this
      rw [hgg] at h
      injection h with h
      injection h with _ h2
      exact hne h2.symm
def qx7 : Array Value := #[.string ⟨#[97, 110, 116]⟩, .string ⟨#[98, 101, 101]⟩, .string ⟨#[99, 111, 119]⟩, .string ⟨#[100, 111, 103]⟩, .string ⟨#[101, 108, 107]⟩]
theorem nm_at {w : World} {g : Nat} (h : w.heap[g]? = some (.cells qx7 9 (0, 0))) {k : Nat} (hk : k < 5) : ∃ nm, w.cell? ⟨g, k, none⟩ = some (.string nm) ∧ nameL[k]? = some nm := by
  have e := cell_of_row w g k qx7 _ (0, 0) h
  match k, hk with
  | 0, _ => exact ⟨_, e, rfl⟩
  | 1, _ => exact ⟨_, e, rfl⟩
  | 2, _ => exact ⟨_, e, rfl⟩
  | 3, _ => exact ⟨_, e, rfl⟩
  | 4, _ => exact ⟨_, e, rfl⟩
def zl3 : Array Value := (fVer.all qm4).toArray
theorem vs_at {w : World} {g : Nat} (h : w.heap[g]? = some (.cells zl3 59 (0, 0))) {k : Nat} (hk : k < 4) : ∃ u : Ver, (u.B ∧ qm4[k]? = some u) ∧ zq0 w g (k * 5) u := by
  have hB : ∀ u ∈ qm4, Ver.B u := by
    intro u hu
    simp only [qm4, List.mem_cons, List.not_mem_nil, or_false] at hu
    rcases hu with rfl | rfl | rfl | rfl <;> exact ⟨by decide, by decide, by decide, by decide, by decide⟩
  have e : ∀ o, w.cell? ⟨g, o, none⟩ = zl3[o]? := fun o => cell_of_row w g o zl3 _ (0, 0) h
  have hk' : k < qm4.length := hk
  have hg : ∀ i, i < 5 → zl3[k * 5 + i]? = (zt0 (qm4[k]'hk'))[i]? := by
    intro i hi
    have := fVer.all_get (l := qm4) (k := k) hk' (j := i) hi
    rw [← Array.getElem?_toList]
    exact this
  exact ⟨qm4[k]'hk', ⟨hB _ (List.getElem_mem hk), List.getElem?_eq_getElem hk'⟩, (e _).trans (hg 0 (by omega)), (e _).trans (hg 1 (by omega)), (e _).trans (hg 2 (by omega)), (e _).trans (hg 3 (by omega)), (e _).trans (hg 4 (by omega))⟩
def Beside (w : World) (bn bv : Nat) : Prop := w.heap[bn]? = some (.cells qx7 9 (0, 0)) ∧ w.heap[bv]? = some (.cells zl3 59 (0, 0))
theorem Beside.gb {w w' : World} {bn bv bG : Nat} (h : Beside w bn bv) (hg : w.grownBy w' (some bG)) (h1 : bG < bn) (h2 : bG < bv) : Beside w' bn bv :=
  ⟨(qf6 hg (by omega) (Array.getElem?_eq_some_iff.1 h.1).1).trans h.1, (qf6 hg (by omega) (Array.getElem?_eq_some_iff.1 h.2).1).trans h.2⟩
theorem Beside.below {w w' : World} {bn bv M : Nat} (h : Beside w bn bv) (hb : Below M w w') (hM : w.heap.size ≤ M) : Beside w' bn bv :=
  ⟨(hb.block _ (Nat.lt_of_lt_of_le (Array.getElem?_eq_some_iff.1 h.1).1 hM)).trans h.1, (hb.block _ (Nat.lt_of_lt_of_le (Array.getElem?_eq_some_iff.1 h.2).1 hM)).trans h.2⟩
def UnitsPost (bG : Nat) (lv : Value) (xs : List Int) (i : Int) (w : World) (e : Ending) (w' : World) : Prop :=
  ∃ (A : Option Addr) (c : Nat) (us : List UnitD) (i' : Int), e = .returned (.slice A us.length c) ∧ Built w.heap.size w' (.slice A us.length c) us (fun _ => 0) ∧ 2 ≤ us.length ∧ us.length ≤ 11 ∧ Named us ∧ GAt w' bG lv xs i' ∧ i ≤ i' ∧ i' ≤ i + 100 ∧ w.grownBy w' (some bG)
theorem unit_app {B M bG bn bv : Nat} {wr w8 w0 : World} {lv' lv v8 : Value} {us : List UnitD} {d : UnitD} {xs : List Int} {i' : Int} (hbt : Built B wr lv us (fun _ => 0)) (hM : ∀ k, (hk : k < us.length) → ∀ b, 0 < us[k].n → us[k].A = some ⟨b, 0, none⟩ → b < M) (hcu : CandU wr M d 0) (hMB : B ≤ M) (hs : B ≤ wr.heap.size) (o : Obj) (hg8 : (wr.alloc o).grownBy w8 lv.ownBlock) (hown8 : w8.ownsRow B 55 3 v8 (us.length + 1) (qx5.all us ++ qx5.cells d)) (hbs : Beside wr bn bv) (hg : GAt wr bG lv' xs i') (hGl : bG < B) (hgb : w0.grownBy wr (some bG)) (h0 : w0.heap.size ≤ B) :
    ∃ (A8 : Option Addr) (c8 : Nat) (us8 : List UnitD), v8 = .slice A8 us8.length c8 ∧ us8.length = us.length + 1 ∧ Built B w8 v8 us8 (fun _ => 0) ∧ Below B wr w8 ∧ Beside w8 bn bv ∧ GAt w8 bG lv' xs i' ∧ w0.grownBy w8 (some bG) ∧ (∀ b n, qd8 wr b n 0 → qd8 w8 b n 0) ∧ us8 = us ++ [d] := by
  have hB := qp6 hs hbt.own (Nat.le_refl _) _ hg8
  have hn := hbt.snoc hM hcu hMB hg8 hown8
  obtain ⟨A8, c8, hv⟩ := hn.form
  refine ⟨A8, c8, us ++ [d], hv, by simp, hn, hB, ⟨zg2 hbs.1 hbt.own (by decide) _ hg8, zg2 hbs.2 hbt.own (by decide) _ hg8⟩, hg.below hB hGl, qd5 hgb hB h0, ?_, rfl⟩
  rintro b n ⟨cur, h1, h2⟩
  exact ⟨cur, zg2 h1 hbt.own (by decide) _ hg8, h2⟩
theorem built_one (w : World) : Built w.heap.size ((w.alloc (.cells #[.int .i64 0, .int .i64 0, .int .i64 0, .string ⟨#[]⟩, .string ⟨#[]⟩, .int .i64 (-1), .slice none 0 0, .slice none 0 0] 63)).alloc (.cells #[.string ⟨#[]⟩, .string ⟨#[]⟩, .slice (some ⟨w.heap.size, 0, none⟩) 1 1] 55)) (.slice (some ⟨w.heap.size + 1, 0, none⟩) 1 1) [⟨⟨#[]⟩, ⟨#[]⟩, some ⟨w.heap.size, 0, none⟩, 1, 1⟩] (fun _ => 0) := by
  refine ⟨⟨rfl, .inr ⟨w.heap.size + 1, 1, #[.string ⟨#[]⟩, .string ⟨#[]⟩, .slice (some ⟨w.heap.size, 0, none⟩) 1 1], rfl, by omega, ?_, Nat.le_refl _, by unfold maxLen; omega, rfl, rfl⟩⟩, ?_, ?_⟩
  · have := heap_alloc_new (w.alloc (.cells #[.int .i64 0, .int .i64 0, .int .i64 0, .string ⟨#[]⟩, .string ⟨#[]⟩, .int .i64 (-1), .slice none 0 0, .slice none 0 0] 63)) (.cells #[.string ⟨#[]⟩, .string ⟨#[]⟩, .slice (some ⟨w.heap.size, 0, none⟩) 1 1] 55)
    rwa [World.size_alloc] at this
  · intro k hk
    have : k = 0 := by simp at hk; exact hk
    subst this
    have hown : (w.alloc (.cells #[.int .i64 0, .int .i64 0, .int .i64 0, .string ⟨#[]⟩, .string ⟨#[]⟩, .int .i64 (-1), .slice none 0 0, .slice none 0 0] 63)).ownsRow w.heap.size 63 8 (.slice (some ⟨w.heap.size, 0, none⟩) 1 1) [(⟨⟨0, 0, 0, ⟨#[]⟩, ⟨#[]⟩⟩, -1⟩ : CandD)].length (zg9.all [⟨⟨0, 0, 0, ⟨#[]⟩, ⟨#[]⟩⟩, -1⟩]) :=
      ⟨rfl, .inr ⟨_, 1, _, rfl, Nat.le_refl _, heap_alloc_new w _, Nat.le_refl _, by unfold maxLen; omega, rfl, rfl⟩⟩
    obtain ⟨A, c, hv, hc⟩ := qx9 hown (fun d hd => by
      have : d = ⟨⟨0, 0, 0, ⟨#[]⟩, ⟨#[]⟩⟩, -1⟩ := by simpa using hd
      subst this
      exact qp4) (.inr rfl)
    injection hv with e1 e2 e3
    obtain ⟨b, hA, hb, hblk⟩ := hc (by decide)
    refine ⟨by show 1 ≤ 4; omega, fun _ => ⟨b, e1.trans hA, hb, hblk.keep (Below.heap_alloc _ _ _ hblk.lt)⟩⟩
  · intro j k hjk hk
    simp at hk
    omega
theorem one_below {w : World} {B M : Nat} {lv : Value} {us : List UnitD} {nf : Nat → Nat} (h : Built B w lv us nf) (hM : w.heap.size ≤ M) : ∀ k, (hk : k < us.length) → ∀ b, 0 < us[k].n → us[k].A = some ⟨b, 0, none⟩ → b < M := by
  intro k hk b hp hA
  obtain ⟨b2, hA2, _, hc⟩ := (h.cands k hk).2 hp
  rw [hA] at hA2
  injection hA2 with hA2
  injection hA2 with hA2
  subst hA2
  have := hc.lt
  omega
set_option maxRecDepth 100000 in
set_option maxHeartbeats 1000000 in
theorem units_g (bG : Nat) (lv : Value) (xs : List Int) (i most : Int) (w : World) (hG : GAt w bG lv xs i) (hi : i + 200 < 1000000) (hm1 : 1 ≤ most) (hm2 : most ≤ 5) :
    Calls Tryz.prog 26 #[.pointer (some ⟨bG, 0, none⟩), .int .i64 most] w (UnitsPost bG lv xs i w) := by
  obtain ⟨iu, hiu⟩ := info_parts unit_info
  have HIU := hid hiu
  obtain ⟨ic, hic⟩ := info_parts cand_info
  have HIC := hid hic
  have hi0 := hG.bd.1
  have hGl := hG.lt
  have HG := hid hG
  clear hG hiu hic
  go_enter Tryz.func26, Tryz.ntmps26
  go_wp2_with fail
  obtain ⟨w0, hw0⟩ : ∃ w0 : World, w0 = ((w.alloc (.cells qx7 9)).alloc (.cells #[.int .i64 0, .int .i64 0, .int .i64 0, .string ⟨#[]⟩, .string ⟨#[]⟩, .int .i64 (-1), .slice none 0 0, .slice none 0 0] 63)).alloc (.cells #[.string ⟨#[]⟩, .string ⟨#[]⟩, .slice (some ⟨w.heap.size + 1, 0, none⟩) 1 1] 55) := ⟨_, rfl⟩
  have HBW0 : Hid (Below w.heap.size w w0) := hid (by rw [hw0]; exact qa0 (qa0 (qa0 (b0 w) _) _) _)
  have HBT0 : Hid (Built w.heap.size w0 (.slice (some ⟨w.heap.size + 1 + 1, 0, none⟩) 1 1) [⟨⟨#[]⟩, ⟨#[]⟩, some ⟨w.heap.size + 1, 0, none⟩, 1, 1⟩] (fun _ => 0)) := hid (by
    rw [hw0]
    have := built_one (w.alloc (.cells qx7 9))
    rw [World.size_alloc] at this
    exact ⟨⟨this.own.1, by rcases this.own.2 with h | ⟨g, cap, cur, h1, h2, h3⟩; exact .inl h; exact .inr ⟨g, cap, cur, h1, by omega, h3⟩⟩, fun k hk => ⟨(this.cands k hk).1, fun hp => by obtain ⟨b, hA, hb, hc⟩ := (this.cands k hk).2 hp; exact ⟨b, hA, by omega, hc⟩⟩, this.incr⟩)
  have HNM0 : Hid (w0.heap[w.heap.size]? = some (.cells qx7 9 (0, 0))) := hid (by
    rw [hw0, Below.heap_alloc _ _ _ (by simp; omega), Below.heap_alloc _ _ _ (by simp)]
    exact heap_alloc_new w _)
  have hz0 : w.heap.size < w0.heap.size := by rw [hw0]; simp; omega
  show Calls _ _ _ (((w.alloc (.cells qx7 9)).alloc _).alloc _) _
  rw [← hw0]
  clear hw0
  refine (versions_any _).mono ?_
  rintro e w1 ⟨bv, rfl, hbv, hvb, hb1⟩
  have HBS1 : Hid (Beside w1 w.heap.size bv) := hid ⟨(hb1.block _ hz0).trans HNM0.out, hvb⟩
  have HBT1 := hid (HBT0.out.below hb1 (Nat.le_refl _))
  have HG1 := hid (HG.out.below (HBW0.out.trans (hb1.mono HBW0.out.size)) hGl)
  have HGB1 := hid (qd5 (zb9 w (some bG)) (HBW0.out.trans (hb1.mono HBW0.out.size)) (Nat.le_refl _))
  have hbv2 : bG < bv := by omega
  clear hb1 hvb
  go_wp2
  go_loopw [6, 8] (fun ov nv wr => ∃ (k : Nat) (us : List UnitD) (i' : Int), k ≤ 5 ∧ nv = .int .i64 k ∧ k + 1 ≤ us.length ∧ us.length ≤ 2 * k + 1 ∧ i ≤ i' ∧ i' ≤ i + 7 * k ∧ Hid (Built w.heap.size wr ov us (fun _ => 0)) ∧ Hid (NmAt k us) ∧ Hid (GAt wr bG lv xs i') ∧ Hid (w.grownBy wr (some bG)) ∧ Hid (Beside wr w.heap.size bv)) (fun _ nv _ => 5 - (intOf nv).toNat)
  case atStart => exact ⟨0, _, i, by omega, rfl, by simp, by simp, by omega, by omega, HBT1, hid ⟨rfl, [], rfl, rfl⟩, HG1, HGB1, HBS1⟩
  case round =>
    obtain ⟨k, us, i', hk, rfl, hu1, hu2, hi1, hi2, hbt, hhd, hg, hgb, hbs⟩ := hrel
    obtain ⟨Al, cl, rfl⟩ := hbt.out.form
    have hsw := hgb.out.size
    by_cases hk5 : k < 5
    · have z5 : decide (k < 5) = true := decide_eq_true hk5
      have z5' : decide ((k : Int) < 5) = true := decide_eq_true (by omega)
      have tok := hid True.intro
      have tok2 := hid True.intro
      go_wp2_with (first
        | (go_at_call 29; clear tok; go_must (refine (qr9 bG lv xs i' most _ hg.out (by omega) ⟨by omega, by omega⟩).mono ?_; rintro e w2 ⟨r, rfl, hr0, hr1, -, hg2, hgb2⟩; have hr2 : r < most := hr1 (by omega); clear hr1; have HG2 := hid hg2; have HGB2 := hid (qo1 hgb.out hgb2); have HBT2 := hid (hbt.out.gb hgb2 hGl); have HBS2 := hid (hbs.out.gb hgb2 hGl hbv2); clear hg2 hgb2))
        | (go_at_call 29; clear tok2; go_must (refine (qr9 bG lv xs (i' + 1) 16 _ HG2.out (by omega) ⟨by decide, by decide⟩).mono ?_; rintro e wc ⟨m, rfl, hm0, hm16, -, hg3, hgb3⟩; have HG3 := hid hg3; have HGB3 := hid (qo1 HGB2.out hgb3); have HBT3 := hid (HBT2.out.gb hgb3 hGl); have HBS3 := hid (HBS2.out.gb hgb3 hGl hbv2); clear hg3 hgb3)))
      · have hsc := HGB3.out.size
        obtain ⟨nm, hnm, hnl⟩ := nm_at HBS3.out.1 hk5
        have HNM := hid hnm
        have HNL := hid hnl
        have HVS := hid HBS3.out.2
        clear hnm hnl
        go_loopw [9, 11] (fun cv iv wr => ∃ (j : Nat) (cs : List CandD), j ≤ 4 ∧ iv = .int .i64 j ∧ cs.length ≤ j ∧ Hid (wr.ownsRow wc.heap.size 63 8 cv cs.length (zg9.all cs) ∧ (∀ d ∈ cs, d.v.B) ∧ (cs.map (·.v)).Sublist (qm4.take j)) ∧ Hid (Below wc.heap.size wc wr)) (fun _ iv _ => 4 - (intOf iv).toNat)
        case atStart => exact ⟨0, [], by omega, rfl, by simp, hid ⟨⟨rfl, .inl ⟨rfl, rfl⟩⟩, (fun d hd => by cases hd), List.nil_sublist _⟩, hid (b0 _)⟩
        case round =>
          obtain ⟨j, cs, hj, rfl, hcl, hown, hb⟩ := hrel
          obtain ⟨Ac, cc, rfl⟩ := qb1 hown.out.1
          have hsr := hb.out.size
          by_cases hj4 : j < 4
          · obtain ⟨u, ⟨hu, hvl⟩, hat⟩ := vs_at ((hb.out.block _ (Array.getElem?_eq_some_iff.1 HVS.out).1).trans HVS.out) hj4
            obtain ⟨c0, c1, c2, c3, c4⟩ := hat
            have HU := hid hu
            have HVL := hid hvl
            have HONE := hid (zg9.one ⟨u, 0⟩)
            clear hu hvl
            have i1 : (0 : Int) ≤ ↑j := by omega
            have i2 : (↑j : Int) < 4 := by omega
            go_wp2_with (first
              | (at_builtin
                 go_must (refine qa5 _ rfl (.tmp 48) (.tmp 54) _ rfl wc.heap.size 63 ic _ 8 112 Tryz.underlying53 HIC.out.1 HIC.out.2.1 HIC.out.2.2.1 HIC.out.2.2.2 rfl (by omega) (.slice Ac cs.length cc) cs.length (zg9.all cs) (by rfl) (by exact hown.out.1.alloc _) (some ⟨wr.heap.size, 0, none⟩) 1 1 (qs9 ⟨u, 0⟩) (by rfl) (by exact qe1 _ _ rfl 8 _ rfl rfl) (by exact HONE.out) (by unfold maxLen; omega) (by omega) (by simp; omega) ?_)
                 intro v7 w7 hown7 hg7 hat7
                 have HOWN7 := hid hown7
                 have HBL7 := hid (show Below wc.heap.size wc w7 from Below.grown (hb.out.alloc hsr _) hg7 (by simp; omega) (fun k hk => (hown.out.1.lt k hk).1))
                 clear hown7 hg7 hat7))
            · refine ⟨⟨j + 1, cs ++ [⟨u, 0⟩], by omega, by go_num, by simp; omega, hid ⟨?_, ?_, ?_⟩, HBL7⟩, by simp [intOf]; omega⟩
              · rw [zg9.all_snoc, List.length_append]
                exact HOWN7.out
              · intro d hd
                rcases List.mem_append.1 hd with hd | hd
                · exact hown.out.2.1 d hd
                · have : d = ⟨u, 0⟩ := by simpa using hd
                  subst this
                  exact HU.out
              · have hj5 : j < qm4.length := hj4
                have e : u = qm4[j] := by have := HVL.out; rw [List.getElem?_eq_getElem hj5] at this; exact (Option.some.inj this).symm
                rw [List.map_append, e]
                exact take_more hown.out.2.2 hj5
            · exact ⟨⟨j + 1, cs, by omega, by go_num, by omega, hid ⟨hown.out.1, hown.out.2.1, take_skip hown.out.2.2⟩, hid hb.out⟩, by simp [intOf]; omega⟩
          · have HBTW := hid (HBT3.out.below hb.out (Nat.le_refl _))
            have HGW := hid (HG3.out.below hb.out HG3.out.lt)
            have HGBW := hid (qd5 HGB3.out hb.out hsc)
            have HBSW := hid (HBS3.out.below hb.out (Nat.le_refl _))
            have HCU : Hid (CandU wr wc.heap.size ⟨nm, ⟨#[]⟩, Ac, cs.length, cc⟩ 0) := hid (by
              obtain ⟨A', c', hv, hc⟩ := qx9 hown.out.1 hown.out.2.1 (.inl (Vers.take hown.out.2.2))
              injection hv with e1 e2 e3
              subst e1
              exact ⟨by show cs.length ≤ 4; omega, hc⟩)
            have n0 := cell_below hb.out (Array.getElem?_eq_some_iff.1 HBS3.out.1).1 HNM.out
            have k1 : (0 : Int) ≤ ↑k := by omega
            have k2 : (↑k : Int) < 5 := by omega
            have tok3 := hid True.intro
            have tok4 := hid True.intro
            have hsl : us.length ≤ 11 := by omega
            have HONE := hid (qx5.one ⟨nm, ⟨#[]⟩, Ac, cs.length, cc⟩)
            go_wp2_with (first
              | (at_builtin
                 clear tok3
                 go_must (
                 refine qa5 _ rfl (.tmp 56) (.tmp 63) _ rfl w.heap.size 55 iu _ 3 56 Tryz.underlying24 HIU.out.1 HIU.out.2.1 HIU.out.2.2.1 HIU.out.2.2.2 rfl (by omega) (.slice Al us.length cl) us.length (qx5.all us) (by rfl) (by exact HBTW.out.own.alloc _) (some ⟨wr.heap.size, 0, none⟩) 1 1 (qx5.cells ⟨nm, ⟨#[]⟩, Ac, cs.length, cc⟩) (by rfl) (by exact qe1 _ _ rfl 3 _ rfl rfl) (by exact HONE.out) (by unfold maxLen; omega) (by omega) (by simp; omega) ?_
                 intro v8 w8 hown8 hg8 hat8
                 obtain ⟨A8, c8, us8, rfl, hl8, hbt8, hbl8, hbs8, hg8', hgb8, hco8, hhd8⟩ := unit_app HBTW.out (one_below HBT3.out (Nat.le_refl _)) HCU.out hsc (Nat.le_trans hsc hsr) _ hg8 hown8 HBSW.out HGW.out hGl HGBW.out (Nat.le_refl _)
                 have HL8 := hid hl8
                 have hl81 : us8.length ≤ 2 * k + 2 := by omega
                 have hl82 : k + 2 ≤ us8.length := by omega
                 clear hl8
                 have HBT8 := hid hbt8
                 have HBL8 := hid hbl8
                 have HBS8 := hid hbs8
                 have HG8 := hid hg8'
                 have HGB8 := hid hgb8
                 have HCO8 := hid hco8
                 have HHD8 := hid hhd8
                 clear hbt8 hbl8 hbs8 hg8' hgb8 hco8 hhd8))
              | (go_at_call 29; clear tok4; go_must (refine (qr9 bG lv xs (i' + 2) 3 _ (by have := HG8.out; rwa [show i' + 1 + 1 = i' + 2 by omega] at this) (by omega) ⟨by decide, by decide⟩).mono ?_; rintro e w9 ⟨r9, rfl, hr90, hr93, -, hg9, hgb9⟩; have HG9' : Hid (GAt w9 bG lv xs (i' + 3)) := hid (by rwa [show i' + 2 + 1 = i' + 3 by omega] at hg9); have HGB9 := hid (qo1 HGB8.out hgb9); have HBT9 := hid (HBT8.out.gb hgb9 hGl); have HBS9 := hid (HBS8.out.gb hgb9 hGl hbv2); have hs9 := hgb9.size; have HCO9 := hid (show ∀ b n, qd8 w8 b n 0 → bG < b → qd8 w9 b n 0 from fun b n hc hb9 => hc.keep (qf6 hgb9 (by omega) hc.lt)); clear hg9 hgb9)))
            · have hG9 : bG < w9.heap.size := Nat.lt_of_lt_of_le hGl HGB9.out.size
              have hsl8 : us8.length ≤ 11 := by omega
              have hs90 := HGB9.out.size
              rename (r9 == 0) = true => hx0
              clear hx0
              have HCU9 := hid (show 0 < cs.length → ∃ b, Ac = some ⟨b, 0, none⟩ ∧ wc.heap.size ≤ b ∧ qd8 w9 b cs.length 0 from fun hp => by
                obtain ⟨b, h1, h2, h3⟩ := HCU.out.2 hp
                exact ⟨b, h1, h2, HCO9.out b _ (HCO8.out b _ h3) (by omega)⟩)
              have hfix : ∃ (b9 : Nat) (vs : List Ver), 0 < cs.length → Ac = some ⟨b9, 0, none⟩ ∧ wc.heap.size ≤ b9 ∧ b9 < w9.heap.size ∧ qx2 vs ∧ ∀ w' : World, w'.heap[b9]? = w9.heap[b9]? → ∀ k, k < cs.length → ∃ u : Ver, (u.B ∧ vs[k]? = some u) ∧ zq0 w' b9 (k * 8) u := by
                by_cases hp : 0 < cs.length
                · obtain ⟨b, h1, h2, h3⟩ := HCU9.out hp
                  obtain ⟨vs, ⟨-, h5⟩, h6⟩ := h3.fix
                  exact ⟨b, vs, fun _ => ⟨h1, h2, h3.lt, h5, h6⟩⟩
                · exact ⟨0, [], fun h => absurd h hp⟩
              obtain ⟨b9, vs, hfx⟩ := hfix
              have HFX := hid hfx
              clear hfx
              go_loopw [12, 13] (fun sv iv wr => ∃ (j : Nat) (ds : List CandD) (i3 : Int), j ≤ cs.length ∧ iv = .int .i64 j ∧ ds.length ≤ j ∧ i' + 3 ≤ i3 ∧ i3 ≤ i' + 3 + j ∧ Hid (wr.ownsRow w9.heap.size 63 8 sv ds.length (zg9.all ds) ∧ (∀ d ∈ ds, d.v.B) ∧ (ds.map (·.v)).Sublist (vs.take j)) ∧ Hid (GAt wr bG lv xs i3) ∧ Hid (w9.grownBy wr (some bG))) (fun _ iv _ => cs.length - (intOf iv).toNat)
              case atStart => exact ⟨0, [], i' + 3, by omega, rfl, by simp, by omega, by omega, hid ⟨⟨rfl, .inl ⟨rfl, rfl⟩⟩, (fun d hd => by cases hd), List.nil_sublist _⟩, HG9', hid (zb9 _ _)⟩
              case round =>
                obtain ⟨j3, ds, i3, hj3, rfl, hdl, hi3, hi4, hown3, hg3, hgb3⟩ := hrel
                obtain ⟨As, cS, rfl⟩ := qb1 hown3.out.1
                have hs3 := hgb3.out.size
                have HBT10 := hid (HBT9.out.gb hgb3.out hGl)
                have HBS10 := hid (HBS9.out.gb hgb3.out hGl hbv2)
                have HGB10 := hid (qo1 HGB9.out hgb3.out)
                have hs10 := HGB10.out.size
                have tok5 := hid True.intro
                have tok6 := hid True.intro
                by_cases hjm : j3 < cs.length
                · obtain ⟨rfl, hbw, hbl9, -, hvs⟩ := HFX.out (by omega)
                  have HVS := hid hvs
                  clear hvs
                  have j1 : (0 : Int) ≤ ↑j3 := by omega
                  have j2 : (↑j3 : Int) < ↑cs.length := by omega
                  go_wp2_with (first
                    | (go_at_call 29; clear tok5; go_must (refine (qr9 bG lv xs i3 3 _ hg3.out (by omega) ⟨by decide, by decide⟩).mono ?_; rintro e wd ⟨rd, rfl, -, -, -, hgd, hgbd⟩; have HGD := hid hgd; have HGBD := hid (qo1 hgb3.out hgbd); have HOWND := hid (gb_own hown3.out.1 hgbd hG9); obtain ⟨u, ⟨hu, hvu⟩, hat⟩ := HVS.out _ (qf6 HGBD.out (by omega) hbl9) j3 hjm; have HVU := hid hvu; clear hvu; obtain ⟨c0, c1, c2, c3, c4⟩ := hat; have HU := hid hu; have HONE2 := hid (zg9.one ⟨u, 0⟩); have hsd := HGBD.out.size; clear hgd hgbd hu))
                    | (at_builtin
                       clear tok6
                       go_must (
                       refine qa5 _ rfl (.tmp 81) (.tmp 88) _ rfl w9.heap.size 63 ic _ 8 112 Tryz.underlying53 HIC.out.1 HIC.out.2.1 HIC.out.2.2.1 HIC.out.2.2.2 rfl (by omega) (.slice As ds.length cS) ds.length (zg9.all ds) (by rfl) (by exact HOWND.out.alloc _) (some ⟨wd.heap.size, 0, none⟩) 1 1 (qs9 ⟨u, 0⟩) (by rfl) (by exact qe1 _ _ rfl 8 _ rfl rfl) (by exact HONE2.out) (by unfold maxLen; omega) (by omega) (by simp; omega) ?_
                       intro v11 w11 hown11 hg11 hat11
                       have HOWN11 := hid hown11
                       have hbl11 := qp6 hsd HOWND.out (Nat.le_refl _) _ hg11
                       have HG11 := hid (HGD.out.below hbl11 hG9)
                       have HGB11 := hid (qd5 HGBD.out hbl11 (Nat.le_refl _))
                       clear hown11 hg11 hat11 hbl11)))
                  · refine ⟨⟨j3 + 1, ds ++ [⟨u, 0⟩], i3 + 1, by omega, by go_num, by simp; omega, by omega, by push_cast; omega, hid ⟨?_, ?_, ?_⟩, HG11, HGB11⟩, by simp [intOf]; omega⟩
                    · rw [zg9.all_snoc, List.length_append]
                      exact HOWN11.out
                    · intro d hd
                      rcases List.mem_append.1 hd with hd | hd
                      · exact hown3.out.2.1 d hd
                      · have : d = ⟨u, 0⟩ := by simpa using hd
                        subst this
                        exact HU.out
                    · rw [List.map_append]
                      exact sub_more hown3.out.2.2 HVU.out
                  · exact ⟨⟨j3 + 1, ds, i3 + 1, by omega, by go_num, by omega, by omega, by push_cast; omega, hid ⟨HOWND.out, hown3.out.2.1, hown3.out.2.2.trans (List.take_sublist_take_left (by omega))⟩, HGD, HGBD⟩, by simp [intOf]; omega⟩
                · have HCU3 : Hid (CandU wr w9.heap.size ⟨nm, ⟨#[102]⟩, As, ds.length, cS⟩ 0) := hid (by
                    obtain ⟨A', c', hv, hc⟩ := qx9 hown3.out.1 hown3.out.2.1 (by
                      by_cases hp : 0 < cs.length
                      · exact (HFX.out hp).2.2.2.1.sub hown3.out.2.2
                      · have : ds = [] := List.eq_nil_of_length_eq_zero (by omega)
                        subst this
                        exact .inl (List.nil_sublist _))
                    injection hv with e1 e2 e3
                    subst e1
                    exact ⟨by show ds.length ≤ 4; omega, hc⟩)
                  have n3 := nm_at HBS10.out.1 hk5
                  have HONE3 := hid (qx5.one ⟨nm, ⟨#[102]⟩, As, ds.length, cS⟩)
                  have nq : wr.cell? ⟨w.heap.size, k, none⟩ = some (.string nm) := by
                    rw [← n0]
                    exact (cell_of_row _ _ _ _ _ _ HBS10.out.1).trans (cell_of_row _ _ _ _ _ _ HBSW.out.1).symm
                  clear n3
                  go_wp2_with (first
                    | (at_builtin
                       clear tok6
                       go_must (
                       refine qa5 _ rfl (.tmp 90) (.tmp 97) _ rfl w.heap.size 55 iu _ 3 56 Tryz.underlying24 HIU.out.1 HIU.out.2.1 HIU.out.2.2.1 HIU.out.2.2.2 rfl (by omega) (.slice A8 us8.length c8) us8.length (qx5.all us8) (by rfl) (by exact HBT10.out.own.alloc _) (some ⟨wr.heap.size, 0, none⟩) 1 1 (qx5.cells ⟨nm, ⟨#[102]⟩, As, ds.length, cS⟩) (by rfl) (by exact qe1 _ _ rfl 3 _ rfl rfl) (by exact HONE3.out) (by unfold maxLen; omega) (by omega) (by simp; omega) ?_
                       intro v12 w12 hown12 hg12 hat12
                       obtain ⟨A12, c12, us12, rfl, hl12, hbt12, hbl12, hbs12, hg12', hgb12, hco12, hhd12⟩ := unit_app HBT10.out (one_below HBT9.out (Nat.le_refl _)) HCU3.out (by omega) (by omega) _ hg12 hown12 HBS10.out hg3.out hGl HGB10.out (Nat.le_refl _)
                       have HL12 := hid hl12
                       have hl121 : us12.length ≤ 2 * k + 3 := by omega
                       have hl122 : k + 3 ≤ us12.length := by omega
                       clear hl12
                       have HBT12 := hid hbt12
                       have HBS12 := hid hbs12
                       have HG12 := hid hg12'
                       have HGB12 := hid hgb12
                       have HHD12 := hid hhd12
                       clear hown12 hg12 hat12 hbt12 hbl12 hbs12 hg12' hgb12 hco12 hhd12)))
                  exact ⟨⟨k + 1, us12, i3, by omega, by go_num, by omega, by omega, by omega, by push_cast; omega, HBT12, hid (by rw [HHD12.out, HHD8.out]; exact hhd.out.two HNL.out rfl rfl rfl), HG12, HGB12, HBS12⟩, by simp [intOf]; omega⟩
            · exact ⟨⟨k + 1, us8, i' + 3, by omega, by go_num, by omega, by omega, by omega, by push_cast; omega, HBT9, hid (by rw [HHD8.out]; exact hhd.out.one HNL.out rfl), HG9', HGB9, HBS9⟩, by simp [intOf]; omega⟩
            · exact ⟨⟨k + 1, us8, i' + 2, by omega, by go_num, by omega, by omega, by omega, by push_cast; omega, HBT8, hid (by rw [HHD8.out]; exact hhd.out.one HNL.out rfl), hid (by have := HG8.out; rwa [show i' + 1 + 1 = i' + 2 by omega] at this), HGB8, HBS8⟩, by simp [intOf]; omega⟩
      · go_ret
        exact ⟨Al, cl, us, i' + 1, rfl, HBT2.out, by omega, by omega, hhd.out.named hk, HG2.out, by omega, by omega, HGB2.out⟩
    · have z5 : decide (k < 5) = false := decide_eq_false hk5
      have z5' : decide ((k : Int) < 5) = false := decide_eq_false (by omega)
      have tok := hid True.intro
      go_wp2_with (first
        | (go_at_call 29; clear tok; go_must (refine (qr9 bG lv xs i' most _ hg.out (by omega) ⟨by omega, by omega⟩).mono ?_; rintro e w2 ⟨r, rfl, hr0, hr1, -, hg2, hgb2⟩; have hr2 : r < most := hr1 (by omega); clear hr1; have HG2 := hid hg2; have HGB2 := hid (qo1 hgb.out hgb2); have HBT2 := hid (hbt.out.gb hgb2 hGl); clear hg2 hgb2)))
      all_goals go_ret
      all_goals exact ⟨Al, cl, us, i' + 1, rfl, HBT2.out, by omega, by omega, hhd.out.named hk, HG2.out, by omega, by omega, HGB2.out⟩
end
section
theorem src_own {w : World} {B s n c : Nat} {e : TypeId} {A : Option Addr} {xs : List Value} (h : w.ownsRow B e s (.slice A n c) n xs) : Src w A n s xs := by
 refine ⟨h.1, fun hp => ?_⟩
 rcases h.2 with ⟨_, h0⟩ | ⟨g, cap, cur, hv, hb, hg, h3, h4, h5, h6⟩
 ·omega
 ·injection hv with e1 e2 e3
  refine ⟨⟨g, 0, none⟩, e1, fun j u hu => ?_⟩
  rw [add_mk, Nat.zero_add, cell_of_row w g j cur _ (0, 0) hg, ← Array.getElem?_toList]
  have hj : j < xs.length := (List.getElem?_eq_some_iff.1 hu).1
  rw [← h6] at hu
  rw [List.getElem?_take_of_lt (by rw [← h.1]; exact hj)] at hu
  exact hu
section
variable {B : Nat} {w w' : World} {us : List UnitD} {nf nf' : Nat → Nat}
theorem Built.addr {lv : Value} (h : Built B w lv us nf) (h2 : 0 < us.length) : ∃ g c, lv = .slice (some ⟨g, 0, none⟩) us.length c ∧ B ≤ g ∧ g < w.heap.size := by
 rcases h.own.2 with ⟨_, h0⟩ | ⟨g, cap, cur, hv, hb, hg, h3, h4, h5, h6⟩
 ·omega
 ·exact ⟨g, cap, hv, hb, (Array.getElem?_eq_some_iff.1 hg).1⟩
theorem Built.unitAt {g c : Nat} (h : Built B w (.slice (some ⟨g, 0, none⟩) us.length c) us nf) {k : Nat} (hk : k < us.length) {d : UnitD} (hd : us[k] = d) : w.cell? ⟨g, k * 3, none⟩ = some (.string d.nm) ∧ w.cell? ⟨g, k * 3 + 1, none⟩ = some (.string d.ft) ∧ w.cell? ⟨g, k * 3 + 2, none⟩ = some (.slice d.A d.n d.c) := by
 subst hd
 rcases h.own.2 with ⟨_, h0⟩ | ⟨g', cap, cur, hv, hb, hg, h3, h4, h5, h6⟩
 ·omega
 ·injection hv with e1 e2 e3
  injection e1 with e1
  injection e1 with e1
  subst e1
  have hget : ∀ i, i < 3 → w.cell? ⟨g, k * 3 + i, none⟩ = (qx5.cells us[k])[i]? := by
   intro i hi
   rw [cell_of_row w g _ cur _ (0, 0) hg]
   have hlt : k * 3 + i < us.length * 3 := by omega
   rw [← Array.getElem?_toList, ← List.getElem?_take_of_lt hlt, h6]
   exact qx5.all_get hk (j := i) hi
  exact ⟨hget 0 (by decide), hget 1 (by decide), hget 2 (by decide)⟩
theorem Built.ne {lv : Value} (h : Built B w lv us nf) {b n m : Nat} (hc : qd8 w b n m) : ∀ g, lv.ownBlock = some g → g ≠ b := by
 intro g hg e
 subst e
 obtain ⟨cur, h1, _⟩ := hc
 rcases h.own.2 with ⟨rfl, _⟩ | ⟨g', cap, cur', rfl, _, hgg, _⟩
 ·cases hg
 ·have : g' = g := Option.some.inj hg
  subst this
  rw [hgg] at h1
  injection h1 with h1
  injection h1 with _ h2
  exact absurd h2 (by decide)
theorem Built.setAt {lv : Value} {k j b : Nat} (h : Built B w lv us nf) (hk : k < us.length) {d : UnitD} (hd : us[k] = d) (hA : d.A = some ⟨b, 0, none⟩) (hj : j < d.n) (x : Value) (o : Nat) (ho : o = j * 8 + 6 ∨ o = j * 8 + 7) (h1 : nf k ≤ nf' k) (h1' : o = j * 8 + 6 → j + 1 ≤ nf' k) (h2 : ∀ i, i ≠ k → nf i ≤ nf' i) (h7 : o = j * 8 + 7 → j < nf k) : Built B (w.setCell ⟨b, o, none⟩ x) lv us nf' := by
 subst hd
 obtain ⟨b2, hA2, hb2, hblk⟩ := (h.cands k hk).2 (by omega)
 have hbb : b2 = b := by
  rw [hA] at hA2
  injection hA2 with hA2
  injection hA2 with hA2
  exact hA2.symm
 subst hbb
 have hoth : ∀ g, g ≠ b2 → (w.setCell ⟨b2, o, none⟩ x).heap[g]? = w.heap[g]? := fun g hg => heap_setCell_other _ _ _ _ hg
 refine ⟨qb3 h.own fun g hg => hoth g (h.ne hblk g hg), fun i hi => ⟨(h.cands i hi).1, fun hp => ?_⟩, h.incr⟩
 by_cases hik : i = k
 ·subst hik
  refine ⟨b2, hA, hb2, ?_⟩
  rcases ho with rfl | rfl
  ·exact (hblk.set hj x).1.mono (by have := h1' rfl; omega)
  ·exact ((hblk.set hj x).2 (h7 rfl)).mono h1
 ·obtain ⟨b', hA', hb', hc'⟩ := (h.cands i hi).2 hp
  have hne : b' ≠ b2 := by
   intro e
   subst e
   rcases Nat.lt_or_gt_of_ne hik with hlt | hlt
   ·have := h.incr i k hlt hk b' b' hp (by omega) hA' hA
    omega
   ·have := h.incr k i hlt hi b' b' (by omega) hp hA hA'
    omega
  exact ⟨b', hA', hb', (hc'.keep (hoth _ hne)).mono (h2 i hik)⟩
theorem Built.mono {lv : Value} (h : Built B w lv us nf) (hn : ∀ i, nf i ≤ nf' i) : Built B w lv us nf' :=
 ⟨h.own, fun k hk => ⟨(h.cands k hk).1, fun hp => by obtain ⟨b, h1, h2, h3⟩ := (h.cands k hk).2 hp; exact ⟨b, h1, h2, h3.mono (hn k)⟩⟩, h.incr⟩
theorem zm7 {B' : Nat} {T e' : TypeId} {s' n' g : Nat} {v' : Value} {ys' : List Value} {cs : Array Value} (h : w.heap[g]? = some (.cells cs T (0, 0))) (ho : w.ownsRow B' e' s' v' n' ys') (hne : T ≠ e') (hg : w.grownBy w' v'.ownBlock) : w'.heap[g]? = some (.cells cs T (0, 0)) := by
 have hl : g < w.heap.size := (Array.getElem?_eq_some_iff.1 h).1
 rw [hg.block g hl ?_]
 ·exact h
 ·intro e
  rcases ho.2 with ⟨rfl, _⟩ | ⟨g', cap, cur', rfl, _, hgg, _⟩
  ·cases e
  ·have : g' = g := (Option.some.inj e).symm
   subst this
   rw [hgg] at h
   injection h with h
   injection h with _ h2
   exact hne h2.symm
theorem Built.apart {lv : Value} {B' s' n' : Nat} {e' : TypeId} {v' : Value} {ys' : List Value} (h : Built B w lv us nf) (ho : w.ownsRow B' e' s' v' n' ys') (h1 : 63 ≠ e') (h2 : 55 ≠ e') (hg : w.grownBy w' v'.ownBlock) : Built B w' lv us nf := by
 refine ⟨qb3 h.own fun g hg' => ?_, fun k hk => ⟨(h.cands k hk).1, fun hp => ?_⟩, h.incr⟩
 ·rcases h.own.2 with ⟨hv, _⟩ | ⟨g', cap, cur, hv, hb, hgg, _⟩
  ·rw [hv] at hg'
   cases hg'
  ·rw [hv] at hg'
   have : g' = g := Option.some.inj hg'
   subst this
   rw [zm7 hgg ho h2 hg, hgg]
 ·obtain ⟨b, hA, hb, cur, hc1, hc2⟩ := (h.cands k hk).2 hp
  exact ⟨b, hA, hb, cur, zm7 hc1 ho h1 hg, hc2⟩
theorem zm5 {B' s n : Nat} {e : TypeId} {v : Value} {ys : List Value} (hs : B ≤ w.heap.size) (ho : w.ownsRow B' e s v n ys) (hB : B ≤ B') (hg : w.grownBy w' v.ownBlock) : Below B w w' :=
 Below.grown (Below.refl B w) hg hs (fun k hk => Nat.le_trans hB (ho.lt k hk).1)
theorem Built.cell {lv : Value} {k b j : Nat} (h : Built B w lv us nf) (hk : k < us.length) {d : UnitD} (hd : us[k] = d) (hA : d.A = some ⟨b, 0, none⟩) (hj : j < d.n) : (∃ nv bv, w.cell? ⟨b, j * 8 + 6, none⟩ = some nv ∧ w.cell? ⟨b, j * 8 + 7, none⟩ = some bv) ∧ (∀ o, w.frozen? ⟨b, o, none⟩ = false) ∧ b < w.heap.size := by
 subst hd
 obtain ⟨b2, hA2, hb2, hblk⟩ := (h.cands k hk).2 (by omega)
 rw [hA] at hA2
 injection hA2 with hA2
 injection hA2 with hA2
 subst hA2
 obtain ⟨⟨nv, bv, h1, h2, _⟩, h3⟩ := hblk.needsAt hj
 exact ⟨⟨nv, bv, h1, h2⟩, h3, hblk.lt⟩
end
def nfK (k j : Nat) : Nat → Nat := fun i => if i < k then 4 else if i = k then j else 0
def Frm (R : Nat) (w : World) : Nat → Prop := fun k => R ≤ k ∧ k < w.heap.size
def zb4 (R m : Nat) (w : World) (v : Value) : Prop := ∃ ns : List (List WantD), SliceRd (qk2 qh5) w (Frm R w) v ns ∧ ns.length ≤ 4 ∧ ∀ r ∈ ns, RowT m r
def zm4 (R m : Nat) (w : World) (v : Value) : Prop := ∃ bs : List WantD, SliceRd qh5 w (Frm R w) v bs ∧ zf7 m bs ∧ ∀ x ∈ bs, 1 ≤ x.u
def Dat (B R m : Nat) (w : World) (us : List UnitD) : Prop := R ≤ w.heap.size ∧ ∀ k, (hk : k < us.length) → ∀ b, 0 < us[k].n → us[k].A = some ⟨b, 0, none⟩ → B ≤ b ∧ b < R ∧ b < w.heap.size ∧
 ∀ j, j < us[k].n → ∃ nv bv, w.cell? ⟨b, j * 8 + 6, none⟩ = some nv ∧ w.cell? ⟨b, j * 8 + 7, none⟩ = some bv ∧ zb4 R m w nv ∧ zm4 R m w bv
theorem cell_far {w : World} {b o o' : Nat} {x : Value} (ho : o' ≠ o) : (w.setCell ⟨b, o, none⟩ x).cell? ⟨b, o', none⟩ = w.cell? ⟨b, o', none⟩ := by simp [go_sem]
theorem qt1 {w : World} {b o : Nat} {x y : Value} (h : w.cell? ⟨b, o, none⟩ = some y) : (w.setCell ⟨b, o, none⟩ x).cell? ⟨b, o, none⟩ = some x := by simp [go_sem, h]
structure But (B M b o : Nat) (w w' : World) : Prop where
 blocks : ∀ g, B ≤ g → g < M → g ≠ b → w'.heap[g]? = w.heap[g]?
 cells : ∀ o', o' ≠ o → w'.cell? ⟨b, o', none⟩ = w.cell? ⟨b, o', none⟩
 size : w.heap.size ≤ w'.heap.size
 top : M ≤ w.heap.size
section
variable {B R m M b o bG : Nat} {w w1 w2 : World} {us : List UnitD} {v : Value}
theorem zb4.keep (h : zb4 R m w v) (hk : ∀ k, R ≤ k → k < w.heap.size → w1.heap[k]? = w.heap[k]?) (hs : w.heap.size ≤ w1.heap.size) : zb4 R m w1 v := by
 obtain ⟨ns, h1, h2⟩ := h
 exact ⟨ns, (h1.keep fun k hk' => hk k hk'.1 hk'.2).more fun k hk' => ⟨hk'.1, Nat.lt_of_lt_of_le hk'.2 hs⟩, h2⟩
theorem zm4.keep (h : zm4 R m w v) (hk : ∀ k, R ≤ k → k < w.heap.size → w1.heap[k]? = w.heap[k]?) (hs : w.heap.size ≤ w1.heap.size) : zm4 R m w1 v := by
 obtain ⟨ns, h1, h2⟩ := h
 exact ⟨ns, (h1.keep fun k hk' => hk k hk'.1 hk'.2).more fun k hk' => ⟨hk'.1, Nat.lt_of_lt_of_le hk'.2 hs⟩, h2⟩
theorem Dat.keep (h : Dat B R m w us) (hB : B ≤ R) (hk : ∀ k, B ≤ k → k < w.heap.size → w1.heap[k]? = w.heap[k]?) (hs : w.heap.size ≤ w1.heap.size) : Dat B R m w1 us := by
 refine ⟨Nat.le_trans h.1 hs, fun k hk' b hn hA => ?_⟩
 obtain ⟨h1, h2, h3, h4⟩ := h.2 k hk' b hn hA
 refine ⟨h1, h2, by omega, fun j hj => ?_⟩
 obtain ⟨nv, bv, e1, e2, e3, e4⟩ := h4 j hj
 exact ⟨nv, bv, (World.cell?_of_block (hk b h1 h3)).trans e1, (World.cell?_of_block (hk b h1 h3)).trans e2, e3.keep (fun k hk' => hk k (Nat.le_trans hB hk')) hs, e4.keep (fun k hk' => hk k (Nat.le_trans hB hk')) hs⟩
theorem Dat.gb (h : Dat B R m w us) (hB : B ≤ R) (hg : w.grownBy w1 (some bG)) (hG : bG < B) : Dat B R m w1 us := h.keep hB (fun _ h1 h2 => qf6 hg (by omega) h2) hg.size
theorem Dat.below (h : Dat B R m w us) (hB : B ≤ R) (hb : Below M w w1) (hM : w.heap.size ≤ M) : Dat B R m w1 us := h.keep hB (fun _ _ h2 => hb.block _ (by omega)) hb.size
theorem But.refl (B b o : Nat) (w : World) : But B w.heap.size b o w w := ⟨fun _ _ _ _ => rfl, fun _ _ => rfl, Nat.le_refl _, Nat.le_refl _⟩
theorem But.below (h : But B M b o w w1) (hb : Below w1.heap.size w1 w2) (hl : b < M) : But B M b o w w2 :=
 ⟨fun g h1 h2 h3 => (hb.block g (by have := h.size; have := h.top; omega)).trans (h.blocks g h1 h2 h3), fun o' ho => (World.cell?_of_block (hb.block b (by have := h.size; have := h.top; omega))).trans (h.cells o' ho), Nat.le_trans h.size hb.size, h.top⟩
theorem But.gb (h : But B M b o w w1) (hg : w1.grownBy w2 (some bG)) (hl : b < M) (hB : B ≤ b) (hG : bG < B) : But B M b o w w2 :=
 ⟨fun g h1 h2 h3 => (qf6 hg (by omega) (by have := h.size; have := h.top; omega)).trans (h.blocks g h1 h2 h3), fun o' ho => (World.cell?_of_block (qf6 (g := b) hg (by omega) (by have := h.size; have := h.top; omega))).trans (h.cells o' ho), Nat.le_trans h.size hg.size, h.top⟩
theorem But.app {ob : Option Nat} (h : But B M b o w w1) (hg : w1.grownBy w2 ob) (hl : b < M) (hM : ∀ g, ob = some g → M ≤ g) : But B M b o w w2 :=
 ⟨fun g h1 h2 h3 => (hg.block g (by have := h.size; have := h.top; omega) (fun e => by have := hM g e.symm; omega)).trans (h.blocks g h1 h2 h3), fun o' ho => (World.cell?_of_block (hg.block b (by have := h.size; have := h.top; omega) (fun e => by have := hM b e.symm; omega))).trans (h.cells o' ho), Nat.le_trans h.size hg.size, h.top⟩
theorem But.set (h : But B M b o w w1) (x : Value) : But B M b o w (w1.setCell ⟨b, o, none⟩ x) :=
 ⟨fun g h1 h2 h3 => (heap_setCell_other _ _ _ _ h3).trans (h.blocks g h1 h2 h3), fun o' ho => (cell_far ho).trans (h.cells o' ho), by have := h.size; simpa using this, h.top⟩
theorem Dat.fill {k j : Nat} {lv : Value} {nf : Nat → Nat} (h : Dat B R m w us) (hB : B ≤ R) (hbt : Built B w lv us nf) (hk : k < us.length) {d : UnitD} (hd : us[k] = d) (hA : d.A = some ⟨b, 0, none⟩) (hj : j < d.n) (hw : But B w.heap.size b o w w1)
  (ho : (o = j * 8 + 6 ∧ ∃ nv, w1.cell? ⟨b, o, none⟩ = some nv ∧ zb4 R m w1 nv) ∨ (o = j * 8 + 7 ∧ ∃ bv, w1.cell? ⟨b, o, none⟩ = some bv ∧ zm4 R m w1 bv)) : Dat B R m w1 us := by
 subst hd
 have hn0 : 0 < us[k].n := by omega
 have hbR := (h.2 k hk b hn0 hA).2.1
 have hkR : ∀ g, R ≤ g → g < w.heap.size → w1.heap[g]? = w.heap[g]? := fun g h1 h2 => hw.blocks g (by omega) h2 (by omega)
 refine ⟨Nat.le_trans h.1 hw.size, fun k2 hk2 b2 hn hA2 => ?_⟩
 obtain ⟨h1, h2, h3, h4⟩ := h.2 k2 hk2 b2 hn hA2
 refine ⟨h1, h2, by have := hw.size; omega, fun i hi => ?_⟩
 obtain ⟨nv, bv, e1, e2, e3, e4⟩ := h4 i hi
 by_cases hkk : k2 = k
 ·subst hkk
  have hbb : b2 = b := by
   rw [hA] at hA2
   injection hA2 with hA2
   injection hA2 with hA2
   exact hA2.symm
  subst hbb
  have c6 : i * 8 + 6 ≠ o → w1.cell? ⟨b2, i * 8 + 6, none⟩ = some nv := fun hh => (hw.cells _ hh).trans e1
  have c7 : i * 8 + 7 ≠ o → w1.cell? ⟨b2, i * 8 + 7, none⟩ = some bv := fun hh => (hw.cells _ hh).trans e2
  have n3 := e3.keep hkR hw.size
  have n4 := e4.keep hkR hw.size
  rcases ho with ⟨rfl, nv', f1, f2⟩ | ⟨rfl, bv', f1, f2⟩
  ·by_cases hij : i = j
   ·subst hij
    exact ⟨nv', bv, f1, c7 (by omega), f2, n4⟩
   ·exact ⟨nv, bv, c6 (by omega), c7 (by omega), n3, n4⟩
  ·by_cases hij : i = j
   ·subst hij
    exact ⟨nv, bv', c6 (by omega), f1, n3, f2⟩
   ·exact ⟨nv, bv, c6 (by omega), c7 (by omega), n3, n4⟩
 ·have hne : b2 ≠ b := by
   intro e
   subst e
   rcases Nat.lt_or_gt_of_ne hkk with hlt | hlt
   ·have := hbt.incr k2 k hlt hk b2 b2 hn hn0 hA2 hA
    omega
   ·have := hbt.incr k k2 hlt hk2 b2 b2 hn0 hn hA hA2
    omega
  have eb := hw.blocks b2 h1 h3 hne
  exact ⟨nv, bv, (World.cell?_of_block eb).trans e1, (World.cell?_of_block eb).trans e2, e3.keep hkR hw.size, e4.keep hkR hw.size⟩
theorem Built.dat {lv : Value} (h : Built B w lv us (fun _ => 0)) : Dat B w.heap.size m w us := by
 refine ⟨Nat.le_refl _, fun k hk b hn hA => ?_⟩
 obtain ⟨b2, hA2, hb2, hblk⟩ := (h.cands k hk).2 hn
 have hbb : b2 = b := by
  rw [hA] at hA2
  injection hA2 with hA2
  injection hA2 with hA2
  exact hA2.symm
 subst hbb
 refine ⟨hb2, hblk.lt, hblk.lt, fun j hj => ?_⟩
 obtain ⟨e1, e2⟩ := hblk.nilAt hj (Nat.zero_le _)
 exact ⟨_, _, e1, e2, ⟨[], SliceRd.nil _ _ _, by simp, fun r hr => by cases hr⟩, ⟨[], SliceRd.nil _ _ _, ⟨by simp, fun r hr => by cases hr⟩, fun r hr => by cases hr⟩⟩
theorem zf7.app {l l5 : List (List WantD)} (h : ∀ r ∈ l, RowT m r) (h5 : ∀ r ∈ l5, RowT m r) : ∀ r ∈ l ++ l5, RowT m r := fun r hr => (List.mem_append.1 hr).elim (h r) (h5 r)
theorem OwnT.needsIn {T : TypeId} {l : List (List WantD)} {xs : List Value} {x : Value} (h : OwnT (qk2 qh5) T w M v l xs) (hR : R ≤ M) (hb : b < M) (hl : l.length ≤ 4) (hok : ∀ r ∈ l, RowT m r) : zb4 R m (w.setCell ⟨b, o, none⟩ x) v :=
 ⟨l, (h.rdF.keep (fun k hk => heap_setCell_other _ _ _ _ (by have := hk.1; show k ≠ b; omega))).more fun k hk => ⟨Nat.le_trans hR hk.1, by have := hk.2; simpa using this⟩, hl, hok⟩
theorem want_row {T : TypeId} {x : WantD} {cs : List Value} {ca : Array Value} (hx : qh5.rd w (Btw M w) cs x) (hM : M ≤ w.heap.size) (hc : ca.toList = cs) : OwnT qh5 T (w.alloc (.cells ca T)) M (.slice (some ⟨w.heap.size, 0, none⟩) 1 1) [x] cs :=
 OwnT.one (qh5.more (fun _ hb => ⟨Nat.le_of_lt hb.1, hb.2⟩) hx) hM hc
theorem barsIn {T : TypeId} {x : WantD} {cs : List Value} {ca : Array Value} (hx : qh5.rd w (Btw M w) cs x) (hM : M ≤ w.heap.size) (hc : ca.toList = cs) (hR : R ≤ M) (hb : b ≤ M) (hok : x.ok m ∧ 1 ≤ x.u) (y : Value) : zm4 R m ((w.setCell ⟨b, o, none⟩ y).alloc (.cells ca T)) (.slice (some ⟨w.heap.size, 0, none⟩) 1 1) := by
 have hx2 : qh5.rd (w.setCell ⟨b, o, none⟩ y) (Btw M (w.setCell ⟨b, o, none⟩ y)) cs x := qh5.more (fun k hk => ⟨hk.1, by have := hk.2; simpa using this⟩) (qh5.keep (fun k hk => heap_setCell_other _ _ _ _ (by have := hk.1; show k ≠ b; omega)) hx)
 have h := (want_row (T := T) hx2 (by simpa using hM) hc).rdF
 rw [World.size_setCell] at h
 refine ⟨[x], h.more fun k hk => ⟨Nat.le_trans hR hk.1, hk.2⟩, ⟨by show 1 ≤ 2; omega, fun z hz => ?_⟩, fun z hz => ?_⟩
 ·have : z = x := by simpa using hz
  subst this
  exact hok.1
 ·have : z = x := by simpa using hz
  subst this
  exact hok.2
theorem feat_row {M : Nat} {T T' : TypeId} {u : Int} {va va' : Value} {La Ma : List Span} {ca ca2 : Array Value} (h1 : qa8 M w va La) (h2 : qa8 M w va' Ma) (hb : b < M) (hM : M ≤ w.heap.size) (hu : I64 u) (hc : ca.toList = [.int .i64 u, va, va']) (y : Value) (hc2 : ca2.toList = [.slice (some ⟨w.heap.size, 0, none⟩) 1 1]) :
  OwnT (qk2 qh5) T' (((w.setCell ⟨b, o, none⟩ y).alloc (.cells ca T)).alloc (.cells ca2 T')) M (.slice (some ⟨w.heap.size + 1, 0, none⟩) 1 1) [[⟨u, ⟨La, Ma⟩⟩]] [.slice (some ⟨w.heap.size, 0, none⟩) 1 1] := by
 have hrd : ∀ {z : Value} {K : List Span}, qa8 M w z K → SliceRd qd6.ty (w.setCell ⟨b, o, none⟩ y) (fun k => M ≤ k ∧ k < (w.setCell ⟨b, o, none⟩ y).heap.size) z K := fun hz => by
  have h0 : SliceRd qd6.ty w (fun k => M ≤ k ∧ k < w.heap.size) _ _ := qf8 (f := qd6) hz.1 hz.2 (fun g hg => hz.1.lt g hg)
  exact (h0.keep (fun k hk => heap_setCell_other _ _ _ _ (by have := hk.1; show k ≠ b; omega))).more fun k hk => ⟨hk.1, by have := hk.2; simpa using this⟩
 have hi : OwnT qh5 T ((w.setCell ⟨b, o, none⟩ y).alloc (.cells ca T)) M (.slice (some ⟨(w.setCell ⟨b, o, none⟩ y).heap.size, 0, none⟩) 1 1) [⟨u, ⟨La, Ma⟩⟩] [.int .i64 u, va, va'] :=
  OwnT.one (t := qh5) (x := (⟨u, ⟨La, Ma⟩⟩ : WantD)) ⟨va, va', rfl, hu, va, va', rfl, hrd h1, hrd h2⟩ (by simpa using hM) hc
 have hs : (w.setCell ⟨b, o, none⟩ y).heap.size = w.heap.size := by simp
 rw [hs] at hi
 have hj := OwnT.one (e := T') (t := qk2 qh5) (B := M) (x := [(⟨u, ⟨La, Ma⟩⟩ : WantD)]) (cs := [.slice (some ⟨w.heap.size, 0, none⟩) 1 1]) (ca := ca2) (w := (w.setCell ⟨b, o, none⟩ y).alloc (.cells ca T)) ⟨_, rfl, hi.rdF⟩ (by simp; omega) hc2
 have hs2 : ((w.setCell ⟨b, o, none⟩ y).alloc (.cells ca T)).heap.size = w.heap.size + 1 := by simp
 rw [hs2] at hj
 exact hj
theorem OwnT.joined {B5 n5 c5 : Nat} {A5 : Option Addr} {T : TypeId} {v v' : Value} {l l5 : List (List WantD)} {xs ys : List Value} (h : OwnT (qk2 qh5) T w B v l xs) (h5 : OwnT (qk2 qh5) T w B5 (.slice A5 n5 c5) l5 ys) (hB : B ≤ B5) (hv : ∀ g, v.ownBlock = some g → g < B5)
  (ho : w1.ownsRow B T 1 v' (l.length + l5.length) (xs ++ ys)) (hg : w.grownBy w1 v.ownBlock) (hnew : v'.ownBlock = v.ownBlock ∨ v'.ownBlock = some w.heap.size) : OwnT (qk2 qh5) T w1 B v' (l ++ l5) (xs ++ ys) :=
 h.append (fun k hk => by
  obtain ⟨cs, h1, h2, h3⟩ := h5.el k hk
  exact ⟨cs, h1, h2, (qk2 qh5).more (fun b hb => ⟨Nat.le_trans hB hb.1, hb.2.1, fun e => by have := hv b e; omega⟩) h3⟩) ho hg hnew
end
def WorldPost (w : World) (e : Ending) (w' : World) : Prop :=
 ∃ (g c : Nat) (us : List UnitD) (nf : Nat → Nat), e = .returned (.agg #[.slice (some ⟨g, 0, none⟩) us.length c]) ∧ Built (w.heap.size + 2) w' (.slice (some ⟨g, 0, none⟩) us.length c) us nf ∧ 2 ≤ us.length ∧ us.length ≤ 11 ∧ Named us ∧ Below w.heap.size w w' ∧ ∃ R, Dat (w.heap.size + 2) R us.length w' us
end
end Go.Proofs.YtbfbppjccbppiaaGreatDoor
