import Derived.Test.YthneiolcljnbeaaGreatDoorG6
import Derived.Outline
namespace Go.Proofs.YthneiolcljnbeaaGreatDoor
open Go Go.RowKit
theorem empty_no : ¬ (!(⟨#[]⟩ : ByteArray).toList.isEmpty) = true := by decide +kernel
theorem wantss_info : (Tryz.prog.info? 53).map (fun i => (i.zero, i.size, i.bytes)) = some (some (.slice none 0 0), 1, 24) := by kernel_rfl
set_option maxRecDepth 100000 in
set_option maxHeartbeats 4000000 in
theorem world_any (lv : Value) (xs : List Int) (most : Int) (w : World) (h : SliceRd tInt w (Lt w.heap.size) lv xs) (hm1 : 1 ≤ most) (hm2 : most ≤ 5) :
  Calls Tryz.prog 4 #[lv, .int .i64 most] w (WorldPost w) := by
 obtain ⟨A0, cap0, rfl, -⟩ := h.ints
 obtain ⟨iv, hiv⟩ := info_parts wantss_info
 have HIV := hid hiv
 have HX := hid h
 clear h hiv
 go_enter Tryz.func4, Tryz.ntmps4
 go_wp2_with fail
 obtain ⟨w0, hw0⟩ : ∃ w0 : World, w0 = (w.alloc (.cells #[.slice none 0 0] 25)).alloc (.cells #[.slice A0 xs.length cap0, .int .i64 0] 47) := ⟨_, rfl⟩
 have hz0 : w0.heap.size = w.heap.size + 2 := by rw [hw0]; simp
 have HB0 : Hid (Below w.heap.size w w0) := hid (by rw [hw0]; exact balloc (balloc (b0 w) _) _)
 have HG0 : Hid (GAt w0 (w.heap.size + 1) (.slice A0 xs.length cap0) xs 0) := hid (by
  refine ⟨?_, (HX.out.keep fun k hk => HB0.out.block k hk).more fun k hk => Nat.lt_succ_of_lt hk, by omega⟩
  rw [hw0]
  have := heap_alloc_new (w.alloc (.cells #[.slice none 0 0] 25)) (.cells #[.slice A0 xs.length cap0, .int .i64 0] 47)
  rwa [World.size_alloc] at this)
 have HR0 : Hid (w0.heap[w.heap.size]? = some (.cells #[.slice none 0 0] 25 (0, 0))) := hid (by
  rw [hw0, Below.heap_alloc _ _ _ (by simp)]
  exact heap_alloc_new w _)
 show Calls _ _ _ ((w.alloc (.cells #[.slice none 0 0] 25)).alloc _) _
 rw [← hw0]
 clear hw0
 refine (units_g _ _ xs 0 most _ HG0.out (by omega) hm1 hm2).mono ?_
 rintro e w1 ⟨A, c, us, i1, rfl, hbt, hl2, hl11, hhd, hg1, hi1, hi1', hgb1⟩
 obtain ⟨g, c', hv, hgB, hgl⟩ := hbt.addr (by omega)
 injection hv with e1 e2 e3
 subst e1 e3
 have HBT1 := hid hbt
 have HG1 := hid hg1
 have HGB1 := hid hgb1
 have hs1 := hgb1.size
 have HHD := hid hhd
 obtain ⟨d0, hd0⟩ : ∃ d0, us[0]'(by omega) = d0 := ⟨_, rfl⟩
 have HD0 := hid hd0
 have hn0 : d0.n = 1 := by
  rw [← hd0]
  cases us with
  | nil => cases hhd.1
  | cons x us => exact Option.some.inj hhd.1
 obtain ⟨b, hA, hbB, hblk⟩ := (hbt.cands 0 (by omega)).2 (by rw [hd0, hn0]; decide)
 rw [hd0] at hA
 obtain ⟨nm0, ft0, Ad0, nd0, cd0⟩ := d0
 dsimp only at hA hn0
 subst hA hn0
 have hbl := hblk.lt
 have x2 : w1.cell? ⟨g, 2, none⟩ = some (.slice (some ⟨b, 0, none⟩) 1 cd0) := by simpa using (hbt.unitAt (k := 0) (by omega) hd0).2.2
 have HFZ := hid (fun (wx : World) (hh : CandBlk wx b 1 0) o => (hh.needsAt (k := 0) (by decide)).2 o)
 rw [hd0] at hblk
 have HBLK := hid hblk
 obtain ⟨R0, hR0⟩ : ∃ R0 : Nat, w1.heap.size = R0 := ⟨_, rfl⟩
 have HDT1 : Hid (Dat (w.heap.size + 2) R0 us.length w1 us) := hid (by
  have := hbt.dat (m := us.length)
  rw [hz0, hR0] at this
  exact this)
 have hBR : w.heap.size + 2 ≤ R0 := by omega
 clear hbt hg1 hgb1 hhd hd0 hblk
 go_wp2
 have hl0 : (0 : Int) < ↑us.length := by omega
 have HD1 : Hid (Below w1.heap.size w1 w1.drew) := hid (b0 w1).drew
 have HU1 : Hid (UnitsRd w1.drew (Not1 (w.heap.size + 1) w1.drew) (.slice (some ⟨g, 0, none⟩) us.length c) us.length) := hid ((HBT1.out.below HD1.out (Nat.le_refl _)).rd (by omega) hl2 (by omega))
 have HG1' := hid (HG1.out.below HD1.out HG1.out.lt)
 have HGB1' := hid (gb_below HGB1.out HD1.out (by omega))
 have HBT1' := hid (HBT1.out.below HD1.out (Nat.le_refl _))
 have HBLK1' := hid (HBLK.out.keep (HD1.out.block _ hbl))
 have HDT1' := hid (HDT1.out.below hBR HD1.out (Nat.le_refl _))
 first
  | go_must (go_region_with ((go_at_call 15; go_must (refine (needs_g _ _ xs i1 3 _ us.length _ HG1'.out (by omega) (by omega) (by omega) HU1.out).mono ?_; rintro e w2 ⟨A2, c2, ns2, cs2, i2, rfl, hown2, hn2, -, hok2, hg2, hi2, hi2', hgb2⟩; have HG2 := hid hg2; have HGB2 := hid (gb_gb HGB1'.out hgb2); have HBT2 := hid (HBT1'.out.gb hgb2 (by omega)); have HBLK2 := hid (HBLK1'.out.keep (gb_block hgb2 (by omega) hbl)); have x3 : w2.cell? ⟨g, 2, none⟩ = some (.slice (some ⟨b, 0, none⟩) 1 cd0) := gb_cell hgb2 (by omega) x2; obtain ⟨⟨nv, bv, y6, y7, -⟩, yf⟩ := HBLK2.out.needsAt (k := 0) (by decide); have hBL := (Below.refl (w.heap.size + 2) w2).setCell (p := ⟨b, 6, none⟩) (show w.heap.size + 2 ≤ b by omega) (.slice A2 ns2.length c2); have HBT3 := hid (show Built (w.heap.size + 2) (w2.setCell ⟨b, 6, none⟩ (.slice A2 ns2.length c2)) (.slice (some ⟨g, 0, none⟩) us.length c) us (nfK 1 0) from (hz0 ▸ HBT2.out).setAt (k := 0) (j := 0) (by omega) HD0.out rfl Nat.zero_lt_one _ 6 (.inl rfl) (Nat.zero_le _) (fun _ => by decide) (fun _ _ => Nat.zero_le _) (fun h => absurd h (by decide))); have HDT3 := hid (Dat.fill (k := 0) (j := 0) (o := 6) (HDT1'.out.gb hBR hgb2 (by omega)) hBR (show Built (w.heap.size + 2) w2 (.slice (some ⟨g, 0, none⟩) us.length c) us (fun _ => 0) from (hz0 ▸ HBT2.out)) (by omega) HD0.out rfl Nat.zero_lt_one ((But.refl (w.heap.size + 2) b 6 w2).set (.slice A2 ns2.length c2)) (.inl ⟨rfl, _, cell_here y6, hown2.needsIn (Nat.le_of_eq hR0.symm) hbl (by omega) hok2⟩)); have HG3 := hid (HG2.out.below hBL (by omega)); have HGB3 := hid (gb_below HGB2.out hBL (by omega)); clear hBL hg2 hgb2 hown2))))
  | fail
 all_goals go_wp2
 all_goals
  go_loopw [7] (fun kv wr => ∃ (k : Nat) (i' : Int), 1 ≤ k ∧ k ≤ us.length ∧ kv = .int .i64 k ∧ 0 ≤ i' ∧ i' ≤ 200 + 100 * k ∧ Hid (Built (w.heap.size + 2) wr (.slice (some ⟨g, 0, none⟩) us.length c) us (nfK k 0)) ∧ Hid (GAt wr (w.heap.size + 1) (.slice A0 xs.length cap0) xs i') ∧ Hid (w0.grownBy wr (some (w.heap.size + 1))) ∧ Hid (Dat (w.heap.size + 2) R0 us.length wr us)) (fun kv _ => us.length - (intOf kv).toNat)
  case atStart => exact ⟨1, i2, by omega, by omega, rfl, by omega, by omega, HBT3, HG3, HGB3, HDT3⟩
  case round =>
   obtain ⟨k, i', hk1, hk2, rfl, hi0, hi2, hbt, hg, hgb, hdt⟩ := hrel
   by_cases hk : k < us.length
   ·obtain ⟨d, hd⟩ : ∃ d, us[k] = d := ⟨_, rfl⟩
    have HD := hid hd
    have hdn : d.n ≤ 4 := by have := (hbt.out.cands k hk).1; rwa [hd] at this
    obtain ⟨nm, ft, Ad, nd, cd⟩ := d
    dsimp only at hdn
    have HFT : Hid (2 ≤ k ∨ ft = ⟨#[]⟩) := hid (by
     rcases Nat.lt_or_ge k 2 with h2 | h2
     ·right
      have h1 : k = 1 := by omega
      subst h1
      have := HHD.out.first hk
      rw [hd] at this
      exact this
     ·exact .inl h2)
    clear hd
    have k1 : (0 : Int) ≤ ↑k := by omega
    have k2 : (↑k : Int) < ↑us.length := by omega
    go_wp2_with fail
    go_loopw [8] (fun jv wr => ∃ (j : Nat) (i3 : Int), j ≤ nd ∧ jv = .int .i64 j ∧ i' ≤ i3 ∧ i3 ≤ i' + 24 * j ∧ Hid (Built (w.heap.size + 2) wr (.slice (some ⟨g, 0, none⟩) us.length c) us (nfK k j)) ∧ Hid (GAt wr (w.heap.size + 1) (.slice A0 xs.length cap0) xs i3) ∧ Hid (w0.grownBy wr (some (w.heap.size + 1))) ∧ Hid (Dat (w.heap.size + 2) R0 us.length wr us)) (fun jv _ => nd - (intOf jv).toNat)
    case atStart => exact ⟨0, i', by omega, rfl, by omega, by omega, hbt, hg, hgb, hdt⟩
    case round =>
     obtain ⟨j, i3, hj, rfl, hi3, hi4, hbt3, hg3, hgb3, hdt3⟩ := hrel
     have hR0r : R0 ≤ wr.heap.size := hdt3.out.1
     obtain ⟨y0, y1, y2⟩ := hbt3.out.unitAt hk HD.out
     dsimp only at y0 y1 y2
     by_cases hjn : j < nd
     ·obtain ⟨b', rfl, hbB', hblk'⟩ : ∃ b', Ad = some ⟨b', 0, none⟩ ∧ w.heap.size + 2 ≤ b' ∧ CandBlk wr b' nd (nfK k j k) := by
       have := (hbt3.out.cands k hk).2
       rw [HD.out] at this
       exact this (by show 0 < nd; omega)
      obtain ⟨u, hu, hat⟩ := hblk'.verAt hjn
      obtain ⟨c0, c1, c2, c3, c4⟩ := hat
      obtain ⟨⟨nv, bv, n6, n7, hnil⟩, nfz⟩ := hblk'.needsAt hjn
      have hnil' := hnil (by simp [nfK])
      subst hnil'
      have HU := hid hu
      have HBK := hid hblk'
      clear hnil hu hblk'
      have j1 : (0 : Int) ≤ ↑j := by omega
      have j2 : (↑j : Int) < ↑nd := by omega
      have tok := hid True.intro
      go_wp2_with (first
       | (go_at_call 16; clear tok; go_must (refine (exact_any _ _ _ _ _ _ HU.out).mono ?_; rintro e wa ⟨va, va', La, Ma, rfl, hoa, hoa', hla, hla', hma, hba⟩; have HMA := hid hma; clear hma; obtain ⟨Aa, ca, rfl⟩ := hoa.form; obtain ⟨Aa', ca', rfl⟩ := hoa'.form; have HBA := hid hba; have HOA := hid hoa; have HOA' := hid hoa'; have hbr : b' < wr.heap.size := HBK.out.lt; obtain ⟨⟨nv, bv2, n6a, n7a, hnil⟩, nfa⟩ := (HBK.out.keep (hba.block b' hbr)).needsAt hjn; have hnil' := hnil (by simp [nfK]); subst hnil'; have hba1 : b' < wa.heap.size := Nat.lt_of_lt_of_le hbr hba.size; have hba2 : b' < wa.heap.size + 1 := (by omega); have hba3 : b' ≠ wa.heap.size := (by omega); have hba4 : b' ≠ wa.heap.size + 1 := (by omega); clear hoa hoa' hba hnil)))
      ·obtain ⟨wq, hwq⟩ : ∃ wq : World, wq = ((wa.setCell ⟨b', j * 8 + 6, none⟩ (.slice (some ⟨wa.heap.size + 1, 0, none⟩) 1 1)).alloc (.cells #[.int .i64 (↑k - 1), .slice Aa La.length ca, .slice Aa' Ma.length ca'] 65)).alloc (.cells #[.slice (some ⟨wa.heap.size, 0, none⟩) 1 1] 53) := ⟨_, rfl⟩
       rw [← hwq]
       obtain ⟨R, hR⟩ : ∃ R : Nat, R = wr.heap.size := ⟨_, rfl⟩
       have hRw : w.heap.size + 2 ≤ R := by have := hgb3.out.size; omega
       have hBQ : Below (w.heap.size + 2) wr wq := by
        rw [hwq]
        exact (((Below.mono HBA.out (by omega)).setCell (p := ⟨b', j * 8 + 6, none⟩) (show w.heap.size + 2 ≤ b' by omega) _).alloc (by have := HBA.out.size; simp; omega) _).alloc (by have := HBA.out.size; simp; omega) _
       have HBTQ : Hid (Built (w.heap.size + 2) wq (.slice (some ⟨g, 0, none⟩) us.length c) us (nfK k (j + 1))) := hid (by
        rw [hwq]
        have h1 := (hbt3.out.below HBA.out (Nat.le_refl _)).setAt (nf' := nfK k (j + 1)) hk HD.out rfl hjn (.slice (some ⟨wa.heap.size + 1, 0, none⟩) 1 1) (j * 8 + 6) (.inl rfl) (by simp [nfK]) (by simp [nfK]) (fun i hi => by simp [nfK, hi]) (fun h => absurd h (by omega))
        exact (h1.below (balloc (b0 _) _) (Nat.le_refl _)).below (balloc (b0 _) _) (Nat.le_refl _))
       have HGQ := hid (hg3.out.below hBQ (by omega))
       have HGBQ := hid (gb_below hgb3.out hBQ (by omega))
       have hsQ : R ≤ wq.heap.size := by rw [hR]; exact hBQ.size
       have HBUQ : Hid (But (w.heap.size + 2) wr.heap.size b' (j * 8 + 6) wr wq) := hid (by
        rw [hwq]
        exact ((((But.refl (w.heap.size + 2) b' (j * 8 + 6) wr).below HBA.out hbr).set _).below (balloc (b0 _) _) hbr).below (balloc (b0 _) _) hbr)
       obtain ⟨An, cn, nsq, csn, hnn, n6q, hnv, hokq⟩ : ∃ (An : Option Addr) (cn : Nat) (nsq : List (List WantD)) (csn : List Value), nsq.length ≤ 1 ∧ wq.cell? ⟨b', j * 8 + 6, none⟩ = some (.slice An nsq.length cn) ∧ OwnT (tSlice tWant) 53 wq R (.slice An nsq.length cn) nsq csn ∧ ∀ r ∈ nsq, RowT us.length r := by
        refine ⟨some ⟨wa.heap.size + 1, 0, none⟩, 1, [[⟨↑k - 1, ⟨La, Ma⟩⟩]], [.slice (some ⟨wa.heap.size, 0, none⟩) 1 1], by simp, ?_, ?_, ?_⟩
        ·rw [hwq]
         simp [go_sem, hba1, hba2, n6a]
        ·rw [hwq, hR]
         exact feat_row HOA.out HOA'.out hbr HBA.out.size ⟨by omega, by omega⟩ rfl _ rfl
        ·intro r hr
         have : r = [⟨↑k - 1, ⟨La, Ma⟩⟩] := by simpa using hr
         subst this
         refine ⟨⟨by show 1 ≤ 2; omega, fun x hx => ?_⟩, Nat.le_refl _, fun x hx => by
          have : x = ⟨↑k - 1, ⟨La, Ma⟩⟩ := by simpa using hx
          subst this
          show (1 : Int) ≤ ↑k - 1
          have h2k : 2 ≤ k := by
           rcases HFT.out with h2 | h2
           ·exact h2
           ·exfalso
            rename (!ft.toList.isEmpty) = true => hfe
            rw [h2] at hfe
            exact absurd hfe empty_no
          omega⟩
         have : x = ⟨↑k - 1, ⟨La, Ma⟩⟩ := by simpa using hx
         subst this
         exact ⟨by show (0 : Int) ≤ ↑k - 1; omega, by show (↑k - 1 : Int) < us.length; omega, by show La.length ≤ 4000; omega, by show Ma.length ≤ 4000; omega, HMA.out⟩
       have HNVQ := hid hnv
       clear hnv hwq hBQ
       obtain ⟨⟨_, bvq, -, n7q⟩, nfq, hbq⟩ := HBTQ.out.cell hk HD.out rfl hjn
       have HDQ : Hid (Below wq.heap.size wq wq.drew) := hid (b0 wq).drew
       have HBTQ' := hid (HBTQ.out.below HDQ.out (Nat.le_refl _))
       have HUQ : Hid (UnitsRd wq.drew (Not1 (w.heap.size + 1) wq.drew) (.slice (some ⟨g, 0, none⟩) us.length c) us.length) := hid (HBTQ'.out.rd (by omega) hl2 (by omega))
       have HGQ' := hid (HGQ.out.below HDQ.out HGQ.out.lt)
       have HGBQ' := hid (gb_below HGBQ.out HDQ.out HGBQ.out.size)
       have HNVQ' : Hid (OwnT (tSlice tWant) 53 wq.drew R (.slice An nsq.length cn) nsq csn) := hid (HNVQ.out.later HDQ.out)
       have HBUQ' := hid (HBUQ.out.below HDQ.out hbr)
       have hvq : ∀ g, (Value.slice An nsq.length cn).ownBlock = some g → g < wq.heap.size := fun g e => (HNVQ.out.own.lt g e).2
       first
        | go_must (go_region_law ((first
         | (refine step_guard (.tmp 71) (.tmp 74) 49 rfl ?_; refine step_append_src _ rfl (.tmp 71) (.tmp 74) 49 rfl R 53 iv _ 1 24 Tryz.underlying49 HIV.out.1 HIV.out.2.1 HIV.out.2.2.1 HIV.out.2.2.2 rfl (by omega) (.slice An nsq.length cn) nsq.length csn (by rfl) (by exact HNV5.out.own) A5 ns5.length c5 cs5 (by rfl) (by exact src_own HOWN5.out.own) (by exact HONE5.out) (by unfold maxLen; omega) (by omega) hs5 ?_; intro v6 w6 hown6 hg6 hat6; have hb6l : Below (w.heap.size + 2) w5 w6 := (app_below0 (by omega) HNV5.out.own hRw hg6); have HG6 := hid (HG5.out.below hb6l (by omega)); have HGB6 := hid (gb_below HGB5.out hb6l (by omega)); have HBT6 := hid (HBT5.out.apart HNV5.out.own (by decide) (by decide) hg6); obtain ⟨A6, c6, rfl⟩ := own_form hown6; obtain ⟨⟨nv6, bv6, n66, n76⟩, nf6, hb6⟩ := HBT6.out.cell hk HD.out rfl hjn; have hbl7 := (Below.refl (w.heap.size + 2) w6).setCell (p := ⟨b', j * 8 + 6, none⟩) (show w.heap.size + 2 ≤ b' by omega) (.slice A6 (nsq.length + ns5.length) c6); have HBT7 := hid (HBT6.out.setAt (nf' := nfK k (j + 1)) hk HD.out rfl hjn (.slice A6 (nsq.length + ns5.length) c6) (j * 8 + 6) (.inl rfl) (Nat.le_refl _) (by simp [nfK]) (fun _ _ => Nat.le_refl _) (fun h => absurd h (by omega))); have HG7 := hid (HG6.out.below hbl7 (by omega)); have HGB7 := hid (gb_below HGB6.out hbl7 (by omega)); have HT6 := hid (HNV5.out.joined HOWN5.out (show R ≤ wq.heap.size from hsQ) hvq hown6 hg6 hat6); have HDT7 := hid (hdt3.out.fill hBR hbt3.out hk HD.out rfl hjn ((HBU5.out.app hg6 hbr (fun g e => hR ▸ (HNV5.out.own.lt g e).1)).set (.slice A6 (nsq.length + ns5.length) c6)) (.inl ⟨rfl, _, cell_here n66, HT6.out.needsIn (by omega) (by omega) (by simp; omega) (RowOk.app hokq hok5)⟩)); clear hown6 hg6 hat6 hb6l hbl7)
         | (go_simp; go_at_call 15; (refine (needs_g _ _ xs i3 2 _ us.length _ HGQ'.out (by omega) (by omega) (by omega) HUQ.out).mono ?_; rintro e w5 ⟨A5, c5, ns5, cs5, i5, rfl, hown5, hn5, hone5, hok5, hg5, hi5, hi5', hgb5⟩; have HG5 := hid hg5; have HGB5 := hid (gb_gb HGBQ'.out hgb5); have HBT5 := hid (HBTQ'.out.gb hgb5 (by omega)); have HNV5 := hid (HNVQ'.out.gb hgb5 (by omega)); have HBU5 := hid (HBUQ'.out.gb hgb5 hbr hbB' (by omega)); have HOWN5 := hid hown5; have HONE5 := hid hone5; have n65 : w5.cell? ⟨b', j * 8 + 6, none⟩ = some (.slice An nsq.length cn) := (gb_cell hgb5 (by omega) n6q); obtain ⟨⟨_, bv5, -, n75⟩, nf5, hb5⟩ := HBT5.out.cell hk HD.out rfl hjn; have hs5 : R ≤ w5.heap.size := Nat.le_trans hsQ hgb5.size; have hnn5 : ns5.length ≤ 2 := (by omega); clear hg5 hgb5 hown5 hone5 hn5)))))
        | fail
       all_goals
        have tok8 := hid True.intro
        have tok9 := hid True.intro
        obtain ⟨w7, hw7⟩ : ∃ w7 : World, w7 = w6.setCell ⟨b', j * 8 + 6, none⟩ (.slice A6 (nsq.length + ns5.length) c6) := ⟨_, rfl⟩
        rw [← hw7]
        have HBT7' : Hid (Built (w.heap.size + 2) w7 (.slice (some ⟨g, 0, none⟩) us.length c) us (nfK k (j + 1))) := hid (hw7 ▸ HBT7.out)
        have HG7' : Hid (GAt w7 (w.heap.size + 1) (.slice A0 xs.length cap0) xs i5) := hid (hw7 ▸ HG7.out)
        have HGB7' : Hid (w0.grownBy w7 (some (w.heap.size + 1))) := hid (hw7 ▸ HGB7.out)
        have HDT7' : Hid (Dat (w.heap.size + 2) R0 us.length w7 us) := hid (hw7 ▸ HDT7.out)
        clear hw7
        go_wp2_with (first
         | (go_at_call 17; clear tok8; go_must (refine (next_g _ _ xs i5 4 _ HG7'.out (by omega) ⟨by decide, by decide⟩).mono ?_; rintro e w8 ⟨r8, rfl, -, -, -, hg8, hgb8⟩; have HG8 := hid hg8; have HGB8 := hid (gb_gb HGB7'.out hgb8); have HBT8 := hid (HBT7'.out.gb hgb8 (by omega)); have HDT8 := hid (HDT7'.out.gb hBR hgb8 (by omega)); clear hg8 hgb8))
         | (go_at_call 18; clear tok9; go_must (refine (want_g _ _ xs (i5 + 1) _ us.length _ HG8.out (by omega) (HBT8.out.rd (by omega) hl2 (by omega))).mono ?_; rintro e w9 ⟨u9, A9, n9, c9, A9', n9', c9', rfl, hg9, hgb9, x9, hx9, hok9⟩; have HX9 := hid hx9; have hs9 : w8.heap.size ≤ w9.heap.size := hgb9.size; have HDT9 := hid (HDT8.out.gb hBR hgb9 (by omega)); have hb8 : b' ≤ w8.heap.size := (by have := (HBT8.out.cell hk HD.out rfl hjn).2.2; omega); have HG9 := hid hg9; have HGB9 := hid (gb_gb HGB8.out hgb9); have HBT9 := hid (HBT8.out.gb hgb9 (by omega)); obtain ⟨⟨nv9, bv9, n69, n79⟩, nf9, hb9⟩ := HBT9.out.cell hk HD.out rfl hjn; have hb93 : b' ≠ w9.heap.size := Nat.ne_of_lt hb9; clear hg9 hgb9 hx9)))
        ·refine ⟨⟨j + 1, i5 + 1 + 3, by omega, by go_num, by omega, by push_cast; omega, hid ?_, hid ?_, hid ?_, hid ?_⟩, by simp [intOf]; omega⟩
         ·exact (HBT9.out.setAt (nf' := nfK k (j + 1)) hk HD.out rfl hjn _ (j * 8 + 7) (.inr rfl) (Nat.le_refl _) (fun h => absurd h (by omega)) (fun _ _ => Nat.le_refl _) (fun _ => by simp [nfK])).below (balloc (b0 _) _) (Nat.le_refl _)
         ·exact HG9.out.below (((Below.refl (w.heap.size + 2) w9).setCell (p := ⟨b', j * 8 + 7, none⟩) (show w.heap.size + 2 ≤ b' by omega) _).alloc (by simp; omega) _) (by omega)
         ·exact gb_below HGB9.out (((Below.refl (w.heap.size + 2) w9).setCell (p := ⟨b', j * 8 + 7, none⟩) (show w.heap.size + 2 ≤ b' by omega) _).alloc (by simp; omega) _) (by omega)
         ·exact HDT9.out.fill hBR HBT9.out hk HD.out rfl hjn (((But.refl (w.heap.size + 2) b' (j * 8 + 7) w9).set _).below (balloc (b0 _) _) hb9) (.inr ⟨rfl, _, by rw [World.cell?_of_block (Below.heap_alloc _ _ _ (by simpa using hb9))]; exact cell_here n79, barsIn HX9.out hs9 rfl (HDT8.out.1) hb8 hok9 _⟩)
        ·exact ⟨⟨j + 1, i5 + 1, by omega, by go_num, by omega, by push_cast; omega, HBT8, HG8, HGB8, HDT8⟩, by simp [intOf]; omega⟩
      ·obtain ⟨wq, hwq⟩ : ∃ wq : World, wq = wr := ⟨_, rfl⟩
       obtain ⟨R, hR⟩ : ∃ R : Nat, R = wr.heap.size := ⟨_, rfl⟩
       have hRw : w.heap.size + 2 ≤ R := by have := hgb3.out.size; omega
       have HBTQ : Hid (Built (w.heap.size + 2) wq (.slice (some ⟨g, 0, none⟩) us.length c) us (nfK k (j + 1))) := hid (by
        rw [hwq]
        exact hbt3.out.mono fun i => by simp only [nfK]; split; exact Nat.le_refl _; split; omega; exact Nat.le_refl _)
       have HGQ : Hid (GAt wq (w.heap.size + 1) (.slice A0 xs.length cap0) xs i3) := hid (hwq ▸ hg3.out)
       have HGBQ : Hid (w0.grownBy wq (some (w.heap.size + 1))) := hid (hwq ▸ hgb3.out)
       have hsQ : R ≤ wq.heap.size := by rw [hR, hwq]; exact Nat.le_refl _
       have hbr : b' < wr.heap.size := HBK.out.lt
       have HBUQ : Hid (But (w.heap.size + 2) wr.heap.size b' (j * 8 + 6) wr wq) := hid (by rw [hwq]; exact But.refl _ _ _ _)
       obtain ⟨An, cn, nsq, csn, hnn, n6q, hnv, hokq⟩ : ∃ (An : Option Addr) (cn : Nat) (nsq : List (List WantD)) (csn : List Value), nsq.length ≤ 1 ∧ wq.cell? ⟨b', j * 8 + 6, none⟩ = some (.slice An nsq.length cn) ∧ OwnT (tSlice tWant) 53 wq R (.slice An nsq.length cn) nsq csn ∧ ∀ r ∈ nsq, RowT us.length r := by
        refine ⟨none, 0, [], [], by simp, ?_, OwnT.nil _ _ _ _, fun r hr => by cases hr⟩
        rw [hwq]
        exact n6
       have HNVQ := hid hnv
       rw [← hwq]
       clear hnv hwq
       obtain ⟨⟨_, bvq, -, n7q⟩, nfq, hbq⟩ := HBTQ.out.cell hk HD.out rfl hjn
       have HDQ : Hid (Below wq.heap.size wq wq.drew) := hid (b0 wq).drew
       have HBTQ' := hid (HBTQ.out.below HDQ.out (Nat.le_refl _))
       have HUQ : Hid (UnitsRd wq.drew (Not1 (w.heap.size + 1) wq.drew) (.slice (some ⟨g, 0, none⟩) us.length c) us.length) := hid (HBTQ'.out.rd (by omega) hl2 (by omega))
       have HGQ' := hid (HGQ.out.below HDQ.out HGQ.out.lt)
       have HGBQ' := hid (gb_below HGBQ.out HDQ.out HGBQ.out.size)
       have HNVQ' : Hid (OwnT (tSlice tWant) 53 wq.drew R (.slice An nsq.length cn) nsq csn) := hid (HNVQ.out.later HDQ.out)
       have HBUQ' := hid (HBUQ.out.below HDQ.out hbr)
       have hvq : ∀ g, (Value.slice An nsq.length cn).ownBlock = some g → g < wq.heap.size := fun g e => (HNVQ.out.own.lt g e).2
       first
        | go_must (go_region_law ((first
         | (refine step_guard (.tmp 71) (.tmp 74) 49 rfl ?_; refine step_append_src _ rfl (.tmp 71) (.tmp 74) 49 rfl R 53 iv _ 1 24 Tryz.underlying49 HIV.out.1 HIV.out.2.1 HIV.out.2.2.1 HIV.out.2.2.2 rfl (by omega) (.slice An nsq.length cn) nsq.length csn (by rfl) (by exact HNV5.out.own) A5 ns5.length c5 cs5 (by rfl) (by exact src_own HOWN5.out.own) (by exact HONE5.out) (by unfold maxLen; omega) (by omega) hs5 ?_; intro v6 w6 hown6 hg6 hat6; have hb6l : Below (w.heap.size + 2) w5 w6 := (app_below0 (by omega) HNV5.out.own hRw hg6); have HG6 := hid (HG5.out.below hb6l (by omega)); have HGB6 := hid (gb_below HGB5.out hb6l (by omega)); have HBT6 := hid (HBT5.out.apart HNV5.out.own (by decide) (by decide) hg6); obtain ⟨A6, c6, rfl⟩ := own_form hown6; obtain ⟨⟨nv6, bv6, n66, n76⟩, nf6, hb6⟩ := HBT6.out.cell hk HD.out rfl hjn; have hbl7 := (Below.refl (w.heap.size + 2) w6).setCell (p := ⟨b', j * 8 + 6, none⟩) (show w.heap.size + 2 ≤ b' by omega) (.slice A6 (nsq.length + ns5.length) c6); have HBT7 := hid (HBT6.out.setAt (nf' := nfK k (j + 1)) hk HD.out rfl hjn (.slice A6 (nsq.length + ns5.length) c6) (j * 8 + 6) (.inl rfl) (Nat.le_refl _) (by simp [nfK]) (fun _ _ => Nat.le_refl _) (fun h => absurd h (by omega))); have HG7 := hid (HG6.out.below hbl7 (by omega)); have HGB7 := hid (gb_below HGB6.out hbl7 (by omega)); have HT6 := hid (HNV5.out.joined HOWN5.out (show R ≤ wq.heap.size from hsQ) hvq hown6 hg6 hat6); have HDT7 := hid (hdt3.out.fill hBR hbt3.out hk HD.out rfl hjn ((HBU5.out.app hg6 hbr (fun g e => hR ▸ (HNV5.out.own.lt g e).1)).set (.slice A6 (nsq.length + ns5.length) c6)) (.inl ⟨rfl, _, cell_here n66, HT6.out.needsIn (by omega) (by omega) (by simp; omega) (RowOk.app hokq hok5)⟩)); clear hown6 hg6 hat6 hb6l hbl7)
         | (go_simp; go_at_call 15; (refine (needs_g _ _ xs i3 2 _ us.length _ HGQ'.out (by omega) (by omega) (by omega) HUQ.out).mono ?_; rintro e w5 ⟨A5, c5, ns5, cs5, i5, rfl, hown5, hn5, hone5, hok5, hg5, hi5, hi5', hgb5⟩; have HG5 := hid hg5; have HGB5 := hid (gb_gb HGBQ'.out hgb5); have HBT5 := hid (HBTQ'.out.gb hgb5 (by omega)); have HNV5 := hid (HNVQ'.out.gb hgb5 (by omega)); have HBU5 := hid (HBUQ'.out.gb hgb5 hbr hbB' (by omega)); have HOWN5 := hid hown5; have HONE5 := hid hone5; have n65 : w5.cell? ⟨b', j * 8 + 6, none⟩ = some (.slice An nsq.length cn) := (gb_cell hgb5 (by omega) n6q); obtain ⟨⟨_, bv5, -, n75⟩, nf5, hb5⟩ := HBT5.out.cell hk HD.out rfl hjn; have hs5 : R ≤ w5.heap.size := Nat.le_trans hsQ hgb5.size; have hnn5 : ns5.length ≤ 2 := (by omega); clear hg5 hgb5 hown5 hone5 hn5)))))
        | fail
       all_goals
        have tok8 := hid True.intro
        have tok9 := hid True.intro
        obtain ⟨w7, hw7⟩ : ∃ w7 : World, w7 = w6.setCell ⟨b', j * 8 + 6, none⟩ (.slice A6 (nsq.length + ns5.length) c6) := ⟨_, rfl⟩
        rw [← hw7]
        have HBT7' : Hid (Built (w.heap.size + 2) w7 (.slice (some ⟨g, 0, none⟩) us.length c) us (nfK k (j + 1))) := hid (hw7 ▸ HBT7.out)
        have HG7' : Hid (GAt w7 (w.heap.size + 1) (.slice A0 xs.length cap0) xs i5) := hid (hw7 ▸ HG7.out)
        have HGB7' : Hid (w0.grownBy w7 (some (w.heap.size + 1))) := hid (hw7 ▸ HGB7.out)
        have HDT7' : Hid (Dat (w.heap.size + 2) R0 us.length w7 us) := hid (hw7 ▸ HDT7.out)
        clear hw7
        go_wp2_with (first
         | (go_at_call 17; clear tok8; go_must (refine (next_g _ _ xs i5 4 _ HG7'.out (by omega) ⟨by decide, by decide⟩).mono ?_; rintro e w8 ⟨r8, rfl, -, -, -, hg8, hgb8⟩; have HG8 := hid hg8; have HGB8 := hid (gb_gb HGB7'.out hgb8); have HBT8 := hid (HBT7'.out.gb hgb8 (by omega)); have HDT8 := hid (HDT7'.out.gb hBR hgb8 (by omega)); clear hg8 hgb8))
         | (go_at_call 18; clear tok9; go_must (refine (want_g _ _ xs (i5 + 1) _ us.length _ HG8.out (by omega) (HBT8.out.rd (by omega) hl2 (by omega))).mono ?_; rintro e w9 ⟨u9, A9, n9, c9, A9', n9', c9', rfl, hg9, hgb9, x9, hx9, hok9⟩; have HX9 := hid hx9; have hs9 : w8.heap.size ≤ w9.heap.size := hgb9.size; have HDT9 := hid (HDT8.out.gb hBR hgb9 (by omega)); have hb8 : b' ≤ w8.heap.size := (by have := (HBT8.out.cell hk HD.out rfl hjn).2.2; omega); have HG9 := hid hg9; have HGB9 := hid (gb_gb HGB8.out hgb9); have HBT9 := hid (HBT8.out.gb hgb9 (by omega)); obtain ⟨⟨nv9, bv9, n69, n79⟩, nf9, hb9⟩ := HBT9.out.cell hk HD.out rfl hjn; have hb93 : b' ≠ w9.heap.size := Nat.ne_of_lt hb9; clear hg9 hgb9 hx9)))
        ·refine ⟨⟨j + 1, i5 + 1 + 3, by omega, by go_num, by omega, by push_cast; omega, hid ?_, hid ?_, hid ?_, hid ?_⟩, by simp [intOf]; omega⟩
         ·exact (HBT9.out.setAt (nf' := nfK k (j + 1)) hk HD.out rfl hjn _ (j * 8 + 7) (.inr rfl) (Nat.le_refl _) (fun h => absurd h (by omega)) (fun _ _ => Nat.le_refl _) (fun _ => by simp [nfK])).below (balloc (b0 _) _) (Nat.le_refl _)
         ·exact HG9.out.below (((Below.refl (w.heap.size + 2) w9).setCell (p := ⟨b', j * 8 + 7, none⟩) (show w.heap.size + 2 ≤ b' by omega) _).alloc (by simp; omega) _) (by omega)
         ·exact gb_below HGB9.out (((Below.refl (w.heap.size + 2) w9).setCell (p := ⟨b', j * 8 + 7, none⟩) (show w.heap.size + 2 ≤ b' by omega) _).alloc (by simp; omega) _) (by omega)
         ·exact HDT9.out.fill hBR HBT9.out hk HD.out rfl hjn (((But.refl (w.heap.size + 2) b' (j * 8 + 7) w9).set _).below (balloc (b0 _) _) hb9) (.inr ⟨rfl, _, by rw [World.cell?_of_block (Below.heap_alloc _ _ _ (by simpa using hb9))]; exact cell_here n79, barsIn HX9.out hs9 rfl (HDT8.out.1) hb8 hok9 _⟩)
        ·exact ⟨⟨j + 1, i5 + 1, by omega, by go_num, by omega, by push_cast; omega, HBT8, HG8, HGB8, HDT8⟩, by simp [intOf]; omega⟩
     ·have hjd : j = nd := by omega
      have HBTN : Hid (Built (w.heap.size + 2) wr (.slice (some ⟨g, 0, none⟩) us.length c) us (nfK (k + 1) 0)) := hid (hbt3.out.mono fun i => by simp only [nfK]; split <;> split <;> (first | omega | (split <;> omega)))
      go_wp2
      exact ⟨⟨k + 1, i3, by omega, by omega, by go_num, by omega, by push_cast; omega, HBTN, hg3, hgb3, hdt3⟩, by simp [intOf]; omega⟩
   ·have hfin := (Below.grown HB0.out hgb.out (by omega) (fun k hk => by have := Option.some.inj hk; omega)).setCell (p := ⟨w.heap.size, 0, none⟩) (Nat.le_refl _) (.slice (some ⟨g, 0, none⟩) us.length c)
    have hrw : wr.heap[w.heap.size]? = some (.cells #[.slice none 0 0] 25 (0, 0)) := (gb_block hgb.out (by omega) (by omega)).trans HR0.out
    have r0 : wr.cell? ⟨w.heap.size, 0, none⟩ = some (.slice none 0 0) := by rw [cell_of_row _ _ _ _ _ _ hrw]; rfl
    have rf : ∀ o, wr.frozen? ⟨w.heap.size, o, none⟩ = false := fun o => frozen_of_row wr w.heap.size o _ _ hrw
    clear hrw
    go_wp2
    exact bodyPost_ret (v := .agg #[.slice (some ⟨g, 0, none⟩) us.length c]) (by simp [results, Tryz.results4, go_sem, r0]) rfl ⟨g, c, us, nfK k 0, rfl, hbt.out.keep (fun k hk _ => heap_setCell_other _ _ _ _ (show k ≠ w.heap.size by omega)), hl2, hl11, HHD.out, hfin, R0, hdt.out.keep hBR (fun k hk _ => heap_setCell_other _ _ _ _ (show k ≠ w.heap.size by omega)) (by simp)⟩
end Go.Proofs.YthneiolcljnbeaaGreatDoor
