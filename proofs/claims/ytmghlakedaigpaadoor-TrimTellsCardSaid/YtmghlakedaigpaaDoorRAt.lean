/- Contract: linchpinref29.Asked. -/
import Derived.Test.YtmghlakedaigpaaDoorRAs
import Derived.Test.YtmghlakedaigpaaDoorW14
import Derived.Deep.RegionLaw
import Derived.Deep.DeepMust
namespace Go.Proofs.YtmghlakedaigpaaDoor
open Go Go.RowKit
attribute [local go_sem ↓] Go.wp_at_zero Go.wp_at_succ

def AskPost (l : List Term) (w : World) (e : Ending) (w' : World) : Prop := ∃ v, e = .returned v ∧ SliceRd tTerm w' (Lt w'.heap.size) v l ∧ Below w.heap.size w w'
theorem askL_ok {l : List Row} (hm : MayP l) : ∀ (k : Nat), k ≤ l.length → (askL l k).length ≤ k ∧ ∀ t ∈ askL l k, I64 t.unit ∧ I64 t.mask
  | 0, _ => ⟨Nat.le_refl _, fun t h => by cases h⟩
  | k + 1, hk => by
    obtain ⟨h1, h2⟩ := askL_ok hm k (by omega)
    rw [askL_succ (by omega)]
    split
    · next h =>
      have ho := ask_one hm (k := k) (by omega) h.2
      have ht := (terms_le (hm.2.2 k (by omega)).1.2.2.2.2.1).2
      refine ⟨by rw [List.length_append]; omega, fun t h' => ?_⟩
      rcases List.mem_append.1 h' with h' | h'
      · exact h2 t h'
      · have := ht t h'
        unfold I64
        omega
    · exact ⟨by omega, h2⟩
theorem askR_ok {l : List Row} (hm : MayP l) {k : Nat} (hk : k ≤ l.length) : (askR l k).length ≤ k ∧ ∀ t ∈ askR l k, I64 t.unit ∧ I64 t.mask := by
  obtain ⟨h1, h2⟩ := askL_ok hm k hk
  refine ⟨Nat.le_trans (askR_len l k) h1, fun t ht => ?_⟩
  rcases ((foldl_ins (askL l k) [] List.Pairwise.nil).2.1 t).1 ht with h | h
  · cases h
  · exact h2 t h
theorem askR_skip {l : List Row} {k : Nat} (hk : k < l.length) (h : usedF l k = false ∨ l[k].kind ≠ 4 ∨ l[k].terms = []) : askR l (k + 1) = askR l k := by
  unfold askR
  rw [askL_succ hk]
  split
  · next h' =>
    rcases h with h | h | h
    · rw [h] at h'; cases h'.1
    · exact absurd h'.2 h
    · rw [h, List.append_nil]
  · rfl
theorem askR_put {l : List Row} {k : Nat} (hk : k < l.length) (h : usedF l k = true) (h4 : l[k].kind = 4) {t : Term} (ht : l[k].terms = [t]) : askR l (k + 1) = insT (askR l k) t := by
  unfold askR
  rw [askL_succ hk, if_pos ⟨h, h4⟩, ht, List.foldl_append]
  rfl

theorem Flat.all_drop {α : Type} (f : Flat α) : ∀ (l : List α) (k : Nat), f.all (l.drop k) = (f.all l).drop (k * f.size)
  | l, 0 => by simp
  | [], k + 1 => by simp [f.all_nil]
  | x :: l, k + 1 => by
    rw [List.drop_succ_cons, Flat.all_drop f l k, f.all_cons, List.drop_append, f.len]
    have h1 : (f.cells x).drop ((k + 1) * f.size) = [] := List.drop_of_length_le (by rw [f.len, Nat.add_mul]; omega)
    rw [h1, List.nil_append, Nat.add_mul, Nat.one_mul, Nat.add_sub_cancel]
theorem Src.drop {w : World} {g o n size k : Nat} {news : List Value} (h : Src w (some ⟨g, o, none⟩) n size news) (hk : k ≤ n) : Src w (some ⟨g, o + k * size, none⟩) (n - k) size (news.drop (k * size)) := by
  refine ⟨by rw [List.length_drop, h.1, Nat.sub_mul], fun hm => ⟨_, rfl, fun j u hu => ?_⟩⟩
  obtain ⟨ad, had, hc⟩ := h.2 (by omega)
  injection had with had
  subst had
  rw [List.getElem?_drop] at hu
  have := hc _ _ hu
  rw [add_mk] at this ⊢
  rw [Nat.add_assoc]
  exact this
theorem OwnF.cutF {α : Type} {f : Flat α} {e : TypeId} {B : Nat} {w : World} {l : List α} {g n c : Nat} (h : OwnF f e B w (.slice (some ⟨g, 0, none⟩) n c) l) (m : Nat) (hm : m ≤ l.length) : OwnF f e B w (.slice (some ⟨g, 0, none⟩) m c) (l.take m) := by
  refine ⟨⟨by rw [f.all_length], ?_⟩, fun x hx => h.2 x (List.mem_of_mem_take hx)⟩
  rcases h.1.2 with ⟨h1, _⟩ | ⟨g', cap, cur, h1, hb, hg, h3, h4, h5, h6⟩
  · cases h1
  · injection h1 with e1 e2 e3
    injection e1 with e1
    injection e1 with e1
    subst e1; subst e3
    have hl : (l.take m).length = m := by rw [List.length_take]; omega
    refine .inr ⟨g, c, cur, by rw [hl], hb, hg, by rw [hl]; omega, h4, h5, ?_⟩
    rw [hl]
    have h7 := congrArg (List.take (m * f.size)) h6
    rw [List.take_take, Nat.min_eq_left (Nat.mul_le_mul_right _ hm)] at h7
    rw [h7]
    have : f.all l = f.all (l.take m) ++ f.all (l.drop m) := by rw [← f.all_append, List.take_append_drop]
    rw [this, List.take_append_of_le_length (by rw [f.all_length, hl]; exact Nat.le_refl _), List.take_of_length_le (by rw [f.all_length, hl]; exact Nat.le_refl _)]
theorem own_noneF (w : World) (B : Nat) (e : TypeId) (s : Nat) : w.ownsRow B e s (.slice none 0 0) 0 [] := ⟨by simp, .inl ⟨rfl, rfl⟩⟩
theorem OwnF.srcF {α : Type} {f : Flat α} {e : TypeId} {B : Nat} {w : World} {A : Option Addr} {n c : Nat} {l : List α} (h : OwnF f e B w (.slice A n c) l) : Src w A l.length f.size (f.all l) := (h.rd.srcF).2.1
theorem OwnF.some_or {α : Type} {f : Flat α} {e : TypeId} {B : Nat} {w : World} {A : Option Addr} {n c : Nat} {l : List α} (h : OwnF f e B w (.slice A n c) l) (hl : n = l.length) : (A = none ∧ n = 0 ∧ c = 0) ∨ ∃ g, A = some ⟨g, 0, none⟩ ∧ B ≤ g ∧ g < w.heap.size ∧ n ≤ c := by
  rcases h.1.2 with ⟨hv, h0⟩ | ⟨g, cap, cur, hv, hb, hg, hnc, _⟩
  · injection hv with e1 e2 e3
    exact .inl ⟨e1, e2, e3⟩
  · injection hv with e1 e2 e3
    refine .inr ⟨g, e1, hb, (Array.getElem?_eq_some_iff.1 hg).1, ?_⟩
    rw [hl, e3]; exact hnc

theorem own_len {w : World} {B n m s : Nat} {e : TypeId} {v : Value} {xs : List Value} (hn : n = m) (h : w.ownsRow B e s v n xs) : w.ownsRow B e s v m xs := hn ▸ h
theorem src_len {w : World} {A : Option Addr} {L : List Term} {m j size : Nat} {xs : List Value} (hm : m = L.length) (h : Src w A (L.drop j).length size xs) : Src w A (m - j) size xs := by
  rw [List.length_drop, ← hm] at h; exact h
theorem ask_fin {w : World} {B m j : Nat} {v : Value} {L : List Term} {t : Term} (hL : ∀ t ∈ L, I64 t.unit ∧ I64 t.mask) (ht : I64 t.unit ∧ I64 t.mask) (hm : m = L.length) (hj : j ≤ m) (h : w.ownsRow B 38 2 v (j + 1 + (m - j)) (fTerm.all (L.take j) ++ fTerm.cells t ++ fTerm.all (L.drop j))) : OwnF fTerm 38 B w v (L.take j ++ t :: L.drop j) := by
  refine ⟨own_len (n := j + 1 + (m - j)) (by rw [List.length_append, List.length_cons, List.length_take, List.length_drop]; omega) ?_, fun x hx => ?_⟩
  · rw [fTerm.all_append, fTerm.all_cons, ← List.append_assoc]
    exact h
  · rcases List.mem_append.1 hx with h | h
    · exact hL x (List.mem_of_mem_take h)
    · rcases List.mem_cons.1 h with h | h
      · rw [h]; exact ht
      · exact hL x (List.mem_of_mem_drop h)
theorem OwnF.by_other {α : Type} {f : Flat α} {e : TypeId} {B : Nat} {w w' : World} {v : Value} {l : List α} {row : Option Nat} (h : OwnF f e B w v l) (hg : w.grownBy w' row) (hne : ∀ g, v.ownBlock = some g → row ≠ some g) : OwnF f e B w' v l :=
  ⟨ownsRow_keep h.1 fun g hg1 => hg.block g (h.lt g hg1).2 (fun e => hne g hg1 e.symm), h.2⟩

set_option maxRecDepth 100000 in
set_option maxHeartbeats 4000000 in
theorem rasked_any (v : Value) (l : List Row) (w : World) (h : SliceRd tRow w (Lt w.heap.size) v l) (hm : MayP l) :
    Calls Tryd.prog 16 #[v] w (AskPost (askR l l.length) w) := by
  have HH := hid h
  have HM := hid hm
  obtain ⟨A, cap, rfl, hcap, hmax, hc⟩ := h.rows
  have HC := hid hc
  have hl : l.length ≤ 20000 := hm.2.1
  unfold maxLen at hmax
  clear h hc hm
  have HUS := hid (rused_any _ l w HH.out HM.out)
  unfold UsedPost at HUS
  obtain ⟨n, hn⟩ : ∃ n, n = l.length := ⟨_, rfl⟩
  rw [← hn] at hcap hl HUS
  rw [← hn]
  replace hn := hid hn
  obtain ⟨it, hit⟩ := info_parts term_info
  have HIT := hid hit
  clear hit
  go_enter Tryd.func16, Tryd.ntmps16
  go_wp2_with (first
    | (go_at_call 10; refine HUS.out.mono ?_; rintro e w1 ⟨bu, rfl, har, hgu, hb1⟩))
  have HAR := hid har
  have HB1 := hid hb1
  clear har hb1
  go_loopw [4, 5] (fun ov iv wr => ∃ k : Nat, k ≤ n ∧ iv = .int .i64 k ∧ Hid (OwnF fTerm 38 w1.heap.size wr ov (askR l k)) ∧ Hid (Below w1.heap.size w1 wr)) (fun _ iv _ => n - (intOf iv).toNat)
  case atStart => exact ⟨0, Nat.zero_le _, rfl, hid (OwnF.nil _ _ _ _), hid (Below.refl _ _)⟩
  case round =>
    obtain ⟨k, hk, rfl, HO, hb⟩ := hrel
    obtain ⟨A4, c4, rfl⟩ := HO.out.form
    have HBW := hid (HB1.out.trans (hb.out.mono HB1.out.size))
    have i1 : (0 : Int) ≤ ↑k := by omega
    have hsz := hb.out.size
    by_cases hlt : k < n
    · have i2 : (↑k : Int) < ↑n := by omega
      have hkl : k < l.length := by rw [← hn.out]; exact hlt
      have cu := cell_below hb.out HAR.out.lt (HAR.out.cell (i := k) (by simp [boolCells, usedL]; exact hkl))
      simp only [boolCells, usedL, List.getElem_map, List.getElem_range] at cu
      obtain ⟨g, o, tv, hA, hF, g0, g1, g2, g3, g4, -, gt⟩ := HC.out k hkl
      subst hA
      obtain ⟨c0, c1, c2, c3, c4'⟩ := cells5 HBW.out hF ⟨g0, g1, g2, g3, g4⟩
      clear g0 g1 g2 g3 g4 c1 c2 c3
      have HT := hid (gt.lift HBW.out HBW.out.size)
      obtain ⟨TA, tcap, rfl, htc, htm, -⟩ := gt.terms
      clear gt
      have HSK := hid (fun h => askR_skip hkl h)
      have HPUT := hid (fun h1 h2 t h3 => @askR_put l k hkl h1 h2 t h3)
      have HONE := hid (fun h4 => ask_one HM.out hkl h4)
      have HROK := hid (askR_ok HM.out (k := k) (by omega))
      obtain ⟨u, hu⟩ : ∃ u, u = usedF l k := ⟨_, rfl⟩
      rw [← hu] at cu HSK HPUT
      obtain ⟨kd, hkd⟩ : ∃ kd, kd = l[k].kind := ⟨_, rfl⟩
      rw [← hkd] at c0 HSK HPUT HONE
      obtain ⟨ts, hts⟩ : ∃ ts, ts = l[k].terms := ⟨_, rfl⟩
      rw [← hts] at c4' HT HSK HPUT HONE htc
      clear hu hkd hts
      cases u with
      | false =>
        go_wp2
        exact ⟨⟨k + 1, by omega, by go_num, hid (by rw [HSK.out (.inl rfl)]; exact HO.out), hb⟩, by simp [intOf]; omega⟩
      | true =>
        by_cases h4 : kd = 4
        · have k4 : (kd != 4) = false := by subst h4; rfl
          have h1 := HONE.out h4
          match ts with
          | [] =>
            have HS := hid (HSK.out (.inr (.inr rfl)))
            clear HSK HPUT HONE h4 h1
            go_wp2
            exact ⟨⟨k + 1, by omega, by go_num, hid (by rw [HS.out]; exact HO.out), hb⟩, by simp [intOf]; omega⟩
          | [t] =>
            have HP := hid (HPUT.out rfl h4 t rfl)
            clear HSK HPUT HONE h4 h1
            obtain ⟨TA', tcap', hvt, -, -, htc3⟩ := HT.out.terms
            injection hvt with q1 _ q3
            subst q1; subst q3
            obtain ⟨gt, ot, hTA, hFt, tc0, tc1, hti0, hti1⟩ := htc3 0 (by simp)
            subst hTA
            simp only [List.getElem_cons_zero, Nat.zero_mul, Nat.add_zero] at tc0 tc1 hti0 hti1
            clear htc3
            have HTI := hid (And.intro hti0 hti1)
            clear hti0 hti1
            go_wp2_with fail
            obtain ⟨wt, hwt⟩ : ∃ wt : World, wt = wr.alloc (.cells #[.int .i64 t.unit, .int .i64 t.mask] 38) := ⟨_, rfl⟩
            have hbt := balloc (b0 wr) (.cells #[.int .i64 t.unit, .int .i64 t.mask] 38)
            rw [← hwt] at hbt
            obtain ⟨bt, hbtq⟩ : ∃ bt, bt = wr.heap.size := ⟨_, rfl⟩
            have t0 : wt.cell? ⟨bt, 0, none⟩ = some (.int .i64 t.unit) := by rw [hwt, hbtq]; exact World.cell?_alloc_new ..
            have t1 : wt.cell? ⟨bt, 1, none⟩ = some (.int .i64 t.mask) := by rw [hwt, hbtq]; exact World.cell?_alloc_new ..
            have hbtl : bt < wt.heap.size := by rw [hwt, hbtq]; simp
            have HOW := hid (HO.out.below hbt (Nat.le_refl _))
            have HBT := hid (hb.out.trans (hbt.mono hsz))
            rw [← hbtq, ← hwt]
            obtain ⟨L, hL⟩ : ∃ L, L = askR l k := ⟨_, rfl⟩
            rw [← hL] at HOW HP HROK
            rw [← hL]
            obtain ⟨m, hm⟩ : ∃ m, m = L.length := ⟨_, rfl⟩
            have HROK2 := hid (show m ≤ k ∧ ∀ t ∈ L, I64 t.unit ∧ I64 t.mask by rw [hm]; exact HROK.out)
            rw [← hm] at HOW
            rw [← hm]
            replace hm := hid hm
            have hmk := HROK2.out.1
            have hw1t : w1.heap.size ≤ wt.heap.size := Nat.le_trans hsz hbt.size
            clear hL HO hwt hbtq hbt tc0 tc1 HT c0 c4' cu hb HBW HROK hsz
            clear hFt
            clear wr
            go_loopw [7] (fun iv wr => ∃ j : Nat, j ≤ m ∧ iv = .int .i64 j ∧ Hid (∀ i, (h : i < L.length) → i < j → ltT L[i] t) ∧ Hid (Below wt.heap.size wt wr)) (fun iv _ => m - (intOf iv).toNat)
            case atStart => exact ⟨0, Nat.zero_le _, rfl, hid (fun i _ h => by omega), hid (b0 wt)⟩
            case round =>
              obtain ⟨j, hj, rfl, HLT, hb2⟩ := hrel
              have j1 : (0 : Int) ≤ ↑j := by omega
              have x0 := cell_below hb2.out hbtl t0
              have x1 := cell_below hb2.out hbtl t1
              have HOR := hid (HOW.out.below hb2.out (Nat.le_refl _))
              by_cases hjm : j < m
              · have hjl : j < L.length := by rw [← hm.out]; exact hjm
                have d1 := decide_eq_true (show (↑j : Int) < ↑m by omega)
                have d2 := decide_eq_true hjm
                have j2 : (↑j : Int) < ↑m := by omega
                obtain ⟨A5, c5, hv5, -, -, hq⟩ := HOR.out.rd.terms
                injection hv5 with q1 q2 q3
                subst q1; subst q3
                clear q2
                obtain ⟨gq, oq, hA4, hFq, y0, y1, hy0, hy1⟩ := hq j hjl
                subst hA4
                obtain ⟨x, hx⟩ : ∃ x, x = L[j] := ⟨_, rfl⟩
                rw [← hx] at y0 y1 hy0 hy1
                clear hq
                by_cases hlt1 : x.unit < t.unit
                · have e1 := decide_eq_true hlt1
                  have HX := hid (show ltT L[j] t by rw [← hx]; exact .inl hlt1)
                  clear hlt1 hx
                  go_wp2_with fail
                  go_quiet (fail)
                  go_wp2
                  refine ⟨⟨j + 1, by omega, by go_num, hid (fun i h hi => ?_), hid (below_drewN hb2.out _)⟩, by simp [intOf]; omega⟩
                  by_cases e : i = j
                  · subst e; exact HX.out
                  · exact HLT.out i h (by omega)
                · have e1 := decide_eq_false hlt1
                  by_cases heq : x.unit = t.unit
                  · have e2 : (x.unit == t.unit) = true := by simpa using heq
                    by_cases hlt2 : x.mask < t.mask
                    · have e3 := decide_eq_true hlt2
                      have HX := hid (show ltT L[j] t by rw [← hx]; exact .inr ⟨heq, hlt2⟩)
                      replace heq := hid heq
                      clear hlt1 hlt2 hx
                      go_wp2_with fail
                      go_quiet (fail)
                      go_wp2
                      refine ⟨⟨j + 1, by omega, by go_num, hid (fun i h hi => ?_), hid (below_drewN hb2.out _)⟩, by simp [intOf]; omega⟩
                      by_cases e : i = j
                      · subst e; exact HX.out
                      · exact HLT.out i h (by omega)
                    · have e3 := decide_eq_false hlt2
                      have HX := show ¬ ltT L[j] t by rw [← hx]; unfold ltT; omega
                      replace heq := hid heq
                      by_cases hxt : x = t
                      · have HXT := hid (show L[j] = t from hx.symm.trans hxt)
                        have hn := fun W => term_eql x t W
                        have hgd := fun op a b W => term_guard op a b x t W
                        have hd : decide (x = t) = true := decide_eq_true hxt
                        have HFIN := hid (show insT L t = L by
                          rw [insT_at (k := j) (by rw [← hm.out]; omega) HLT.out (fun _ => HX), if_pos (by rw [List.getElem?_eq_getElem hjl, HXT.out])])
                        replace hx := hid hx
                        replace hxt := hid hxt
                        clear HX HXT
                        go_wp2_with fail
                        go_quiet (fail)
                        obtain ⟨wa, hwa⟩ : ∃ wa : World, wa = wr.drewN nq := ⟨_, rfl⟩
                        have HBA := hid (show Below wt.heap.size wt wa by rw [hwa]; exact below_drewN hb2.out _)
                        have x0' : wa.cell? ⟨bt, 0, none⟩ = some (.int .i64 t.unit) := by rw [hwa]; exact x0
                        have x1' : wa.cell? ⟨bt, 1, none⟩ = some (.int .i64 t.mask) := by rw [hwa]; exact x1
                        have y0' : wa.cell? ⟨gq, oq + j * 2, none⟩ = some (.int .i64 x.unit) := by rw [hwa]; exact y0
                        have y1' : wa.cell? ⟨gq, oq + j * 2 + 1, none⟩ = some (.int .i64 x.mask) := by rw [hwa]; exact y1
                        rw [← hwa]
                        clear hwa
                        go_wp2_with fail
                        go_quiet (fail)
                        go_wp2
                        exact ⟨⟨k + 1, by omega, by go_num, hid (by rw [HP.out, HFIN.out]; exact HOW.out.below (below_drewN HBA.out _) (Nat.le_refl _)), hid (HBT.out.trans ((below_drewN HBA.out _).mono hw1t))⟩, by simp [intOf]; omega⟩
                      · have HXT := hid (show ¬ L[j] = t from fun e => hxt (hx.trans e))
                        have hn := fun W => term_eql x t W
                        have hgd := fun op a b W => term_guard op a b x t W
                        have hd : decide (x = t) = false := decide_eq_false hxt
                        have HFIN := hid (show insT L t = L.take j ++ t :: L.drop j by
                          rw [insT_at (k := j) (by rw [← hm.out]; omega) HLT.out (fun _ => HX), if_neg (fun e => HXT.out (by rw [List.getElem?_eq_getElem hjl] at e; exact Option.some.inj e))])
                        have j4 : (↑j : Int) ≤ ↑m := by omega
                        replace hx := hid hx
                        replace hxt := hid hxt
                        clear HX HXT hy0 hy1
                        go_wp2_with fail
                        go_quiet (fail)
                        obtain ⟨wa, hwa⟩ : ∃ wa : World, wa = wr.drewN nq := ⟨_, rfl⟩
                        have HBA := hid (show Below wt.heap.size wt wa by rw [hwa]; exact below_drewN hb2.out _)
                        have x0' : wa.cell? ⟨bt, 0, none⟩ = some (.int .i64 t.unit) := by rw [hwa]; exact x0
                        have x1' : wa.cell? ⟨bt, 1, none⟩ = some (.int .i64 t.mask) := by rw [hwa]; exact x1
                        have y0' : wa.cell? ⟨gq, oq + j * 2, none⟩ = some (.int .i64 x.unit) := by rw [hwa]; exact y0
                        have y1' : wa.cell? ⟨gq, oq + j * 2 + 1, none⟩ = some (.int .i64 x.mask) := by rw [hwa]; exact y1
                        rw [← hwa]
                        clear hwa
                        go_wp2_with fail
                        go_quiet (fail)
                        obtain ⟨wb, hwb⟩ : ∃ wb : World, wb = wa.drewN nq := ⟨_, rfl⟩
                        have HBB := hid (show Below wt.heap.size wt wb by rw [hwb]; exact below_drewN HBA.out _)
                        have z0 : wb.cell? ⟨bt, 0, none⟩ = some (.int .i64 t.unit) := by rw [hwb]; exact x0'
                        have z1 : wb.cell? ⟨bt, 1, none⟩ = some (.int .i64 t.mask) := by rw [hwb]; exact x1'
                        have HOB := hid (HOW.out.below HBB.out (Nat.le_refl _))
                        rw [← hwb]
                        clear hwb x0 x1 x0' x1' y0 y1 y0' y1' HOR
                        have hbtb : bt < wb.heap.size := Nat.lt_of_lt_of_le hbtl HBB.out.size
                        have hw1b : w1.heap.size ≤ wb.heap.size := Nat.le_trans hw1t HBB.out.size
                        have HBW1 := hid (show Below w1.heap.size w1 wb from HBT.out.trans (HBB.out.mono hw1t))
                        obtain ⟨gq', hgqe, hgq, hgl, hnc⟩ : ∃ g, some (⟨gq, oq, none⟩ : Addr) = some ⟨g, 0, none⟩ ∧ w1.heap.size ≤ g ∧ g < wb.heap.size ∧ m ≤ c4 := by
                          rcases HOB.out.some_or hm.out with ⟨h, _, _⟩ | h
                          · cases h
                          · exact h
                        injection hgqe with hgqe
                        injection hgqe with hq1 hq2
                        subst hq1
                        subst hq2
                        rcases Nat.lt_or_ge j c4 with hc | hc
                        · have j3 : (↑j : Int) ≤ ↑c4 := by omega
                          have hcn : ¬ c4 = j := by omega
                          have HCUT := hid (HOB.out.cutF j (by rw [← hm.out]; omega))
                          have hltk : (L.take j).length = j := by rw [List.length_take, ← hm.out]; omega
                          have HSRC := hid (fun (A' : Option Addr) (h : A' = some ⟨gq, j * 2, none⟩ ∨ c4 = j) => show Src wb A' (m - j) 2 (fTerm.all (L.drop j)) by
                            rcases h with rfl | h
                            · have h9 := HOB.out.srcF.drop (k := j) (by rw [← hm.out]; omega)
                              rw [← hm.out, Nat.zero_add] at h9
                              rw [Flat.all_drop]
                              exact h9
                            · have : m - j = 0 := by omega
                              rw [this, List.drop_of_length_le (by rw [← hm.out]; omega)]
                              exact ⟨rfl, fun h => absurd h (by omega)⟩)
                          have HLK := hid hltk
                          clear hltk
                          go_wp2_with (first
                            | (at_builtin
                               go_must (refine wpList_append_src _ rfl (.const (.slice none 0 0)) (.tmp 96) _ rfl wb.heap.size 38 it _ 2 16 Tryd.underlying33 HIT.out.1 HIT.out.2.1 HIT.out.2.2.1 HIT.out.2.2.2 rfl (by omega) (.slice none 0 0) 0 [] rfl (own_noneF _ _ _ _) _ _ _ _ rfl (HSRC.out _ (by first | exact .inl rfl | exact .inr rfl | (split; exact .inr (by assumption); exact .inl rfl))) (fTerm.all_one _) (by unfold maxLen; omega) (by omega) (Nat.le_refl _) ?_)
                               intro v6 w6 hown6 hg6 hat6))
                          have hK6 : Below wb.heap.size wb w6 := (b0 wb).grown hg6 (Nat.le_refl _) (fun q hq => by cases hq)
                          have HO6 : Hid (OwnF fTerm 38 wb.heap.size w6 v6 (L.drop j)) := hid ⟨by have h9 := hown6; rw [Nat.zero_add, List.nil_append] at h9; rw [List.length_drop, ← hm.out]; exact h9, fun x hx => HOB.out.2 x (List.mem_of_mem_drop hx)⟩
                          have HC6 := hid (HCUT.out.below hK6 (Nat.le_refl _))
                          have z06 := cell_below hK6 hbtb z0
                          have z16 := cell_below hK6 hbtb z1
                          have HBW6 := hid (show Below w1.heap.size w1 w6 from HBW1.out.trans (hK6.mono hw1b))
                          have hw6 : w1.heap.size ≤ w6.heap.size := Nat.le_trans hw1b hK6.size
                          have hb6s := hK6.size
                          obtain ⟨A6, c6, hv6⟩ := HO6.out.form
                          rw [List.length_drop, ← hm.out] at hv6
                          subst hv6
                          clear hown6 hg6 hat6 z0 z1 hK6 HSRC
                          go_region_law ((first
                            | (refine step_guard (.tmp 100) (.tmp 102) 33 rfl ?_
                               go_must (refine step_append_src _ rfl (.tmp 100) (.tmp 102) 33 rfl w1.heap.size 38 it _ 2 16 Tryd.underlying33 HIT.out.1 HIT.out.2.1 HIT.out.2.2.1 HIT.out.2.2.2 rfl (by omega) (.slice (some ⟨gq, 0, none⟩) j c4) j (fTerm.all (L.take j)) (by rfl) (by first | exact own_len HLK.out (HC6.out.1.alloc _) | exact own_len HLK.out (own_alloc_drew HC6.out.1 _)) _ 1 1 (fTerm.cells t) (by rfl) (by first | exact src_new _ _ (by simp) 2 (fTerm.cells t) rfl rfl | exact src_new_drew _ _ (by simp) 2 (fTerm.cells t) rfl rfl) (by simp [fTerm, Value.oneCell']) (by unfold maxLen; omega) (by omega) (by simp; omega) ?_)
                               intro v7 w7 hown7 hg7 hat7
                               have HBW7 : Hid (Below w1.heap.size w1 w7) := hid (by first | exact (HBW6.out.alloc hw6 _).grown hg7 (by simp; omega) (fun q hq => by cases hq; omega) | exact ((HBW6.out.alloc hw6 _).drew).grown hg7 (by simp; omega) (fun q hq => by cases hq; omega))
                               have HO67 : Hid (OwnF fTerm 38 wb.heap.size w7 (.slice A6 (m - j) c6) (L.drop j)) := hid (OwnF.by_other (by first | exact HO6.out.alloc _ | exact (HO6.out.alloc _).drew) hg7 (fun q hq e => by have h1 := (HO6.out.lt q hq).1; have h2 : gq = q := (by simpa [Value.ownBlock] using e); omega))
                               have hw7 : w1.heap.size ≤ w7.heap.size := Nat.le_trans (by simp; omega) hg7.size
                               have HO7 := hid hown7
                               clear hown7 hg7 hat7)
                            | (refine step_guard (.tmp 103) (.tmp 104) 33 rfl ?_
                               refine step_append_src _ rfl (.tmp 103) (.tmp 104) 33 rfl w1.heap.size 38 it _ 2 16 Tryd.underlying33 HIT.out.1 HIT.out.2.1 HIT.out.2.2.1 HIT.out.2.2.2 rfl (by omega) v7 (j + 1) (fTerm.all (L.take j) ++ fTerm.cells t) (by rfl) (by exact HO7.out) A6 (m - j) c6 (fTerm.all (L.drop j)) (by rfl) (by exact src_len hm.out HO67.out.srcF) (fTerm.all_one _) (by unfold maxLen; omega) (by omega) (by exact hw7) ?_
                               intro v8 w8 hown8 hg8 hat8
                               have HBW8 := hid (HBW7.out.grown hg8 hw7 (fun q hq => (HO7.out.lt q hq).1))
                               have HO8 := hid hown8
                               clear hown8 hg8 hat8)))
                          all_goals try go_simp
                          all_goals go_wp2
                          all_goals
                            refine ⟨⟨k + 1, by omega, by go_num, hid ?_, HBW8⟩, by simp [intOf]; omega⟩
                            rw [HP.out, HFIN.out]
                            exact ask_fin HROK2.out.2 HTI.out hm.out hj HO8.out
                        · have hcj : j = c4 := by omega
                          subst hcj
                          have j3 : (↑j : Int) ≤ ↑j := by omega
                          have hmj : m - j = 0 := by omega
                          have hdr : L.drop j = [] := List.drop_of_length_le (by rw [← hm.out]; omega)
                          have HDR := hid hdr
                          clear hdr
                          have HCUT := hid (HOB.out.cutF j (by rw [← hm.out]; omega))
                          have hltk : (L.take j).length = j := by rw [List.length_take, ← hm.out]; omega
                          have HSRC := hid (fun (A' : Option Addr) (h : A' = some ⟨gq, j * 2, none⟩ ∨ j = j) => show Src wb A' (m - j) 2 (fTerm.all (L.drop j)) by
                            rcases h with rfl | h
                            · have h9 := HOB.out.srcF.drop (k := j) (by rw [← hm.out]; omega)
                              rw [← hm.out, Nat.zero_add] at h9
                              rw [Flat.all_drop]
                              exact h9
                            · have : m - j = 0 := by omega
                              rw [this, List.drop_of_length_le (by rw [← hm.out]; omega)]
                              exact ⟨rfl, fun h => absurd h (by omega)⟩)
                          have HLK := hid hltk
                          clear hltk
                          go_wp2_with (first
                            | (at_builtin
                               go_must (refine wpList_append_src _ rfl (.const (.slice none 0 0)) (.tmp 96) _ rfl wb.heap.size 38 it _ 2 16 Tryd.underlying33 HIT.out.1 HIT.out.2.1 HIT.out.2.2.1 HIT.out.2.2.2 rfl (by omega) (.slice none 0 0) 0 [] rfl (own_noneF _ _ _ _) _ 0 _ [] rfl ⟨rfl, fun h => absurd h (by omega)⟩ (fun u hu => by cases hu) (by unfold maxLen; omega) (by omega) (Nat.le_refl _) ?_)
                               intro v6 w6 hown6 hg6 hat6))
                          have hK6 : Below wb.heap.size wb w6 := (b0 wb).grown hg6 (Nat.le_refl _) (fun q hq => by cases hq)
                          have HO6 : Hid (OwnF fTerm 38 wb.heap.size w6 v6 (L.drop j)) := hid ⟨by have h9 := hown6; rw [HDR.out]; exact h9, fun x hx => HOB.out.2 x (List.mem_of_mem_drop hx)⟩
                          have HC6 := hid (HCUT.out.below hK6 (Nat.le_refl _))
                          have z06 := cell_below hK6 hbtb z0
                          have z16 := cell_below hK6 hbtb z1
                          have HBW6 := hid (show Below w1.heap.size w1 w6 from HBW1.out.trans (hK6.mono hw1b))
                          have hw6 : w1.heap.size ≤ w6.heap.size := Nat.le_trans hw1b hK6.size
                          have hb6s := hK6.size
                          obtain ⟨A6, c6, hv6⟩ := HO6.out.form
                          rw [List.length_drop, ← hm.out] at hv6
                          rw [hmj] at hv6
                          subst hv6
                          clear hown6 hg6 hat6 z0 z1 hK6 HSRC
                          go_region_law ((first
                            | (refine step_guard (.tmp 100) (.tmp 102) 33 rfl ?_
                               go_must (refine step_append_src _ rfl (.tmp 100) (.tmp 102) 33 rfl w1.heap.size 38 it _ 2 16 Tryd.underlying33 HIT.out.1 HIT.out.2.1 HIT.out.2.2.1 HIT.out.2.2.2 rfl (by omega) (.slice (some ⟨gq, 0, none⟩) j j) j (fTerm.all (L.take j)) (by rfl) (by first | exact own_len HLK.out (HC6.out.1.alloc _) | exact own_len HLK.out (own_alloc_drew HC6.out.1 _)) _ 1 1 (fTerm.cells t) (by rfl) (by first | exact src_new _ _ (by simp) 2 (fTerm.cells t) rfl rfl | exact src_new_drew _ _ (by simp) 2 (fTerm.cells t) rfl rfl) (by simp [fTerm, Value.oneCell']) (by unfold maxLen; omega) (by omega) (by simp; omega) ?_)
                               intro v7 w7 hown7 hg7 hat7
                               have HBW7 : Hid (Below w1.heap.size w1 w7) := hid (by first | exact (HBW6.out.alloc hw6 _).grown hg7 (by simp; omega) (fun q hq => by cases hq; omega) | exact ((HBW6.out.alloc hw6 _).drew).grown hg7 (by simp; omega) (fun q hq => by cases hq; omega))
                               have HO67 : Hid (OwnF fTerm 38 wb.heap.size w7 (.slice A6 0 c6) (L.drop j)) := hid (OwnF.by_other (by first | exact HO6.out.alloc _ | exact (HO6.out.alloc _).drew) hg7 (fun q hq e => by have h1 := (HO6.out.lt q hq).1; have h2 : gq = q := (by simpa [Value.ownBlock] using e); omega))
                               have hw7 : w1.heap.size ≤ w7.heap.size := Nat.le_trans (by simp; omega) hg7.size
                               have HO7 := hid hown7
                               clear hown7 hg7 hat7)
                            | (refine step_guard (.tmp 103) (.tmp 104) 33 rfl ?_
                               refine step_append_src _ rfl (.tmp 103) (.tmp 104) 33 rfl w1.heap.size 38 it _ 2 16 Tryd.underlying33 HIT.out.1 HIT.out.2.1 HIT.out.2.2.1 HIT.out.2.2.2 rfl (by omega) v7 (j + 1) (fTerm.all (L.take j) ++ fTerm.cells t) (by rfl) (by exact HO7.out) A6 0 c6 (fTerm.all (L.drop j)) (by rfl) (by rw [← hmj]; exact src_len hm.out HO67.out.srcF) (fTerm.all_one _) (by unfold maxLen; omega) (by omega) (by exact hw7) ?_
                               intro v8 w8 hown8 hg8 hat8
                               have HBW8 := hid (HBW7.out.grown hg8 hw7 (fun q hq => (HO7.out.lt q hq).1))
                               have HO8 := hid hown8
                               clear hown8 hg8 hat8)))
                          all_goals try go_simp
                          all_goals go_wp2
                          all_goals
                            refine ⟨⟨k + 1, by omega, by go_num, hid ?_, HBW8⟩, by simp [intOf]; omega⟩
                            rw [HP.out, HFIN.out]
                            exact ask_fin HROK2.out.2 HTI.out hm.out hj (by rw [hmj]; exact HO8.out)
                  · have e2 : (x.unit == t.unit) = false := by simpa using heq
                    have HX := show ¬ ltT L[j] t by rw [← hx]; unfold ltT; omega
                    have hxt : ¬ x = t := fun e => heq (by rw [e])
                    replace heq := hid heq
                    have HXT := hid (show ¬ L[j] = t from fun e => hxt (hx.trans e))
                    have hn := fun W => term_eql x t W
                    have hgd := fun op a b W => term_guard op a b x t W
                    have hd : decide (x = t) = false := decide_eq_false hxt
                    have HFIN := hid (show insT L t = L.take j ++ t :: L.drop j by
                      rw [insT_at (k := j) (by rw [← hm.out]; omega) HLT.out (fun _ => HX), if_neg (fun e => HXT.out (by rw [List.getElem?_eq_getElem hjl] at e; exact Option.some.inj e))])
                    have j4 : (↑j : Int) ≤ ↑m := by omega
                    replace hx := hid hx
                    replace hxt := hid hxt
                    clear HX HXT hy0 hy1
                    go_wp2_with fail
                    go_quiet (fail)
                    obtain ⟨wa, hwa⟩ : ∃ wa : World, wa = wr.drewN nq := ⟨_, rfl⟩
                    have HBA := hid (show Below wt.heap.size wt wa by rw [hwa]; exact below_drewN hb2.out _)
                    have x0' : wa.cell? ⟨bt, 0, none⟩ = some (.int .i64 t.unit) := by rw [hwa]; exact x0
                    have x1' : wa.cell? ⟨bt, 1, none⟩ = some (.int .i64 t.mask) := by rw [hwa]; exact x1
                    have y0' : wa.cell? ⟨gq, oq + j * 2, none⟩ = some (.int .i64 x.unit) := by rw [hwa]; exact y0
                    have y1' : wa.cell? ⟨gq, oq + j * 2 + 1, none⟩ = some (.int .i64 x.mask) := by rw [hwa]; exact y1
                    rw [← hwa]
                    clear hwa
                    go_wp2_with fail
                    go_quiet (fail)
                    obtain ⟨wb, hwb⟩ : ∃ wb : World, wb = wa.drewN nq := ⟨_, rfl⟩
                    have HBB := hid (show Below wt.heap.size wt wb by rw [hwb]; exact below_drewN HBA.out _)
                    have z0 : wb.cell? ⟨bt, 0, none⟩ = some (.int .i64 t.unit) := by rw [hwb]; exact x0'
                    have z1 : wb.cell? ⟨bt, 1, none⟩ = some (.int .i64 t.mask) := by rw [hwb]; exact x1'
                    have HOB := hid (HOW.out.below HBB.out (Nat.le_refl _))
                    rw [← hwb]
                    clear hwb x0 x1 x0' x1' y0 y1 y0' y1' HOR
                    have hbtb : bt < wb.heap.size := Nat.lt_of_lt_of_le hbtl HBB.out.size
                    have hw1b : w1.heap.size ≤ wb.heap.size := Nat.le_trans hw1t HBB.out.size
                    have HBW1 := hid (show Below w1.heap.size w1 wb from HBT.out.trans (HBB.out.mono hw1t))
                    obtain ⟨gq', hgqe, hgq, hgl, hnc⟩ : ∃ g, some (⟨gq, oq, none⟩ : Addr) = some ⟨g, 0, none⟩ ∧ w1.heap.size ≤ g ∧ g < wb.heap.size ∧ m ≤ c4 := by
                      rcases HOB.out.some_or hm.out with ⟨h, _, _⟩ | h
                      · cases h
                      · exact h
                    injection hgqe with hgqe
                    injection hgqe with hq1 hq2
                    subst hq1
                    subst hq2
                    rcases Nat.lt_or_ge j c4 with hc | hc
                    · have j3 : (↑j : Int) ≤ ↑c4 := by omega
                      have hcn : ¬ c4 = j := by omega
                      have HCUT := hid (HOB.out.cutF j (by rw [← hm.out]; omega))
                      have hltk : (L.take j).length = j := by rw [List.length_take, ← hm.out]; omega
                      have HSRC := hid (fun (A' : Option Addr) (h : A' = some ⟨gq, j * 2, none⟩ ∨ c4 = j) => show Src wb A' (m - j) 2 (fTerm.all (L.drop j)) by
                        rcases h with rfl | h
                        · have h9 := HOB.out.srcF.drop (k := j) (by rw [← hm.out]; omega)
                          rw [← hm.out, Nat.zero_add] at h9
                          rw [Flat.all_drop]
                          exact h9
                        · have : m - j = 0 := by omega
                          rw [this, List.drop_of_length_le (by rw [← hm.out]; omega)]
                          exact ⟨rfl, fun h => absurd h (by omega)⟩)
                      have HLK := hid hltk
                      clear hltk
                      go_wp2_with (first
                        | (at_builtin
                           go_must (refine wpList_append_src _ rfl (.const (.slice none 0 0)) (.tmp 96) _ rfl wb.heap.size 38 it _ 2 16 Tryd.underlying33 HIT.out.1 HIT.out.2.1 HIT.out.2.2.1 HIT.out.2.2.2 rfl (by omega) (.slice none 0 0) 0 [] rfl (own_noneF _ _ _ _) _ _ _ _ rfl (HSRC.out _ (by first | exact .inl rfl | exact .inr rfl | (split; exact .inr (by assumption); exact .inl rfl))) (fTerm.all_one _) (by unfold maxLen; omega) (by omega) (Nat.le_refl _) ?_)
                           intro v6 w6 hown6 hg6 hat6))
                      have hK6 : Below wb.heap.size wb w6 := (b0 wb).grown hg6 (Nat.le_refl _) (fun q hq => by cases hq)
                      have HO6 : Hid (OwnF fTerm 38 wb.heap.size w6 v6 (L.drop j)) := hid ⟨by have h9 := hown6; rw [Nat.zero_add, List.nil_append] at h9; rw [List.length_drop, ← hm.out]; exact h9, fun x hx => HOB.out.2 x (List.mem_of_mem_drop hx)⟩
                      have HC6 := hid (HCUT.out.below hK6 (Nat.le_refl _))
                      have z06 := cell_below hK6 hbtb z0
                      have z16 := cell_below hK6 hbtb z1
                      have HBW6 := hid (show Below w1.heap.size w1 w6 from HBW1.out.trans (hK6.mono hw1b))
                      have hw6 : w1.heap.size ≤ w6.heap.size := Nat.le_trans hw1b hK6.size
                      have hb6s := hK6.size
                      obtain ⟨A6, c6, hv6⟩ := HO6.out.form
                      rw [List.length_drop, ← hm.out] at hv6
                      subst hv6
                      clear hown6 hg6 hat6 z0 z1 hK6 HSRC
                      go_region_law ((first
                        | (refine step_guard (.tmp 100) (.tmp 102) 33 rfl ?_
                           go_must (refine step_append_src _ rfl (.tmp 100) (.tmp 102) 33 rfl w1.heap.size 38 it _ 2 16 Tryd.underlying33 HIT.out.1 HIT.out.2.1 HIT.out.2.2.1 HIT.out.2.2.2 rfl (by omega) (.slice (some ⟨gq, 0, none⟩) j c4) j (fTerm.all (L.take j)) (by rfl) (by first | exact own_len HLK.out (HC6.out.1.alloc _) | exact own_len HLK.out (own_alloc_drew HC6.out.1 _)) _ 1 1 (fTerm.cells t) (by rfl) (by first | exact src_new _ _ (by simp) 2 (fTerm.cells t) rfl rfl | exact src_new_drew _ _ (by simp) 2 (fTerm.cells t) rfl rfl) (by simp [fTerm, Value.oneCell']) (by unfold maxLen; omega) (by omega) (by simp; omega) ?_)
                           intro v7 w7 hown7 hg7 hat7
                           have HBW7 : Hid (Below w1.heap.size w1 w7) := hid (by first | exact (HBW6.out.alloc hw6 _).grown hg7 (by simp; omega) (fun q hq => by cases hq; omega) | exact ((HBW6.out.alloc hw6 _).drew).grown hg7 (by simp; omega) (fun q hq => by cases hq; omega))
                           have HO67 : Hid (OwnF fTerm 38 wb.heap.size w7 (.slice A6 (m - j) c6) (L.drop j)) := hid (OwnF.by_other (by first | exact HO6.out.alloc _ | exact (HO6.out.alloc _).drew) hg7 (fun q hq e => by have h1 := (HO6.out.lt q hq).1; have h2 : gq = q := (by simpa [Value.ownBlock] using e); omega))
                           have hw7 : w1.heap.size ≤ w7.heap.size := Nat.le_trans (by simp; omega) hg7.size
                           have HO7 := hid hown7
                           clear hown7 hg7 hat7)
                        | (refine step_guard (.tmp 103) (.tmp 104) 33 rfl ?_
                           refine step_append_src _ rfl (.tmp 103) (.tmp 104) 33 rfl w1.heap.size 38 it _ 2 16 Tryd.underlying33 HIT.out.1 HIT.out.2.1 HIT.out.2.2.1 HIT.out.2.2.2 rfl (by omega) v7 (j + 1) (fTerm.all (L.take j) ++ fTerm.cells t) (by rfl) (by exact HO7.out) A6 (m - j) c6 (fTerm.all (L.drop j)) (by rfl) (by exact src_len hm.out HO67.out.srcF) (fTerm.all_one _) (by unfold maxLen; omega) (by omega) (by exact hw7) ?_
                           intro v8 w8 hown8 hg8 hat8
                           have HBW8 := hid (HBW7.out.grown hg8 hw7 (fun q hq => (HO7.out.lt q hq).1))
                           have HO8 := hid hown8
                           clear hown8 hg8 hat8)))
                      all_goals try go_simp
                      all_goals go_wp2
                      all_goals
                        refine ⟨⟨k + 1, by omega, by go_num, hid ?_, HBW8⟩, by simp [intOf]; omega⟩
                        rw [HP.out, HFIN.out]
                        exact ask_fin HROK2.out.2 HTI.out hm.out hj HO8.out
                    · have hcj : j = c4 := by omega
                      subst hcj
                      have j3 : (↑j : Int) ≤ ↑j := by omega
                      have hmj : m - j = 0 := by omega
                      have hdr : L.drop j = [] := List.drop_of_length_le (by rw [← hm.out]; omega)
                      have HDR := hid hdr
                      clear hdr
                      have HCUT := hid (HOB.out.cutF j (by rw [← hm.out]; omega))
                      have hltk : (L.take j).length = j := by rw [List.length_take, ← hm.out]; omega
                      have HSRC := hid (fun (A' : Option Addr) (h : A' = some ⟨gq, j * 2, none⟩ ∨ j = j) => show Src wb A' (m - j) 2 (fTerm.all (L.drop j)) by
                        rcases h with rfl | h
                        · have h9 := HOB.out.srcF.drop (k := j) (by rw [← hm.out]; omega)
                          rw [← hm.out, Nat.zero_add] at h9
                          rw [Flat.all_drop]
                          exact h9
                        · have : m - j = 0 := by omega
                          rw [this, List.drop_of_length_le (by rw [← hm.out]; omega)]
                          exact ⟨rfl, fun h => absurd h (by omega)⟩)
                      have HLK := hid hltk
                      clear hltk
                      go_wp2_with (first
                        | (at_builtin
                           go_must (refine wpList_append_src _ rfl (.const (.slice none 0 0)) (.tmp 96) _ rfl wb.heap.size 38 it _ 2 16 Tryd.underlying33 HIT.out.1 HIT.out.2.1 HIT.out.2.2.1 HIT.out.2.2.2 rfl (by omega) (.slice none 0 0) 0 [] rfl (own_noneF _ _ _ _) _ 0 _ [] rfl ⟨rfl, fun h => absurd h (by omega)⟩ (fun u hu => by cases hu) (by unfold maxLen; omega) (by omega) (Nat.le_refl _) ?_)
                           intro v6 w6 hown6 hg6 hat6))
                      have hK6 : Below wb.heap.size wb w6 := (b0 wb).grown hg6 (Nat.le_refl _) (fun q hq => by cases hq)
                      have HO6 : Hid (OwnF fTerm 38 wb.heap.size w6 v6 (L.drop j)) := hid ⟨by have h9 := hown6; rw [HDR.out]; exact h9, fun x hx => HOB.out.2 x (List.mem_of_mem_drop hx)⟩
                      have HC6 := hid (HCUT.out.below hK6 (Nat.le_refl _))
                      have z06 := cell_below hK6 hbtb z0
                      have z16 := cell_below hK6 hbtb z1
                      have HBW6 := hid (show Below w1.heap.size w1 w6 from HBW1.out.trans (hK6.mono hw1b))
                      have hw6 : w1.heap.size ≤ w6.heap.size := Nat.le_trans hw1b hK6.size
                      have hb6s := hK6.size
                      obtain ⟨A6, c6, hv6⟩ := HO6.out.form
                      rw [List.length_drop, ← hm.out] at hv6
                      rw [hmj] at hv6
                      subst hv6
                      clear hown6 hg6 hat6 z0 z1 hK6 HSRC
                      go_region_law ((first
                        | (refine step_guard (.tmp 100) (.tmp 102) 33 rfl ?_
                           go_must (refine step_append_src _ rfl (.tmp 100) (.tmp 102) 33 rfl w1.heap.size 38 it _ 2 16 Tryd.underlying33 HIT.out.1 HIT.out.2.1 HIT.out.2.2.1 HIT.out.2.2.2 rfl (by omega) (.slice (some ⟨gq, 0, none⟩) j j) j (fTerm.all (L.take j)) (by rfl) (by first | exact own_len HLK.out (HC6.out.1.alloc _) | exact own_len HLK.out (own_alloc_drew HC6.out.1 _)) _ 1 1 (fTerm.cells t) (by rfl) (by first | exact src_new _ _ (by simp) 2 (fTerm.cells t) rfl rfl | exact src_new_drew _ _ (by simp) 2 (fTerm.cells t) rfl rfl) (by simp [fTerm, Value.oneCell']) (by unfold maxLen; omega) (by omega) (by simp; omega) ?_)
                           intro v7 w7 hown7 hg7 hat7
                           have HBW7 : Hid (Below w1.heap.size w1 w7) := hid (by first | exact (HBW6.out.alloc hw6 _).grown hg7 (by simp; omega) (fun q hq => by cases hq; omega) | exact ((HBW6.out.alloc hw6 _).drew).grown hg7 (by simp; omega) (fun q hq => by cases hq; omega))
                           have HO67 : Hid (OwnF fTerm 38 wb.heap.size w7 (.slice A6 0 c6) (L.drop j)) := hid (OwnF.by_other (by first | exact HO6.out.alloc _ | exact (HO6.out.alloc _).drew) hg7 (fun q hq e => by have h1 := (HO6.out.lt q hq).1; have h2 : gq = q := (by simpa [Value.ownBlock] using e); omega))
                           have hw7 : w1.heap.size ≤ w7.heap.size := Nat.le_trans (by simp; omega) hg7.size
                           have HO7 := hid hown7
                           clear hown7 hg7 hat7)
                        | (refine step_guard (.tmp 103) (.tmp 104) 33 rfl ?_
                           refine step_append_src _ rfl (.tmp 103) (.tmp 104) 33 rfl w1.heap.size 38 it _ 2 16 Tryd.underlying33 HIT.out.1 HIT.out.2.1 HIT.out.2.2.1 HIT.out.2.2.2 rfl (by omega) v7 (j + 1) (fTerm.all (L.take j) ++ fTerm.cells t) (by rfl) (by exact HO7.out) A6 0 c6 (fTerm.all (L.drop j)) (by rfl) (by rw [← hmj]; exact src_len hm.out HO67.out.srcF) (fTerm.all_one _) (by unfold maxLen; omega) (by omega) (by exact hw7) ?_
                           intro v8 w8 hown8 hg8 hat8
                           have HBW8 := hid (HBW7.out.grown hg8 hw7 (fun q hq => (HO7.out.lt q hq).1))
                           have HO8 := hid hown8
                           clear hown8 hg8 hat8)))
                      all_goals try go_simp
                      all_goals go_wp2
                      all_goals
                        refine ⟨⟨k + 1, by omega, by go_num, hid ?_, HBW8⟩, by simp [intOf]; omega⟩
                        rw [HP.out, HFIN.out]
                        exact ask_fin HROK2.out.2 HTI.out hm.out hj (by rw [hmj]; exact HO8.out)
              · have hjm' : j = m := by omega
                have d1 := decide_eq_false (show ¬ (↑j : Int) < ↑m by omega)
                have d2 := decide_eq_false (show ¬ j < m by omega)
                have j4 : (↑j : Int) ≤ ↑m := by omega
                have HFIN := hid (show insT L t = L.take j ++ t :: L.drop j by
                  rw [insT_at (k := j) (by rw [← hm.out]; omega) HLT.out (fun h => absurd h (by rw [← hm.out]; omega)), if_neg]
                  rw [List.getElem?_eq_none (by rw [← hm.out]; omega)]
                  simp)
                replace hjm' := hid hjm'
                go_wp2_with fail
                go_quiet (fail)
                obtain ⟨wa, hwa⟩ : ∃ wa : World, wa = wr.drewN nq := ⟨_, rfl⟩
                have HBA := hid (show Below wt.heap.size wt wa by rw [hwa]; exact below_drewN hb2.out _)
                have x0' : wa.cell? ⟨bt, 0, none⟩ = some (.int .i64 t.unit) := by rw [hwa]; exact x0
                have x1' : wa.cell? ⟨bt, 1, none⟩ = some (.int .i64 t.mask) := by rw [hwa]; exact x1
                rw [← hwa]
                clear hwa
                go_wp2_with fail
                go_quiet (fail)
                obtain ⟨wb, hwb⟩ : ∃ wb : World, wb = wa.drewN nq := ⟨_, rfl⟩
                have HBB := hid (show Below wt.heap.size wt wb by rw [hwb]; exact below_drewN HBA.out _)
                have z0 : wb.cell? ⟨bt, 0, none⟩ = some (.int .i64 t.unit) := by rw [hwb]; exact x0'
                have z1 : wb.cell? ⟨bt, 1, none⟩ = some (.int .i64 t.mask) := by rw [hwb]; exact x1'
                have HOB := hid (HOW.out.below HBB.out (Nat.le_refl _))
                rw [← hwb]
                clear hwb x0 x1 x0' x1' HOR
                have hbtb : bt < wb.heap.size := Nat.lt_of_lt_of_le hbtl HBB.out.size
                have hw1b : w1.heap.size ≤ wb.heap.size := Nat.le_trans hw1t HBB.out.size
                have HBW1 := hid (show Below w1.heap.size w1 wb from HBT.out.trans (HBB.out.mono hw1t))
                rcases HOB.out.some_or hm.out with ⟨rfl, h0, h1⟩ | ⟨gq, rfl, hgq, hgl, hnc⟩
                · subst h0
                  subst h1
                  obtain rfl : j = 0 := by omega
                  have hL0 : L = [] := List.eq_nil_of_length_eq_zero hm.out.symm
                  subst hL0
                  go_wp2_with fail
                  go_region_law ((first
                    | (refine step_guard (.tmp 100) (.tmp 102) 33 rfl ?_
                       refine step_append_src _ rfl (.tmp 100) (.tmp 102) 33 rfl w1.heap.size 38 it _ 2 16 Tryd.underlying33 HIT.out.1 HIT.out.2.1 HIT.out.2.2.1 HIT.out.2.2.2 rfl (by omega) (.slice none 0 0) 0 [] (by rfl) (own_noneF _ _ _ _) _ 1 1 (fTerm.cells t) (by rfl) (by first | exact src_new _ _ (by simp) 2 (fTerm.cells t) rfl rfl | exact src_new_drew _ _ (by simp) 2 (fTerm.cells t) rfl rfl) (by simp [fTerm, Value.oneCell']) (by unfold maxLen; omega) (by omega) (by simp; omega) ?_
                       intro v7 w7 hown7 hg7 hat7
                       have HBW7 : Hid (Below w1.heap.size w1 w7) := hid (by first | exact (HBW1.out.alloc hw1b _).grown hg7 (by simp; omega) (fun q hq => by cases hq) | exact ((HBW1.out.alloc hw1b _).drew).grown hg7 (by simp; omega) (fun q hq => by cases hq))
                       have hw7 : w1.heap.size ≤ w7.heap.size := Nat.le_trans (by simp; omega) hg7.size
                       have HO7 := hid hown7
                       clear hown7 hg7 hat7)
                    | (refine step_guard (.tmp 103) (.tmp 104) 33 rfl ?_
                       refine step_append_src _ rfl (.tmp 103) (.tmp 104) 33 rfl w1.heap.size 38 it _ 2 16 Tryd.underlying33 HIT.out.1 HIT.out.2.1 HIT.out.2.2.1 HIT.out.2.2.2 rfl (by omega) v7 (0 + 1) ([] ++ fTerm.cells t) (by rfl) (by exact HO7.out) none 0 0 [] (by rfl) ⟨rfl, fun h => absurd h (by omega)⟩ (fun u hu => by cases hu) (by unfold maxLen; omega) (by omega) (by exact hw7) ?_
                       intro v8 w8 hown8 hg8 hat8
                       have HBW8 := hid (HBW7.out.grown hg8 hw7 (fun q hq => (HO7.out.lt q hq).1))
                       have HO8 := hid hown8
                       clear hown8 hg8 hat8)))
                  all_goals try go_simp
                  all_goals go_wp2
                  all_goals
                    refine ⟨⟨k + 1, by omega, by go_num, hid ?_, HBW8⟩, by simp [intOf]; omega⟩
                    rw [HP.out]
                    exact ask_fin (L := []) (j := 0) (m := 0) HROK2.out.2 HTI.out rfl (by omega) HO8.out
                · rcases Nat.lt_or_ge j c4 with hc | hc
                  · have j3 : (↑j : Int) ≤ ↑c4 := by omega
                    have hcn : ¬ c4 = j := by omega
                    have HCUT := hid (HOB.out.cutF j (by rw [← hm.out]; omega))
                    have hltk : (L.take j).length = j := by rw [List.length_take, ← hm.out]; omega
                    have HSRC := hid (fun (A' : Option Addr) (h : A' = some ⟨gq, j * 2, none⟩ ∨ c4 = j) => show Src wb A' (m - j) 2 (fTerm.all (L.drop j)) by
                      rcases h with rfl | h
                      · have h9 := HOB.out.srcF.drop (k := j) (by rw [← hm.out]; omega)
                        rw [← hm.out, Nat.zero_add] at h9
                        rw [Flat.all_drop]
                        exact h9
                      · have : m - j = 0 := by omega
                        rw [this, List.drop_of_length_le (by rw [← hm.out]; omega)]
                        exact ⟨rfl, fun h => absurd h (by omega)⟩)
                    have HLK := hid hltk
                    clear hltk
                    go_wp2_with (first
                      | (at_builtin
                         go_must (refine wpList_append_src _ rfl (.const (.slice none 0 0)) (.tmp 96) _ rfl wb.heap.size 38 it _ 2 16 Tryd.underlying33 HIT.out.1 HIT.out.2.1 HIT.out.2.2.1 HIT.out.2.2.2 rfl (by omega) (.slice none 0 0) 0 [] rfl (own_noneF _ _ _ _) _ _ _ _ rfl (HSRC.out _ (by first | exact .inl rfl | exact .inr rfl | (split; exact .inr (by assumption); exact .inl rfl))) (fTerm.all_one _) (by unfold maxLen; omega) (by omega) (Nat.le_refl _) ?_)
                         intro v6 w6 hown6 hg6 hat6))
                    have hK6 : Below wb.heap.size wb w6 := (b0 wb).grown hg6 (Nat.le_refl _) (fun q hq => by cases hq)
                    have HO6 : Hid (OwnF fTerm 38 wb.heap.size w6 v6 (L.drop j)) := hid ⟨by have h9 := hown6; rw [Nat.zero_add, List.nil_append] at h9; rw [List.length_drop, ← hm.out]; exact h9, fun x hx => HOB.out.2 x (List.mem_of_mem_drop hx)⟩
                    have HC6 := hid (HCUT.out.below hK6 (Nat.le_refl _))
                    have z06 := cell_below hK6 hbtb z0
                    have z16 := cell_below hK6 hbtb z1
                    have HBW6 := hid (show Below w1.heap.size w1 w6 from HBW1.out.trans (hK6.mono hw1b))
                    have hw6 : w1.heap.size ≤ w6.heap.size := Nat.le_trans hw1b hK6.size
                    have hb6s := hK6.size
                    obtain ⟨A6, c6, hv6⟩ := HO6.out.form
                    rw [List.length_drop, ← hm.out] at hv6
                    subst hv6
                    clear hown6 hg6 hat6 z0 z1 hK6 HSRC
                    go_region_law ((first
                      | (refine step_guard (.tmp 100) (.tmp 102) 33 rfl ?_
                         go_must (refine step_append_src _ rfl (.tmp 100) (.tmp 102) 33 rfl w1.heap.size 38 it _ 2 16 Tryd.underlying33 HIT.out.1 HIT.out.2.1 HIT.out.2.2.1 HIT.out.2.2.2 rfl (by omega) (.slice (some ⟨gq, 0, none⟩) j c4) j (fTerm.all (L.take j)) (by rfl) (by first | exact own_len HLK.out (HC6.out.1.alloc _) | exact own_len HLK.out (own_alloc_drew HC6.out.1 _)) _ 1 1 (fTerm.cells t) (by rfl) (by first | exact src_new _ _ (by simp) 2 (fTerm.cells t) rfl rfl | exact src_new_drew _ _ (by simp) 2 (fTerm.cells t) rfl rfl) (by simp [fTerm, Value.oneCell']) (by unfold maxLen; omega) (by omega) (by simp; omega) ?_)
                         intro v7 w7 hown7 hg7 hat7
                         have HBW7 : Hid (Below w1.heap.size w1 w7) := hid (by first | exact (HBW6.out.alloc hw6 _).grown hg7 (by simp; omega) (fun q hq => by cases hq; omega) | exact ((HBW6.out.alloc hw6 _).drew).grown hg7 (by simp; omega) (fun q hq => by cases hq; omega))
                         have HO67 : Hid (OwnF fTerm 38 wb.heap.size w7 (.slice A6 (m - j) c6) (L.drop j)) := hid (OwnF.by_other (by first | exact HO6.out.alloc _ | exact (HO6.out.alloc _).drew) hg7 (fun q hq e => by have h1 := (HO6.out.lt q hq).1; have h2 : gq = q := (by simpa [Value.ownBlock] using e); omega))
                         have hw7 : w1.heap.size ≤ w7.heap.size := Nat.le_trans (by simp; omega) hg7.size
                         have HO7 := hid hown7
                         clear hown7 hg7 hat7)
                      | (refine step_guard (.tmp 103) (.tmp 104) 33 rfl ?_
                         refine step_append_src _ rfl (.tmp 103) (.tmp 104) 33 rfl w1.heap.size 38 it _ 2 16 Tryd.underlying33 HIT.out.1 HIT.out.2.1 HIT.out.2.2.1 HIT.out.2.2.2 rfl (by omega) v7 (j + 1) (fTerm.all (L.take j) ++ fTerm.cells t) (by rfl) (by exact HO7.out) A6 (m - j) c6 (fTerm.all (L.drop j)) (by rfl) (by exact src_len hm.out HO67.out.srcF) (fTerm.all_one _) (by unfold maxLen; omega) (by omega) (by exact hw7) ?_
                         intro v8 w8 hown8 hg8 hat8
                         have HBW8 := hid (HBW7.out.grown hg8 hw7 (fun q hq => (HO7.out.lt q hq).1))
                         have HO8 := hid hown8
                         clear hown8 hg8 hat8)))
                    all_goals try go_simp
                    all_goals go_wp2
                    all_goals
                      refine ⟨⟨k + 1, by omega, by go_num, hid ?_, HBW8⟩, by simp [intOf]; omega⟩
                      rw [HP.out, HFIN.out]
                      exact ask_fin HROK2.out.2 HTI.out hm.out hj HO8.out
                  · have hcj : j = c4 := by omega
                    subst hcj
                    have j3 : (↑j : Int) ≤ ↑j := by omega
                    have hmj : m - j = 0 := by omega
                    have hdr : L.drop j = [] := List.drop_of_length_le (by rw [← hm.out]; omega)
                    have HDR := hid hdr
                    clear hdr
                    have HCUT := hid (HOB.out.cutF j (by rw [← hm.out]; omega))
                    have hltk : (L.take j).length = j := by rw [List.length_take, ← hm.out]; omega
                    have HSRC := hid (fun (A' : Option Addr) (h : A' = some ⟨gq, j * 2, none⟩ ∨ j = j) => show Src wb A' (m - j) 2 (fTerm.all (L.drop j)) by
                      rcases h with rfl | h
                      · have h9 := HOB.out.srcF.drop (k := j) (by rw [← hm.out]; omega)
                        rw [← hm.out, Nat.zero_add] at h9
                        rw [Flat.all_drop]
                        exact h9
                      · have : m - j = 0 := by omega
                        rw [this, List.drop_of_length_le (by rw [← hm.out]; omega)]
                        exact ⟨rfl, fun h => absurd h (by omega)⟩)
                    have HLK := hid hltk
                    clear hltk
                    go_wp2_with (first
                      | (at_builtin
                         go_must (refine wpList_append_src _ rfl (.const (.slice none 0 0)) (.tmp 96) _ rfl wb.heap.size 38 it _ 2 16 Tryd.underlying33 HIT.out.1 HIT.out.2.1 HIT.out.2.2.1 HIT.out.2.2.2 rfl (by omega) (.slice none 0 0) 0 [] rfl (own_noneF _ _ _ _) _ 0 _ [] rfl ⟨rfl, fun h => absurd h (by omega)⟩ (fun u hu => by cases hu) (by unfold maxLen; omega) (by omega) (Nat.le_refl _) ?_)
                         intro v6 w6 hown6 hg6 hat6))
                    have hK6 : Below wb.heap.size wb w6 := (b0 wb).grown hg6 (Nat.le_refl _) (fun q hq => by cases hq)
                    have HO6 : Hid (OwnF fTerm 38 wb.heap.size w6 v6 (L.drop j)) := hid ⟨by have h9 := hown6; rw [HDR.out]; exact h9, fun x hx => HOB.out.2 x (List.mem_of_mem_drop hx)⟩
                    have HC6 := hid (HCUT.out.below hK6 (Nat.le_refl _))
                    have z06 := cell_below hK6 hbtb z0
                    have z16 := cell_below hK6 hbtb z1
                    have HBW6 := hid (show Below w1.heap.size w1 w6 from HBW1.out.trans (hK6.mono hw1b))
                    have hw6 : w1.heap.size ≤ w6.heap.size := Nat.le_trans hw1b hK6.size
                    have hb6s := hK6.size
                    obtain ⟨A6, c6, hv6⟩ := HO6.out.form
                    rw [List.length_drop, ← hm.out] at hv6
                    rw [hmj] at hv6
                    subst hv6
                    clear hown6 hg6 hat6 z0 z1 hK6 HSRC
                    go_region_law ((first
                      | (refine step_guard (.tmp 100) (.tmp 102) 33 rfl ?_
                         go_must (refine step_append_src _ rfl (.tmp 100) (.tmp 102) 33 rfl w1.heap.size 38 it _ 2 16 Tryd.underlying33 HIT.out.1 HIT.out.2.1 HIT.out.2.2.1 HIT.out.2.2.2 rfl (by omega) (.slice (some ⟨gq, 0, none⟩) j j) j (fTerm.all (L.take j)) (by rfl) (by first | exact own_len HLK.out (HC6.out.1.alloc _) | exact own_len HLK.out (own_alloc_drew HC6.out.1 _)) _ 1 1 (fTerm.cells t) (by rfl) (by first | exact src_new _ _ (by simp) 2 (fTerm.cells t) rfl rfl | exact src_new_drew _ _ (by simp) 2 (fTerm.cells t) rfl rfl) (by simp [fTerm, Value.oneCell']) (by unfold maxLen; omega) (by omega) (by simp; omega) ?_)
                         intro v7 w7 hown7 hg7 hat7
                         have HBW7 : Hid (Below w1.heap.size w1 w7) := hid (by first | exact (HBW6.out.alloc hw6 _).grown hg7 (by simp; omega) (fun q hq => by cases hq; omega) | exact ((HBW6.out.alloc hw6 _).drew).grown hg7 (by simp; omega) (fun q hq => by cases hq; omega))
                         have HO67 : Hid (OwnF fTerm 38 wb.heap.size w7 (.slice A6 0 c6) (L.drop j)) := hid (OwnF.by_other (by first | exact HO6.out.alloc _ | exact (HO6.out.alloc _).drew) hg7 (fun q hq e => by have h1 := (HO6.out.lt q hq).1; have h2 : gq = q := (by simpa [Value.ownBlock] using e); omega))
                         have hw7 : w1.heap.size ≤ w7.heap.size := Nat.le_trans (by simp; omega) hg7.size
                         have HO7 := hid hown7
                         clear hown7 hg7 hat7)
                      | (refine step_guard (.tmp 103) (.tmp 104) 33 rfl ?_
                         refine step_append_src _ rfl (.tmp 103) (.tmp 104) 33 rfl w1.heap.size 38 it _ 2 16 Tryd.underlying33 HIT.out.1 HIT.out.2.1 HIT.out.2.2.1 HIT.out.2.2.2 rfl (by omega) v7 (j + 1) (fTerm.all (L.take j) ++ fTerm.cells t) (by rfl) (by exact HO7.out) A6 0 c6 (fTerm.all (L.drop j)) (by rfl) (by rw [← hmj]; exact src_len hm.out HO67.out.srcF) (fTerm.all_one _) (by unfold maxLen; omega) (by omega) (by exact hw7) ?_
                         intro v8 w8 hown8 hg8 hat8
                         have HBW8 := hid (HBW7.out.grown hg8 hw7 (fun q hq => (HO7.out.lt q hq).1))
                         have HO8 := hid hown8
                         clear hown8 hg8 hat8)))
                    all_goals try go_simp
                    all_goals go_wp2
                    all_goals
                      refine ⟨⟨k + 1, by omega, by go_num, hid ?_, HBW8⟩, by simp [intOf]; omega⟩
                      rw [HP.out, HFIN.out]
                      exact ask_fin HROK2.out.2 HTI.out hm.out hj (by rw [hmj]; exact HO8.out)
        · have k4 : (kd != 4) = true := by simpa using h4
          have HS := hid (HSK.out (.inr (.inl h4)))
          clear h4 HSK HPUT HONE
          go_wp2
          exact ⟨⟨k + 1, by omega, by go_num, hid (by rw [HS.out]; exact HO.out), hb⟩, by simp [intOf]; omega⟩
    · obtain rfl : k = n := by omega
      go_wp2
      go_ret
      exact ⟨_, rfl, HO.out.rd, HBW.out⟩
end Go.Proofs.YtmghlakedaigpaaDoor
