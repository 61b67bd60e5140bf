/- Contracts: linchpinref10.value, values. -/
import Derived.Test.YtmdnleafpmondaaDoorU23
import Derived.Test.YtmdnleafpmondaaDoorR1
import Derived.Test.YtmdnleafpmondaaDoorU28
import Derived.Test.YtmdnleafpmondaaDoorU33
namespace Go.Proofs.YtmdnleafpmondaaDoor
open Go Go.RowKit

/-- The values of the first nodes, in a slice. -/
theorem vals_cell {G : List Frm} {E : Frm → Int} {k : Nat} {w : World} {F : Nat → Prop} {A : Option Addr} {n cap : Nat} (h : SliceRd tInt w F (.slice A n cap) ((G.take k).map E)) {j : Nat} {f : Frm} (hj : j < k) (hf : G[j]? = some f) :
    n = min k G.length ∧ ∃ g o, A = some ⟨g, o, none⟩ ∧ F g ∧ w.cell? ⟨g, o + j, none⟩ = some (.int .i64 (E f)) := by
  obtain ⟨A', cap', hv, h1, h2, h3⟩ := h.ints
  injection hv with e1 e2 e3
  subst e1
  have hjl := get_lt hf
  have hlen : ((G.take k).map E).length = min k G.length := by simp
  obtain ⟨g, o, hA, hF, hc, -⟩ := h3 j (by rw [hlen]; omega)
  refine ⟨e2.trans hlen, g, o, hA, hF, ?_⟩
  rw [hc]
  have : G[j] = f := (List.getElem?_eq_some_iff.1 hf).2
  simp [this]

set_option maxRecDepth 100000 in
set_option maxHeartbeats 4000000 in
theorem rvalue_any (l : List Node) (G : List Frm) (f : Frm) (k : Nat) (vv : Value) (en : EnvT) (w : World) (ht : TreeAt l G) (hf : G[k]? = some f) (_h15 : l.length ≤ 15) (hv : SliceRd tInt w (Lt w.heap.size) vv ((G.take k).map (evalF en.at))) :
    Calls Tryd.prog 55 #[.agg #[.int .i64 (opI f), .int .i64 (nA f k), .int .i64 (nB f k), .int .i64 (nK f), .string (nT f)], vv, en.val] w fun e w' => e = .returned (.int .i64 (evalF en.at f)) ∧ Below w.heap.size w w' := by
  obtain ⟨A, cap, rfl, -⟩ := hv.shape
  obtain ⟨n, hn⟩ : ∃ n, n = ((G.take k).map (evalF en.at)).length := ⟨_, rfl⟩
  rw [← hn] at hv
  rw [← hn]
  have hGl := ht.len
  have hkl := get_lt hf
  have hnk : n = k := by rw [hn]; simp; omega
  clear hn
  unfold EnvT.val
  obtain ⟨wx, hwx⟩ : ∃ wx, wx = (w.alloc (.cells #[.int .i64 (opI f), .int .i64 (nA f k), .int .i64 (nB f k), .int .i64 (nK f), .string (nT f)] 49)).alloc (.cells #[.string en.a, .string en.b, .string en.c] 38) := ⟨_, rfl⟩
  have HB := hid (show Below w.heap.size w wx by rw [hwx]; exact balloc (balloc (b0 w) _) _)
  have c0 : wx.cell? ⟨w.heap.size, 0, none⟩ = some (.int .i64 (opI f)) := by rw [hwx]; exact al2_old rfl
  have c1 : wx.cell? ⟨w.heap.size, 1, none⟩ = some (.int .i64 (nA f k)) := by rw [hwx]; exact al2_old rfl
  have c2 : wx.cell? ⟨w.heap.size, 2, none⟩ = some (.int .i64 (nB f k)) := by rw [hwx]; exact al2_old rfl
  have c3 : wx.cell? ⟨w.heap.size, 3, none⟩ = some (.int .i64 (nK f)) := by rw [hwx]; exact al2_old rfl
  have c4 : wx.cell? ⟨w.heap.size, 4, none⟩ = some (.string (nT f)) := by rw [hwx]; exact al2_old rfl
  have HE : Hid (∀ k, k < 3 → wx.cell? ⟨w.heap.size + 1, k, none⟩ = some (.string (en.at k))) := hid (fun k hk => by
    rw [hwx]
    match k, hk with
    | 0, _ => exact al2_new rfl
    | 1, _ => exact al2_new rfl
    | 2, _ => exact al2_new rfl)
  have HV := hid (hv.lift HB.out HB.out.size)
  have HOK := hid (ht.ok k f hf)
  clear hv
  cases f with
  | is kk s =>
    have hk3 : kk < 3 := HOK.out.1
    have he := HE.out kk hk3
    obtain ⟨x, hx⟩ : ∃ x, x = en.at kk := ⟨_, rfl⟩
    rw [← hx] at he
    have HR := hid (show evalF en.at (.is kk s) = valK x s by rw [hx]; rfl)
    have hL : ([Value.string en.a, Value.string en.b, Value.string en.c][kk]'(by simp; omega)) = Value.string x := by
      rw [hx]
      match kk, hk3 with
      | 0, _ => rfl
      | 1, _ => rfl
      | 2, _ => rfl
    replace hx := hid hx
    simp only [opI, nA, nB, nK, nT] at hwx c0 c1 c2 c3 c4 ⊢
    have i1 : (0 : Int) ≤ ↑kk := by omega
    have i2 : (↑kk : Int) < 3 := by omega
    rcases empty_eq x with ⟨tx, ptx⟩ | ⟨tx, ptx⟩
    · have HVV := hid (show valK x s = 1 by unfold valK; rw [if_pos ptx])
      replace ptx := hid ptx
      go_enter Tryd.func55, Tryd.ntmps55
      go_wp2
      go_ret
      exact ⟨by rw [HR.out, HVV.out]; rfl, by rw [← hwx]; exact HB.out⟩
    · by_cases hxs : x = s
      · have HVV := hid (show valK x s = 2 by unfold valK; rw [if_neg ptx, if_pos hxs])
        have e9 := eqS_t hxs
        replace hxs := hid hxs
        replace ptx := hid ptx
        go_enter Tryd.func55, Tryd.ntmps55
        go_wp2
        go_ret
        exact ⟨by rw [HR.out, HVV.out]; rfl, by rw [← hwx]; exact HB.out⟩
      · have HVV := hid (show valK x s = 0 by unfold valK; rw [if_neg ptx, if_neg hxs])
        have e9 := eqS_f hxs
        replace hxs := hid hxs
        replace ptx := hid ptx
        go_enter Tryd.func55, Tryd.ntmps55
        go_wp2
        go_ret
        exact ⟨by rw [HR.out, HVV.out]; rfl, by rw [← hwx]; exact HB.out⟩
  | no a =>
    obtain ⟨q1, hga⟩ := ht.no k a hf
    obtain ⟨ja, hja⟩ : ∃ ja, ja = k - 1 := ⟨_, rfl⟩
    rw [← hja] at hga
    have hnA : nA (Frm.no a) k = (ja : Int) := by simp only [nA]; omega
    rw [hnA] at hwx c1 ⊢
    obtain ⟨-, g, o, rfl, hF, hva⟩ := vals_cell HV.out (j := ja) (by omega) hga
    have hv3 := evalF_three en.at a
    have HR := hid (show evalF en.at (.no a) = 2 - evalF en.at a from rfl)
    obtain ⟨va, hvv⟩ : ∃ va, va = evalF en.at a := ⟨_, rfl⟩
    rw [← hvv] at hva hv3 HR
    replace hvv := hid hvv
    have hv1 : (0 : Int) ≤ va := by omega
    have hv2 : va ≤ 2 := by omega
    have i1 : (0 : Int) ≤ ↑ja := by omega
    have i2 : (↑ja : Int) < ↑n := by omega
    simp only [opI, nB, nK, nT] at hwx c0 c2 c3 c4 ⊢
    clear hv3 hja hnA hnk hga
    rw [hwx] at hva
    go_enter Tryd.func55, Tryd.ntmps55
    go_wp2
    go_ret
    exact ⟨by rw [HR.out]; rfl, by rw [← hwx]; exact HB.out⟩
  | two c a b =>
    cases c with
    | false =>
      obtain ⟨q1, hgb, hga⟩ := ht.two k _ _ _ hf
      obtain ⟨jb, hjb⟩ : ∃ jb, jb = k - 1 := ⟨_, rfl⟩
      obtain ⟨ja, hja⟩ : ∃ ja, ja = k - 1 - b.size := ⟨_, rfl⟩
      rw [← hja] at hga
      rw [← hjb] at hgb
      have hnA : nA (Frm.two false a b) k = (ja : Int) := by simp only [nA]; omega
      have hnB : nB (Frm.two false a b) k = (jb : Int) := by simp only [nB]; omega
      rw [hnA] at hwx c1 ⊢
      rw [hnB] at hwx c2 ⊢
      obtain ⟨-, g, o, rfl, hF, hva⟩ := vals_cell HV.out (j := ja) (by omega) hga
      obtain ⟨-, g', o', hg', -, hvb⟩ := vals_cell HV.out (j := jb) (by omega) hgb
      injection hg' with hg'
      injection hg' with e1 e2
      subst e1; subst e2
      have HR := hid (show evalF en.at (.two false a b) = min (evalF en.at a) (evalF en.at b) from rfl)
      obtain ⟨va, hvv⟩ : ∃ va, va = evalF en.at a := ⟨_, rfl⟩
      obtain ⟨vb, hvw⟩ : ∃ vb, vb = evalF en.at b := ⟨_, rfl⟩
      rw [← hvv] at hva HR
      rw [← hvw] at hvb HR
      replace hvv := hid hvv
      replace hvw := hid hvw
      have i1 : (0 : Int) ≤ ↑ja := by omega
      have i2 : (↑ja : Int) < ↑n := by omega
      have i3 : (0 : Int) ≤ ↑jb := by omega
      have i4 : (↑jb : Int) < ↑n := by omega
      simp only [opI, nK, nT] at hwx c0 c3 c4 ⊢
      clear hja hjb hnA hnB hnk hga hgb
      go_enter Tryd.func55, Tryd.ntmps55
      go_wp2_with fail
      rw [← hwx]
      clear hwx
      go_wp2_with fail
      go_quiet (fail)
      go_wp2
      all_goals go_ret
      all_goals exact ⟨ret_i (by rw [HR.out]; omega), below_drewN HB.out _⟩
    | true =>
      obtain ⟨q1, hgb, hga⟩ := ht.two k _ _ _ hf
      obtain ⟨jb, hjb⟩ : ∃ jb, jb = k - 1 := ⟨_, rfl⟩
      obtain ⟨ja, hja⟩ : ∃ ja, ja = k - 1 - b.size := ⟨_, rfl⟩
      rw [← hja] at hga
      rw [← hjb] at hgb
      have hnA : nA (Frm.two true a b) k = (ja : Int) := by simp only [nA]; omega
      have hnB : nB (Frm.two true a b) k = (jb : Int) := by simp only [nB]; omega
      rw [hnA] at hwx c1 ⊢
      rw [hnB] at hwx c2 ⊢
      obtain ⟨-, g, o, rfl, hF, hva⟩ := vals_cell HV.out (j := ja) (by omega) hga
      obtain ⟨-, g', o', hg', -, hvb⟩ := vals_cell HV.out (j := jb) (by omega) hgb
      injection hg' with hg'
      injection hg' with e1 e2
      subst e1; subst e2
      have HR := hid (show evalF en.at (.two true a b) = max (evalF en.at a) (evalF en.at b) from rfl)
      obtain ⟨va, hvv⟩ : ∃ va, va = evalF en.at a := ⟨_, rfl⟩
      obtain ⟨vb, hvw⟩ : ∃ vb, vb = evalF en.at b := ⟨_, rfl⟩
      rw [← hvv] at hva HR
      rw [← hvw] at hvb HR
      replace hvv := hid hvv
      replace hvw := hid hvw
      have i1 : (0 : Int) ≤ ↑ja := by omega
      have i2 : (↑ja : Int) < ↑n := by omega
      have i3 : (0 : Int) ≤ ↑jb := by omega
      have i4 : (↑jb : Int) < ↑n := by omega
      simp only [opI, nK, nT] at hwx c0 c3 c4 ⊢
      clear hja hjb hnA hnB hnk hga hgb
      go_enter Tryd.func55, Tryd.ntmps55
      go_wp2_with fail
      rw [← hwx]
      clear hwx
      go_wp2_with fail
      go_quiet (fail)
      go_wp2
      all_goals go_ret
      all_goals exact ⟨ret_i (by rw [HR.out]; omega), below_drewN HB.out _⟩
end Go.Proofs.YtmdnleafpmondaaDoor
