/- Contract: linchpinref10.values. -/
import Derived.Test.YtmdnleafpmondaaDoorU41
namespace Go.Proofs.YtmdnleafpmondaaDoor
open Go Go.RowKit

def ValsPost (en : EnvT) (G : List Frm) (w : World) (e : Ending) (w' : World) : Prop :=
  ∃ A c, e = .returned (.slice A G.length c) ∧ SliceRd tInt w' (Lt w'.heap.size) (.slice A G.length c) (G.map (evalF en.at)) ∧ Below w.heap.size w w'

set_option maxRecDepth 100000 in
set_option maxHeartbeats 4000000 in
theorem rvalues_any (v : Value) (l : List Node) (G : List Frm) (en : EnvT) (w : World) (h : SliceRd tNode w (Lt w.heap.size) v l) (ht : TreeAt l G) (hp : 0 < l.length) (h15 : l.length ≤ 15) :
    Calls Tryd.prog 42 #[.agg #[v], en.val] w (ValsPost en G w) := by
  obtain ⟨g, o, cap, rfl, hcap, hmax, hF, hc⟩ := open_nodes h ht hp
  have HC := hid hc
  have HT := hid ht
  have hlG := ht.len
  unfold maxLen at hmax
  clear h hc ht
  obtain ⟨n, hn⟩ : ∃ n, n = l.length := ⟨_, rfl⟩
  rw [← hn] at hcap h15 hp
  rw [← hn]
  have HN := hid hn
  have HGN : Hid (G.length = n) := hid (by rw [hn, hlG])
  have HL15 := hid (show l.length ≤ 15 by omega)
  clear hn hlG
  obtain ⟨ii, hii⟩ := info_parts int_info
  have HII := hid hii
  clear hii
  unfold EnvT.val
  go_enter Tryd.func42, Tryd.ntmps42
  go_wp2
  obtain ⟨wx, hwx⟩ : ∃ wx, wx = (w.alloc (.cells #[.slice (some ⟨g, o, none⟩) n cap] 25)).alloc (.cells #[.string en.a, .string en.b, .string en.c] 38) := ⟨_, rfl⟩
  have HB := hid (show Below w.heap.size w wx by rw [hwx]; exact balloc (balloc (b0 w) _) _)
  have hzx : wx.heap.size = w.heap.size + 2 := by rw [hwx]; simp
  have m0 : wx.cell? ⟨w.heap.size, 0, none⟩ = some (.slice (some ⟨g, o, none⟩) n cap) := by rw [hwx]; exact al2_old rfl
  have e0 : wx.cell? ⟨w.heap.size + 1, 0, none⟩ = some (.string en.a) := by rw [hwx]; exact al2_new rfl
  have e1 : wx.cell? ⟨w.heap.size + 1, 1, none⟩ = some (.string en.b) := by rw [hwx]; exact al2_new rfl
  have e2 : wx.cell? ⟨w.heap.size + 1, 2, none⟩ = some (.string en.c) := by rw [hwx]; exact al2_new rfl
  rw [← hwx]
  clear hwx
  go_loopw [5, 6] (fun vv iv wr => ∃ k : Nat, k ≤ n ∧ iv = .int .i64 k ∧ Hid (OwnF fInt 3 wx.heap.size wr vv ((G.take k).map (evalF en.at))) ∧ Hid (Below wx.heap.size wx wr)) (fun _ iv _ => n - (intOf iv).toNat)
  case atStart => exact ⟨0, Nat.zero_le _, rfl, hid (by rw [List.take_zero]; exact OwnF.nil _ _ _ _), hid (b0 wx)⟩
  case round =>
    obtain ⟨k, hk, rfl, HO, HBR⟩ := hrel
    obtain ⟨A1, c1, rfl⟩ := HO.out.form
    have hlk : ((G.take k).map (evalF en.at)).length = k := by simp; have := HGN.out; omega
    rw [hlk] at HO ⊢
    have HBW := hid (show Below w.heap.size w wr from HB.out.trans (HBR.out.mono HB.out.size))
    have m1 := cell_below HBR.out (by omega) m0
    have e10 := cell_below HBR.out (by omega) e0
    have e11 := cell_below HBR.out (by omega) e1
    have e12 := cell_below HBR.out (by omega) e2
    have i1 : (0 : Int) ≤ ↑k := by omega
    by_cases hlt : k < n
    · obtain ⟨f, hf⟩ : ∃ f, G[k]? = some f := ⟨_, List.getElem?_eq_getElem (by rw [HGN.out]; exact hlt)⟩
      obtain ⟨-, g0, g1, g2, g3, g4⟩ := HC.out k f hf
      obtain ⟨c0, c1', c2, c3, c4⟩ := cells5 HBW.out hF ⟨g0, g1, g2, g3, g4⟩
      clear g0 g1 g2 g3 g4
      have i2 : (↑k : Int) < ↑n := by omega
      have hsz := HBR.out.size
      have HVAL := hid (fun (W : World) (hb : Below wr.heap.size wr W) => rvalue_any l G f k (.slice A1 k c1) en W HT.out hf HL15.out ((HO.out.below hb (Nat.le_refl _)).rd))
      unfold EnvT.val at HVAL
      obtain ⟨y, hy⟩ : ∃ y, y = evalF en.at f := ⟨_, rfl⟩
      have hy3 := evalF_three en.at f
      rw [← hy] at HVAL hy3
      have HNX := hid (show (G.take (k + 1)).map (evalF en.at) = (G.take k).map (evalF en.at) ++ [y] by rw [List.take_add_one, hf, hy]; simp)
      replace hy := hid hy
      have HY := hid (show I64 y by unfold I64; omega)
      clear hy3
      obtain ⟨L, hL⟩ : ∃ L, L = (G.take k).map (evalF en.at) := ⟨_, rfl⟩
      rw [← hL] at HO HNX hlk
      replace hL := hid hL
      replace hlk := hid hlk
      go_wp2_with fail
      go_region_law ((first
        | (refine step_guard (.tmp 14) (.tmp 23) 31 rfl ?_
           refine step_append_src _ rfl (.tmp 14) (.tmp 23) 31 rfl wx.heap.size 3 ii _ 1 8 Tryd.underlying31 HII.out.1 HII.out.2.1 HII.out.2.2.1 HII.out.2.2.2 rfl (by omega) (.slice A1 k c1) k (fInt.all L) (by rfl) (HO4.out.alloc _) _ 1 1 (fInt.cells y) (by rfl) (src_new _ _ (by simp) 1 (fInt.cells y) rfl rfl) (by simp [fInt, Value.oneCell']) (by unfold maxLen; omega) (by omega) (by simp; omega) ?_
           intro v5 w5 hown5 hg5 hat5
           have HB5 := hid (show Below wx.heap.size wr w5 from (HB4.out.alloc hz4 _).grown hg5 (by simp; omega) (fun q hq => (HO4.out.lt q hq).1))
           have HO5 := hid hown5
           clear hown5 hg5 hat5)
        | (go_simp; go_at_call 55; refine (HVAL.out _ (b0 wr).drew).mono ?_; rintro e w4 ⟨rfl, hb4⟩
           have HO4 := hid (show w4.ownsRow wx.heap.size 3 1 (.slice A1 k c1) k (fInt.all L) from hlk.out ▸ (HO.out.below (bstep (b0 wr).drew hb4) (Nat.le_refl _)).1)
           have HB4 := hid (show Below wx.heap.size wr w4 from (bstep (b0 wr).drew hb4).mono hsz)
           have hz4 : wx.heap.size ≤ w4.heap.size := Nat.le_trans hsz hb4.size
           clear hb4)))
      all_goals try go_simp
      all_goals go_wp2
      all_goals
        refine ⟨⟨k + 1, by omega, by go_num, hid ?_, hid (HBR.out.trans HB5.out)⟩, by simp [intOf]; omega⟩
        rw [HNX.out]
        exact (show OwnF fInt 3 wx.heap.size wr (.slice A1 k c1) L from HO.out).snoc HY.out (by rw [hlk.out]; exact HO5.out)
    · obtain rfl : k = n := by omega
      go_wp2
      go_ret
      have hGk := HGN.out
      have e9 : (G.take k).map (evalF en.at) = G.map (evalF en.at) := by rw [List.take_of_length_le (by omega)]
      have HR := HO.out.rd
      rw [e9] at HR
      exact ⟨A1, c1, by rw [hGk]; rfl, by rw [hGk]; exact HR, HBW.out⟩
end Go.Proofs.YtmdnleafpmondaaDoor
