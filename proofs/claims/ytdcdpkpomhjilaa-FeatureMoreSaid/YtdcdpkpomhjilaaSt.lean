/- The memory of Close. No program stands here. -/
import Derived.Test.YtdcdpkpomhjilaaSr
import Derived.Test.YtdcdpkpomhjilaaSi
namespace Go.Proofs.Ytdcdpkpomhjilaa
open Go Go.RowKit Go.Maps

def lenV : Value → Nat
  | .slice _ n _ => n
  | _ => 0
section
variable {P : Program} {kt et : TypeId} {w wx wy : World} {b : Nat} {tv tv' : Value} {on opts pulled todo : List ByteArray} {s : ByteArray}
theorem own_ne_map {L : List ByteArray} {e : TypeId} {B : Nat} {l : List ByteArray} (ho : OwnF fStr e B wx tv l) (hs : SetS P kt wx b L) : ∀ g, tv.ownBlock = some g → g ≠ b := by
  intro g hg e
  subst e
  obtain ⟨D, ⟨es, cl, h1, _⟩, _⟩ := hs
  rcases ho.1.2 with ⟨rfl, _⟩ | ⟨g', cap, cur, rfl, _, h2, _⟩
  · cases hg
  · obtain rfl : g' = g := Option.some.inj hg
    rw [h2] at h1
    injection h1 with h1
    cases h1
open Classical in
/-- How many items are left, read off the memory. -/
noncomputable def restW (P : Program) (kt : TypeId) (l : List Feat) (b : Nat) (w : World) : Nat := if h : ∃ on, SetS P kt w b on then restF l (Classical.choose h) else 0
theorem restW_eq {l : List Feat} (h : SetS P kt wx b on) (hl : ∀ f ∈ l, f.name.size ≤ maxLen) : restW P kt l b wx = restF l on := by
  have he : ∃ on, SetS P kt wx b on := ⟨on, h⟩
  unfold restW
  rw [dif_pos he]
  exact restF_congr fun f hf => (Classical.choose_spec he).mem_iff h (hl f hf)
/-- Three sets and the list of work. -/
structure St (P : Program) (kt e : TypeId) (w : World) (b : Nat) (wx : World) (tv : Value) (on opts pulled todo : List ByteArray) : Prop where
  hon : SetS P kt wx b on
  op : SetS P kt wx (b + 1) opts
  pu : SetS P kt wx (b + 1 + 1) pulled
  td : OwnF fStr e w.heap.size wx tv todo
  be : Below w.heap.size w wx
  bb : w.heap.size ≤ b
  so : ∀ s ∈ on, s.size ≤ maxLen
  sp : ∀ s ∈ opts, s.size ≤ maxLen
  su : ∀ s ∈ pulled, s.size ≤ maxLen
theorem St.later (h : St P kt et w b wx tv on opts pulled todo) (hb : Below wx.heap.size wx wy) : St P kt et w b wy tv on opts pulled todo :=
  ⟨h.hon.below hb h.hon.lt, h.op.below hb h.op.lt, h.pu.below hb h.pu.lt, h.td.below hb (Nat.le_refl _), h.be.trans (hb.mono h.be.size), h.bb, h.so, h.sp, h.su⟩
theorem St.alloc (h : St P kt et w b wx tv on opts pulled todo) (o : Obj) : St P kt et w b (wx.alloc o) tv on opts pulled todo := h.later (balloc (b0 wx) o)
theorem SetS.but {c : Nat} {L : List ByteArray} (h : SetS P kt wx c L) (hg : wx.grownBy wy (some b)) (hne : c ≠ b) : SetS P kt wy c L := h.keep (hg.block c h.lt (fun e => hne (by injection e)))
theorem OwnF.but {e : TypeId} {B : Nat} {l L : List ByteArray} (h : OwnF fStr e B wx tv l) (hs : SetS P kt wx b L) (hg : wx.grownBy wy (some b)) : OwnF fStr e B wy tv l :=
  ⟨ownsRow_keep h.1 fun g hgg => hg.block g (h.lt g hgg).2 (fun e => own_ne_map h hs g hgg (by injection e)), h.2⟩
theorem St.putOn (h : St P kt et w b wx tv on opts pulled todo) (hs : SetS P kt wy b (on ++ [s])) (hg : wx.grownBy wy (some b)) (hz : s.size ≤ maxLen) : St P kt et w b wy tv (on ++ [s]) opts pulled todo :=
  ⟨hs, h.op.but hg (by omega), h.pu.but hg (by omega), h.td.but h.hon hg, below_map' h.be hg h.bb, h.bb, fun u hu => (List.mem_append.1 hu).elim (h.so u) fun e => by rw [List.mem_singleton.1 e]; exact hz, h.sp, h.su⟩
theorem St.putOp (h : St P kt et w b wx tv on opts pulled todo) (hs : SetS P kt wy (b + 1) (opts ++ [s])) (hg : wx.grownBy wy (some (b + 1))) (hz : s.size ≤ maxLen) : St P kt et w b wy tv on (opts ++ [s]) pulled todo :=
  ⟨h.hon.but hg (by omega), hs, h.pu.but hg (by omega), h.td.but h.op hg, below_map' h.be hg (Nat.le_succ_of_le h.bb), h.bb, h.so, fun u hu => (List.mem_append.1 hu).elim (h.sp u) fun e => by rw [List.mem_singleton.1 e]; exact hz, h.su⟩
theorem St.putPu (h : St P kt et w b wx tv on opts pulled todo) (hs : SetS P kt wy (b + 1 + 1) (pulled ++ [s])) (hg : wx.grownBy wy (some (b + 1 + 1))) (hz : s.size ≤ maxLen) : St P kt et w b wy tv on opts (pulled ++ [s]) todo :=
  ⟨h.hon.but hg (by omega), h.op.but hg (by omega), hs, h.td.but h.pu hg, below_map' h.be hg (Nat.le_succ_of_le (Nat.le_succ_of_le h.bb)), h.bb, h.so, h.sp, fun u hu => (List.mem_append.1 hu).elim (h.su u) fun e => by rw [List.mem_singleton.1 e]; exact hz⟩
theorem St.push (h : St P kt et w b wx tv on opts pulled todo) (ho : wy.ownsRow w.heap.size et 1 tv' (todo.length + 1) (fStr.all todo ++ fStr.cells s)) (hg : wx.grownBy wy tv.ownBlock) (hz : s.size ≤ maxLen) : St P kt et w b wy tv' on opts pulled (todo ++ [s]) := by
  have hk : ∀ {c : Nat} {L : List ByteArray}, SetS P kt wx c L → SetS P kt wy c L := fun {c L} hs => hs.keep (hg.block c hs.lt (fun e => own_ne_map h.td hs c e.symm rfl))
  exact ⟨hk h.hon, hk h.op, hk h.pu, h.td.snoc hz ho, h.be.grown hg h.be.size (fun k hk => (h.td.lt k hk).1), h.bb, h.so, h.sp, h.su⟩
/-- The last of the list of work, and the list without it. -/
theorem St.pop (h : St P kt et w b wx tv on opts pulled (todo ++ [s])) : ∃ g cap, tv = .slice (some ⟨g, 0, none⟩) (todo.length + 1) cap ∧ todo.length + 1 ≤ cap ∧ cap ≤ maxLen ∧ wx.cell? ⟨g, todo.length, none⟩ = some (.string s) ∧ s.size ≤ maxLen ∧ St P kt et w b wx (.slice (some ⟨g, 0, none⟩) todo.length cap) on opts pulled todo := by
  obtain ⟨g, cap, hv, _, _⟩ := h.td.block (by simp)
  subst hv
  obtain ⟨A, cap', hv, h1, h2, hc⟩ := h.td.rd.strs
  injection hv with e1 _ e3
  subst e1 e3
  obtain ⟨g', o', hA, _, hcell, hz⟩ := hc todo.length (by simp)
  injection hA with hA
  injection hA with e1 e2
  subst e1 e2
  rw [List.getElem_append_right (Nat.le_refl _)] at hcell hz
  simp only [Nat.sub_self, List.getElem_cons_zero, Nat.zero_add] at hcell hz
  refine ⟨g, cap, by rw [List.length_append]; rfl, by simpa using h1, h2, hcell, hz, h.hon, h.op, h.pu, ⟨⟨?_, ?_⟩, fun x hx => h.td.2 x (List.mem_append_left _ hx)⟩, h.be, h.bb, h.so, h.sp, h.su⟩
  · rw [fStr.all_length]
  · rcases h.td.1.2 with ⟨h, _⟩ | ⟨g', cap', cur, hv, hbase, hb, q1, q2, q3, q4⟩
    · cases h
    · injection hv with e1 _ e3
      injection e1 with e1
      injection e1 with e1 _
      subst e1 e3
      refine .inr ⟨g, cap, cur, rfl, hbase, hb, by rw [List.length_append] at q1; exact Nat.le_of_succ_le q1, q2, q3, ?_⟩
      rw [fStr.all_append, List.length_append] at q4
      have q5 := congrArg (List.take (todo.length * fStr.size)) q4
      rw [List.take_take, Nat.min_eq_left (Nat.mul_le_mul_right _ (Nat.le_add_right _ _)), List.take_append_of_le_length (by rw [fStr.all_length]; exact Nat.le_refl _), List.take_of_length_le (l := fStr.all todo) (by rw [fStr.all_length]; exact Nat.le_refl _)] at q5
      exact q5
theorem St.nil (h : St P kt et w b wx tv on opts pulled todo) (hn : lenV tv = 0) : todo = [] := by
  obtain ⟨A, c, rfl⟩ := h.td.form
  exact List.length_eq_zero_iff.1 hn
theorem St.len (h : St P kt et w b wx tv on opts pulled todo) : lenV tv = todo.length := by
  obtain ⟨A, c, rfl⟩ := h.td.form
  rfl
end
/-- Texts that are read, as a slice of the call's own or not. -/
theorem fmt_take {k : ByteArray → Option ByteArray} {L : List ByteArray} {j : Nat} (h : j < L.length) : (L.take (j + 1)).filterMap k = (L.take j ++ [L[j]]).filterMap k := by
  rw [List.take_succ_eq_append_getElem h]
end Go.Proofs.Ytdcdpkpomhjilaa
