/- Printer and parser of markers: what is printed is read back, in brackets, too. No program stands here. -/
import Derived.Test.YtmdnleafpmondaaDoorU19
import Derived.Test.YtmdnleafpmondaaDoorU23
import Derived.Test.YtmdnleafpmondaaDoorzE
namespace Go.Proofs.YtmdnleafpmondaaDoor
open Go Go.RowKit

def heldW (b : Bool) (ws : List ByteArray) : List ByteArray := if b then wOpen :: (ws ++ [wClose]) else ws
def noW : Frm → List ByteArray → List ByteArray
  | .is k s, _ => [keyS k, wIsNot, s]
  | a, t => wNot :: heldW (!isNo a) t
/-- The words of a tree's text. -/
def wordsF : Frm → List ByteArray
  | .is k s => [keyS k, wIs, s]
  | .no a => noW a (wordsF a)
  | .two false a b => heldW (isOne a) (wordsF a) ++ wAnd :: heldW (isTwo b) (wordsF b)
  | .two true a b => wordsF a ++ wOr :: heldW (isOne b) (wordsF b)
def joinL : List ByteArray → List UInt8
  | [] => []
  | w :: r => w.data.toList ++ r.flatMap (fun x => 32 :: x.data.toList)
theorem join_cons (w x : ByteArray) (r : List ByteArray) : joinL (w :: x :: r) = w.data.toList ++ 32 :: joinL (x :: r) := by simp [joinL]
theorem join_one (w : ByteArray) : joinL [w] = w.data.toList := by simp [joinL]
theorem join_app {a b : List ByteArray} (ha : a ≠ []) (hb : b ≠ []) : joinL (a ++ b) = joinL a ++ 32 :: joinL b := by
  cases a with
  | nil => exact absurd rfl ha
  | cons w r =>
    cases b with
    | nil => exact absurd rfl hb
    | cons y q => simp [joinL]
theorem held_ne {b : Bool} {ws : List ByteArray} (h : ws ≠ []) : heldW b ws ≠ [] := by
  unfold heldW; split
  · simp
  · exact h
theorem words_ne (f : Frm) : wordsF f ≠ [] := by
  induction f with
  | is k s => simp [wordsF]
  | no a ih => cases a <;> simp [wordsF, noW]
  | two c a b iha ihb => cases c <;> simp [wordsF]
theorem join_brk {ws : List ByteArray} (h : ws ≠ []) : joinL (wOpen :: (ws ++ [wClose])) = brk (joinL ws) := by
  rw [show wOpen :: (ws ++ [wClose]) = [wOpen] ++ (ws ++ [wClose]) from rfl, join_app (by simp) (by simp), join_app h (by simp), join_one, join_one]
  simp [brk, wOpen, wClose]
theorem join_held {b : Bool} {ws : List ByteArray} (h : ws ≠ []) : joinL (heldW b ws) = heldL b (joinL ws) := by
  unfold heldW heldL
  split
  · exact join_brk h
  · rfl
theorem text_words (f : Frm) : joinL (wordsF f) = textL f := by
  induction f with
  | is k s => simp [wordsF, joinL, textL, keyS, wIs]
  | no a ih =>
    have hn := words_ne a
    cases a with
    | is k s => simp [wordsF, noW, joinL, textL, noL, keyS, wIsNot]
    | no b =>
      have e : wordsF (.no (.no b)) = [wNot] ++ heldW (!isNo (.no b)) (wordsF (.no b)) := rfl
      rw [e, join_app (by simp) (held_ne hn), join_held hn, ih, join_one]
      simp [textL, noL, wNot]
    | two c b d =>
      have e : wordsF (.no (.two c b d)) = [wNot] ++ heldW (!isNo (.two c b d)) (wordsF (.two c b d)) := rfl
      rw [e, join_app (by simp) (held_ne hn), join_held hn, ih, join_one]
      simp [textL, noL, wNot]
  | two c a b iha ihb =>
    have ha := words_ne a
    have hb := words_ne b
    cases c with
    | false =>
      have e : wordsF (.two false a b) = heldW (isOne a) (wordsF a) ++ ([wAnd] ++ heldW (isTwo b) (wordsF b)) := rfl
      rw [e, join_app (held_ne ha) (by simp), join_app (by simp) (held_ne hb), join_held ha, join_held hb, iha, ihb, join_one]
      simp [textL, wAnd]
    | true =>
      have e : wordsF (.two true a b) = wordsF a ++ ([wOr] ++ heldW (isOne b) (wordsF b)) := rfl
      rw [e, join_app ha (by simp), join_app (by simp) (held_ne hb), join_held hb, iha, ihb, join_one]
      simp [textL, wOr]
/-- Words without a space. -/
def Clean (ws : List ByteArray) : Prop := ∀ x ∈ ws, (32 : UInt8) ∉ x.data.toList
theorem Clean.app {a b : List ByteArray} (ha : Clean a) (hb : Clean b) : Clean (a ++ b) := by
  intro x hx
  rcases List.mem_append.1 hx with h | h
  · exact ha x h
  · exact hb x h
theorem Clean.cons {a : ByteArray} {b : List ByteArray} (ha : (32 : UInt8) ∉ a.data.toList) (hb : Clean b) : Clean (a :: b) := by
  intro x hx
  rcases List.mem_cons.1 hx with h | h
  · rw [h]; exact ha
  · exact hb x h
theorem Clean.nil : Clean [] := fun x hx => by cases hx
theorem cOpen : (32 : UInt8) ∉ wOpen.data.toList := by decide
theorem cClose : (32 : UInt8) ∉ wClose.data.toList := by decide
theorem cNot : (32 : UInt8) ∉ wNot.data.toList := by decide
theorem cAnd : (32 : UInt8) ∉ wAnd.data.toList := by decide
theorem cOr : (32 : UInt8) ∉ wOr.data.toList := by decide
theorem cIs : (32 : UInt8) ∉ wIs.data.toList := by decide
theorem cIsNot : (32 : UInt8) ∉ wIsNot.data.toList := by decide
theorem cKey (k : Nat) : (32 : UInt8) ∉ (keyS k).data.toList := by
  match k with
  | 0 => decide
  | 1 => decide
  | _ + 2 => exact (by decide : (32 : UInt8) ∉ (keyS 2).data.toList)
theorem cWord {s : ByteArray} (h : wordB s.data.toList = true) : (32 : UInt8) ∉ s.data.toList := by
  intro hm
  unfold wordB at h
  rw [Bool.and_eq_true, List.all_eq_true] at h
  exact absurd (h.2 32 hm) (by decide)
theorem Clean.held {b : Bool} {ws : List ByteArray} (h : Clean ws) : Clean (heldW b ws) := by
  unfold heldW; split
  · exact (h.app (Clean.nil.cons cClose)).cons cOpen
  · exact h
theorem words_clean {f : Frm} (h : f.Ok) : Clean (wordsF f) := by
  induction f with
  | is k s => exact ((Clean.nil.cons (cWord h.2)).cons cIs).cons (cKey k)
  | no a ih =>
    have i := ih h
    cases a with
    | is k s => exact ((Clean.nil.cons (cWord (show wordB s.data.toList = true from h.2))).cons cIsNot).cons (cKey k)
    | no b => exact (i.held).cons cNot
    | two c b d => exact (i.held).cons cNot
  | two c a b iha ihb =>
    have i := iha h.1
    have j := ihb h.2
    cases c with
    | false => exact i.held.app (j.held.cons cAnd)
    | true => exact i.app (j.held.cons cOr)
theorem split_words {ws : List ByteArray} (h : Clean ws) (hn : ws ≠ []) : splitC 32 (joinL ws) = ws.map (fun x => x.data.toList) := by
  cases ws with
  | nil => exact absurd rfl hn
  | cons w r =>
    have := split_join (c := 32) (w := w.data.toList) (ws := r.map fun x => x.data.toList) (h w (by simp)) (fun x hx => by
      obtain ⟨y, hy, rfl⟩ := List.mem_map.1 hx
      exact h y (by simp [hy]))
    rw [List.flatMap_map] at this
    exact this
theorem words_of {ws : List ByteArray} {s : ByteArray} (h : Clean ws) (hn : ws ≠ []) (hs : s.data.toList = joinL ws) : wordsOf s = ws := by
  refine (words_eq ?_).symm
  rw [hs, split_words h hn]

/-! Reading back. -/
theorem keyIx_at {k : Nat} (h : k < 3) : keyIx (keyS k) = some k := by
  match k, h with
  | 0, _ => decide
  | 1, _ => decide
  | 2, _ => decide
theorem key_not {k : Nat} : keyS k ≠ wNot ∧ keyS k ≠ wOpen := by
  match k with
  | 0 => decide
  | 1 => decide
  | _ + 2 => exact ⟨by show keyS 2 ≠ wNot; decide, by show keyS 2 ≠ wOpen; decide⟩
/-- The next word is not this one. -/
def Off (w : ByteArray) : List ByteArray → Prop
  | [] => True
  | x :: _ => x ≠ w
theorem loop_off {w : ByteArray} {c : Bool} {F : List ByteArray → Got} {rest : List ByteArray} (h : Off w rest) (m : Nat) (a : Frm) : loopF w c F m a rest = some (a, rest) := by
  cases m with
  | zero => rfl
  | succ m =>
    cases rest with
    | nil => rfl
    | cons x r => simp only [loopF]; rw [if_neg h]
theorem loop_on {w : ByteArray} {c : Bool} {F : List ByteArray → Got} {m : Nat} {a b : Frm} {r q : List ByteArray} (h : F r = some (b, q)) : loopF w c F (m + 1) a (w :: r) = loopF w c F m (.two c a b) q := by
  simp only [loopF, if_true, h]
def RdN (f : Frm) : Prop := ∀ n rest, (wordsF f).length ≤ n → notF n (wordsF f ++ rest) = some (f, rest)
def RdB (f : Frm) : Prop := ∀ n rest, (wordsF f).length ≤ n → ∃ m, n ≤ m + (wordsF f).length ∧ bothF n (wordsF f ++ rest) = loopF wAnd false (notF n) m f rest
def RdO (f : Frm) : Prop := ∀ n rest, (wordsF f).length ≤ n → Off wAnd rest → ∃ m, n ≤ m + (wordsF f).length ∧ oneF n (wordsF f ++ rest) = loopF wOr true (bothF n) m f rest
theorem RdN.b {f : Frm} (h : RdN f) : RdB f := by
  intro n rest hn
  refine ⟨n, by omega, ?_⟩
  unfold bothF chainF
  rw [h n rest hn]
theorem RdB.end {f : Frm} (h : RdB f) {n : Nat} {rest : List ByteArray} (hn : (wordsF f).length ≤ n) (ho : Off wAnd rest) : bothF n (wordsF f ++ rest) = some (f, rest) := by
  obtain ⟨m, -, e⟩ := h n rest hn
  rw [e, loop_off ho]
theorem RdB.o {f : Frm} (h : RdB f) : RdO f := by
  intro n rest hn ho
  refine ⟨n, by omega, ?_⟩
  unfold oneF chainF
  rw [h.end hn ho]
theorem RdO.end {f : Frm} (h : RdO f) {n : Nat} {rest : List ByteArray} (hn : (wordsF f).length ≤ n) (ha : Off wAnd rest) (ho : Off wOr rest) : oneF n (wordsF f ++ rest) = some (f, rest) := by
  obtain ⟨m, -, e⟩ := h n rest hn ha
  rw [e, loop_off ho]
theorem offC (w : ByteArray) (h : wClose ≠ w) (r : List ByteArray) : Off w (wClose :: r) := h
/-- In brackets it is a part. -/
theorem RdO.brk {f : Frm} (h : RdO f) {n : Nat} {rest : List ByteArray} (hn : (wordsF f).length + 2 ≤ n) : notF n (wOpen :: (wordsF f ++ [wClose]) ++ rest) = some (f, rest) := by
  obtain ⟨k, rfl⟩ : ∃ k, n = k + 1 := ⟨n - 1, by omega⟩
  rw [show wOpen :: (wordsF f ++ [wClose]) ++ rest = wOpen :: (wordsF f ++ (wClose :: rest)) by simp, notF_open, h.end (by omega) (offC _ (by decide) _) (offC _ (by decide) _)]
  simp [closeF]
theorem held_len (b : Bool) (ws : List ByteArray) : (heldW b ws).length = ws.length + (if b then 2 else 0) := by
  unfold heldW; split <;> simp_all
theorem notF_key (n k : Nat) (r : List ByteArray) : notF (n + 1) (keyS k :: r) = atomF (keyS k) r := by
  rw [notF, if_neg key_not.1, if_neg key_not.2]
theorem rdN_is {k : Nat} {s : ByteArray} (h : (Frm.is k s).Ok) : RdN (.is k s) := by
  intro n rest hn
  simp only [wordsF, List.length_cons, List.length_nil] at hn
  obtain ⟨m, rfl⟩ : ∃ m, n = m + 1 := ⟨n - 1, by omega⟩
  simp only [wordsF, List.cons_append, List.nil_append]
  rw [notF_key]
  simp only [atomF, keyIx_at h.1]
  rw [if_pos h.2, if_pos trivial]
theorem rdN_held {a : Frm} {n : Nat} {rest : List ByteArray} (b : Bool) (h1 : b = false → RdN a) (h2 : RdO a) (hn : (heldW b (wordsF a)).length ≤ n) : notF n (heldW b (wordsF a) ++ rest) = some (a, rest) := by
  rw [held_len] at hn
  cases b with
  | false => exact h1 rfl n rest (by simpa using hn)
  | true => exact h2.brk (by simpa using hn)
theorem back_all {f : Frm} (h : f.Ok) : (isTwo f = false → RdN f) ∧ (isOne f = false → RdB f) ∧ RdO f := by
  induction f with
  | is k s =>
    have := rdN_is h
    exact ⟨fun _ => this, fun _ => this.b, this.b.o⟩
  | no a ih =>
    obtain ⟨i1, i2, i3⟩ := ih h
    have : RdN (.no a) := by
      intro n rest hn
      cases a with
      | is k s =>
        simp only [wordsF, noW, List.length_cons, List.length_nil] at hn
        obtain ⟨m, rfl⟩ : ∃ m, n = m + 1 := ⟨n - 1, by omega⟩
        simp only [wordsF, noW, List.cons_append, List.nil_append]
        rw [notF_key]
        simp only [atomF, keyIx_at (show k < 3 from h.1)]
        rw [if_pos (show wordB s.data.toList = true from h.2), if_neg (by decide), if_pos trivial]
      | no b =>
        have e : wordsF (.no (.no b)) = wNot :: heldW (!isNo (.no b)) (wordsF (.no b)) := rfl
        rw [e] at hn ⊢
        simp only [List.length_cons] at hn
        obtain ⟨m, rfl⟩ : ∃ m, n = m + 1 := ⟨n - 1, by omega⟩
        rw [List.cons_append, notF_not, rdN_held _ (fun _ => i1 rfl) i3 (by omega)]
        rfl
      | two c b d =>
        have e : wordsF (.no (.two c b d)) = wNot :: heldW (!isNo (.two c b d)) (wordsF (.two c b d)) := rfl
        rw [e] at hn ⊢
        simp only [List.length_cons] at hn
        obtain ⟨m, rfl⟩ : ∃ m, n = m + 1 := ⟨n - 1, by omega⟩
        rw [List.cons_append, notF_not, rdN_held _ (fun hb => by cases hb) i3 (by omega)]
        rfl
    exact ⟨fun _ => this, fun _ => this.b, this.b.o⟩
  | two c a b iha ihb =>
    obtain ⟨a1, a2, a3⟩ := iha h.1
    obtain ⟨b1, b2, b3⟩ := ihb h.2
    cases c with
    | false =>
      have : RdB (.two false a b) := by
        intro n rest hn
        have e : wordsF (.two false a b) = heldW (isOne a) (wordsF a) ++ wAnd :: heldW (isTwo b) (wordsF b) := rfl
        rw [e] at hn ⊢
        rw [List.length_append, List.length_cons] at hn
        have hb := rdN_held (rest := rest) (isTwo b) (fun hb => b1 hb) b3 (show _ ≤ n by omega)
        rw [List.append_assoc, List.cons_append]
        have ha : ∃ m, n ≤ m + (heldW (isOne a) (wordsF a)).length ∧ bothF n (heldW (isOne a) (wordsF a) ++ wAnd :: (heldW (isTwo b) (wordsF b) ++ rest)) = loopF wAnd false (notF n) m a (wAnd :: (heldW (isTwo b) (wordsF b) ++ rest)) := by
          cases ho : isOne a with
          | false =>
            rw [ho] at hn
            exact a2 ho n _ (by have := held_len false (wordsF a); simp only [Bool.false_eq_true, if_false] at this; omega)
          | true =>
            rw [ho] at hn
            have hl := held_len true (wordsF a)
            simp only [if_true] at hl
            refine ⟨n, by omega, ?_⟩
            unfold bothF chainF
            rw [show heldW true (wordsF a) = wOpen :: (wordsF a ++ [wClose]) from rfl, a3.brk (by omega)]
        obtain ⟨m, hm, e2⟩ := ha
        obtain ⟨m', rfl⟩ : ∃ m', m = m' + 1 := ⟨m - 1, by omega⟩
        refine ⟨m', by rw [List.length_append, List.length_cons]; omega, ?_⟩
        rw [e2, loop_on hb]
      exact ⟨fun hb => (by cases hb), fun _ => this, this.o⟩
    | true =>
      refine ⟨fun hb => (by cases hb), fun hb => (by cases hb), ?_⟩
      intro n rest hn ho
      have e : wordsF (.two true a b) = wordsF a ++ wOr :: heldW (isOne b) (wordsF b) := rfl
      rw [e] at hn ⊢
      rw [List.length_append, List.length_cons] at hn
      rw [List.append_assoc, List.cons_append]
      obtain ⟨m, hm, e2⟩ := a3 n (wOr :: (heldW (isOne b) (wordsF b) ++ rest)) (by omega) (by show wOr ≠ wAnd; decide)
      obtain ⟨m', rfl⟩ : ∃ m', m = m' + 1 := ⟨m - 1, by omega⟩
      have hb : bothF n (heldW (isOne b) (wordsF b) ++ rest) = some (b, rest) := by
        cases hob : isOne b with
        | false =>
          rw [hob] at hn
          exact (b2 hob).end (by have := held_len false (wordsF b); simp only [Bool.false_eq_true, if_false] at this; omega) ho
        | true =>
          rw [hob] at hn
          have hl := held_len true (wordsF b)
          simp only [if_true] at hl
          unfold bothF chainF
          rw [show heldW true (wordsF b) = wOpen :: (wordsF b ++ [wClose]) from rfl, b3.brk (by omega)]
          exact loop_off ho _ _
      refine ⟨m', by rw [List.length_append, List.length_cons]; omega, ?_⟩
      rw [e2, loop_on hb]
theorem rdO {f : Frm} (h : f.Ok) : RdO f := (back_all h).2.2
theorem words_len {f : Frm} : (wordsF f).length ≤ (joinL (wordsF f)).length + 1 := by
  have : ∀ ws : List ByteArray, ws.length ≤ (joinL ws).length + 1 := by
    intro ws
    cases ws with
    | nil => simp
    | cons w r =>
      simp only [joinL, List.length_cons, List.length_append]
      have : r.length ≤ (r.flatMap fun x => 32 :: x.data.toList).length := by
        induction r with
        | nil => simp
        | cons x r ih => simp only [List.flatMap_cons, List.length_append, List.length_cons]; omega
      omega
  exact this _

/-! What Parse says of words that are read. -/
theorem mayB_post {f : Frm} (h : f.Ok) (hs : f.size ≤ 15) (ht : (textL f).length ≤ 96) : mayB (f.post 0) = true := by
  have hl := Frm.post_length f 0
  have hne : (f.post 0).isEmpty = false := by
    cases hp : f.post 0 with
    | nil => rw [hp] at hl; have := Frm.size_pos f; simp at hl; omega
    | cons _ _ => rfl
  unfold mayB treeB wholeL
  rw [treeF_post h]
  simp [hl, hs, ht]
theorem parse_words {s : ByteArray} {f : Frm} {ws : List ByteArray} (hc : Clean ws) (hn : ws ≠ []) (hs : s.data.toList = joinL ws) (h96 : s.size ≤ 96) (ho : oneF 98 ws = some (f, [])) (hok : f.Ok) (h15 : f.size ≤ 15) (ht : (textL f).length ≤ 96) : parseF s = (f.post 0, 0) := by
  unfold parseF
  rw [if_neg (by omega), words_of hc hn hs, ho]
  have : s ≠ ByteArray.empty := by
    intro he
    subst he
    cases ws with
    | nil => exact hn rfl
    | cons w r =>
      have h0 : ([] : List UInt8) = joinL (w :: r) := hs
      have hr : r = [] := by
        cases r with
        | nil => rfl
        | cons x r => simp [joinL] at h0
      subst hr
      have hw : w.data.toList = [] := by simpa [joinL] using h0.symm
      have hlen : notF 98 [w] = none := by
        have : w = ByteArray.empty := by
          cases w with
          | mk d => cases d with | mk l => simp at hw; rw [hw]; rfl
        subst this
        rw [notF, if_neg (by decide), if_neg (by decide)]
        rfl
      unfold oneF chainF bothF chainF at ho
      rw [hlen] at ho
      cases ho
  rw [if_neg this]
  show (if mayB (f.post 0) = true then (f.post 0, (0 : Int)) else ([], 7)) = _
  rw [if_pos (mayB_post hok h15 ht)]
/-- A marker that may be is read back from its text; in brackets, too. -/
theorem may_text {l : List Node} (h : mayB l = true) (h0 : l.length ≠ 0) : ∃ f, f.Ok ∧ treeF l = some f ∧ f.size ≤ 15 ∧ (textL f).length ≤ 96 ∧ l = f.post 0 ∧ printV l = textL f ∧ 1 ≤ (textL f).length := by
  obtain ⟨h15, f, hf, ht⟩ := may_tree h h0
  refine ⟨f, treeF_ok hf, hf, by rw [← treeF_len hf]; exact h15, ht, treeF_eq hf, ?_, textL_pos⟩
  unfold printV
  rw [if_pos h]
  unfold wholeL
  rw [hf]
theorem parse_back {f : Frm} {s : ByteArray} (hok : f.Ok) (h15 : f.size ≤ 15) (ht : (textL f).length ≤ 96) (hs : s.data.toList = textL f) : parseF s = (f.post 0, 0) := by
  have hz : s.data.toList.length = s.size := by simp
  have hl := words_len (f := f)
  rw [text_words] at hl
  refine parse_words (words_clean hok) (words_ne f) (hs.trans (text_words f).symm) (by rw [← hz, hs]; exact ht) ?_ hok h15 ht
  have := (rdO hok).end (n := 98) (rest := []) (by omega) trivial trivial
  rwa [List.append_nil] at this
theorem one_brk {f : Frm} (hok : f.Ok) (hl : (wordsF f).length + 2 ≤ 98) : oneF 98 (wOpen :: (wordsF f ++ [wClose])) = some (f, []) := by
  have := (rdO hok).brk (n := 98) (rest := []) hl
  rw [List.append_nil] at this
  unfold oneF chainF bothF chainF
  rw [this]
  rfl
theorem parse_brk {f : Frm} {s : ByteArray} (hok : f.Ok) (h15 : f.size ≤ 15) (ht : (textL f).length ≤ 92) (hs : s.data.toList = brk (textL f)) : parseF s = (f.post 0, 0) := by
  have hz : s.data.toList.length = s.size := by simp
  have hl := words_len (f := f)
  rw [text_words] at hl
  refine parse_words (ws := wOpen :: (wordsF f ++ [wClose])) ((words_clean hok).held (b := true)) (by simp) ?_ ?_ (one_brk hok (by omega)) hok h15 (by omega)
  · rw [hs, join_brk (words_ne f), text_words]
  · rw [← hz, hs, brk_len]; omega
theorem parse_long {s : ByteArray} (h : 96 < s.size) : parseF s = ([], 3) := by
  unfold parseF; rw [if_pos h]

/-! Two of them with a word between. -/
theorem wd_len {f : Frm} (h : (textL f).length ≤ 30) : (wordsF f).length ≤ 31 := by
  have hl := words_len (f := f)
  rw [text_words] at hl
  omega
theorem brkW (f : Frm) : joinL (heldW true (wordsF f)) = brk (textL f) := by rw [join_held (words_ne f), text_words]; rfl
/-- ( f ) and ( g ) -/
theorem parse_and {f g : Frm} {s : ByteArray} (hf : f.Ok) (hg : g.Ok) (h15 : f.size + g.size ≤ 12) (tf : (textL f).length ≤ 30) (tg : (textL g).length ≤ 30) (hs : s.data.toList = brk (textL f) ++ [32, 97, 110, 100, 32] ++ brk (textL g)) : parseF s = ((Frm.two false f g).post 0, 0) := by
  have hz : s.data.toList.length = s.size := by simp
  have wf := wd_len tf
  have wg := wd_len tg
  have h1 := (heldL_len (isOne f) (textL f)).1
  have h2 := (heldL_len (isTwo g) (textL g)).1
  refine parse_words (ws := heldW true (wordsF f) ++ ([wAnd] ++ heldW true (wordsF g))) ((words_clean hf).held.app ((Clean.nil.cons cAnd).app (words_clean hg).held)) (by simp) ?_ ?_ ?_ ⟨hf, hg⟩ (by simp only [Frm.size]; omega) (by simp only [textL, List.length_append, List.length_cons, List.length_nil]; omega)
  · rw [hs, join_app (held_ne (words_ne f)) (by simp), join_app (by simp) (held_ne (words_ne g)), brkW, brkW, join_one]
    simp [wAnd]
  · rw [← hz, hs]; simp only [List.length_append, brk_len, List.length_cons, List.length_nil]; omega
  · have e1 := (rdO hf).brk (n := 98) (rest := wAnd :: heldW true (wordsF g)) (by omega)
    have e2 := (rdO hg).brk (n := 98) (rest := []) (by omega)
    rw [List.append_nil] at e2
    unfold oneF chainF bothF chainF
    rw [show heldW true (wordsF f) ++ ([wAnd] ++ heldW true (wordsF g)) = wOpen :: (wordsF f ++ [wClose]) ++ (wAnd :: heldW true (wordsF g)) from rfl, e1]
    simp only
    rw [loop_on (show notF 98 (heldW true (wordsF g)) = some (g, []) from e2)]
    rfl
/-- not ( ( f ) and ( g ) ) -/
theorem parse_nand {f g : Frm} {s : ByteArray} (hf : f.Ok) (hg : g.Ok) (h15 : f.size + g.size ≤ 12) (tf : (textL f).length ≤ 30) (tg : (textL g).length ≤ 30) (hs : s.data.toList = [110, 111, 116, 32] ++ brk (brk (textL f) ++ [32, 97, 110, 100, 32] ++ brk (textL g))) : parseF s = ((Frm.no (.two false f g)).post 0, 0) := by
  have hz : s.data.toList.length = s.size := by simp
  have wf := wd_len tf
  have wg := wd_len tg
  have h1 := (heldL_len (isOne f) (textL f)).1
  have h2 := (heldL_len (isTwo g) (textL g)).1
  have hj : joinL (heldW true (wordsF f) ++ ([wAnd] ++ heldW true (wordsF g))) = brk (textL f) ++ [32, 97, 110, 100, 32] ++ brk (textL g) := by
    rw [join_app (held_ne (words_ne f)) (by simp), join_app (by simp) (held_ne (words_ne g)), brkW, brkW, join_one]
    simp [wAnd]
  have hcl : Clean (heldW true (wordsF f) ++ ([wAnd] ++ heldW true (wordsF g))) := (words_clean hf).held.app ((Clean.nil.cons cAnd).app (words_clean hg).held)
  refine parse_words (ws := [wNot] ++ heldW true (heldW true (wordsF f) ++ ([wAnd] ++ heldW true (wordsF g)))) ((Clean.nil.cons cNot).app hcl.held) (by simp) ?_ ?_ ?_ ⟨hf, hg⟩ (by simp only [Frm.size]; omega) ?_
  · rw [hs, join_app (by simp) (held_ne (by simp)), join_held (by simp), hj, join_one]
    simp [wNot, heldL]
  · rw [← hz, hs]; simp only [List.length_append, brk_len, List.length_cons, List.length_nil]; omega
  · have e1 := (rdO hf).brk (n := 96) (rest := wAnd :: (heldW true (wordsF g) ++ [wClose])) (by omega)
    have e2 := (rdO hg).brk (n := 96) (rest := [wClose]) (by omega)
    have e3 : oneF 96 (heldW true (wordsF f) ++ (wAnd :: (heldW true (wordsF g) ++ [wClose]))) = some (.two false f g, [wClose]) := by
      unfold oneF chainF bothF chainF
      rw [show heldW true (wordsF f) ++ (wAnd :: (heldW true (wordsF g) ++ [wClose])) = wOpen :: (wordsF f ++ [wClose]) ++ (wAnd :: (heldW true (wordsF g) ++ [wClose])) from rfl, e1]
      simp only
      rw [loop_on (show notF 96 (heldW true (wordsF g) ++ [wClose]) = some (g, [wClose]) from e2), loop_off (offC _ (by decide) _)]
      simp only
      rw [loop_off (offC _ (by decide) _)]
    unfold oneF chainF bothF chainF
    rw [show [wNot] ++ heldW true (heldW true (wordsF f) ++ ([wAnd] ++ heldW true (wordsF g))) = wNot :: wOpen :: (heldW true (wordsF f) ++ (wAnd :: (heldW true (wordsF g) ++ [wClose]))) by simp [heldW], notF_not, notF_open, e3]
    rfl
  · have := noL_two (a := .two false f g) rfl
    show (noL _ _).length ≤ 96
    rw [this]
    simp only [textL, List.length_append, List.length_cons, List.length_nil]
    omega
theorem noL_up (a : Frm) : (noL a (textL a)).length ≤ (textL a).length + 8 := by
  rcases kinds a with ⟨k, _⟩ | ⟨_, k, _⟩ | ⟨_, _, k⟩
  · rw [noL_is k]; omega
  · rw [noL_no k]; omega
  · rw [noL_two k]; omega
/-- not ( f ) or not ( g ) -/
theorem parse_or {f g : Frm} {s : ByteArray} (hf : f.Ok) (hg : g.Ok) (h15 : f.size + g.size ≤ 12) (tf : (textL f).length ≤ 30) (tg : (textL g).length ≤ 30) (hs : s.data.toList = [110, 111, 116, 32] ++ brk (textL f) ++ [32, 111, 114, 32, 110, 111, 116, 32] ++ brk (textL g)) : parseF s = ((Frm.two true (.no f) (.no g)).post 0, 0) := by
  have hz : s.data.toList.length = s.size := by simp
  have wf := wd_len tf
  have wg := wd_len tg
  have h1 := noL_up f
  have h2 := noL_up g
  refine parse_words (ws := ([wNot] ++ heldW true (wordsF f)) ++ ([wOr] ++ ([wNot] ++ heldW true (wordsF g)))) (((Clean.nil.cons cNot).app (words_clean hf).held).app ((Clean.nil.cons cOr).app ((Clean.nil.cons cNot).app (words_clean hg).held))) (by simp) ?_ ?_ ?_ ⟨hf, hg⟩ (by simp only [Frm.size]; omega) ?_
  · rw [hs, join_app (by simp) (by simp), join_app (by simp) (held_ne (words_ne f)), join_app (by simp) (by simp), join_app (by simp) (held_ne (words_ne g)), brkW, brkW, join_one, join_one]
    simp [wNot, wOr]
  · rw [← hz, hs]; simp only [List.length_append, brk_len, List.length_cons, List.length_nil]; omega
  · have e1 := (rdO hf).brk (n := 97) (rest := wOr :: wNot :: heldW true (wordsF g)) (by omega)
    have e2 := (rdO hg).brk (n := 97) (rest := []) (by omega)
    rw [List.append_nil] at e2
    have e3 : bothF 98 (wNot :: heldW true (wordsF g)) = some (.no g, []) := by
      unfold bothF chainF
      rw [notF_not, show notF 97 (heldW true (wordsF g)) = some (g, []) from e2]
      rfl
    have e4 : bothF 98 (wNot :: (heldW true (wordsF f) ++ (wOr :: wNot :: heldW true (wordsF g)))) = some (.no f, wOr :: wNot :: heldW true (wordsF g)) := by
      unfold bothF chainF
      rw [notF_not, show notF 97 (heldW true (wordsF f) ++ (wOr :: wNot :: heldW true (wordsF g))) = some (f, wOr :: wNot :: heldW true (wordsF g)) from e1]
      exact loop_off (w := wAnd) (rest := wOr :: wNot :: heldW true (wordsF g)) (show wOr ≠ wAnd by decide) _ _
    unfold oneF chainF
    rw [show ([wNot] ++ heldW true (wordsF f)) ++ ([wOr] ++ ([wNot] ++ heldW true (wordsF g))) = wNot :: (heldW true (wordsF f) ++ (wOr :: wNot :: heldW true (wordsF g))) by simp, e4]
    simp only
    rw [loop_on e3]
    rfl
  · show (noL f (textL f) ++ [32, 111, 114, 32] ++ heldL (isOne (.no g)) (noL g (textL g))).length ≤ 96
    rw [show heldL (isOne (.no g)) (noL g (textL g)) = noL g (textL g) from rfl]
    simp only [List.length_append, List.length_cons, List.length_nil]
    omega
theorem val_post {f : Frm} {en : EnvT} (h : f.Ok) (hs : f.size ≤ 15) (ht : (textL f).length ≤ 96) (he : en.ok = true) : evalV (f.post 0) en = evalF en.at f := by
  unfold evalV
  rw [if_pos ⟨mayB_post h hs ht, he⟩, treeF_post h]
end Go.Proofs.YtmdnleafpmondaaDoor
