/- Contracts: linchpinlaw0.Name; what Few calls: linchpinref1.whole, Digits, Join, linchpinref2.num, tags, May, linchpinref6.May, told, sign, Print. -/
import Derived.Test.YtdcdpkpomhjilaaR1
import Derived.Lib.BufferRead
import Derived.Deep.DeepMust
import Derived.Outline
namespace Go.Proofs.Ytdcdpkpomhjilaa
open Go Go.RowKit

theorem name_ix0 (w : World) : (Instr.index 78 (.agg #[.string ⟨#[97, 112, 112]⟩, .string ⟨#[98]⟩, .string ⟨#[99]⟩, .string ⟨#[100]⟩, .string ⟨#[101, 45, 50]⟩]) (.int .i64 0)).run Try.prog w = .ok (.string ⟨#[97, 112, 112]⟩) w := by kernel_rfl
theorem name_ix1 (w : World) : (Instr.index 78 (.agg #[.string ⟨#[97, 112, 112]⟩, .string ⟨#[98]⟩, .string ⟨#[99]⟩, .string ⟨#[100]⟩, .string ⟨#[101, 45, 50]⟩]) (.int .i64 1)).run Try.prog w = .ok (.string ⟨#[98]⟩) w := by kernel_rfl
theorem name_ix2 (w : World) : (Instr.index 78 (.agg #[.string ⟨#[97, 112, 112]⟩, .string ⟨#[98]⟩, .string ⟨#[99]⟩, .string ⟨#[100]⟩, .string ⟨#[101, 45, 50]⟩]) (.int .i64 2)).run Try.prog w = .ok (.string ⟨#[99]⟩) w := by kernel_rfl
theorem name_ix3 (w : World) : (Instr.index 78 (.agg #[.string ⟨#[97, 112, 112]⟩, .string ⟨#[98]⟩, .string ⟨#[99]⟩, .string ⟨#[100]⟩, .string ⟨#[101, 45, 50]⟩]) (.int .i64 3)).run Try.prog w = .ok (.string ⟨#[100]⟩) w := by kernel_rfl
theorem name_ix4 (w : World) : (Instr.index 78 (.agg #[.string ⟨#[97, 112, 112]⟩, .string ⟨#[98]⟩, .string ⟨#[99]⟩, .string ⟨#[100]⟩, .string ⟨#[101, 45, 50]⟩]) (.int .i64 4)).run Try.prog w = .ok (.string ⟨#[101, 45, 50]⟩) w := by kernel_rfl
def nameAt (n : Int) : ByteArray := nameL.getD (n % 5).toNat ByteArray.empty
theorem nameAt_mem (n : Int) : nameAt n ∈ nameL := by
  have h1 := Int.emod_nonneg n (show (5 : Int) ≠ 0 by decide)
  have h2 := Int.emod_lt_of_pos n (show (0 : Int) < 5 by decide)
  unfold nameAt
  have h : (n % 5).toNat < nameL.length := by show _ < 5; omega
  rw [List.getD_eq_getElem?_getD, List.getElem?_eq_getElem h]
  exact List.getElem_mem h
set_option maxHeartbeats 400000 in
theorem name_any (n : Int) (w : World) (hn : I64 n) :
    Calls Try.prog 41 #[.int .i64 n] w fun e w' => e = .returned (.string (nameAt n)) ∧ w' = w := by
  have HN := hid hn
  have h1 := Int.emod_nonneg n (show (5 : Int) ≠ 0 by decide)
  have h2 := Int.emod_lt_of_pos n (show (0 : Int) < 5 by decide)
  have k0 := name_ix0
  have k1 := name_ix1
  have k2 := name_ix2
  have k3 := name_ix3
  have k4 := name_ix4
  rcases (by omega : n % 5 = 0 ∨ n % 5 = 1 ∨ n % 5 = 2 ∨ n % 5 = 3 ∨ n % 5 = 4) with h | h | h | h | h
  all_goals
    have HH := hid h
    clear h hn h1 h2
    go_enter Try.func41, Try.ntmps41
    go_wp2_with (first
      | (go_at_call 52; refine (place0_any n 5 _ HN.out (by decide) (by decide)).mono ?_; rintro e w' ⟨rfl, rfl⟩; rw [HH.out]))
    go_ret
    exact ⟨rstr (by unfold nameAt; rw [HH.out]; rfl), rfl⟩

theorem conv_one {P : Program} {src e dst : TypeId} (hs : P.underlying src = some (.slice e)) (he : P.underlying e = some (.int .u8)) (hd : P.underlying dst = some .string) (w : World) (c : Int) (b : UInt8) (hb : (b.toNat : Int) = c) :
    (convert src dst (.slice (some ⟨w.heap.size, 0, none⟩) 1 1)).run P (w.alloc (.cells #[.int .u8 c] e)) = .ok (.string ⟨#[b]⟩) (w.alloc (.cells #[.int .u8 c] e)) := by
  refine run_convert_bytes_back (w.alloc (.cells #[.int .u8 c] e)) src dst e ⟨w.heap.size, 0, none⟩ 1 [b] hs he hd fun j hj => ?_
  have : j = 0 := by simpa using hj
  subst this
  rw [add_mk, Nat.zero_add, World.cell?_alloc_new]
  simp [hb]
/-- Some short text is answered. -/
def StrPost (n : Nat) (w : World) (e : Ending) (w' : World) : Prop := Below w.heap.size w w' ∧ ∃ s : ByteArray, e = .returned (.string s) ∧ s.size ≤ n
set_option maxHeartbeats 400000 in
theorem whole_any (n : Int) (w : World) (h0 : 0 ≤ n) (h9 : n ≤ 9) :
    Calls Try.prog 93 #[.int .u64 n] w (StrPost 1 w) := by
  have hcv := fun w => conv_one Try.underlying113 Try.underlying5 Try.underlying9 w (48 + n) (UInt8.ofNat (48 + n.toNat)) (by simp; omega)
  have e10 : n % 10 = n := Int.emod_eq_of_lt h0 (by omega)
  have h : ¬ (9 : Int) < n := by omega
  go_enter Try.func93, Try.ntmps93
  go_wp2
  go_loopw [0, 3] (fun nv sv wr => nv = .int .u64 n ∧ (∃ b : UInt8, sv = .string ⟨#[b]⟩) ∧ Hid (Below w.heap.size w wr)) (fun _ _ _ => 0)
  case atStart => exact ⟨rfl, ⟨_, rfl⟩, hid (balloc (b0 w) _)⟩
  case round =>
    obtain ⟨rfl, ⟨b, rfl⟩, hb⟩ := hrel
    go_wp2
    go_ret
    exact ⟨hb.out, _, rfl, Nat.le_refl _⟩
set_option maxHeartbeats 400000 in
theorem digits1_any (n : Int) (w : World) (h0 : 0 ≤ n) (h9 : n ≤ 9) :
    Calls Try.prog 82 #[.int .i64 n] w (StrPost 1 w) := by
  have h : ¬ n < 0 := by omega
  go_enter Try.func82, Try.ntmps82
  go_wp2_with (first
    | (go_at_call 93; refine (whole_any n _ h0 h9).mono ?_; rintro e w1 ⟨hb1, s, rfl, hs⟩))
  go_ret
  exact ⟨hb1, s, rfl, hs⟩
set_option maxHeartbeats 400000 in
theorem num_any (n : Int) (w : World) (h0 : 0 ≤ n) (h9 : n ≤ 9) :
    Calls Try.prog 91 #[.int .i64 n] w fun e w' => e = .returned (.bool true) ∧ w' = w := by
  have h : n ≤ 9999 := by omega
  go_enter Try.func91, Try.ntmps91
  go_wp2
  go_ret
  exact ⟨rfl, rfl⟩
set_option maxHeartbeats 400000 in
theorem tags_any (b : Bool) (w : World) :
    Calls Try.prog 92 #[.string ⟨#[]⟩, .bool b] w fun e w' => e = .returned (.bool true) ∧ w' = w := by
  go_enter Try.func92, Try.ntmps92
  go_wp2
  go_ret
  exact ⟨rfl, rfl⟩
set_option maxHeartbeats 400000 in
theorem vmay_any (a b c : Int) (w : World) (a0 : 0 ≤ a) (a9 : a ≤ 9) (hb0 : 0 ≤ b) (hb9 : b ≤ 9) (c0 : 0 ≤ c) (c9 : c ≤ 9) :
    Calls Try.prog 81 #[.agg #[.int .i64 a, .int .i64 b, .int .i64 c, .string ⟨#[]⟩, .string ⟨#[]⟩]] w fun e w' => e = .returned (.bool true) ∧ Below w.heap.size w w' := by
  go_enter Try.func81, Try.ntmps81
  go_wp2_with (first
    | (go_at_call 91; (with_reducible refine (num_any _ _ (by assumption) (by assumption)).mono ?_); rintro e w' ⟨rfl, rfl⟩)
    | (go_at_call 92; (with_reducible refine (tags_any _ _).mono ?_); rintro e w' ⟨rfl, rfl⟩))
  go_ret
  exact ⟨rfl, balloc (b0 w) _⟩
end Go.Proofs.Ytdcdpkpomhjilaa
