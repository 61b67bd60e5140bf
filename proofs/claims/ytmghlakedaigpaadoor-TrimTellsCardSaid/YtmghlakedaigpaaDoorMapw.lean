/- A map that the call makes, as the walk meets it: an insertion of a new key, a look-up. No program stands here. -/
import Derived.Test.YtmghlakedaigpaaDoorOwn
import Derived.MapKept
namespace Go.Proofs.YtmghlakedaigpaaDoor
open Go Go.RowKit

theorem run_insert_new {P : Program} {w : World} {T kt et : TypeId} {d : TypeDesc} (hT : P.underlying T = some (.map kt et)) (hk : P.underlying kt = some d) (es : Array MapEntry) (clock : Nat) (key x : Value) (hkey : Go.MapKept.IsKey d key)
    (hf : Instr.findNow d key es.toList 0 = some none) :
    (Instr.mapUpdate T (.map (some w.heap.size)) key x).run P (w.alloc (.map es clock)) = .ok () (w.alloc (.map (es.push { key := key, val := x, born := clock }) (clock + 1))) := by
  have hb : (w.alloc (.map es clock)).heap[w.heap.size]? = some (.map es clock) := heap_alloc_new w _
  unfold Instr.mapUpdate
  simp only [Sem.run_bind, run_underlying hT, Result.andThen_ok, Go.MapKept.run_getObj_map hb, Go.MapKept.run_checkKey hk hkey false 9999, Go.MapKept.run_findKey hk hf, Go.MapKept.run_setObj_map _ hb]
  have e : ∀ (h : Array Obj) (x y : Obj), (h.push x).setIfInBounds h.size y = h.push y := by
    intro h x y
    apply Array.ext_getElem?
    intro i
    by_cases hi : i = h.size
    · subst hi; simp
    · simp [Array.getElem?_push, hi, Ne.symm hi]
  simp only [World.alloc, e]
theorem run_lookup_hit {P : Program} {w : World} {T kt et : TypeId} {d : TypeDesc} (hT : P.underlying T = some (.map kt et)) (hk : P.underlying kt = some d) {b : Nat} {es : Array MapEntry} {clock : Nat} (hb : w.heap[b]? = some (.map es clock)) (key : Value) (hkey : Go.MapKept.IsKey d key) {i : Nat} {v : Value}
    (hf : Instr.findNow d key es.toList 0 = some (some (i, v))) :
    (Instr.lookup T (.map (some b)) key false).run P w = .ok v w := by
  unfold Instr.lookup
  simp only [Sem.run_bind, run_underlying hT, Result.andThen_ok, Go.MapKept.run_getObj_map hb, Sem.run_pure, Go.MapKept.run_checkKey hk hkey _ 9999, Go.MapKept.run_findKey hk hf]
  rfl
end Go.Proofs.YtmghlakedaigpaaDoor
