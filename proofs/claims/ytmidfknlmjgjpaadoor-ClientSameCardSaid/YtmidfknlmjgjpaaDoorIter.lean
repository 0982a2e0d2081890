/- Words on a string's iterator, wherever it lies. No program. -/
import Derived.Test.YtmidfknlmjgjpaaDoorLib2
namespace Go.Proofs.YtmidfknlmjgjpaaDoor
open Go.RowKit

/-- A string's iterator, moved. -/
def setIter (w : World) (r : Nat) (s : ByteArray) (p : Nat) : World := { w with heap := w.heap.setIfInBounds r (.stringIter s p) }

theorem setIter_size (w : World) (r : Nat) (s : ByteArray) (p : Nat) : (setIter w r s p).heap.size = w.heap.size := by simp [setIter]
theorem setIter_at {w : World} {r : Nat} {o : Obj} (s : ByteArray) (p : Nat) (h : w.heap[r]? = some o) : (setIter w r s p).heap[r]? = some (.stringIter s p) := by
  have hr : r < w.heap.size := (Array.getElem?_eq_some_iff.1 h).1
  show (w.heap.setIfInBounds r (.stringIter s p))[r]? = _
  rw [Array.getElem?_setIfInBounds_self_of_lt hr]
theorem setIter_other (w : World) (r : Nat) (s : ByteArray) (p : Nat) {k : Nat} (h : k ≠ r) : (setIter w r s p).heap[k]? = w.heap[k]? := by
  show (w.heap.setIfInBounds r (.stringIter s p))[k]? = _
  rw [Array.getElem?_setIfInBounds_ne (by omega)]
theorem setIter_below (w : World) (r : Nat) (s : ByteArray) (p : Nat) {B : Nat} (h : B ≤ r) : Below B w (setIter w r s p) :=
  ⟨rfl, rfl, rfl, by rw [setIter_size]; omega, fun k hk => setIter_other w r s p (by omega)⟩

theorem str_get {l : List UInt8} {p : Nat} {c : UInt8} (h : l[p]? = some c) : ∃ hp : p < (str l).size, (str l)[p]'hp = c := by
  have hl : p < l.length := (List.getElem?_eq_some_iff.1 h).1
  refine ⟨by rw [str_size]; exact hl, ?_⟩
  rw [List.getElem?_eq_getElem hl] at h
  exact Option.some.inj h

/-- A rune of a text of small bytes. -/
theorem run_next_at {P : Program} {w : World} {r : Nat} {l : List UInt8} {p : Nat} {c : UInt8} (ty : TypeId) (hh : w.heap[r]? = some (.stringIter (str l) p)) (h : l[p]? = some c) (ha : c.toNat < 128) :
    (Instr.next (.pointer (some ⟨r, 0, none⟩)) true ty).run P w = .ok (.tuple #[.bool true, .int .i64 p, .int .i32 c.toNat]) (setIter w r (str l) (p + 1)) := by
  obtain ⟨hp, hc⟩ := str_get h
  have hd := decode_ascii (str l) p hp (by rw [hc]; exact ha)
  rw [hc] at hd
  simp [Instr.next, getObj, setObj, Sem.run_bind, Sem.run, hh, Result.andThen, hp, hd, setIter, goInt]

theorem run_next_done {P : Program} {w : World} {r : Nat} {l : List UInt8} {p : Nat} (ty : TypeId) (hh : w.heap[r]? = some (.stringIter (str l) p)) (h : l.length ≤ p) :
    (Instr.next (.pointer (some ⟨r, 0, none⟩)) true ty).run P w = .ok (.tuple #[.bool false]) w := by
  have hp : ¬ p < (str l).size := by rw [str_size]; omega
  simp [Instr.next, getObj, Sem.run_bind, Sem.run, hh, Result.andThen, hp]

theorem iter_at2 (w : World) (o : Obj) (s : ByteArray) (p : Nat) : ((w.alloc o).iter s p).heap[w.heap.size + 1]? = some (.stringIter s p) := by
  have := World.iter_heap (w.alloc o) s p
  rwa [World.size_alloc] at this

end Go.Proofs.YtmidfknlmjgjpaaDoor
