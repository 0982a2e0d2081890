/- Words on a string's iterator, wherever it lies. No program. The walks of package msg: may, fields, number, hasRune. A message, as a value and in a block. -/
import Derived.Test.YtmidfknlmjgjpaaDoorGA
import Derived.Test.YtmidfknlmjgjpaaDoorGE
namespace Go.Proofs.YtmidfknlmjgjpaaDoor
open Go.RowKit

/-- A string's iterator, moved. -/
def setIter (w : World) (r : Nat) (s : ByteArray) (p : Nat) : World := { w with heap := w.heap.setIfInBounds r (.stringIter s p) }

theorem setIter_size (w : World) (r : Nat) (s : ByteArray) (p : Nat) : (setIter w r s p).heap.size = w.heap.size := by simp [setIter]
theorem setIter_at {w : World} {r : Nat} {o : Obj} (s : ByteArray) (p : Nat) (h : w.heap[r]? = some o) : (setIter w r s p).heap[r]? = some (.stringIter s p) := by
  have hr : r < w.heap.size := (Array.getElem?_eq_some_iff.1 h).1
  show (w.heap.setIfInBounds r (.stringIter s p))[r]? = _
  rw [Array.getElem?_setIfInBounds_self_of_lt hr]
theorem setIter_other (w : World) (r : Nat) (s : ByteArray) (p : Nat) {k : Nat} (h : k ≠ r) : (setIter w r s p).heap[k]? = w.heap[k]? := by
  show (w.heap.setIfInBounds r (.stringIter s p))[k]? = _
  rw [Array.getElem?_setIfInBounds_ne (by omega)]
theorem setIter_below (w : World) (r : Nat) (s : ByteArray) (p : Nat) {B : Nat} (h : B ≤ r) : Below B w (setIter w r s p) :=
  ⟨rfl, rfl, rfl, by rw [setIter_size]; omega, fun k hk => setIter_other w r s p (by omega)⟩

theorem str_get {l : List UInt8} {p : Nat} {c : UInt8} (h : l[p]? = some c) : ∃ hp : p < (str l).size, (str l)[p]'hp = c := by
  have hl : p < l.length := (List.getElem?_eq_some_iff.1 h).1
  refine ⟨by rw [str_size]; exact hl, ?_⟩
  rw [List.getElem?_eq_getElem hl] at h
  exact Option.some.inj h

/-- A rune of a text of small bytes. -/
theorem run_next_at {P : Program} {w : World} {r : Nat} {l : List UInt8} {p : Nat} {c : UInt8} (ty : TypeId) (hh : w.heap[r]? = some (.stringIter (str l) p)) (h : l[p]? = some c) (ha : c.toNat < 128) :
    (Instr.next (.pointer (some ⟨r, 0, none⟩)) true ty).run P w = .ok (.tuple #[.bool true, .int .i64 p, .int .i32 c.toNat]) (setIter w r (str l) (p + 1)) := by
  obtain ⟨hp, hc⟩ := str_get h
  have hd := decode_ascii (str l) p hp (by rw [hc]; exact ha)
  rw [hc] at hd
  simp [Instr.next, getObj, setObj, Sem.run_bind, Sem.run, hh, Result.andThen, hp, hd, setIter, goInt]

theorem run_next_done {P : Program} {w : World} {r : Nat} {l : List UInt8} {p : Nat} (ty : TypeId) (hh : w.heap[r]? = some (.stringIter (str l) p)) (h : l.length ≤ p) :
    (Instr.next (.pointer (some ⟨r, 0, none⟩)) true ty).run P w = .ok (.tuple #[.bool false]) w := by
  have hp : ¬ p < (str l).size := by rw [str_size]; omega
  simp [Instr.next, getObj, Sem.run_bind, Sem.run, hh, Result.andThen, hp]

theorem iter_at2 (w : World) (o : Obj) (s : ByteArray) (p : Nat) : ((w.alloc o).iter s p).heap[w.heap.size + 1]? = some (.stringIter s p) := by
  have := World.iter_heap (w.alloc o) s p
  rwa [World.size_alloc] at this

/-- The fields of all kinds. -/
def allL : List (List UInt8) := [[119, 115, 114, 112, 66], [118, 99, 69], [118, 111], [118, 111, 119, 115, 114, 66], [118, 99], [118], [118, 108, 99, 67, 73], [118, 99, 67, 76], [118], [111], [69], [], [67, 122, 83], [67, 105], [67, 105, 66], [118, 111, 119, 115, 114]]
def fieldsOf (kind : Int) : List UInt8 := if 1 ≤ kind ∧ kind ≤ 16 then allL.getD (kind.toNat - 1) [] else []
/-- The table lies as the text lays it. -/
def AllAt (w : World) : Prop := ∀ i l, allL[i]? = some l → w.cell? ⟨0, i, none⟩ = some (.string (str l))

theorem AllAt.later {w w' : World} (h : AllAt w) (hb : Below w.heap.size w w') : AllAt w' := by
  intro i l hl
  have := h i l hl
  rw [hb.cell (World.block_lt_of_cell? _ _ this)]; exact this
theorem AllAt.laterB {w w' : World} {B : Nat} (h : AllAt w) (hb : Below B w w') (hB : 0 < B) : AllAt w' := by
  intro i l hl
  have := h i l hl
  rw [hb.cell hB]; exact this
theorem AllAt.pos {w : World} (h : AllAt w) : 0 < w.heap.size := World.block_lt_of_cell? _ _ (h 0 _ rfl)

set_option maxHeartbeats 400000 in
theorem may_any (n : Int) (w : World) :
    Calls Tryd.prog 42 #[.int .i64 n] w fun e w' => e = .returned (.bool (fitB n)) ∧ w' = w := by
  go_enter Tryd.func42, Tryd.ntmps42
  go_wp2
  all_goals go_ret
  all_goals refine ⟨?_, rfl⟩
  all_goals simp_all [fitB]
  all_goals omega

set_option maxHeartbeats 400000 in
theorem fields_yes (k : Int) (h1 : 1 ≤ k) (h2 : k ≤ 16) (w : World) (ha : AllAt w) :
    Calls Tryd.prog 31 #[.int .i64 k] w fun e w' => e = .returned (.tuple #[.string (str (fieldsOf k)), .bool true]) ∧ w' = w := by
  have hlt : k.toNat - 1 < allL.length := by simp [allL]; omega
  have hl : allL[k.toNat - 1]? = some (fieldsOf k) := by
    rw [List.getElem?_eq_getElem hlt, fieldsOf, if_pos ⟨h1, h2⟩, List.getD_eq_getElem?_getD, List.getElem?_eq_getElem hlt]; rfl
  have hc : w.cell? ⟨0, k.toNat - 1, none⟩ = some (.string (str (fieldsOf k))) := ha _ _ hl
  clear hl hlt ha
  go_enter Tryd.func31, Tryd.ntmps31
  go_wp2
  go_ret2
  exact ⟨rfl, rfl⟩

set_option maxHeartbeats 400000 in
theorem fields_no (k : Int) (h : k < 1 ∨ 16 < k) (w : World) :
    Calls Tryd.prog 31 #[.int .i64 k] w fun e w' => e = .returned (.tuple #[.string (str []), .bool false]) ∧ w' = w := by
  rcases (show k < 1 ∨ (1 ≤ k ∧ 16 < k) by omega) with h | ⟨h0, h⟩
  all_goals
    go_enter Tryd.func31, Tryd.ntmps31
    go_wp2
    go_ret2
    exact ⟨rfl, rfl⟩

def numOff (f : Int) : Option Nat :=
  if f = 118 then some 2 else if f = 108 then some 3 else if f = 111 then some 4 else if f = 99 then some 5 else if f = 119 then some 6 else if f = 115 then some 7
  else if f = 114 then some 8 else if f = 112 then some 9 else if f = 105 then some 10 else if f = 122 then some 11 else none

set_option maxHeartbeats 400000 in
theorem number_any (b : Nat) (f : Int) (w : World) :
    Calls Tryd.prog 45 #[.pointer (some ⟨b, 0, none⟩), .int .i32 f] w fun e w' => e = .returned (.pointer ((numOff f).map fun o => ⟨b, o, none⟩)) ∧ w' = w := by
  go_enter Tryd.func45, Tryd.ntmps45
  go_wp2
  all_goals go_ret
  all_goals refine ⟨?_, rfl⟩
  all_goals simp_all [numOff]

set_option maxRecDepth 100000 in
set_option maxHeartbeats 400000 in
theorem hasRune_any (l : List UInt8) (r : UInt8) (hs : ∀ c ∈ l, c.toNat < 128) (w : World) :
    Calls Tryd.prog 32 #[.string (str l), .int .i32 r.toNat] w fun e w' => e = .returned (.bool (l.contains r)) ∧ Below w.heap.size w w' := by
  have Hs := Lib.hid hs
  clear hs
  go_enter Tryd.func32, Tryd.ntmps32
  go_wp2
  go_loopw [] (fun wr => ∃ k : Nat, k ≤ l.length ∧ Below w.heap.size w wr ∧ wr.heap[w.heap.size]? = some (.stringIter (str l) k) ∧ (l.take k).contains r = false) (fun wr => l.length - wr.iterPos w.heap.size)
  case atStart => exact ⟨0, by omega, (Below.refl _ _).alloc (Nat.le_refl _) _, World.iter_heap _ _ _, rfl⟩
  case round =>
    obtain ⟨k, hk, hb, hit, hno⟩ := hrel
    have HB := Lib.hid hb
    have HI := Lib.hid hit
    have Hno := Lib.hid hno
    clear hb hit hno
    by_cases hlt : k < l.length
    · obtain ⟨c, hc⟩ : ∃ c, l[k]? = some c := ⟨l[k], List.getElem?_eq_getElem hlt⟩
      have hn := fun ty => run_next_at (P := Tryd.prog) ty HI.out hc (Hs.out c (List.mem_of_getElem? hc))
      have HN := Lib.hid (setIter_at (str l) (k + 1) HI.out)
      have HBn := Lib.hid (HB.out.trans (setIter_below wr w.heap.size (str l) (k + 1) (Nat.le_refl _)))
      have htk : (l.take (k + 1)).contains r = ((l.take k).contains r || c == r) := by
        rw [List.take_add_one, hc]; simp [Bool.beq_comm]
        congr 1
      have Htk := Lib.hid htk
      have Hc := Lib.hid hc
      clear hc htk
      by_cases hcr : c = r
      · have hcr' : (((c.toNat : Nat) : Int) == ((r.toNat : Nat) : Int)) = true := by rw [hcr]; simp
        have HR : Hid (l.contains r = true) := by
          have : c ∈ l := List.mem_of_getElem? Hc.out
          rw [hcr] at this
          show l.contains r = true
          simpa using this
        clear hcr
        go_wp2
        go_ret
        exact ⟨by rw [HR.out]; rfl, HBn.out⟩
      · have hcr' : (((c.toNat : Nat) : Int) == ((r.toNat : Nat) : Int)) = false := by
          rw [beq_eq_false_iff_ne]
          intro e
          exact hcr (UInt8.toNat_inj.1 (by omega))
        have Hcr := Lib.hid hcr
        clear hcr
        go_wp2
        go_roundw
        case rel => exact ⟨k + 1, by omega, HBn.out, HN.out, by rw [Htk.out, Hno.out]; simpa using Hcr.out⟩
        case measure => simp only [World.iterPos, HN.out, HI.out]; omega
    · obtain rfl : k = l.length := by omega
      have hn := fun ty => run_next_done (P := Tryd.prog) ty HI.out (Nat.le_refl _)
      have HR : Hid (l.contains r = false) := by
        have := Hno.out
        rw [List.take_length] at this
        exact this
      go_wp2
      go_ret
      exact ⟨by rw [HR.out]; rfl, HB.out⟩

structure Mark where
  op : Int
  view : Int
  sum : Int

structure Item where
  kind : Int
  stub : Stub
  entry : Entry

structure Msg where
  kind : Int
  src : Int
  view : Int
  logView : Int
  op : Int
  commit : Int
  client : Int
  session : Int
  request : Int
  operation : Int
  index : Int
  size : Int
  check : Mark
  s0 : Int
  s1 : Int
  s2 : Int
  s3 : Int
  s4 : Int
  s5 : Int
  entry : Entry
  entries : List Entry
  items : List Item
  body : ByteArray

def zeroEntry : Entry := { view := 0, op := 0, under := 0, parent := 0, client := 0, session := 0, request := 0, operation := 0, body := str [] }
def zeroStub : Stub := { op := 0, view := 0, under := 0, parent := 0, sum := 0 }

def msgC (m : Msg) (ev iv : Value) : Array Value :=
  #[.int .i64 m.kind, .int .i64 m.src, .int .i64 m.view, .int .i64 m.logView, .int .i64 m.op, .int .i64 m.commit, .int .i64 m.client, .int .i64 m.session, .int .i64 m.request, .int .i64 m.operation, .int .i64 m.index, .int .i64 m.size,
    .int .i64 m.check.op, .int .i64 m.check.view, .int .u64 m.check.sum, .int .u64 m.s0, .int .u64 m.s1, .int .u64 m.s2, .int .u64 m.s3, .int .u64 m.s4, .int .u64 m.s5,
    .int .i64 m.entry.view, .int .i64 m.entry.op, .int .i64 m.entry.under, .int .u64 m.entry.parent, .int .i64 m.entry.client, .int .i64 m.entry.session, .int .i64 m.entry.request, .int .i64 m.entry.operation, .string m.entry.body,
    ev, iv, .string m.body]

/-- All fields. -/
def fieldL : List UInt8 := [118, 108, 111, 99, 119, 115, 114, 112, 105, 122, 67, 83, 69, 76, 73, 66]

def numGet (m : Msg) (f : UInt8) : Option Int :=
  if f = 118 then some m.view else if f = 108 then some m.logView else if f = 111 then some m.op else if f = 99 then some m.commit else if f = 119 then some m.client else if f = 115 then some m.session
  else if f = 114 then some m.request else if f = 112 then some m.operation else if f = 105 then some m.index else if f = 122 then some m.size else none

def wipeM (m : Msg) (f : UInt8) : Msg :=
  if f = 118 then { m with view := 0 } else if f = 108 then { m with logView := 0 } else if f = 111 then { m with op := 0 } else if f = 99 then { m with commit := 0 } else if f = 119 then { m with client := 0 }
  else if f = 115 then { m with session := 0 } else if f = 114 then { m with request := 0 } else if f = 112 then { m with operation := 0 } else if f = 105 then { m with index := 0 } else if f = 122 then { m with size := 0 }
  else if f = 67 then { m with check := ⟨0, 0, 0⟩ } else if f = 83 then { m with s0 := 0, s1 := 0, s2 := 0, s3 := 0, s4 := 0, s5 := 0 } else if f = 69 then { m with entry := zeroEntry }
  else if f = 76 then { m with entries := [] } else if f = 73 then { m with items := [] } else if f = 66 then { m with body := str [] } else m
def wipeE (v : Value) (f : UInt8) : Value := if f = 76 then .slice none 0 0 else v
def wipeI (v : Value) (f : UInt8) : Value := if f = 73 then .slice none 0 0 else v

theorem set_block {w : World} {b : Nat} {arr : Array Value} {T : Nat} {fr : Nat × Nat} (o : Nat) (v : Value) (h : w.heap[b]? = some (.cells arr T fr)) : (w.setCell ⟨b, o, none⟩ v).heap[b]? = some (.cells (arr.setIfInBounds o v) T fr) := by
  have hb : b < w.heap.size := (Array.getElem?_eq_some_iff.1 h).1
  simp only [World.setCell, Array.getElem?_modify, if_true, h, Option.map_some]
  rfl

theorem World.grownBy_refl' (w : World) (row : Option Nat) : w.grownBy w row := ⟨rfl, rfl, rfl, Nat.le_refl _, fun _ _ _ => rfl⟩
theorem set_grown {w w' : World} {b : Nat} (o : Nat) (v : Value) (h : w.grownBy w' (some b)) : w.grownBy (w'.setCell ⟨b, o, none⟩ v) (some b) :=
  ⟨h.os, h.tape, h.output, by have := h.size; simpa [World.setCell] using this, fun k hk hne => (Below.heap_setCell w' ⟨b, o, none⟩ v k (fun e => hne (by rw [e]))).trans (h.block k hk hne)⟩

end Go.Proofs.YtmidfknlmjgjpaaDoor
