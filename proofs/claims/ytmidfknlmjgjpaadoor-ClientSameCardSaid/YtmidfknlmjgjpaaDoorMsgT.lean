/- A message, as a value and in a block. -/
import Derived.Test.YtmidfknlmjgjpaaDoorMsg1
namespace Go.Proofs.YtmidfknlmjgjpaaDoor
open Go.RowKit

structure Mark where
  op : Int
  view : Int
  sum : Int

structure Item where
  kind : Int
  stub : Stub
  entry : Entry

structure Msg where
  kind : Int
  src : Int
  view : Int
  logView : Int
  op : Int
  commit : Int
  client : Int
  session : Int
  request : Int
  operation : Int
  index : Int
  size : Int
  check : Mark
  s0 : Int
  s1 : Int
  s2 : Int
  s3 : Int
  s4 : Int
  s5 : Int
  entry : Entry
  entries : List Entry
  items : List Item
  body : ByteArray

def zeroEntry : Entry := { view := 0, op := 0, under := 0, parent := 0, client := 0, session := 0, request := 0, operation := 0, body := str [] }
def zeroStub : Stub := { op := 0, view := 0, under := 0, parent := 0, sum := 0 }

def msgC (m : Msg) (ev iv : Value) : Array Value :=
  #[.int .i64 m.kind, .int .i64 m.src, .int .i64 m.view, .int .i64 m.logView, .int .i64 m.op, .int .i64 m.commit, .int .i64 m.client, .int .i64 m.session, .int .i64 m.request, .int .i64 m.operation, .int .i64 m.index, .int .i64 m.size,
    .int .i64 m.check.op, .int .i64 m.check.view, .int .u64 m.check.sum, .int .u64 m.s0, .int .u64 m.s1, .int .u64 m.s2, .int .u64 m.s3, .int .u64 m.s4, .int .u64 m.s5,
    .int .i64 m.entry.view, .int .i64 m.entry.op, .int .i64 m.entry.under, .int .u64 m.entry.parent, .int .i64 m.entry.client, .int .i64 m.entry.session, .int .i64 m.entry.request, .int .i64 m.entry.operation, .string m.entry.body,
    ev, iv, .string m.body]

/-- All fields. -/
def fieldL : List UInt8 := [118, 108, 111, 99, 119, 115, 114, 112, 105, 122, 67, 83, 69, 76, 73, 66]

def numGet (m : Msg) (f : UInt8) : Option Int :=
  if f = 118 then some m.view else if f = 108 then some m.logView else if f = 111 then some m.op else if f = 99 then some m.commit else if f = 119 then some m.client else if f = 115 then some m.session
  else if f = 114 then some m.request else if f = 112 then some m.operation else if f = 105 then some m.index else if f = 122 then some m.size else none

def wipeM (m : Msg) (f : UInt8) : Msg :=
  if f = 118 then { m with view := 0 } else if f = 108 then { m with logView := 0 } else if f = 111 then { m with op := 0 } else if f = 99 then { m with commit := 0 } else if f = 119 then { m with client := 0 }
  else if f = 115 then { m with session := 0 } else if f = 114 then { m with request := 0 } else if f = 112 then { m with operation := 0 } else if f = 105 then { m with index := 0 } else if f = 122 then { m with size := 0 }
  else if f = 67 then { m with check := ⟨0, 0, 0⟩ } else if f = 83 then { m with s0 := 0, s1 := 0, s2 := 0, s3 := 0, s4 := 0, s5 := 0 } else if f = 69 then { m with entry := zeroEntry }
  else if f = 76 then { m with entries := [] } else if f = 73 then { m with items := [] } else if f = 66 then { m with body := str [] } else m
def wipeE (v : Value) (f : UInt8) : Value := if f = 76 then .slice none 0 0 else v
def wipeI (v : Value) (f : UInt8) : Value := if f = 73 then .slice none 0 0 else v

theorem set_block {w : World} {b : Nat} {arr : Array Value} {T : Nat} {fr : Nat × Nat} (o : Nat) (v : Value) (h : w.heap[b]? = some (.cells arr T fr)) : (w.setCell ⟨b, o, none⟩ v).heap[b]? = some (.cells (arr.setIfInBounds o v) T fr) := by
  have hb : b < w.heap.size := (Array.getElem?_eq_some_iff.1 h).1
  simp only [World.setCell, Array.getElem?_modify, if_true, h, Option.map_some]
  rfl

theorem World.grownBy_refl' (w : World) (row : Option Nat) : w.grownBy w row := ⟨rfl, rfl, rfl, Nat.le_refl _, fun _ _ _ => rfl⟩
theorem set_grown {w w' : World} {b : Nat} (o : Nat) (v : Value) (h : w.grownBy w' (some b)) : w.grownBy (w'.setCell ⟨b, o, none⟩ v) (some b) :=
  ⟨h.os, h.tape, h.output, by have := h.size; simpa [World.setCell] using this, fun k hk hne => (Below.heap_setCell w' ⟨b, o, none⟩ v k (fun e => hne (by rw [e]))).trans (h.block k hk hne)⟩

end Go.Proofs.YtmidfknlmjgjpaaDoor
