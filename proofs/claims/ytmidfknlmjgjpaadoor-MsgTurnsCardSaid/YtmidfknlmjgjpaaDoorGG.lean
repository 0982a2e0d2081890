/- Comparing structs: marks, sums, entries, stubs. The walk of msg.empty. -/
import Derived.Test.YtmidfknlmjgjpaaDoorGF
import Derived.Test.YtmidfknlmjgjpaaDoorKWipe
namespace Go.Proofs.YtmidfknlmjgjpaaDoor
open Go.RowKit

set_option maxRecDepth 100000 in
set_option maxHeartbeats 1000000 in
theorem eq_mark (a b c a' b' c' : Int) (w : World) :
    (binOp .eql 24 (.agg #[.int .i64 a, .int .i64 b, .int .u64 c]) (.agg #[.int .i64 a', .int .i64 b', .int .u64 c'])).run Tryd.prog w = .ok (.bool (a == a' && b == b' && c == c')) w := by
  have hp : Tryd.prog.stoodInHeld 24 = false := by kernel_rfl
  have hS : Tryd.prog.underlying 24 = some (.struct (Tryd.prog.fieldsOf 24)) := by kernel_rfl
  rw [run_eql_struct, run_equalIn_struct w 9999 _ _ _ hS hp]
  simp only [Program.fieldsOf, Tryd.underlying24]
  go_simp
  by_cases h1 : a = a' <;> by_cases h2 : b = b' <;> by_cases h3 : c = c' <;> simp [h1, h2, h3]

set_option maxRecDepth 100000 in
set_option maxHeartbeats 1000000 in
theorem eq_stub (a b c d e a' b' c' d' e' : Int) (w : World) :
    (binOp .eql 66 (.agg #[.int .i64 a, .int .i64 b, .int .i64 c, .int .u64 d, .int .u64 e]) (.agg #[.int .i64 a', .int .i64 b', .int .i64 c', .int .u64 d', .int .u64 e'])).run Tryd.prog w = .ok (.bool (a == a' && b == b' && c == c' && d == d' && e == e')) w := by
  have hp : Tryd.prog.stoodInHeld 66 = false := by kernel_rfl
  have hS : Tryd.prog.underlying 66 = some (.struct (Tryd.prog.fieldsOf 66)) := by kernel_rfl
  rw [run_eql_struct, run_equalIn_struct w 9999 _ _ _ hS hp]
  simp only [Program.fieldsOf, Tryd.underlying66]
  go_simp
  by_cases h1 : a = a' <;> by_cases h2 : b = b' <;> by_cases h3 : c = c' <;> by_cases h4 : d = d' <;> by_cases h5 : e = e' <;> simp [h1, h2, h3, h4, h5]

set_option maxRecDepth 100000 in
set_option maxHeartbeats 1000000 in
theorem eq_sums (a b c d e f a' b' c' d' e' f' : Int) (w : World) :
    (binOp .eql 25 (.agg #[.int .u64 a, .int .u64 b, .int .u64 c, .int .u64 d, .int .u64 e, .int .u64 f]) (.agg #[.int .u64 a', .int .u64 b', .int .u64 c', .int .u64 d', .int .u64 e', .int .u64 f'])).run Tryd.prog w = .ok (.bool (a == a' && b == b' && c == c' && d == d' && e == e' && f == f')) w := by
  rw [run_eql_struct, show (10000 : Nat) = 9999 + 1 from rfl, Op.equalIn]
  simp only [Sem.run_bind, run_underlying Tryd.underlying25, Result.andThen_ok]
  simp only [Std.Legacy.Range.forIn_eq_forIn_range', Std.Legacy.Range.size, Nat.sub_zero, Nat.add_sub_cancel, Nat.div_one, List.range'_succ, List.range'_zero, List.forIn_cons, List.forIn_nil]
  go_simp
  by_cases h1 : a = a' <;> by_cases h2 : b = b' <;> by_cases h3 : c = c' <;> by_cases h4 : d = d' <;> by_cases h5 : e = e' <;> by_cases h6 : f = f' <;> simp [h1, h2, h3, h4, h5, h6]

set_option maxRecDepth 100000 in
set_option maxHeartbeats 4000000 in
theorem eq_entry (x y : Entry) (w : World) :
    (binOp .eql 27 (.agg (entC x)) (.agg (entC y))).run Tryd.prog w = .ok (.bool (x.view == y.view && x.op == y.op && x.under == y.under && x.parent == y.parent && x.client == y.client && x.session == y.session && x.request == y.request && x.operation == y.operation && x.body.toList == y.body.toList)) w := by
  have hp : Tryd.prog.stoodInHeld 27 = false := by kernel_rfl
  have hS : Tryd.prog.underlying 27 = some (.struct (Tryd.prog.fieldsOf 27)) := by kernel_rfl
  rw [run_eql_struct, run_equalIn_struct w 9999 _ _ _ hS hp]
  simp only [Program.fieldsOf, Tryd.underlying27]
  obtain ⟨a, b, c, d, e, f, g, h, i⟩ := x
  obtain ⟨a', b', c', d', e', f', g', h', i'⟩ := y
  simp only [entC]
  go_simp
  by_cases h1 : a = a'
  · by_cases h2 : b = b'
    · by_cases h3 : c = c'
      · by_cases h4 : d = d'
        · by_cases h5 : e = e'
          · by_cases h6 : f = f'
            · by_cases h7 : g = g'
              · by_cases h8 : h = h'
                · by_cases h9 : i.toList = i'.toList <;> simp [h1, h2, h3, h4, h5, h6, h7, h8, h9]
                · simp [h1, h2, h3, h4, h5, h6, h7, h8]
              · simp [h1, h2, h3, h4, h5, h6, h7]
            · simp [h1, h2, h3, h4, h5, h6]
          · simp [h1, h2, h3, h4, h5]
        · simp [h1, h2, h3, h4]
      · simp [h1, h2, h3]
    · simp [h1, h2]
  · simp [h1]

def numL : List UInt8 := [118, 108, 111, 99, 119, 115, 114, 112, 105, 122]
def Mark.zero (m : Mark) : Bool := m.op == 0 && m.view == 0 && m.sum == 0
def Entry.zero (e : Entry) : Bool := e.view == 0 && e.op == 0 && e.under == 0 && e.parent == 0 && e.client == 0 && e.session == 0 && e.request == 0 && e.operation == 0 && e.body.toList.isEmpty
def Msg.sumsZero (m : Msg) : Bool := m.s0 == 0 && m.s1 == 0 && m.s2 == 0 && m.s3 == 0 && m.s4 == 0 && m.s5 == 0
def emptyM (m : Msg) : Bool := numL.all (fun f => numGet m f == some 0) && m.check.zero && m.sumsZero && m.entry.zero && m.entries.isEmpty && m.items.isEmpty && m.body.toList.isEmpty

theorem num_cell {m : Msg} {ev iv : Value} {f : UInt8} (hf : f ∈ numL) : ∃ o x, numOff f.toNat = some o ∧ numGet m f = some x ∧ (msgC m ev iv)[o]? = some (.int .i64 x) := by
  simp only [numL, List.mem_cons, List.not_mem_nil, or_false] at hf
  rcases hf with rfl | rfl | rfl | rfl | rfl | rfl | rfl | rfl | rfl | rfl
  all_goals exact ⟨_, _, rfl, rfl, rfl⟩

theorem zero_mark (m : Msg) (w : World) : (binOp .eql 24 (.agg #[.int .i64 m.check.op, .int .i64 m.check.view, .int .u64 m.check.sum]) (.agg #[.int .i64 0, .int .i64 0, .int .u64 0])).run Tryd.prog w = .ok (.bool m.check.zero) w := eq_mark _ _ _ 0 0 0 w
theorem zero_sums (m : Msg) (w : World) : (binOp .eql 25 (.agg #[.int .u64 m.s0, .int .u64 m.s1, .int .u64 m.s2, .int .u64 m.s3, .int .u64 m.s4, .int .u64 m.s5]) (.agg #[.int .u64 0, .int .u64 0, .int .u64 0, .int .u64 0, .int .u64 0, .int .u64 0])).run Tryd.prog w = .ok (.bool m.sumsZero) w := eq_sums _ _ _ _ _ _ 0 0 0 0 0 0 w
theorem zero_entry (e : Entry) (w : World) : (binOp .eql 27 (.agg #[.int .i64 e.view, .int .i64 e.op, .int .i64 e.under, .int .u64 e.parent, .int .i64 e.client, .int .i64 e.session, .int .i64 e.request, .int .i64 e.operation, .string e.body]) (.agg #[.int .i64 0, .int .i64 0, .int .i64 0, .int .u64 0, .int .i64 0, .int .i64 0, .int .i64 0, .int .i64 0, .string { data := #[] }])).run Tryd.prog w = .ok (.bool e.zero) w := by
  refine (eq_entry e zeroEntry w).trans ?_
  have h : ((str []).toList : List UInt8) = [] := by rw [Lib.toList_data]
  have : (e.body.toList == (zeroEntry).body.toList) = e.body.toList.isEmpty := by
    show (e.body.toList == (str []).toList) = _
    rw [h]
    cases e.body.toList <;> rfl
  rw [this]
  rfl

set_option maxRecDepth 100000 in
set_option maxHeartbeats 1000000 in
theorem empty_any (m : Msg) (ea ia : Option Addr) (ec ic : Nat) (w : World) :
    Calls Tryd.prog 47 #[.agg (msgC m (.slice ea m.entries.length ec) (.slice ia m.items.length ic))] w fun e w' => e = .returned (.bool (emptyM m)) ∧ Below w.heap.size w w' := by
  unfold msgC
  go_enter Tryd.func47, Tryd.ntmps47
  go_wp2
  go_loopw [] (fun wr => ∃ k : Nat, k ≤ 10 ∧ Below (w.heap.size + 1) (w.alloc (.cells (msgC m (.slice ea m.entries.length ec) (.slice ia m.items.length ic)) 31)) wr ∧ wr.heap[w.heap.size + 1]? = some (.stringIter (str numL) k) ∧ (numL.take k).all (fun f => numGet m f == some 0) = true) (fun wr => 10 - wr.iterPos (w.heap.size + 1))
  case atStart => exact ⟨0, by omega, (Below.refl _ _).alloc (by simp) _, iter_at2 _ _ _ _, rfl⟩
  case round =>
    obtain ⟨k, hk, hb, hit, hno⟩ := hrel
    have HB := Lib.hid hb
    have HI := Lib.hid hit
    have Hno := Lib.hid hno
    have HBX : Hid (wr.heap[w.heap.size]? = some (.cells (msgC m (.slice ea m.entries.length ec) (.slice ia m.items.length ic)) 31 (0, 0))) := by
      have := hb.block w.heap.size (by omega)
      have e : (w.alloc (.cells (msgC m (.slice ea m.entries.length ec) (.slice ia m.items.length ic)) 31)).heap[w.heap.size]? = some (.cells (msgC m (.slice ea m.entries.length ec) (.slice ia m.items.length ic)) 31 (0, 0)) := heap_alloc_new w _
      exact this.trans e
    clear hb hit hno
    by_cases hlt : k < 10
    · obtain ⟨c, hc⟩ : ∃ c, numL[k]? = some c := ⟨numL[k]'(by simpa [numL] using hlt), List.getElem?_eq_getElem _⟩
      have hcm : c ∈ numL := List.mem_of_getElem? hc
      have hc128 : c.toNat < 128 := by
        have : ∀ c ∈ numL, c.toNat < 128 := by decide
        exact this c hcm
      have hn := fun ty => run_next_at (P := Tryd.prog) ty HI.out hc hc128
      have HN := Lib.hid (setIter_at (str numL) (k + 1) HI.out)
      have HBn := Lib.hid (HB.out.trans (setIter_below wr (w.heap.size + 1) (str numL) (k + 1) (Nat.le_refl _)))
      obtain ⟨o, x, ho, hx, hcell⟩ := num_cell (m := m) (ev := .slice ea m.entries.length ec) (iv := .slice ia m.items.length ic) hcm
      have hcell : (setIter wr (w.heap.size + 1) (str numL) (k + 1)).cell? ⟨w.heap.size, o, none⟩ = some (.int .i64 x) := by
        have e1 := setIter_other wr (w.heap.size + 1) (str numL) (k + 1) (k := w.heap.size) (by omega)
        rw [World.cell?_of_block (w := wr) (a := ⟨w.heap.size, o, none⟩) e1, cell_of_row wr w.heap.size o _ _ _ HBX.out]
        exact hcell
      have htk : (numL.take (k + 1)).all (fun f => numGet m f == some 0) = ((numL.take k).all (fun f => numGet m f == some 0) && x == 0) := by
        rw [List.take_add_one, hc]; simp [hx]
      have Htk := Lib.hid htk
      have Hc := Lib.hid hc
      have Ho := Lib.hid ho
      have Hx := Lib.hid hx
      clear hc htk hcm hc128 ho hx
      by_cases hx0 : x = 0
      · have hx1 : (x != 0) = false := by rw [hx0]; rfl
        have HX0 := Lib.hid hx0
        clear hx0
        go_wp2_with (go_at_call 45; refine (number_any _ _ _).mono ?_; rintro e w' ⟨rfl, rfl⟩; rw [Ho.out]; simp only [Option.map_some])
        go_roundw
        case rel => exact ⟨k + 1, by omega, HBn.out, HN.out, by rw [Htk.out, Hno.out, HX0.out]; rfl⟩
        case measure => simp only [World.iterPos, HN.out, HI.out]; omega
      · have hx1 : (x != 0) = true := by simpa using hx0
        have HR : Hid (emptyM m = false) := by
          have hm : c ∈ numL := List.mem_of_getElem? Hc.out
          have : numL.all (fun f => numGet m f == some 0) = false := by
            rw [List.all_eq_false]
            exact ⟨c, hm, by rw [Hx.out]; simpa using hx0⟩
          show emptyM m = false
          simp [emptyM, this]
        have HX0 := Lib.hid hx0
        clear hx0
        go_wp2_with (go_at_call 45; refine (number_any _ _ _).mono ?_; rintro e w' ⟨rfl, rfl⟩; rw [Ho.out]; simp only [Option.map_some])
        go_ret
        exact ⟨by rw [HR.out]; rfl, below_box HBn.out (by omega)⟩
    · obtain rfl : k = 10 := by omega
      have hn := fun ty => run_next_done (P := Tryd.prog) ty HI.out (show numL.length ≤ 10 by decide)
      have hg : ∀ o v, (msgC m (.slice ea m.entries.length ec) (.slice ia m.items.length ic))[o]? = some v → wr.cell? ⟨w.heap.size, o, none⟩ = some v := by
        intro o v hv
        rw [cell_of_row wr w.heap.size o _ _ _ HBX.out]; exact hv
      have HG := Lib.hid hg
      clear hg
      have g12 : wr.cell? ⟨w.heap.size, 12, none⟩ = some (.int .i64 m.check.op) := HG.out 12 _ rfl
      have g13 : wr.cell? ⟨w.heap.size, 13, none⟩ = some (.int .i64 m.check.view) := HG.out 13 _ rfl
      have g14 : wr.cell? ⟨w.heap.size, 14, none⟩ = some (.int .u64 m.check.sum) := HG.out 14 _ rfl
      have g15 : wr.cell? ⟨w.heap.size, 15, none⟩ = some (.int .u64 m.s0) := HG.out 15 _ rfl
      have g16 : wr.cell? ⟨w.heap.size, 16, none⟩ = some (.int .u64 m.s1) := HG.out 16 _ rfl
      have g17 : wr.cell? ⟨w.heap.size, 17, none⟩ = some (.int .u64 m.s2) := HG.out 17 _ rfl
      have g18 : wr.cell? ⟨w.heap.size, 18, none⟩ = some (.int .u64 m.s3) := HG.out 18 _ rfl
      have g19 : wr.cell? ⟨w.heap.size, 19, none⟩ = some (.int .u64 m.s4) := HG.out 19 _ rfl
      have g20 : wr.cell? ⟨w.heap.size, 20, none⟩ = some (.int .u64 m.s5) := HG.out 20 _ rfl
      have g21 : wr.cell? ⟨w.heap.size, 21, none⟩ = some (.int .i64 m.entry.view) := HG.out 21 _ rfl
      have g22 : wr.cell? ⟨w.heap.size, 22, none⟩ = some (.int .i64 m.entry.op) := HG.out 22 _ rfl
      have g23 : wr.cell? ⟨w.heap.size, 23, none⟩ = some (.int .i64 m.entry.under) := HG.out 23 _ rfl
      have g24 : wr.cell? ⟨w.heap.size, 24, none⟩ = some (.int .u64 m.entry.parent) := HG.out 24 _ rfl
      have g25 : wr.cell? ⟨w.heap.size, 25, none⟩ = some (.int .i64 m.entry.client) := HG.out 25 _ rfl
      have g26 : wr.cell? ⟨w.heap.size, 26, none⟩ = some (.int .i64 m.entry.session) := HG.out 26 _ rfl
      have g27 : wr.cell? ⟨w.heap.size, 27, none⟩ = some (.int .i64 m.entry.request) := HG.out 27 _ rfl
      have g28 : wr.cell? ⟨w.heap.size, 28, none⟩ = some (.int .i64 m.entry.operation) := HG.out 28 _ rfl
      have g29 : wr.cell? ⟨w.heap.size, 29, none⟩ = some (.string m.entry.body) := HG.out 29 _ rfl
      have g30 : wr.cell? ⟨w.heap.size, 30, none⟩ = some (.slice ea m.entries.length ec) := HG.out 30 _ rfl
      have g31 : wr.cell? ⟨w.heap.size, 31, none⟩ = some (.slice ia m.items.length ic) := HG.out 31 _ rfl
      have g32 : wr.cell? ⟨w.heap.size, 32, none⟩ = some (.string m.body) := HG.out 32 _ rfl
      have e1 := zero_mark m
      have e2 := zero_sums m
      have e3 := zero_entry m.entry
      have Hn : Hid (numL.all (fun f => numGet m f == some 0) = true) := Hno.out
      have HBo := Lib.hid (below_box HB.out (by omega))
      go_wp2
      all_goals go_ret
      all_goals refine ⟨?_, HBo.out⟩
      all_goals have hnn := Hn.out
      all_goals clear HI Hno HBX HG HB g12 g13 g14 g15 g16 g17 g18 g19 g20 g21 g22 g23 g24 g25 g26 g27 g28 g29 g30 g31 g32 e1 e2 e3 hn HBo Hn
      all_goals simp_all [emptyM]
      all_goals go_goals

end Go.Proofs.YtmidfknlmjgjpaaDoor
