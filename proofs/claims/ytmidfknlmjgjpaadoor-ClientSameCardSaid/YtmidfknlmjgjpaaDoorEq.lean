/- Comparing structs: marks, sums, entries, stubs. -/
import Derived.Test.YtmidfknlmjgjpaaDoorMsgT
namespace Go.Proofs.YtmidfknlmjgjpaaDoor
open Go.RowKit

set_option maxRecDepth 100000 in
set_option maxHeartbeats 1000000 in
theorem eq_mark (a b c a' b' c' : Int) (w : World) :
    (binOp .eql 24 (.agg #[.int .i64 a, .int .i64 b, .int .u64 c]) (.agg #[.int .i64 a', .int .i64 b', .int .u64 c'])).run Tryd.prog w = .ok (.bool (a == a' && b == b' && c == c')) w := by
  have hp : Tryd.prog.stoodInHeld 24 = false := by kernel_rfl
  have hS : Tryd.prog.underlying 24 = some (.struct (Tryd.prog.fieldsOf 24)) := by kernel_rfl
  rw [run_eql_struct, run_equalIn_struct w 9999 _ _ _ hS hp]
  simp only [Program.fieldsOf, Tryd.underlying24]
  go_simp
  by_cases h1 : a = a' <;> by_cases h2 : b = b' <;> by_cases h3 : c = c' <;> simp [h1, h2, h3]

set_option maxRecDepth 100000 in
set_option maxHeartbeats 1000000 in
theorem eq_stub (a b c d e a' b' c' d' e' : Int) (w : World) :
    (binOp .eql 66 (.agg #[.int .i64 a, .int .i64 b, .int .i64 c, .int .u64 d, .int .u64 e]) (.agg #[.int .i64 a', .int .i64 b', .int .i64 c', .int .u64 d', .int .u64 e'])).run Tryd.prog w = .ok (.bool (a == a' && b == b' && c == c' && d == d' && e == e')) w := by
  have hp : Tryd.prog.stoodInHeld 66 = false := by kernel_rfl
  have hS : Tryd.prog.underlying 66 = some (.struct (Tryd.prog.fieldsOf 66)) := by kernel_rfl
  rw [run_eql_struct, run_equalIn_struct w 9999 _ _ _ hS hp]
  simp only [Program.fieldsOf, Tryd.underlying66]
  go_simp
  by_cases h1 : a = a' <;> by_cases h2 : b = b' <;> by_cases h3 : c = c' <;> by_cases h4 : d = d' <;> by_cases h5 : e = e' <;> simp [h1, h2, h3, h4, h5]

set_option maxRecDepth 100000 in
set_option maxHeartbeats 1000000 in
theorem eq_sums (a b c d e f a' b' c' d' e' f' : Int) (w : World) :
    (binOp .eql 25 (.agg #[.int .u64 a, .int .u64 b, .int .u64 c, .int .u64 d, .int .u64 e, .int .u64 f]) (.agg #[.int .u64 a', .int .u64 b', .int .u64 c', .int .u64 d', .int .u64 e', .int .u64 f'])).run Tryd.prog w = .ok (.bool (a == a' && b == b' && c == c' && d == d' && e == e' && f == f')) w := by
  rw [run_eql_struct, show (10000 : Nat) = 9999 + 1 from rfl, Op.equalIn]
  simp only [Sem.run_bind, run_underlying Tryd.underlying25, Result.andThen_ok]
  simp only [Std.Legacy.Range.forIn_eq_forIn_range', Std.Legacy.Range.size, Nat.sub_zero, Nat.add_sub_cancel, Nat.div_one, List.range'_succ, List.range'_zero, List.forIn_cons, List.forIn_nil]
  go_simp
  by_cases h1 : a = a' <;> by_cases h2 : b = b' <;> by_cases h3 : c = c' <;> by_cases h4 : d = d' <;> by_cases h5 : e = e' <;> by_cases h6 : f = f' <;> simp [h1, h2, h3, h4, h5, h6]

set_option maxRecDepth 100000 in
set_option maxHeartbeats 4000000 in
theorem eq_entry (x y : Entry) (w : World) :
    (binOp .eql 27 (.agg (entC x)) (.agg (entC y))).run Tryd.prog w = .ok (.bool (x.view == y.view && x.op == y.op && x.under == y.under && x.parent == y.parent && x.client == y.client && x.session == y.session && x.request == y.request && x.operation == y.operation && x.body.toList == y.body.toList)) w := by
  have hp : Tryd.prog.stoodInHeld 27 = false := by kernel_rfl
  have hS : Tryd.prog.underlying 27 = some (.struct (Tryd.prog.fieldsOf 27)) := by kernel_rfl
  rw [run_eql_struct, run_equalIn_struct w 9999 _ _ _ hS hp]
  simp only [Program.fieldsOf, Tryd.underlying27]
  obtain ⟨a, b, c, d, e, f, g, h, i⟩ := x
  obtain ⟨a', b', c', d', e', f', g', h', i'⟩ := y
  simp only [entC]
  go_simp
  by_cases h1 : a = a'
  · by_cases h2 : b = b'
    · by_cases h3 : c = c'
      · by_cases h4 : d = d'
        · by_cases h5 : e = e'
          · by_cases h6 : f = f'
            · by_cases h7 : g = g'
              · by_cases h8 : h = h'
                · by_cases h9 : i.toList = i'.toList <;> simp [h1, h2, h3, h4, h5, h6, h7, h8, h9]
                · simp [h1, h2, h3, h4, h5, h6, h7, h8]
              · simp [h1, h2, h3, h4, h5, h6, h7]
            · simp [h1, h2, h3, h4, h5, h6]
          · simp [h1, h2, h3, h4, h5]
        · simp [h1, h2, h3, h4]
      · simp [h1, h2, h3]
    · simp [h1, h2]
  · simp [h1]

end Go.Proofs.YtmidfknlmjgjpaaDoor
