/- Comparing entries and items; the walk of comptorref09.Same. -/
import Derived.Test.YtmidfknlmjgjpaaDoorLists
namespace Go.Proofs.YtmidfknlmjgjpaaDoor
open Go.RowKit

def Entry.beq (x y : Entry) : Bool := x.view == y.view && x.op == y.op && x.under == y.under && x.parent == y.parent && x.client == y.client && x.session == y.session && x.request == y.request && x.operation == y.operation && x.body.toList == y.body.toList
def Item.beq (x y : Item) : Bool := x.kind == y.kind && x.stub.beq y.stub && x.entry.beq y.entry

theorem Entry.beq_iff {x y : Entry} : x.beq y = true ↔ x = y := by
  obtain ⟨a, b, c, d, e, f, g, h, i⟩ := x
  obtain ⟨a', b', c', d', e', f', g', h', i'⟩ := y
  simp only [Entry.beq, Bool.and_eq_true, beq_iff_eq, Entry.mk.injEq, Lib.toList_data]
  constructor
  · rintro ⟨⟨⟨⟨⟨⟨⟨⟨h1, h2⟩, h3⟩, h4⟩, h5⟩, h6⟩, h7⟩, h8⟩, h9⟩
    have := congrArg str h9
    rw [str_of, str_of] at this
    exact ⟨h1, h2, h3, h4, h5, h6, h7, h8, this⟩
  · rintro ⟨h1, h2, h3, h4, h5, h6, h7, h8, h9⟩
    exact ⟨⟨⟨⟨⟨⟨⟨⟨h1, h2⟩, h3⟩, h4⟩, h5⟩, h6⟩, h7⟩, h8⟩, by rw [h9]⟩
theorem Stub.beq_iff {x y : Stub} : x.beq y = true ↔ x = y := by
  obtain ⟨a, b, c, d, e⟩ := x
  obtain ⟨a', b', c', d', e'⟩ := y
  simp only [Stub.beq, Bool.and_eq_true, beq_iff_eq, Stub.mk.injEq]
  constructor
  · rintro ⟨⟨⟨⟨h1, h2⟩, h3⟩, h4⟩, h5⟩
    exact ⟨h1, h2, h3, h4, h5⟩
  · rintro ⟨h1, h2, h3, h4, h5⟩
    exact ⟨⟨⟨⟨h1, h2⟩, h3⟩, h4⟩, h5⟩
theorem Item.beq_iff {x y : Item} : x.beq y = true ↔ x = y := by
  obtain ⟨a, b, c⟩ := x
  obtain ⟨a', b', c'⟩ := y
  simp only [Item.beq, Bool.and_eq_true, beq_iff_eq, Item.mk.injEq, Entry.beq_iff, Stub.beq_iff, and_assoc]

set_option maxRecDepth 100000 in
set_option maxHeartbeats 4000000 in
theorem eqIn_entry (dp : Nat) (x y : Entry) (w : World) :
    (Op.equalIn (dp + 2) 27 (.agg (entC x)) (.agg (entC y))).run Tryd.prog w = .ok (x.beq y) w := by
  have hp : Tryd.prog.stoodInHeld 27 = false := by kernel_rfl
  have hS : Tryd.prog.underlying 27 = some (.struct (Tryd.prog.fieldsOf 27)) := by kernel_rfl
  rw [run_equalIn_struct w (dp + 1) _ _ _ hS hp]
  simp only [Program.fieldsOf, Tryd.underlying27]
  obtain ⟨a, b, c, d, e, f, g, h, i⟩ := x
  obtain ⟨a', b', c', d', e', f', g', h', i'⟩ := y
  simp only [entC, Entry.beq]
  go_simp
  by_cases h1 : a = a'
  · by_cases h2 : b = b'
    · by_cases h3 : c = c'
      · by_cases h4 : d = d'
        · by_cases h5 : e = e'
          · by_cases h6 : f = f'
            · by_cases h7 : g = g'
              · by_cases h8 : h = h'
                · by_cases h9 : i.toList = i'.toList <;> simp [h1, h2, h3, h4, h5, h6, h7, h8, h9]
                · simp [h1, h2, h3, h4, h5, h6, h7, h8]
              · simp [h1, h2, h3, h4, h5, h6, h7]
            · simp [h1, h2, h3, h4, h5, h6]
          · simp [h1, h2, h3, h4, h5]
        · simp [h1, h2, h3, h4]
      · simp [h1, h2, h3]
    · simp [h1, h2]
  · simp [h1]

set_option maxRecDepth 100000 in
set_option maxHeartbeats 1000000 in
theorem eqIn_stub (dp : Nat) (x y : Stub) (w : World) :
    (Op.equalIn (dp + 2) 66 (.agg (stubC x)) (.agg (stubC y))).run Tryd.prog w = .ok (x.beq y) w := by
  have hp : Tryd.prog.stoodInHeld 66 = false := by kernel_rfl
  have hS : Tryd.prog.underlying 66 = some (.struct (Tryd.prog.fieldsOf 66)) := by kernel_rfl
  rw [run_equalIn_struct w (dp + 1) _ _ _ hS hp]
  simp only [Program.fieldsOf, Tryd.underlying66]
  obtain ⟨a, b, c, d, e⟩ := x
  obtain ⟨a', b', c', d', e'⟩ := y
  simp only [stubC, Stub.beq]
  go_simp
  by_cases h1 : a = a' <;> by_cases h2 : b = b' <;> by_cases h3 : c = c' <;> by_cases h4 : d = d' <;> by_cases h5 : e = e' <;> simp [h1, h2, h3, h4, h5]

theorem neq_entry (x y : Entry) (w : World) : (binOp .neq 27 (.agg (entC x)) (.agg (entC y))).run Tryd.prog w = .ok (.bool (!x.beq y)) w := by
  rw [run_neq_struct, eqIn_entry 9998]; rfl

set_option maxRecDepth 100000 in
set_option maxHeartbeats 1000000 in
theorem eqIn_item (dp : Nat) (x y : Item) (w : World) :
    (Op.equalIn (dp + 3) 68 (.agg (itemC x)) (.agg (itemC y))).run Tryd.prog w = .ok (x.beq y) w := by
  have hp : Tryd.prog.stoodInHeld 68 = false := by kernel_rfl
  have hS : Tryd.prog.underlying 68 = some (.struct (Tryd.prog.fieldsOf 68)) := by kernel_rfl
  rw [run_equalIn_struct w (dp + 2) _ _ _ hS hp]
  simp only [Program.fieldsOf, Tryd.underlying68]
  have p1 : ∀ t : Item, (part 66 (itemC t) 1).run Tryd.prog w = .ok (.agg (stubC t.stub)) w := fun t => by kernel_rfl
  have p2 : ∀ t : Item, (part 27 (itemC t) 6).run Tryd.prog w = .ok (.agg (entC t.entry)) w := fun t => by kernel_rfl
  have p0 : ∀ t : Item, (part 3 (itemC t) 0).run Tryd.prog w = .ok (.int .i64 t.kind) w := fun t => by kernel_rfl
  have e1 := eqIn_stub dp x.stub y.stub w
  have e2 := eqIn_entry dp x.entry y.entry w
  have e0 := run_equalIn_int (P := Tryd.prog) w (dp + 1) 3 .i64 .i64 x.kind y.kind Tryd.underlying3
  simp only [Op.eqFields, Sem.run_bind, Sem.run_ite, p0, p1, p2, Result.andThen_ok, e0, e1, e2, Sem.run_pure]
  unfold Item.beq
  cases x.kind == y.kind <;> cases x.stub.beq y.stub <;> cases x.entry.beq y.entry <;> simp


end Go.Proofs.YtmidfknlmjgjpaaDoor
