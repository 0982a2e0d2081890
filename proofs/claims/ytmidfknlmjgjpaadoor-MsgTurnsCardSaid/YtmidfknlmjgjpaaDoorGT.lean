/- Comparing entries and items; the walk of comptorref09.Same. The walk of comptorref09.Same. -/
import Derived.Test.YtmidfknlmjgjpaaDoorKLists
import Derived.Test.YtmidfknlmjgjpaaDoorKRow
namespace Go.Proofs.YtmidfknlmjgjpaaDoor
open Go.RowKit

def Entry.beq (x y : Entry) : Bool := x.view == y.view && x.op == y.op && x.under == y.under && x.parent == y.parent && x.client == y.client && x.session == y.session && x.request == y.request && x.operation == y.operation && x.body.toList == y.body.toList
def Item.beq (x y : Item) : Bool := x.kind == y.kind && x.stub.beq y.stub && x.entry.beq y.entry

theorem Entry.beq_iff {x y : Entry} : x.beq y = true ↔ x = y := by
  obtain ⟨a, b, c, d, e, f, g, h, i⟩ := x
  obtain ⟨a', b', c', d', e', f', g', h', i'⟩ := y
  simp only [Entry.beq, Bool.and_eq_true, beq_iff_eq, Entry.mk.injEq, Lib.toList_data]
  constructor
  · rintro ⟨⟨⟨⟨⟨⟨⟨⟨h1, h2⟩, h3⟩, h4⟩, h5⟩, h6⟩, h7⟩, h8⟩, h9⟩
    have := congrArg str h9
    rw [str_of, str_of] at this
    exact ⟨h1, h2, h3, h4, h5, h6, h7, h8, this⟩
  · rintro ⟨h1, h2, h3, h4, h5, h6, h7, h8, h9⟩
    exact ⟨⟨⟨⟨⟨⟨⟨⟨h1, h2⟩, h3⟩, h4⟩, h5⟩, h6⟩, h7⟩, h8⟩, by rw [h9]⟩
theorem Stub.beq_iff {x y : Stub} : x.beq y = true ↔ x = y := by
  obtain ⟨a, b, c, d, e⟩ := x
  obtain ⟨a', b', c', d', e'⟩ := y
  simp only [Stub.beq, Bool.and_eq_true, beq_iff_eq, Stub.mk.injEq]
  constructor
  · rintro ⟨⟨⟨⟨h1, h2⟩, h3⟩, h4⟩, h5⟩
    exact ⟨h1, h2, h3, h4, h5⟩
  · rintro ⟨h1, h2, h3, h4, h5⟩
    exact ⟨⟨⟨⟨h1, h2⟩, h3⟩, h4⟩, h5⟩
theorem Item.beq_iff {x y : Item} : x.beq y = true ↔ x = y := by
  obtain ⟨a, b, c⟩ := x
  obtain ⟨a', b', c'⟩ := y
  simp only [Item.beq, Bool.and_eq_true, beq_iff_eq, Item.mk.injEq, Entry.beq_iff, Stub.beq_iff, and_assoc]

set_option maxRecDepth 100000 in
set_option maxHeartbeats 4000000 in
theorem eqIn_entry (dp : Nat) (x y : Entry) (w : World) :
    (Op.equalIn (dp + 2) 27 (.agg (entC x)) (.agg (entC y))).run Tryd.prog w = .ok (x.beq y) w := by
  have hp : Tryd.prog.stoodInHeld 27 = false := by kernel_rfl
  have hS : Tryd.prog.underlying 27 = some (.struct (Tryd.prog.fieldsOf 27)) := by kernel_rfl
  rw [run_equalIn_struct w (dp + 1) _ _ _ hS hp]
  simp only [Program.fieldsOf, Tryd.underlying27]
  obtain ⟨a, b, c, d, e, f, g, h, i⟩ := x
  obtain ⟨a', b', c', d', e', f', g', h', i'⟩ := y
  simp only [entC, Entry.beq]
  go_simp
  by_cases h1 : a = a'
  · by_cases h2 : b = b'
    · by_cases h3 : c = c'
      · by_cases h4 : d = d'
        · by_cases h5 : e = e'
          · by_cases h6 : f = f'
            · by_cases h7 : g = g'
              · by_cases h8 : h = h'
                · by_cases h9 : i.toList = i'.toList <;> simp [h1, h2, h3, h4, h5, h6, h7, h8, h9]
                · simp [h1, h2, h3, h4, h5, h6, h7, h8]
              · simp [h1, h2, h3, h4, h5, h6, h7]
            · simp [h1, h2, h3, h4, h5, h6]
          · simp [h1, h2, h3, h4, h5]
        · simp [h1, h2, h3, h4]
      · simp [h1, h2, h3]
    · simp [h1, h2]
  · simp [h1]

set_option maxRecDepth 100000 in
set_option maxHeartbeats 1000000 in
theorem eqIn_stub (dp : Nat) (x y : Stub) (w : World) :
    (Op.equalIn (dp + 2) 66 (.agg (stubC x)) (.agg (stubC y))).run Tryd.prog w = .ok (x.beq y) w := by
  have hp : Tryd.prog.stoodInHeld 66 = false := by kernel_rfl
  have hS : Tryd.prog.underlying 66 = some (.struct (Tryd.prog.fieldsOf 66)) := by kernel_rfl
  rw [run_equalIn_struct w (dp + 1) _ _ _ hS hp]
  simp only [Program.fieldsOf, Tryd.underlying66]
  obtain ⟨a, b, c, d, e⟩ := x
  obtain ⟨a', b', c', d', e'⟩ := y
  simp only [stubC, Stub.beq]
  go_simp
  by_cases h1 : a = a' <;> by_cases h2 : b = b' <;> by_cases h3 : c = c' <;> by_cases h4 : d = d' <;> by_cases h5 : e = e' <;> simp [h1, h2, h3, h4, h5]

theorem neq_entry (x y : Entry) (w : World) : (binOp .neq 27 (.agg (entC x)) (.agg (entC y))).run Tryd.prog w = .ok (.bool (!x.beq y)) w := by
  rw [run_neq_struct, eqIn_entry 9998]; rfl

set_option maxRecDepth 100000 in
set_option maxHeartbeats 1000000 in
theorem eqIn_item (dp : Nat) (x y : Item) (w : World) :
    (Op.equalIn (dp + 3) 68 (.agg (itemC x)) (.agg (itemC y))).run Tryd.prog w = .ok (x.beq y) w := by
  have hp : Tryd.prog.stoodInHeld 68 = false := by kernel_rfl
  have hS : Tryd.prog.underlying 68 = some (.struct (Tryd.prog.fieldsOf 68)) := by kernel_rfl
  rw [run_equalIn_struct w (dp + 2) _ _ _ hS hp]
  simp only [Program.fieldsOf, Tryd.underlying68]
  have p1 : ∀ t : Item, (part 66 (itemC t) 1).run Tryd.prog w = .ok (.agg (stubC t.stub)) w := fun t => by kernel_rfl
  have p2 : ∀ t : Item, (part 27 (itemC t) 6).run Tryd.prog w = .ok (.agg (entC t.entry)) w := fun t => by kernel_rfl
  have p0 : ∀ t : Item, (part 3 (itemC t) 0).run Tryd.prog w = .ok (.int .i64 t.kind) w := fun t => by kernel_rfl
  have e1 := eqIn_stub dp x.stub y.stub w
  have e2 := eqIn_entry dp x.entry y.entry w
  have e0 := run_equalIn_int (P := Tryd.prog) w (dp + 1) 3 .i64 .i64 x.kind y.kind Tryd.underlying3
  simp only [Op.eqFields, Sem.run_bind, Sem.run_ite, p0, p1, p2, Result.andThen_ok, e0, e1, e2, Sem.run_pure]
  unfold Item.beq
  cases x.kind == y.kind <;> cases x.stub.beq y.stub <;> cases x.entry.beq y.entry <;> simp

/-- A bool is answered of which p holds. -/
def AnsB (p : Bool → Prop) (e : Ending) : Prop := ∃ b, e = .returned (.bool b) ∧ p b

theorem take_next {α : Type} {l m : List α} {k : Nat} {x y : α} (h : l.take k = m.take k) (hx : l[k]? = some x) (hy : m[k]? = some y) (e : x = y) : l.take (k + 1) = m.take (k + 1) := by
  rw [List.take_add_one, List.take_add_one, hx, hy, h, e]
theorem ne_at {α : Type} {l m : List α} {k : Nat} {x y : α} (hx : l[k]? = some x) (hy : m[k]? = some y) (e : x ≠ y) : l ≠ m := by
  rintro rfl
  rw [hx] at hy
  exact e (Option.some.inj hy)

/-- An element's cells. -/
theorem RowAt.ent {w w' : World} {p : Option Addr} {l : List Entry} {k : Nat} {e : Entry} (h : RowAt w p l.length 9 (entAt l)) (hb : Below w.heap.size w w') (hk : l[k]? = some e) : ∃ b o, p = some ⟨b, o, none⟩ ∧ ∀ j v, (entC e)[j]? = some v → w'.cell? ⟨b, o + k * 9 + j, none⟩ = some v := by
  have hlt : k < l.length := (List.getElem?_eq_some_iff.1 hk).1
  obtain ⟨b, o, rfl, hc⟩ := h (by omega)
  refine ⟨b, o, rfl, fun j v hv => ?_⟩
  have := hc k hlt j v (by rw [entAt, List.getD_eq_getElem?_getD, hk]; exact hv)
  rw [hb.cell (World.block_lt_of_cell? _ _ this)]; exact this
theorem RowAt.itm {w w' : World} {p : Option Addr} {l : List Item} {k : Nat} {e : Item} (h : RowAt w p l.length 15 (itemAt l)) (hb : Below w.heap.size w w') (hk : l[k]? = some e) : ∃ b o, p = some ⟨b, o, none⟩ ∧ ∀ j v, (itemC e)[j]? = some v → w'.cell? ⟨b, o + k * 15 + j, none⟩ = some v := by
  have hlt : k < l.length := (List.getElem?_eq_some_iff.1 hk).1
  obtain ⟨b, o, rfl, hc⟩ := h (by omega)
  refine ⟨b, o, rfl, fun j v hv => ?_⟩
  have := hc k hlt j v (by rw [itemAt, List.getD_eq_getElem?_getD, hk]; exact hv)
  rw [hb.cell (World.block_lt_of_cell? _ _ this)]; exact this

set_option maxRecDepth 100000 in
set_option maxHeartbeats 2000000 in
theorem same09_any (l m : List Entry) (p q : Option Addr) (c d : Nat) (w : World) (hp : RowAt w p l.length 9 (entAt l)) (hq : RowAt w q m.length 9 (entAt m)) (hn : l.length ≤ maxLen) :
    Calls Tryd.prog 36 #[.slice p l.length c, .slice q m.length d] w fun e w' => AnsB (fun b => b = true ↔ l = m) e ∧ Below w.heap.size w w' := by
  have HP := Lib.hid hp
  have HQ := Lib.hid hq
  have hn : l.length ≤ 9223372036854775807 := hn
  clear hp hq
  by_cases hl : l.length = m.length
  · have HL := Lib.hid hl
    go_enter Tryd.func36, Tryd.ntmps36
    go_wp2
    clear hl
    go_loopw [5] (fun i wr => ∃ k : Nat, k ≤ l.length ∧ i = .int .i64 k ∧ Below w.heap.size w wr ∧ l.take k = m.take k) (fun i _ => l.length - (intOf i).toNat)
    case atStart => exact ⟨0, by omega, rfl, Below.refl _ _, rfl⟩
    case round =>
      obtain ⟨k, hk, rfl, hb, ht⟩ := hrel
      have HB := Lib.hid hb
      have HT := Lib.hid ht
      clear hb ht
      by_cases hlt : k < l.length
      · have hlt2 : k < m.length := by rw [← HL.out]; exact hlt
        obtain ⟨x, hx⟩ : ∃ x, l[k]? = some x := ⟨_, List.getElem?_eq_getElem hlt⟩
        obtain ⟨y, hy⟩ : ∃ y, m[k]? = some y := ⟨_, List.getElem?_eq_getElem hlt2⟩
        obtain ⟨b1, o1, rfl, hc1⟩ := HP.out.ent HB.out hx
        obtain ⟨b2, o2, rfl, hc2⟩ := HQ.out.ent HB.out hy
        have HX := Lib.hid hx
        have HY := Lib.hid hy
        have HC1 := Lib.hid hc1
        have HC2 := Lib.hid hc2
        clear hx hy hc1 hc2
        have hne := fun w => neq_entry x y w
        unfold entC at hne
        have c0 : wr.cell? ⟨b1, o1 + k * 9, none⟩ = some (.int .i64 x.view) := HC1.out 0 _ rfl
        have c1 : wr.cell? ⟨b1, o1 + k * 9 + 1, none⟩ = some (.int .i64 x.op) := HC1.out 1 _ rfl
        have c2 : wr.cell? ⟨b1, o1 + k * 9 + 2, none⟩ = some (.int .i64 x.under) := HC1.out 2 _ rfl
        have c3 : wr.cell? ⟨b1, o1 + k * 9 + 3, none⟩ = some (.int .u64 x.parent) := HC1.out 3 _ rfl
        have c4 : wr.cell? ⟨b1, o1 + k * 9 + 4, none⟩ = some (.int .i64 x.client) := HC1.out 4 _ rfl
        have c5 : wr.cell? ⟨b1, o1 + k * 9 + 5, none⟩ = some (.int .i64 x.session) := HC1.out 5 _ rfl
        have c6 : wr.cell? ⟨b1, o1 + k * 9 + 6, none⟩ = some (.int .i64 x.request) := HC1.out 6 _ rfl
        have c7 : wr.cell? ⟨b1, o1 + k * 9 + 7, none⟩ = some (.int .i64 x.operation) := HC1.out 7 _ rfl
        have c8 : wr.cell? ⟨b1, o1 + k * 9 + 8, none⟩ = some (.string x.body) := HC1.out 8 _ rfl
        have d0 : wr.cell? ⟨b2, o2 + k * 9, none⟩ = some (.int .i64 y.view) := HC2.out 0 _ rfl
        have d1 : wr.cell? ⟨b2, o2 + k * 9 + 1, none⟩ = some (.int .i64 y.op) := HC2.out 1 _ rfl
        have d2 : wr.cell? ⟨b2, o2 + k * 9 + 2, none⟩ = some (.int .i64 y.under) := HC2.out 2 _ rfl
        have d3 : wr.cell? ⟨b2, o2 + k * 9 + 3, none⟩ = some (.int .u64 y.parent) := HC2.out 3 _ rfl
        have d4 : wr.cell? ⟨b2, o2 + k * 9 + 4, none⟩ = some (.int .i64 y.client) := HC2.out 4 _ rfl
        have d5 : wr.cell? ⟨b2, o2 + k * 9 + 5, none⟩ = some (.int .i64 y.session) := HC2.out 5 _ rfl
        have d6 : wr.cell? ⟨b2, o2 + k * 9 + 6, none⟩ = some (.int .i64 y.request) := HC2.out 6 _ rfl
        have d7 : wr.cell? ⟨b2, o2 + k * 9 + 7, none⟩ = some (.int .i64 y.operation) := HC2.out 7 _ rfl
        have d8 : wr.cell? ⟨b2, o2 + k * 9 + 8, none⟩ = some (.string y.body) := HC2.out 8 _ rfl
        clear HC1 HC2
        cases hb : x.beq y
        · have Hb := Lib.hid hb
          rw [hb] at hne
          clear hb
          go_wp2
          go_region
          go_wp2
          go_ret
          exact ⟨⟨false, rfl, by
            simp only [Bool.false_eq_true, false_iff]
            refine ne_at HX.out HY.out fun e => ?_
            have := Entry.beq_iff.2 e
            rw [Hb.out] at this
            cases this⟩, below_drewN HB.out 1⟩
        · have Hb := Lib.hid hb
          rw [hb] at hne
          clear hb
          go_wp2
          go_region
          clear hne c0 c1 c2 c3 c4 c5 c6 c7 c8 d0 d1 d2 d3 d4 d5 d6 d7 d8
          go_wp2
          go_roundw
          case rel => exact ⟨k + 1, by omega, by go_num, below_drewN HB.out 1, take_next HT.out HX.out HY.out (Entry.beq_iff.1 Hb.out)⟩
          case measure => simp [intOf]; omega
      · obtain rfl : k = l.length := by omega
        go_wp2
        go_ret
        refine ⟨⟨true, rfl, ?_⟩, HB.out⟩
        have ht := HT.out
        have hl := HL.out
        rw [List.take_length, hl, List.take_length] at ht
        exact ⟨fun _ => ht, fun _ => rfl⟩
  · have HL := Lib.hid hl
    have hne : ¬ ((l.length : Int) = m.length) := by omega
    clear hl
    go_enter Tryd.func36, Tryd.ntmps36
    go_wp2
    go_ret
    exact ⟨⟨false, rfl, by
      simp only [Bool.false_eq_true, false_iff]
      rintro rfl
      exact HL.out rfl⟩, Below.refl _ _⟩

end Go.Proofs.YtmidfknlmjgjpaaDoor
