/- Cells laid into the middle of a block; what a function hands back out of a block. No program. -/
import Derived.Test.YtmidfknlmjgjpaaDoorKCl0
import Derived.Deep.MidRow
namespace Go.Proofs.YtmidfknlmjgjpaaDoor
open Go.RowKit

abbrev only (R : Nat) : Nat → Prop := fun k => k = R

/-- Values laid into a row from a place on. -/
def setL : Array Value → Nat → List Value → Array Value
  | C, _, [] => C
  | C, o, v :: r => setL (C.setIfInBounds o v) (o + 1) r

theorem setL_size : ∀ (vs : List Value) (C : Array Value) (o : Nat), (setL C o vs).size = C.size
  | [], _, _ => rfl
  | _ :: r, _, _ => by rw [setL, setL_size r]; simp

theorem heap_setCells {b : Nat} {T : TypeId} : ∀ (vs : List Value) (o : Nat) (C : Array Value) (w : World), w.heap[b]? = some (.cells C T (0, 0)) → (w.setCells b o vs).heap[b]? = some (.cells (setL C o vs) T (0, 0))
  | [], _, _, _, h => h
  | v :: r, o, _, _, h => heap_setCells r (o + 1) _ _ (set_block o v h)

theorem off_setCells {b : Nat} : ∀ (vs : List Value) (o : Nat) (w : World), Off (only b) w (w.setCells b o vs)
  | [], _, w => Off.refl _ w
  | v :: r, o, w => (Off.set (O := only b) (b := b) w o v rfl).trans (off_setCells r (o + 1) _) (fun _ h => .inl h)

theorem size_setCells {b : Nat} : ∀ (vs : List Value) (o : Nat) (w : World), (w.setCells b o vs).heap.size = w.heap.size
  | [], _, _ => rfl
  | v :: r, o, w => by rw [World.setCells, size_setCells r (o + 1)]; simp [World.setCell]

theorem frozen_row {w : World} {b : Nat} {cs : Array Value} {T : TypeId} (h : w.heap[b]? = some (.cells cs T (0, 0))) (j : Nat) : w.frozen? ⟨b, j, none⟩ = false := by
  unfold World.frozen?; rw [h]; simp

theorem there_of_block {w : World} {b : Nat} {C : Array Value} {T : TypeId} (h : w.heap[b]? = some (.cells C T (0, 0))) (o n : Nat) (hn : o + n ≤ C.size) : w.there b o n := fun j hj =>
  ⟨by rw [cell_of_row w b (o + j) C T _ h, Array.getElem?_eq_getElem (by omega)]; rfl, frozen_row h _⟩

/-- A struct laid into a block from a place on. -/
theorem wpList_store_in {P : Program} {ops : Array Oper} {rest : List Oper} {op : Oper} {a : Act} {w : World} {Q : Exit → Act → World → Prop} (hgd : op.guard = none) (ty : TypeId) (x y : Operand) (ho : op.op = .store ty x y)
    (b o : Nat) (cells : Array Value) (hx : a.eval x = .pointer (some ⟨b, o, none⟩)) (hy : a.eval y = .agg cells) (C : Array Value) (T : TypeId) (hg : w.heap[b]? = some (.cells C T (0, 0))) (hn : o + cells.size ≤ C.size)
    (hi : (P.info? ty).map (·.size) = some cells.size) (h1 : cells.all (·.oneCell') = true)
    (h : ∀ w', w'.heap[b]? = some (.cells (setL C o cells.toList) T (0, 0)) → Off (only b) w w' → w'.heap.size = w.heap.size → wpList P ops Q rest (a.put op.dst undef) w') : wpList P ops Q (op :: rest) a w :=
  wpList_store_mid hgd ty x y ho b o cells hx hy (there_of_block hg o _ hn) hi h1 (h _ (heap_setCells _ _ _ _ hg) (off_setCells _ _ _) (size_setCells _ _ _))

/-- A struct out of a block, from a place on. -/
theorem wpList_load_in {P : Program} {ops : Array Oper} {rest : List Oper} {op : Oper} {a : Act} {w : World} {Q : Exit → Act → World → Prop} (hgd : op.guard = none) (ty : TypeId) (x : Operand) (ho : op.op = .load ty x)
    (b o : Nat) (hx : a.eval x = .pointer (some ⟨b, o, none⟩)) (C : Array Value) (T : TypeId) (cs : Array Value) (hg : w.heap[b]? = some (.cells C T (0, 0))) (hc : ∀ j v, cs[j]? = some v → C[o + j]? = some v) (d : TypeDesc)
    (hu : P.underlying ty = some d) (hd : d.isRow = true) (hi : (P.info? ty).map (·.size) = some cs.size)
    (h : wpList P ops Q rest (a.put op.dst (.agg cs)) w) : wpList P ops Q (op :: rest) a w :=
  wpList_load_mid hgd ty x ho b o hx cs.toList d (fun j v hv => by rw [cell_of_row w b (o + j) C T _ hg]; exact hc j v (by simpa using hv)) hu hd (by simpa using hi) h

/-- What stands in a block is what is handed back. -/
theorem results_row1 {P : Program} {w : World} {fn : Func} {tmps : Array Value} (a ty : Nat) (hf : fn.results = #[.cell a ty]) (g : Nat) (hp : tmps.getD a undef = .pointer (some ⟨g, 0, none⟩)) (cs : Array Value) (T : TypeId) (fr : Nat × Nat) (hg : w.heap[g]? = some (.cells cs T fr)) (d : TypeDesc)
    (hu : P.underlying ty = some d) (hd : (match d with | .struct _ | .array _ _ => true | _ => false) = true) (hi : (P.info? ty).map (·.size) = some cs.size) : (results fn tmps).run P w = .ok (.agg cs) w := by
  have h := run_loadVar_row (P := P) w g T ty cs fr d hg hu hd hi
  have ha : (asAddr (.pointer (some ⟨g, 0, none⟩))).run P w = .ok ⟨g, 0, none⟩ w := by rfl
  rw [Array.getD_eq_getD_getElem?] at hp
  simp [results, hf, hp, ha, h, Result.andThen]
theorem results_row2 {P : Program} {w : World} {fn : Func} {tmps : Array Value} (a ty c : Nat) (hf : fn.results = #[.cell a ty, .tmp c]) (g : Nat) (hp : tmps.getD a undef = .pointer (some ⟨g, 0, none⟩)) (v : Value) (hv : tmps.getD c undef = v) (cs : Array Value) (T : TypeId) (fr : Nat × Nat) (hg : w.heap[g]? = some (.cells cs T fr)) (d : TypeDesc)
    (hu : P.underlying ty = some d) (hd : (match d with | .struct _ | .array _ _ => true | _ => false) = true) (hi : (P.info? ty).map (·.size) = some cs.size) : (results fn tmps).run P w = .ok (.tuple #[.agg cs, v]) w := by
  have h := run_loadVar_row (P := P) w g T ty cs fr d hg hu hd hi
  have ha : (asAddr (.pointer (some ⟨g, 0, none⟩))).run P w = .ok ⟨g, 0, none⟩ w := by rfl
  rw [Array.getD_eq_getD_getElem?] at hp hv
  simp [results, hf, hp, hv, ha, h, Result.andThen]

theorem one_of_list {cs : List Value} (h : ∀ v ∈ cs, v.oneCell' = true) : (cs.toArray).all (·.oneCell') = true := all_oneCell_toArray h
theorem ent_one (e : Entry) : (entC e).all (·.oneCell') = true := by
  refine all_oneCell_toArray fun v hv => ?_
  simp only [List.mem_cons, List.not_mem_nil, or_false] at hv
  rcases hv with rfl | rfl | rfl | rfl | rfl | rfl | rfl | rfl | rfl <;> rfl
theorem stub_one (s : Stub) : (stubC s).all (·.oneCell') = true := by
  refine all_oneCell_toArray fun v hv => ?_
  simp only [List.mem_cons, List.not_mem_nil, or_false] at hv
  rcases hv with rfl | rfl | rfl | rfl | rfl <;> rfl
theorem item_one' (t : Item) : (itemC t).all (·.oneCell') = true := by
  refine all_oneCell_toArray fun v hv => ?_
  simp only [List.mem_cons, List.not_mem_nil, or_false] at hv
  rcases hv with rfl | rfl | rfl | rfl | rfl | rfl | rfl | rfl | rfl | rfl | rfl | rfl | rfl | rfl | rfl <;> rfl

end Go.Proofs.YtmidfknlmjgjpaaDoor
