/- A whole block loaded, and laid. No program. -/
import Derived.Test.YtmidfknlmjgjpaaDoorGA
import Derived.Deep.MidRow
namespace Go.Proofs.YtmidfknlmjgjpaaDoor
open Go.RowKit

theorem modify_push {α : Type} (a : Array α) (o : α) (f : α → α) : (a.push o).modify a.size f = a.push (f o) := by
  apply Array.ext_getElem?
  intro i
  rw [Array.getElem?_modify, Array.getElem?_push, Array.getElem?_push]
  by_cases h : a.size = i
  · subst h; simp
  · rw [if_neg h, if_neg (fun e => h e.symm), if_neg (fun e => h e.symm)]

theorem setRow_alloc (w : World) (old cells : Array Value) (T : Nat) : (w.alloc (.cells old T)).setRow w.heap.size cells = w.alloc (.cells cells T) := by
  have e : (w.alloc (.cells old T)).heap = w.heap.push (.cells old T) := rfl
  unfold World.setRow
  rw [e, modify_push]
  rfl

theorem wpList_store_row {P : Program} {ops : Array Oper} {rest : List Oper} {op : Oper} {a : Act} {w : World} {Q : Exit → Act → World → Prop} (hgd : op.guard = none) (ty : TypeId) (x y : Operand) (ho : op.op = .store ty x y)
    (g t : Nat) (old cells : Array Value) (hx : a.eval x = .pointer (some ⟨g, 0, none⟩)) (hy : a.eval y = .agg cells) (hg : w.heap[g]? = some (.cells old t (0, 0)))
    (hi : (P.info? ty).map (·.size) = some cells.size) (hs : old.size = cells.size) (h1 : cells.all (·.oneCell') = true)
    (h : wpList P ops Q rest (a.put op.dst undef) (w.setRow g cells)) : wpList P ops Q (op :: rest) a w := by
  refine wpList_plain hgd fun _ hK => ?_
  unfold Oper.wp execOp
  simp only [ho, hx, hy, Instr.storeAt, Instr.sureAddr, Sem.run_bind, Sem.run_pure, Result.andThen_ok, run_storeVar_row w g t ty old cells hg hi hs h1]
  exact hK _ _ h

/-- A whole block laid into the block that was made last. -/
theorem wpList_store_alloc {P : Program} {ops : Array Oper} {rest : List Oper} {op : Oper} {a : Act} {w : World} {Q : Exit → Act → World → Prop} (hgd : op.guard = none) (ty : TypeId) (x y : Operand) (ho : op.op = .store ty x y)
    (t g : Nat) (hg : w.heap.size = g) (old cells : Array Value) (hx : a.eval x = .pointer (some ⟨g, 0, none⟩)) (hy : a.eval y = .agg cells)
    (hi : (P.info? ty).map (·.size) = some cells.size) (hs : old.size = cells.size) (h1 : cells.all (·.oneCell') = true)
    (h : wpList P ops Q rest (a.put op.dst undef) (w.alloc (.cells cells t))) : wpList P ops Q (op :: rest) a (w.alloc (.cells old t)) := by
  subst hg
  refine wpList_store_row hgd ty x y ho w.heap.size t old cells hx hy (heap_alloc_new _ _) hi hs h1 ?_
  rw [setRow_alloc]
  exact h

/-- A whole block loaded, under a guard that holds. -/
theorem wpList_load_rowG {P : Program} {ops : Array Oper} {rest : List Oper} {o : Oper} {a : Act} {w : World} {Q : Exit → Act → World → Prop} (hgd : Region.wanted o (yielded ops a.tmps) = true) (ty : TypeId) (x : Operand) (ho : o.op = .load ty x)
    (g : Nat) (hx : a.eval x = .pointer (some ⟨g, 0, none⟩)) (t : TypeId) (cs : Array Value) (fr : Nat × Nat) (d : TypeDesc) (hg : w.heap[g]? = some (.cells cs t fr))
    (hu : P.underlying ty = some d) (hd : (match d with | .struct _ | .array _ _ => true | _ => false) = true) (hi : (P.info? ty).map (·.size) = some cs.size)
    (h : wpList P ops Q rest (a.put o.dst (.agg cs)) w) : wpList P ops Q (o :: rest) a w :=
  wpList_step fun _ hK => by simp only [hgd, if_true]; exact wp_load_row ty x ho g hx t cs fr d hg hu hd hi (hK _ _ h)

end Go.Proofs.YtmidfknlmjgjpaaDoor
