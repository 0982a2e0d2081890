/- The walks of msg.item. (Written by gen_item.py.) -/
import Derived.Test.YtmidfknlmjgjpaaDoorGG
namespace Go.Proofs.YtmidfknlmjgjpaaDoor
open Go.RowKit

def itemC (t : Item) : Array Value :=
  #[.int .i64 t.kind, .int .i64 t.stub.op, .int .i64 t.stub.view, .int .i64 t.stub.under, .int .u64 t.stub.parent, .int .u64 t.stub.sum, .int .i64 t.entry.view, .int .i64 t.entry.op, .int .i64 t.entry.under, .int .u64 t.entry.parent, .int .i64 t.entry.client, .int .i64 t.entry.session, .int .i64 t.entry.request, .int .i64 t.entry.operation, .string t.entry.body]

def Stub.zero (s : Stub) : Bool := s.op == 0 && s.view == 0 && s.under == 0 && s.parent == 0 && s.sum == 0
def Stub.beq (a b : Stub) : Bool := a.op == b.op && a.view == b.view && a.under == b.under && a.parent == b.parent && a.sum == b.sum
/-- May an item be? -/
def Item.right (t : Item) : Bool :=
  if t.kind = 0 ∨ t.kind = 3 then t.stub.zero && t.entry.zero
  else if t.kind = 1 then t.entry.right && t.entry.stub.beq t.stub
  else if t.kind = 2 then t.stub.right && t.entry.zero
  else false

theorem zero_stub (s : Stub) (w : World) : (binOp .eql 66 (.agg #[.int .i64 s.op, .int .i64 s.view, .int .i64 s.under, .int .u64 s.parent, .int .u64 s.sum]) (.agg #[.int .i64 0, .int .i64 0, .int .i64 0, .int .u64 0, .int .u64 0])).run Tryd.prog w = .ok (.bool s.zero) w := eq_stub _ _ _ _ _ 0 0 0 0 0 w
theorem same_stub (a s : Stub) (w : World) : (binOp .eql 66 (.agg (stubC a)) (.agg #[.int .i64 s.op, .int .i64 s.view, .int .i64 s.under, .int .u64 s.parent, .int .u64 s.sum])).run Tryd.prog w = .ok (.bool (a.beq s)) w := eq_stub _ _ _ _ _ _ _ _ _ _ w

theorem item_cells {w w' : World} {N : Nat} {t : Item} {B : Nat} (hb : Below B w.drew w') (hN : N < B) (g1 : w.cell? ⟨N, 1, none⟩ = some (.int .i64 t.stub.op)) (g2 : w.cell? ⟨N, 2, none⟩ = some (.int .i64 t.stub.view)) (g3 : w.cell? ⟨N, 3, none⟩ = some (.int .i64 t.stub.under)) (g4 : w.cell? ⟨N, 4, none⟩ = some (.int .u64 t.stub.parent)) (g5 : w.cell? ⟨N, 5, none⟩ = some (.int .u64 t.stub.sum)) (g6 : w.cell? ⟨N, 6, none⟩ = some (.int .i64 t.entry.view)) (g7 : w.cell? ⟨N, 7, none⟩ = some (.int .i64 t.entry.op)) (g8 : w.cell? ⟨N, 8, none⟩ = some (.int .i64 t.entry.under)) (g9 : w.cell? ⟨N, 9, none⟩ = some (.int .u64 t.entry.parent)) (g10 : w.cell? ⟨N, 10, none⟩ = some (.int .i64 t.entry.client)) (g11 : w.cell? ⟨N, 11, none⟩ = some (.int .i64 t.entry.session)) (g12 : w.cell? ⟨N, 12, none⟩ = some (.int .i64 t.entry.request)) (g13 : w.cell? ⟨N, 13, none⟩ = some (.int .i64 t.entry.operation)) (g14 : w.cell? ⟨N, 14, none⟩ = some (.string t.entry.body)) : w'.cell? ⟨N, 1, none⟩ = some (.int .i64 t.stub.op) ∧ w'.cell? ⟨N, 2, none⟩ = some (.int .i64 t.stub.view) ∧ w'.cell? ⟨N, 3, none⟩ = some (.int .i64 t.stub.under) ∧ w'.cell? ⟨N, 4, none⟩ = some (.int .u64 t.stub.parent) ∧ w'.cell? ⟨N, 5, none⟩ = some (.int .u64 t.stub.sum) ∧ w'.cell? ⟨N, 6, none⟩ = some (.int .i64 t.entry.view) ∧ w'.cell? ⟨N, 7, none⟩ = some (.int .i64 t.entry.op) ∧ w'.cell? ⟨N, 8, none⟩ = some (.int .i64 t.entry.under) ∧ w'.cell? ⟨N, 9, none⟩ = some (.int .u64 t.entry.parent) ∧ w'.cell? ⟨N, 10, none⟩ = some (.int .i64 t.entry.client) ∧ w'.cell? ⟨N, 11, none⟩ = some (.int .i64 t.entry.session) ∧ w'.cell? ⟨N, 12, none⟩ = some (.int .i64 t.entry.request) ∧ w'.cell? ⟨N, 13, none⟩ = some (.int .i64 t.entry.operation) ∧ w'.cell? ⟨N, 14, none⟩ = some (.string t.entry.body) := by
  have f : ∀ o, w'.cell? ⟨N, o, none⟩ = w.cell? ⟨N, o, none⟩ := fun o => by rw [hb.cell hN]; simp
  simp only [f]
  exact ⟨g1, g2, g3, g4, g5, g6, g7, g8, g9, g10, g11, g12, g13, g14⟩

set_option maxRecDepth 100000 in
set_option maxHeartbeats 1000000 in
theorem item_plain (t : Item) (hk : t.kind = 0 ∨ t.kind = 3) (w : World) :
    Calls Tryd.prog 74 #[.agg (itemC t)] w fun e w' => e = .returned (.bool t.right) ∧ Below w.heap.size w w' := by
  have hr : t.right = (t.stub.zero && t.entry.zero) := by rw [Item.right, if_pos hk]
  have Hr := Lib.hid hr
  have e1 := zero_stub t.stub
  have e2 := zero_entry t.entry
  clear hr
  unfold itemC
  rcases hk with hk | hk
  all_goals
    rw [hk]
    clear hk
    go_enter Tryd.func74, Tryd.ntmps74
    go_wp2
    all_goals go_ret
    all_goals refine ⟨?_, (Below.refl _ _).alloc (Nat.le_refl _) _⟩
    all_goals rw [Hr.out]
    all_goals simp_all

set_option maxRecDepth 100000 in
set_option maxHeartbeats 1000000 in
theorem item_faulty (t : Item) (hk : t.kind = 2) (hp : U64 t.stub.parent) (hm : U64 t.stub.sum) (w : World) :
    Calls Tryd.prog 74 #[.agg (itemC t)] w fun e w' => e = .returned (.bool t.right) ∧ Below w.heap.size w w' := by
  have hr : t.right = (t.stub.right && t.entry.zero) := by rw [Item.right, if_neg (by omega), if_neg (by omega), if_pos hk]
  have Hr := Lib.hid hr
  have HP := Lib.hid hp
  have HM := Lib.hid hm
  have e2 := zero_entry t.entry
  clear hr hp hm
  unfold itemC
  rw [hk]
  clear hk
  cases hs : t.stub.right
  · have Hs := Lib.hid hs
    clear hs
    go_enter Tryd.func74, Tryd.ntmps74
    go_wp2_with (go_at_call 103; refine (slotHeader_no t.stub Hs.out _).mono ?_; rintro x w1 ⟨rfl, hb1⟩)
    go_ret
    exact ⟨by rw [Hr.out, Hs.out]; rfl, below_box hb1 (by simp)⟩
  · have Hs := Lib.hid hs
    clear hs
    go_enter Tryd.func74, Tryd.ntmps74
    go_wp2_with (go_at_call 103; refine (slotHeader_ok t.stub Hs.out HP.out HM.out _).mono ?_; rintro x w1 ⟨rfl, hb1⟩; have g6 : w1.cell? ⟨w.heap.size, 6, none⟩ = some (.int .i64 t.entry.view) := (by rw [hb1.cell (by simp)]; simp); have g7 : w1.cell? ⟨w.heap.size, 7, none⟩ = some (.int .i64 t.entry.op) := (by rw [hb1.cell (by simp)]; simp); have g8 : w1.cell? ⟨w.heap.size, 8, none⟩ = some (.int .i64 t.entry.under) := (by rw [hb1.cell (by simp)]; simp); have g9 : w1.cell? ⟨w.heap.size, 9, none⟩ = some (.int .u64 t.entry.parent) := (by rw [hb1.cell (by simp)]; simp); have g10 : w1.cell? ⟨w.heap.size, 10, none⟩ = some (.int .i64 t.entry.client) := (by rw [hb1.cell (by simp)]; simp); have g11 : w1.cell? ⟨w.heap.size, 11, none⟩ = some (.int .i64 t.entry.session) := (by rw [hb1.cell (by simp)]; simp); have g12 : w1.cell? ⟨w.heap.size, 12, none⟩ = some (.int .i64 t.entry.request) := (by rw [hb1.cell (by simp)]; simp); have g13 : w1.cell? ⟨w.heap.size, 13, none⟩ = some (.int .i64 t.entry.operation) := (by rw [hb1.cell (by simp)]; simp); have g14 : w1.cell? ⟨w.heap.size, 14, none⟩ = some (.string t.entry.body) := (by rw [hb1.cell (by simp)]; simp); have HB1 := Lib.hid (below_box hb1 (by simp)); clear hb1)
    go_ret
    exact ⟨by rw [Hr.out, Hs.out]; simp, HB1.out⟩

set_option maxRecDepth 100000 in
set_option maxHeartbeats 1000000 in
theorem item_else (t : Item) (h0 : (t.kind == 0) = false) (h1 : (t.kind == 1) = false) (h2 : (t.kind == 2) = false) (h3 : (t.kind == 3) = false) (w : World) :
    Calls Tryd.prog 74 #[.agg (itemC t)] w fun e w' => e = .returned (.bool t.right) ∧ Below w.heap.size w w' := by
  have hr : t.right = false := by
    rw [beq_eq_false_iff_ne] at h0 h1 h2 h3
    rw [Item.right, if_neg (by omega), if_neg (by omega), if_neg (by omega)]
  have Hr := Lib.hid hr
  clear hr
  unfold itemC
  go_enter Tryd.func74, Tryd.ntmps74
  go_wp2
  go_ret
  exact ⟨by rw [Hr.out]; rfl, (Below.refl _ _).alloc (Nat.le_refl _) _⟩


theorem item_cells0 {w w' : World} {t : Item} {T B : Nat} (hb : Below B (w.alloc (.cells #[.int .i64 1, .int .i64 t.stub.op, .int .i64 t.stub.view, .int .i64 t.stub.under, .int .u64 t.stub.parent, .int .u64 t.stub.sum, .int .i64 t.entry.view, .int .i64 t.entry.op, .int .i64 t.entry.under, .int .u64 t.entry.parent, .int .i64 t.entry.client, .int .i64 t.entry.session, .int .i64 t.entry.request, .int .i64 t.entry.operation, .string t.entry.body] T)).drew w') (hN : w.heap.size < B) : w'.cell? ⟨w.heap.size, 1, none⟩ = some (.int .i64 t.stub.op) ∧ w'.cell? ⟨w.heap.size, 2, none⟩ = some (.int .i64 t.stub.view) ∧ w'.cell? ⟨w.heap.size, 3, none⟩ = some (.int .i64 t.stub.under) ∧ w'.cell? ⟨w.heap.size, 4, none⟩ = some (.int .u64 t.stub.parent) ∧ w'.cell? ⟨w.heap.size, 5, none⟩ = some (.int .u64 t.stub.sum) ∧ w'.cell? ⟨w.heap.size, 6, none⟩ = some (.int .i64 t.entry.view) ∧ w'.cell? ⟨w.heap.size, 7, none⟩ = some (.int .i64 t.entry.op) ∧ w'.cell? ⟨w.heap.size, 8, none⟩ = some (.int .i64 t.entry.under) ∧ w'.cell? ⟨w.heap.size, 9, none⟩ = some (.int .u64 t.entry.parent) ∧ w'.cell? ⟨w.heap.size, 10, none⟩ = some (.int .i64 t.entry.client) ∧ w'.cell? ⟨w.heap.size, 11, none⟩ = some (.int .i64 t.entry.session) ∧ w'.cell? ⟨w.heap.size, 12, none⟩ = some (.int .i64 t.entry.request) ∧ w'.cell? ⟨w.heap.size, 13, none⟩ = some (.int .i64 t.entry.operation) ∧ w'.cell? ⟨w.heap.size, 14, none⟩ = some (.string t.entry.body) :=
  item_cells hb hN (by simp) (by simp) (by simp) (by simp) (by simp) (by simp) (by simp) (by simp) (by simp) (by simp) (by simp) (by simp) (by simp) (by simp)

set_option maxRecDepth 100000 in
set_option maxHeartbeats 2000000 in
theorem item_holds (t : Item) (hk : t.kind = 1) (hs : t.entry.body.size ≤ maxLen) (hp : U64 t.entry.parent) (w : World) :
    Calls Tryd.prog 74 #[.agg (itemC t)] w fun e w' => e = .returned (.bool t.right) ∧ Below w.heap.size w w' := by
  have hr : t.right = (t.entry.right && t.entry.stub.beq t.stub) := by rw [Item.right, if_neg (by omega), if_pos hk]
  have Hr := Lib.hid hr
  have HP := Lib.hid hp
  have e1 := same_stub t.entry.stub t.stub
  clear hr hp
  unfold itemC
  rw [hk]
  clear hk
  cases hb : t.entry.right
  · have Hs := Lib.hid hb
    clear hb e1
    go_enter Tryd.func74, Tryd.ntmps74
    go_wp2_with fail
    first
      | (go_region_with (first | (go_at_call 44; refine (entRight_any t.entry hs _).mono ?_; rintro x w1 ⟨rfl, hb1⟩; rw [Hs.out])))
      | fail
    all_goals go_wp2
    all_goals go_ret
    all_goals exact ⟨by rw [Hr.out, Hs.out]; rfl, below_box ((below_drewN (Below.refl _ _) 1).trans hb1) (by simp)⟩
  · have Hs := Lib.hid hb
    clear hb
    go_enter Tryd.func74, Tryd.ntmps74
    go_wp2_with fail
    go_region_held3 (fun w' => w'.cell? ⟨w.heap.size, 1, none⟩ = some (.int .i64 t.stub.op) ∧ w'.cell? ⟨w.heap.size, 2, none⟩ = some (.int .i64 t.stub.view) ∧ w'.cell? ⟨w.heap.size, 3, none⟩ = some (.int .i64 t.stub.under) ∧ w'.cell? ⟨w.heap.size, 4, none⟩ = some (.int .u64 t.stub.parent) ∧ w'.cell? ⟨w.heap.size, 5, none⟩ = some (.int .u64 t.stub.sum) ∧ w'.cell? ⟨w.heap.size, 6, none⟩ = some (.int .i64 t.entry.view) ∧ w'.cell? ⟨w.heap.size, 7, none⟩ = some (.int .i64 t.entry.op) ∧ w'.cell? ⟨w.heap.size, 8, none⟩ = some (.int .i64 t.entry.under) ∧ w'.cell? ⟨w.heap.size, 9, none⟩ = some (.int .u64 t.entry.parent) ∧ w'.cell? ⟨w.heap.size, 10, none⟩ = some (.int .i64 t.entry.client) ∧ w'.cell? ⟨w.heap.size, 11, none⟩ = some (.int .i64 t.entry.session) ∧ w'.cell? ⟨w.heap.size, 12, none⟩ = some (.int .i64 t.entry.request) ∧ w'.cell? ⟨w.heap.size, 13, none⟩ = some (.int .i64 t.entry.operation) ∧ w'.cell? ⟨w.heap.size, 14, none⟩ = some (.string t.entry.body))
      (first | go_keep | (exact hS1) | (exact hS2))
      (first
        | (go_at_call 44; refine (entRight_any t.entry hs _).mono ?_; rintro x w1 ⟨rfl, hb1⟩; rw [Hs.out]; have hS1 := item_cells0 hb1 (by simp))
        | (go_at_call 102; refine (stubOf_any t.entry hs HP.out.1 HP.out.2 _).mono ?_; rintro x w2 ⟨rfl, hb2⟩; have hS2 := item_cells0 (hb1.trans (hb2.mono hb1.size)) (by simp)))
    go_wp2
    go_ret
    exact ⟨by rw [Hr.out, Hs.out]; simp, below_box ((below_drewN (Below.refl _ _) 1).trans (hb1.trans (hb2.mono hb1.size))) (by simp)⟩

theorem item_any (t : Item) (hs : t.entry.body.size ≤ maxLen) (hp : U64 t.entry.parent) (hq : U64 t.stub.parent) (hm : U64 t.stub.sum) (w : World) :
    Calls Tryd.prog 74 #[.agg (itemC t)] w fun e w' => e = .returned (.bool t.right) ∧ Below w.heap.size w w' := by
  by_cases h0 : t.kind = 0
  · exact item_plain t (.inl h0) w
  by_cases h1 : t.kind = 1
  · exact item_holds t h1 hs hp w
  by_cases h2 : t.kind = 2
  · exact item_faulty t h2 hq hm w
  by_cases h3 : t.kind = 3
  · exact item_plain t (.inr h3) w
  exact item_else t (beq_eq_false_iff_ne.2 h0) (beq_eq_false_iff_ne.2 h1) (beq_eq_false_iff_ne.2 h2) (beq_eq_false_iff_ne.2 h3) w

end Go.Proofs.YtmidfknlmjgjpaaDoor
