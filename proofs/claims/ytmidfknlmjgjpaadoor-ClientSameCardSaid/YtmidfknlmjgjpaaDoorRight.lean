/- The walk of msg.Right. -/
import Derived.Test.YtmidfknlmjgjpaaDoorRightP
namespace Go.Proofs.YtmidfknlmjgjpaaDoor
open Go.RowKit

def Msg.wf (m : Msg) : Prop := m.entry.wf ∧ (∀ e ∈ m.entries, e.wf) ∧ (∀ t ∈ m.items, t.wf) ∧ m.body.size ≤ maxLen ∧ m.entries.length ≤ 1000000 ∧ m.items.length ≤ 1000000

theorem rightM_kind {m : Msg} (h : m.kind < 1 ∨ 16 < m.kind) : rightM m = false := by
  have : decide (1 ≤ m.kind ∧ m.kind ≤ 16) = false := decide_eq_false (by omega)
  simp only [rightM, this, Bool.false_and]
theorem rightM_head {m : Msg} (h : headOk m = false) : rightM m = false := by simp [rightM, h]
theorem rightM_body {m : Msg} (h : mostOf m.kind < m.body.size) : rightM m = false := by
  have : decide (m.body.size ≤ mostOf m.kind) = false := decide_eq_false (by omega)
  simp [rightM, this]
theorem rightM_ent {m : Msg} (h1 : (fieldsOf m.kind).contains 69 = true) (h2 : m.entry.right = false) : rightM m = false := by
  simp only [rightM, h1, h2]; simp
theorem rightM_num {m : Msg} (h : (fieldsOf m.kind).all (numFit m) = false) : rightM m = false := by simp only [rightM, h]; simp
theorem rightM_rest {m : Msg} (hk : 1 ≤ m.kind ∧ m.kind ≤ 16) (h1 : headOk m = true) (h2 : m.body.size ≤ mostOf m.kind) (h3 : (!(fieldsOf m.kind).contains 69 || m.entry.right) = true) (h4 : (fieldsOf m.kind).all (numFit m) = true) :
    rightM m = (emptyM (wipes m (fieldsOf m.kind)) && listsM m) := by
  simp only [rightM, decide_eq_true hk, h1, decide_eq_true h2, h3, h4, Bool.true_and]

set_option maxRecDepth 100000 in
set_option maxHeartbeats 1000000 in
theorem right_kind (m : Msg) (ev iv : Value) (w : World) (h : m.kind < 1 ∨ 16 < m.kind) :
    Calls Tryd.prog 21 #[.agg (msgC m ev iv)] w fun e w' => e = .returned (.bool (rightM m)) ∧ Below w.heap.size w w' := by
  have Hr := Lib.hid (rightM_kind h)
  unfold msgC
  go_enter Tryd.func21, Tryd.ntmps21
  go_wp2_with (go_at_call 31; refine (fields_no _ h _).mono ?_; rintro x w1 ⟨rfl, rfl⟩)
  go_ret
  exact ⟨by rw [Hr.out]; rfl, (Below.refl _ _).alloc (Nat.le_refl _) _⟩

theorem headOk_false {m : Msg} (h : headOk m = false) : m.src < 0 ∨ (0 ≤ m.src ∧ 255 < m.src) ∨ (0 ≤ m.src ∧ m.src ≤ 255 ∧ 255 < m.operation) ∨ (0 ≤ m.src ∧ m.src ≤ 255 ∧ m.operation ≤ 255 ∧ fitB m.check.op = false) ∨ (0 ≤ m.src ∧ m.src ≤ 255 ∧ m.operation ≤ 255 ∧ fitB m.check.op = true ∧ fitB m.check.view = false) := by
  simp only [headOk, Bool.and_eq_false_iff, decide_eq_false_iff_not] at h
  cases h1 : fitB m.check.op <;> cases h2 : fitB m.check.view <;> simp only [h1, h2] at h ⊢ <;> simp at h ⊢ <;> omega

set_option maxRecDepth 100000 in
set_option maxHeartbeats 2000000 in
theorem right_head (m : Msg) (ev iv : Value) (w : World) (ha : AllAt w) (hk1 : 1 ≤ m.kind) (hk2 : m.kind ≤ 16) (h : headOk m = false) :
    Calls Tryd.prog 21 #[.agg (msgC m ev iv)] w fun e w' => e = .returned (.bool (rightM m)) ∧ Below w.heap.size w w' := by
  have Hr := Lib.hid (rightM_head h)
  have HA := Lib.hid (ha.later ((Below.refl w.heap.size w).alloc (Nat.le_refl _) (.cells (msgC m ev iv) 31)))
  have h' := headOk_false h
  clear h ha
  unfold msgC at HA ⊢
  rcases h' with h | ⟨h1, h⟩ | ⟨h1, h2, h⟩ | ⟨h1, h2, h3, h⟩ | ⟨h1, h2, h3, h4, h⟩
  all_goals
    go_enter Tryd.func21, Tryd.ntmps21
    go_wp2_with (first | (go_at_call 31; refine (fields_yes _ hk1 hk2 _ HA.out).mono ?_; rintro x w1 ⟨rfl, rfl⟩) | (go_at_call 42; refine (may_any _ _).mono ?_; rintro x w1 ⟨rfl, rfl⟩))
    go_ret
    exact ⟨by rw [Hr.out]; rfl, (Below.refl _ _).alloc (Nat.le_refl _) _⟩

end Go.Proofs.YtmidfknlmjgjpaaDoor
