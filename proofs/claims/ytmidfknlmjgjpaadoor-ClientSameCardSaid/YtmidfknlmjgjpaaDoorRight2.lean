/- The walk of msg.Right: the body, the entry; then the loop. -/
import Derived.Test.YtmidfknlmjgjpaaDoorRight
namespace Go.Proofs.YtmidfknlmjgjpaaDoor
open Go.RowKit

theorem headOk_true {m : Msg} (h : headOk m = true) : 0 ≤ m.src ∧ m.src ≤ 255 ∧ m.operation ≤ 255 ∧ fitB m.check.op = true ∧ fitB m.check.view = true := by
  simp only [headOk, Bool.and_eq_true, decide_eq_true_eq] at h
  obtain ⟨⟨⟨⟨h1, h2⟩, h3⟩, h4⟩, h5⟩ := h
  exact ⟨h1, h2, h3, h4, h5⟩

set_option maxRecDepth 100000 in
set_option maxHeartbeats 2000000 in
theorem right_body (m : Msg) (ev iv : Value) (w : World) (ha : AllAt w) (hk1 : 1 ≤ m.kind) (hk2 : m.kind ≤ 16) (h : headOk m = true) (hb : mostOf m.kind < m.body.size) (hbs : m.body.size ≤ maxLen) :
    Calls Tryd.prog 21 #[.agg (msgC m ev iv)] w fun e w' => e = .returned (.bool (rightM m)) ∧ Below w.heap.size w w' := by
  have Hr := Lib.hid (rightM_body hb)
  have hbs : m.body.size ≤ 9223372036854775807 := hbs
  have HA := Lib.hid (ha.later ((Below.refl w.heap.size w).alloc (Nat.le_refl _) (.cells (msgC m ev iv) 31)))
  obtain ⟨s0, s1, o1, f1, f2⟩ := headOk_true h
  have hc : ((m.kind == 15) = true ∧ 320 < m.body.size) ∨ ((m.kind == 15) = false ∧ 200 < m.body.size) := by
    unfold mostOf at hb
    by_cases e : m.kind = 15
    · rw [if_pos e] at hb; exact .inl ⟨by simp [e], hb⟩
    · rw [if_neg e] at hb; exact .inr ⟨by simp [e], hb⟩
  clear h ha hb
  unfold msgC at HA ⊢
  rcases hc with ⟨h15, hlong⟩ | ⟨h15, hlong⟩
  all_goals
    go_enter Tryd.func21, Tryd.ntmps21
    go_wp2_with (first | (go_at_call 31; refine (fields_yes _ hk1 hk2 _ HA.out).mono ?_; rintro x w1 ⟨rfl, rfl⟩) | (go_at_call 42; refine (may_any _ _).mono ?_; rintro x w1 ⟨rfl, rfl⟩))
    go_ret
    exact ⟨by rw [Hr.out]; rfl, (Below.refl _ _).alloc (Nat.le_refl _) _⟩

theorem E_kind {k : Int} (h1 : 1 ≤ k) (h2 : k ≤ 16) (h : (fieldsOf k).contains 69 = true) : (k == 15) = false := by
  rcases kind_cases h1 h2 with rfl | rfl | rfl | rfl | rfl | rfl | rfl | rfl | rfl | rfl | rfl | rfl | rfl | rfl | rfl | rfl
  all_goals first | rfl | (exact absurd h (by decide))

set_option maxRecDepth 100000 in
set_option maxHeartbeats 2000000 in
theorem right_ent (m : Msg) (ev iv : Value) (w : World) (ha : AllAt w) (hk1 : 1 ≤ m.kind) (hk2 : m.kind ≤ 16) (h : headOk m = true) (hb : m.body.size ≤ mostOf m.kind) (hE : (fieldsOf m.kind).contains 69 = true) (he : m.entry.right = false) (hes : m.entry.body.size ≤ maxLen) :
    Calls Tryd.prog 21 #[.agg (msgC m ev iv)] w fun e w' => e = .returned (.bool (rightM m)) ∧ Below w.heap.size w w' := by
  have Hr := Lib.hid (rightM_ent hE he)
  have HA := Lib.hid (ha.later ((Below.refl w.heap.size w).alloc (Nat.le_refl _) (.cells (msgC m ev iv) 31)))
  obtain ⟨s0, s1, o1, f1, f2⟩ := headOk_true h
  have h15 := E_kind hk1 hk2 hE
  have hb2 : m.body.size ≤ 200 := by
    unfold mostOf at hb
    rw [if_neg (by rw [beq_eq_false_iff_ne] at h15; exact h15)] at hb
    exact hb
  have HE := Lib.hid hE
  have HN := Lib.hid he
  clear h ha hb hE he
  unfold msgC at HA ⊢
  go_enter Tryd.func21, Tryd.ntmps21
  go_wp2_with (first | (go_at_call 31; refine (fields_yes _ hk1 hk2 _ HA.out).mono ?_; rintro x w1 ⟨rfl, rfl⟩) | (go_at_call 42; refine (may_any _ _).mono ?_; rintro x w1 ⟨rfl, rfl⟩) | (go_at_call 43; refine (Tryd.strings_ContainsRune_ascii _ 69 _ (by omega) (by omega)).mono ?_; rintro x w1 ⟨rfl, rfl⟩; rw [fields_E hk1 hk2, HE.out]) | (go_at_call 44; refine (entRight_any m.entry hes _).mono ?_; rintro x w1 ⟨rfl, hb1⟩; rw [HN.out]))
  go_ret
  exact ⟨by rw [Hr.out]; rfl, below_box hb1 (by simp)⟩

end Go.Proofs.YtmidfknlmjgjpaaDoor
