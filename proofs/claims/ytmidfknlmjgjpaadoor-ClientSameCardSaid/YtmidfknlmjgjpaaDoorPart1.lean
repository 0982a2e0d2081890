/- The walk of msg.part: the checkpoint's mark, the sums, the entry, the body. -/
import Derived.Test.YtmidfknlmjgjpaaDoorEnc1
namespace Go.Proofs.YtmidfknlmjgjpaaDoor
open Go.RowKit

/-- Numbers in a block just laid. -/
theorem nums_at (w : World) (ns : List Int) (T g : Nat) (hg : w.heap.size = g) : ∀ j x, ns[j]? = some x → (w.alloc (.cells (ns.map fun n => Value.int .u64 n).toArray T)).cell? ⟨g, 0 + j, none⟩ = some (.int .u64 x) := by
  intro j x hx
  subst hg
  rw [cell_of_row _ w.heap.size (0 + j) _ _ _ (heap_alloc_new w _), Nat.zero_add]
  simp [hx]

theorem U64.fit {n : Int} (h0 : 0 ≤ n) (h1 : n ≤ 72057594037927935) : U64 n := ⟨h0, by omega⟩

set_option maxRecDepth 100000 in
set_option maxHeartbeats 2000000 in
theorem part_C (B : Nat) (v : Value) (l : List UInt8) (m : Msg) (ev iv : Value) (w : World) (hv : Bs B w v l) (hB : B ≤ w.heap.size) (hl : l.length ≤ 900000) (h1 : fitB m.check.op = true) (h2 : fitB m.check.view = true) (h3 : U64 m.check.sum) :
    Calls Tryd.prog 33 #[v, .agg (msgC m ev iv), .int .i32 67] w fun x w' => ∃ v', x = .returned v' ∧ Bs B w' v' (l ++ flat8 [m.check.op, m.check.view, m.check.sum]) ∧ Below B w w' := by
  simp only [fitB, Bool.and_eq_true, decide_eq_true_eq] at h1 h2
  obtain ⟨p0, p1⟩ := h1
  obtain ⟨q0, q1⟩ := h2
  have HV := Lib.hid hv
  have hu : ∀ x ∈ [m.check.op, m.check.view, m.check.sum], U64 x := by
    intro x hx
    simp only [List.mem_cons, List.not_mem_nil, or_false] at hx
    rcases hx with rfl | rfl | rfl
    · exact U64.fit p0 p1
    · exact U64.fit q0 q1
    · exact h3
  have HU := Lib.hid hu
  clear hv h3 hu
  unfold msgC
  go_enter Tryd.func33, Tryd.ntmps33
  go_wp2_with fail
  refine (eight_any B v l (w.heap.size + 1) 0 3 [m.check.op, m.check.view, m.check.sum] _ (HV.out.later (((Below.refl _ _).alloc (Nat.le_refl _) _).alloc (by simp) _)) (by simp; omega) (by simp) hl (nums_at _ [m.check.op, m.check.view, m.check.sum] _ _ (by simp)) HU.out).mono ?_
  rintro x w1 ⟨v', rfl, hv1, hb1⟩
  have HV1 := Lib.hid hv1
  have HB1 : Hid (Below w.heap.size w w1) := below_box (below_box hb1 (by simp)) (by simp)
  clear hv1 hb1
  go_wp2_with fail
  go_ret
  exact ⟨_, rfl, HV1.out, HB1.out.mono hB⟩

theorem sums_at (w : World) (m : Msg) (ev iv : Value) (T : Nat) : ∀ j x, [m.s0, m.s1, m.s2, m.s3, m.s4, m.s5][j]? = some x → (w.alloc (.cells (msgC m ev iv) T)).cell? ⟨w.heap.size, 15 + j, none⟩ = some (.int .u64 x) := by
  intro j x hx
  rw [cell_of_row _ w.heap.size (15 + j) _ _ _ (heap_alloc_new w _)]
  match j, hx with
  | 0, hx => simp at hx; subst hx; rfl
  | 1, hx => simp at hx; subst hx; rfl
  | 2, hx => simp at hx; subst hx; rfl
  | 3, hx => simp at hx; subst hx; rfl
  | 4, hx => simp at hx; subst hx; rfl
  | 5, hx => simp at hx; subst hx; rfl
  | k + 6, hx => simp at hx

set_option maxRecDepth 100000 in
set_option maxHeartbeats 2000000 in
theorem part_S (B : Nat) (v : Value) (l : List UInt8) (m : Msg) (ev iv : Value) (w : World) (hv : Bs B w v l) (hB : B ≤ w.heap.size) (hl : l.length ≤ 900000) (h3 : ∀ x ∈ [m.s0, m.s1, m.s2, m.s3, m.s4, m.s5], U64 x) :
    Calls Tryd.prog 33 #[v, .agg (msgC m ev iv), .int .i32 83] w fun x w' => ∃ v', x = .returned v' ∧ Bs B w' v' (l ++ flat8 [m.s0, m.s1, m.s2, m.s3, m.s4, m.s5]) ∧ Below B w w' := by
  have HV := Lib.hid hv
  have HU := Lib.hid h3
  clear hv h3
  unfold msgC
  go_enter Tryd.func33, Tryd.ntmps33
  go_wp2_with fail
  refine (eight_any B v l w.heap.size 15 6 [m.s0, m.s1, m.s2, m.s3, m.s4, m.s5] _ (HV.out.later ((Below.refl _ _).alloc (Nat.le_refl _) _)) (by simp; omega) (by simp) hl (sums_at w m ev iv _) HU.out).mono ?_
  rintro x w1 ⟨v', rfl, hv1, hb1⟩
  have HV1 := Lib.hid hv1
  have HB1 : Hid (Below w.heap.size w w1) := below_box hb1 (by simp)
  clear hv1 hb1
  go_wp2_with fail
  go_ret
  exact ⟨_, rfl, HV1.out, HB1.out.mono hB⟩

set_option maxRecDepth 100000 in
set_option maxHeartbeats 2000000 in
theorem part_E (B : Nat) (v : Value) (l : List UInt8) (m : Msg) (ev iv : Value) (w : World) (hv : Bs B w v l) (hB : B ≤ w.heap.size) (hl : l.length ≤ 900000) (hr : m.entry.right = true) (hw : m.entry.wf) :
    Calls Tryd.prog 33 #[v, .agg (msgC m ev iv), .int .i32 69] w fun x w' => ∃ v', x = .returned v' ∧ Bs B w' v' (l ++ textB m.entry) ∧ Below B w w' := by
  have HV := Lib.hid hv
  have HR := Lib.hid hr
  have HW := Lib.hid hw
  clear hv hr hw
  unfold msgC
  go_enter Tryd.func33, Tryd.ntmps33
  go_wp2_with fail
  refine (text_any B v l m.entry _ (HV.out.later ((Below.refl _ _).alloc (Nat.le_refl _) _)) (by simp; omega) hl HR.out HW.out).mono ?_
  rintro x w1 ⟨v', rfl, hv1, hb1⟩
  have HV1 := Lib.hid hv1
  have HB1 : Hid (Below w.heap.size w w1) := below_box hb1 (by simp)
  clear hv1 hb1
  go_wp2_with fail
  go_ret
  exact ⟨_, rfl, HV1.out, HB1.out.mono hB⟩

set_option maxRecDepth 100000 in
set_option maxHeartbeats 2000000 in
theorem part_B (B : Nat) (v : Value) (l : List UInt8) (m : Msg) (ev iv : Value) (w : World) (hv : Bs B w v l) (hB : B ≤ w.heap.size) (hl : l.length ≤ 900000) (hb : m.body.size ≤ 1000) :
    Calls Tryd.prog 33 #[v, .agg (msgC m ev iv), .int .i32 66] w fun x w' => ∃ v', x = .returned v' ∧ Bs B w' v' (l ++ m.body.data.toList) ∧ Below B w w' := by
  obtain ⟨i0, hi, hz0, hz1, hz2⟩ := info_parts info_u8
  have HV : Hid (Bs B (w.alloc (.cells (msgC m ev iv) 31)) v l) := hv.later ((Below.refl _ _).alloc (Nat.le_refl _) _)
  have hz : B ≤ (w.alloc (.cells (msgC m ev iv) 31)).heap.size := by simp; omega
  have Hr : Hid (l.length + m.body.size ≤ 1000000000) := by show _ ≤ _; omega
  clear hv
  unfold msgC at HV hz ⊢
  go_enter Tryd.func33, Tryd.ntmps33
  go_wp2_with (at_builtin; refine wpList_append_Bs_str rfl _ _ 51 9 rfl B 5 i0 Tryd.underlying51 Tryd.underlying9 hi hz0 hz1 hz2 _ _ rfl HV.out m.body rfl Hr.out hz ?_; intro v1 w1 hv1 hg1; have HV1 := Lib.hid hv1; have HB1 := Lib.hid (Bs.below HV.out hg1 hz); clear hv1 hg1)
  go_ret
  exact ⟨_, rfl, HV1.out, ((Below.refl _ _).alloc hB _).trans HB1.out⟩

end Go.Proofs.YtmidfknlmjgjpaaDoor
