/- The walk of msg.Encode. -/
import Derived.Test.YtmidfknlmjgjpaaDoorPart3
namespace Go.Proofs.YtmidfknlmjgjpaaDoor
open Go.RowKit

def partB (m : Msg) (f : UInt8) : List UInt8 :=
  if f = 67 then flat8 [m.check.op, m.check.view, m.check.sum] else if f = 83 then flat8 [m.s0, m.s1, m.s2, m.s3, m.s4, m.s5] else if f = 69 then textB m.entry
  else if f = 76 then UInt8.ofNat m.entries.length :: textsB m.entries else if f = 73 then itemsB m.items else m.body.data.toList
def partsB (m : Msg) (l : List UInt8) : List UInt8 := ((l.filter fun f => (fieldsOf m.kind).contains f).map (partB m)).flatten
def orderL : List UInt8 := [67, 83, 69, 76, 73, 66]
def bodyB (m : Msg) : List UInt8 := partsB m orderL

theorem partsB_snoc {m : Msg} {k : Nat} {c : UInt8} (h : orderL[k]? = some c) : partsB m (orderL.take (k + 1)) = partsB m (orderL.take k) ++ (if (fieldsOf m.kind).contains c = true then partB m c else []) := by
  rw [partsB, List.take_add_one, h]
  simp only [Option.toList, List.filter_append, List.map_append, List.flatten_append, partsB]
  congr 1
  rw [List.filter_cons]
  cases e : (fieldsOf m.kind).contains c <;> simp

/-- What a right message's parts are. -/
structure Fine (m : Msg) : Prop where
  wf : m.wf
  right : rightM m = true
  sum : U64 m.check.sum
  sums : ∀ x ∈ [m.s0, m.s1, m.s2, m.s3, m.s4, m.s5], U64 x

theorem rightM_parts {m : Msg} (h : rightM m = true) : (1 ≤ m.kind ∧ m.kind ≤ 16) ∧ headOk m = true ∧ m.body.size ≤ mostOf m.kind ∧ (!(fieldsOf m.kind).contains 69 || m.entry.right) = true ∧ (fieldsOf m.kind).all (numFit m) = true ∧ emptyM (wipes m (fieldsOf m.kind)) = true ∧ listsM m = true := by
  simp only [rightM, Bool.and_eq_true, decide_eq_true_eq] at h
  obtain ⟨⟨⟨⟨⟨⟨h1, h2⟩, h3⟩, h4⟩, h5⟩, h6⟩, h7⟩ := h
  exact ⟨h1, h2, h3, h4, h5, h6, h7⟩

theorem mostOf_le (k : Int) : mostOf k ≤ 320 := by unfold mostOf; split <;> omega

theorem lists_parts {m : Msg} (h : listsM m = true) : (∀ e ∈ m.entries, e.right = true) ∧ (∀ t ∈ m.items, t.right = true) ∧ m.entries.length ≤ 8 ∧ (m.kind = 7 → m.items.length = 8) := by
  simp only [listsM, Bool.and_eq_true, Bool.or_eq_true, decide_eq_true_eq, List.all_eq_true] at h
  obtain ⟨⟨⟨h1, h2⟩, h3⟩, h4⟩ := h
  exact ⟨h1, h2, h3, fun e => by rcases h4 with h4 | h4; exact absurd e h4; exact h4⟩

theorem kind_I {k : Int} (h1 : 1 ≤ k) (h2 : k ≤ 16) (h : (fieldsOf k).contains 73 = true) : k = 7 := by
  rcases kind_cases h1 h2 with rfl | rfl | rfl | rfl | rfl | rfl | rfl | rfl | rfl | rfl | rfl | rfl | rfl | rfl | rfl | rfl
  all_goals first | rfl | (exact absurd h (by decide))

/-- One part. -/
theorem part_any (w0 w : World) (v : Value) (l : List UInt8) (m : Msg) (ea ia : Option Addr) (ec ic : Nat) (f : UInt8) (hf : f ∈ orderL) (hc : (fieldsOf m.kind).contains f = true) (hm : Fine m) (hb : Below w0.heap.size w0 w) (hv : Bs w0.heap.size w v l) (hl : l.length ≤ 800000)
    (hre : RowAt w0 ea m.entries.length 9 (entAt m.entries)) (hri : RowAt w0 ia m.items.length 15 (itemAt m.items)) :
    Calls Tryd.prog 33 #[v, .agg (msgC m (.slice ea m.entries.length ec) (.slice ia m.items.length ic)), .int .i32 f.toNat] w fun x w' => ∃ v', x = .returned v' ∧ Bs w0.heap.size w' v' (l ++ partB m f) ∧ Below w0.heap.size w w' := by
  obtain ⟨⟨k1, k2⟩, h2, h3, h4, h5, h6, h7⟩ := rightM_parts hm.right
  obtain ⟨_, _, _, f1, f2⟩ := headOk_true h2
  obtain ⟨l1, l2, l3, l4⟩ := lists_parts h7
  have hs := hb.size
  have hm3 := mostOf_le m.kind
  simp only [orderL, List.mem_cons, List.not_mem_nil, or_false] at hf
  rcases hf with rfl | rfl | rfl | rfl | rfl | rfl
  · exact part_C _ v l m _ _ w hv hs (by omega) f1 f2 hm.sum
  · exact part_S _ v l m _ _ w hv hs (by omega) hm.sums
  · rw [hc] at h4
    exact part_E _ v l m _ _ w hv hs (by omega) (by simpa using h4) hm.wf.1
  · exact part_L w0 w v l m ea ec _ hb hv hl l1 hm.wf.2.1 l3 hre
  · have := l4 (kind_I k1 k2 hc)
    exact part_I w0 w v l m ia ic _ hb hv hl l2 hm.wf.2.2.1 (by omega) hri
  · exact part_B _ v l m _ _ w hv hs (by omega) (by omega)

theorem partB_len {m : Msg} (h : rightM m = true) (f : UInt8) (hc : (fieldsOf m.kind).contains f = true) : (partB m f).length ≤ 3000 := by
  obtain ⟨⟨k1, k2⟩, h2, h3, h4, h5, h6, h7⟩ := rightM_parts h
  obtain ⟨l1, l2, l3, l4⟩ := lists_parts h7
  have hm3 := mostOf_le m.kind
  have e1 := textsB_len l1
  have e2 := itemsB_len l2
  unfold partB
  split
  · rw [flat8_len]; simp
  · split
    · rw [flat8_len]; simp
    · split
      · rename_i e; subst e
        rw [hc] at h4
        have := textB_len (e := m.entry) (by simpa using h4)
        omega
      · split
        · rw [List.length_cons]; omega
        · split
          · rename_i e; subst e
            have := l4 (kind_I k1 k2 hc)
            omega
          · have : m.body.data.toList.length = m.body.size := by simp
            omega

theorem partsB_len {m : Msg} (h : rightM m = true) (l : List UInt8) : (partsB m l).length ≤ 3000 * l.length := by
  induction l with
  | nil => simp [partsB]
  | cons c l ih =>
    have e : partsB m (c :: l) = (if (fieldsOf m.kind).contains c = true then partB m c else []) ++ partsB m l := by
      unfold partsB
      rw [List.filter_cons]
      cases hc : (fieldsOf m.kind).contains c <;> simp
    rw [e, List.length_append, List.length_cons]
    cases hc : (fieldsOf m.kind).contains c
    · simp; omega
    · have := partB_len h c hc
      simp; omega

end Go.Proofs.YtmidfknlmjgjpaaDoor
