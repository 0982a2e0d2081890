/- The walk of msg.Encode, joined. -/
import Derived.Test.YtmidfknlmjgjpaaDoorEnc2
namespace Go.Proofs.YtmidfknlmjgjpaaDoor
open Go.RowKit

/-- What the fields of a kind leave alone. -/
theorem wipes_index {m : Msg} (h1 : 1 ≤ m.kind) (h2 : m.kind ≤ 16) (h : (fieldsOf m.kind).contains 105 = false) : (wipes m (fieldsOf m.kind)).index = m.index := by
  obtain ⟨F, hF⟩ : ∃ F, F = fieldsOf m.kind := ⟨_, rfl⟩
  rw [← hF] at h ⊢
  rcases kind_cases h1 h2 with e | e | e | e | e | e | e | e | e | e | e | e | e | e | e | e
  all_goals rw [e] at hF; subst hF; first | rfl | (exact absurd h (by decide))
theorem wipes_size {m : Msg} (h1 : 1 ≤ m.kind) (h2 : m.kind ≤ 16) (h : (fieldsOf m.kind).contains 122 = false) : (wipes m (fieldsOf m.kind)).size = m.size := by
  obtain ⟨F, hF⟩ : ∃ F, F = fieldsOf m.kind := ⟨_, rfl⟩
  rw [← hF] at h ⊢
  rcases kind_cases h1 h2 with e | e | e | e | e | e | e | e | e | e | e | e | e | e | e | e
  all_goals rw [e] at hF; subst hF; first | rfl | (exact absurd h (by decide))

theorem empty_num {m : Msg} (h : emptyM m = true) {f : UInt8} (hf : f ∈ numL) : numGet m f = some 0 := by
  simp only [emptyM, Bool.and_eq_true, List.all_eq_true, beq_iff_eq] at h
  exact h.1.1.1.1.1.1 f hf

theorem fit_index {m : Msg} (h : rightM m = true) : fitB m.index = true := by
  obtain ⟨⟨k1, k2⟩, _, _, _, h5, h6, _⟩ := rightM_parts h
  cases hc : (fieldsOf m.kind).contains 105
  · have := empty_num h6 (f := 105) (by decide)
    have e : m.index = 0 := by
      rw [← wipes_index k1 k2 hc]
      exact Option.some.inj this
    rw [e]; rfl
  · rw [List.all_eq_true] at h5
    exact h5 105 (by simpa using hc)
theorem fit_size {m : Msg} (h : rightM m = true) : fitB m.size = true := by
  obtain ⟨⟨k1, k2⟩, _, _, _, h5, h6, _⟩ := rightM_parts h
  cases hc : (fieldsOf m.kind).contains 122
  · have := empty_num h6 (f := 122) (by decide)
    have e : m.size = 0 := by
      rw [← wipes_size k1 k2 hc]
      exact Option.some.inj this
    rw [e]; rfl
  · rw [List.all_eq_true] at h5
    exact h5 122 (by simpa using hc)

theorem setIter_both {N : Nat} {a b : World} {r : Nat} {s : ByteArray} {p : Nat} (h : Below N a b) (hr : r < N) (hs : r < a.heap.size) : Below N (setIter a r s p) (setIter b r s p) := by
  refine ⟨h.1, h.2, h.3, by rw [setIter_size, setIter_size]; exact h.4, fun k hk => ?_⟩
  by_cases e : k = r
  · subst e
    have hs2 : k < b.heap.size := Nat.lt_of_lt_of_le hs h.size
    rw [setIter_at (o := b.heap[k]'hs2) s p (Array.getElem?_eq_getElem hs2), setIter_at (o := a.heap[k]'hs) s p (Array.getElem?_eq_getElem hs)]
  · rw [setIter_other _ _ _ _ e, setIter_other _ _ _ _ e]
    exact h.5 k hk

end Go.Proofs.YtmidfknlmjgjpaaDoor
