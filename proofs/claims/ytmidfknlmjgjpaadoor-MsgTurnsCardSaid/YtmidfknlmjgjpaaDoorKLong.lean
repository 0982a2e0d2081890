/- The walk of comptorlaw17.long. -/
import Derived.Test.YtmidfknlmjgjpaaDoorGT
import Derived.Test.YtmidfknlmjgjpaaDoorKRead
namespace Go.Proofs.YtmidfknlmjgjpaaDoor
open Go.RowKit

/-- No more than is gone through. -/
def Msg.short (m : Msg) : Prop := m.entries.length ≤ 20 ∧ m.items.length ≤ 20 ∧ m.body.size ≤ 1000 ∧ m.entry.body.size ≤ 1000 ∧ (∀ e ∈ m.entries, e.body.size ≤ 1000) ∧ ∀ t ∈ m.items, t.entry.body.size ≤ 1000

theorem all_snoc {α : Type} {p : α → Prop} {l : List α} {k : Nat} {x : α} (h : ∀ y ∈ l.take k, p y) (hk : l[k]? = some x) (hx : p x) : ∀ y ∈ l.take (k + 1), p y := by
  intro y hy
  rw [List.take_add_one, hk] at hy
  rcases List.mem_append.1 hy with hy | hy
  · exact h y hy
  · have : y = x := by simpa using hy
    rw [this]; exact hx

set_option maxRecDepth 100000 in
set_option maxHeartbeats 4000000 in
theorem long_any (m : Msg) (ea ia : Option Addr) (ec ic : Nat) (w : World) (hf : m.fit) (he : RowAt w ea m.entries.length 9 (entAt m.entries)) (hi : RowAt w ia m.items.length 15 (itemAt m.items)) :
    Calls Tryd.prog 11 #[.agg (msgC m (.slice ea m.entries.length ec) (.slice ia m.items.length ic))] w fun e w' => AnsB (fun b => b = false → m.short) e ∧ Below w.heap.size w w' := by
  have HE := Lib.hid he
  have HI := Lib.hid hi
  have HF := Lib.hid hf
  have hb0 : m.body.size ≤ 9223372036854775807 := hf.body
  have he0 : m.entry.body.size ≤ 9223372036854775807 := hf.entry.1.2
  have hn1 : m.entries.length ≤ 9223372036854775807 := hf.len1
  have hn2 : m.items.length ≤ 9223372036854775807 := hf.len2
  clear he hi hf
  by_cases h1 : 20 < m.entries.length
  · unfold msgC
    go_enter Tryd.func11, Tryd.ntmps11
    go_wp2
    go_ret
    exact ⟨⟨true, rfl, fun h => by cases h⟩, (Below.refl _ _).alloc (Nat.le_refl _) _⟩
  by_cases h2 : 20 < m.items.length
  · unfold msgC
    go_enter Tryd.func11, Tryd.ntmps11
    go_wp2
    go_ret
    exact ⟨⟨true, rfl, fun h => by cases h⟩, (Below.refl _ _).alloc (Nat.le_refl _) _⟩
  by_cases h3 : 1000 < m.body.size
  · unfold msgC
    go_enter Tryd.func11, Tryd.ntmps11
    go_wp2
    go_ret
    exact ⟨⟨true, rfl, fun h => by cases h⟩, (Below.refl _ _).alloc (Nat.le_refl _) _⟩
  by_cases h4 : 1000 < m.entry.body.size
  · unfold msgC
    go_enter Tryd.func11, Tryd.ntmps11
    go_wp2
    go_ret
    exact ⟨⟨true, rfl, fun h => by cases h⟩, (Below.refl _ _).alloc (Nat.le_refl _) _⟩
  have HM0 : Hid (MBox m (.slice ea m.entries.length ec) (.slice ia m.items.length ic) w (w.alloc (.cells (msgC m (.slice ea m.entries.length ec) (.slice ia m.items.length ic)) 31))) := Below.refl _ _
  unfold msgC
  go_enter Tryd.func11, Tryd.ntmps11
  go_wp2
  go_loopw [3] (fun i wr => ∃ k : Nat, k ≤ m.entries.length ∧ i = .int .i64 k ∧ MBox m (.slice ea m.entries.length ec) (.slice ia m.items.length ic) w wr ∧ ∀ e ∈ m.entries.take k, e.body.size ≤ 1000) (fun i _ => m.entries.length - (intOf i).toNat)
  case atStart => exact ⟨0, by omega, rfl, HM0.out, fun e he => by simp at he⟩
  case round =>
    obtain ⟨k, hk, rfl, hb, ht⟩ := hrel
    have HB := Lib.hid hb
    have HT := Lib.hid ht
    clear hb ht
    have g30 : wr.cell? ⟨w.heap.size, 30, none⟩ = some (.slice ea m.entries.length ec) := HB.out.cell rfl
    by_cases hlt : k < m.entries.length
    · obtain ⟨x, hx⟩ : ∃ x, m.entries[k]? = some x := ⟨_, List.getElem?_eq_getElem hlt⟩
      obtain ⟨b1, o1, rfl, hc1⟩ := HE.out.ent HB.out.below hx
      have c8 : wr.cell? ⟨b1, o1 + k * 9 + 8, none⟩ = some (.string x.body) := hc1 8 _ rfl
      have hxs : x.body.size ≤ 9223372036854775807 := (HF.out.entries x (List.mem_of_getElem? hx)).1.2
      have HX := Lib.hid hx
      clear hx hc1
      by_cases h5 : 1000 < x.body.size
      · go_wp2
        go_ret
        exact ⟨⟨true, rfl, fun h => by cases h⟩, HB.out.below⟩
      · go_wp2
        go_roundw
        case rel => exact ⟨k + 1, by omega, by go_num, HB.out, all_snoc HT.out HX.out (by omega)⟩
        case measure => simp [intOf]; omega
    · obtain rfl : k = m.entries.length := by omega
      have HT1 : Hid (∀ e ∈ m.entries, e.body.size ≤ 1000) := by have := HT.out; rwa [List.take_length] at this
      clear HT
      go_wp2
      clear g30
      go_loopw [4] (fun i wr => ∃ k : Nat, k ≤ m.items.length ∧ i = .int .i64 k ∧ MBox m (.slice ea m.entries.length ec) (.slice ia m.items.length ic) w wr ∧ ∀ t ∈ m.items.take k, t.entry.body.size ≤ 1000) (fun i _ => m.items.length - (intOf i).toNat)
      case atStart => exact ⟨0, by omega, rfl, HB.out, fun e he => by simp at he⟩
      case round =>
        obtain ⟨k, hk, rfl, hb, ht⟩ := hrel
        clear HB
        have HB := Lib.hid hb
        have HT := Lib.hid ht
        clear hb ht
        have g31 : wr.cell? ⟨w.heap.size, 31, none⟩ = some (.slice ia m.items.length ic) := HB.out.cell rfl
        by_cases hlt : k < m.items.length
        · obtain ⟨x, hx⟩ : ∃ x, m.items[k]? = some x := ⟨_, List.getElem?_eq_getElem hlt⟩
          obtain ⟨b1, o1, rfl, hc1⟩ := HI.out.itm HB.out.below hx
          have c14 : wr.cell? ⟨b1, o1 + k * 15 + 14, none⟩ = some (.string x.entry.body) := hc1 14 _ rfl
          have hxs : x.entry.body.size ≤ 9223372036854775807 := (HF.out.items x (List.mem_of_getElem? hx)).2.1.1.2
          have HX := Lib.hid hx
          clear hx hc1
          by_cases h5 : 1000 < x.entry.body.size
          · go_wp2
            go_ret
            exact ⟨⟨true, rfl, fun h => by cases h⟩, HB.out.below⟩
          · go_wp2
            go_roundw
            case rel => exact ⟨k + 1, by omega, by go_num, HB.out, all_snoc HT.out HX.out (by omega)⟩
            case measure => simp [intOf]; omega
        · obtain rfl : k = m.items.length := by omega
          have HT2 : Hid (∀ t ∈ m.items, t.entry.body.size ≤ 1000) := by have := HT.out; rwa [List.take_length] at this
          clear HT
          go_wp2
          go_ret
          exact ⟨⟨false, rfl, fun _ => ⟨by omega, by omega, by omega, by omega, HT1.out, HT2.out⟩⟩, HB.out.below⟩

end Go.Proofs.YtmidfknlmjgjpaaDoor
