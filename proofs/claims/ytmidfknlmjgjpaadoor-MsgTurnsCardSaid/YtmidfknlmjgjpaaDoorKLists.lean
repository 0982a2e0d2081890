/- The walk of msg.lists. -/
import Derived.Test.YtmidfknlmjgjpaaDoorKItem
namespace Go.Proofs.YtmidfknlmjgjpaaDoor
open Go.RowKit

/-- A slice's elements, in memory: n of them, each so many cells. -/
def RowAt (w : World) (p : Option Addr) (n size : Nat) (cs : Nat → Array Value) : Prop :=
  0 < n → ∃ b o, p = some ⟨b, o, none⟩ ∧ ∀ i, i < n → ∀ j v, (cs i)[j]? = some v → w.cell? ⟨b, o + i * size + j, none⟩ = some v

theorem RowAt.later {w w' : World} {p : Option Addr} {n size : Nat} {cs : Nat → Array Value} (h : RowAt w p n size cs) (hb : Below w.heap.size w w') : RowAt w' p n size cs := by
  intro h0
  obtain ⟨b, o, e, hc⟩ := h h0
  refine ⟨b, o, e, fun i hi j v hv => ?_⟩
  have := hc i hi j v hv
  rw [hb.cell (World.block_lt_of_cell? _ _ this)]; exact this

def entAt (l : List Entry) (i : Nat) : Array Value := entC (l.getD i zeroEntry)
def zeroItem : Item := { kind := 0, stub := zeroStub, entry := zeroEntry }
def itemAt (l : List Item) (i : Nat) : Array Value := itemC (l.getD i zeroItem)

def Entry.wf (e : Entry) : Prop := U64 e.parent ∧ e.body.size ≤ maxLen
def Item.wf (t : Item) : Prop := t.entry.wf ∧ U64 t.stub.parent ∧ U64 t.stub.sum

def listsM (m : Msg) : Bool := m.entries.all Entry.right && m.items.all Item.right && decide (m.entries.length ≤ 8) && (decide (m.kind ≠ 7) || decide (m.items.length = 8))

theorem list_false {α : Type} {p : α → Bool} {l : List α} {k : Nat} {x : α} (h : l[k]? = some x) (hp : p x = false) : l.all p = false := by
  rw [List.all_eq_false]
  exact ⟨x, List.mem_of_getElem? h, by simp [hp]⟩
theorem list_snoc {α : Type} {p : α → Bool} {l : List α} {k : Nat} {x : α} (h : l[k]? = some x) (hp : p x = true) (ha : (l.take k).all p = true) : (l.take (k + 1)).all p = true := by
  rw [List.take_add_one, h]
  simp [ha, hp]
theorem len_dec (n : Nat) : ((n : Int) == 8) = decide (n = 8) := by
  rcases Nat.lt_trichotomy n 8 with h | h | h
  · rw [decide_eq_false (by omega), beq_eq_false_iff_ne]; omega
  · subst h; rfl
  · rw [decide_eq_false (by omega), beq_eq_false_iff_ne]; omega
theorem len_beq (n : Nat) : ((n : Int) == 8) = (n == 8) := by
  rw [len_dec]; rfl
theorem lists_no1 {m : Msg} (h : m.entries.all Entry.right = false) : listsM m = false := by simp [listsM, h]
theorem lists_no2 {m : Msg} (h : m.items.all Item.right = false) : listsM m = false := by simp [listsM, h]

/-- The message's box, later. -/
def MBox (m : Msg) (ev iv : Value) (w wr : World) : Prop := Below (w.heap.size + 1) (w.alloc (.cells (msgC m ev iv) 31)) wr
theorem MBox.cell {m : Msg} {ev iv : Value} {w wr : World} (h : MBox m ev iv w wr) {j : Nat} {v : Value} (hv : (msgC m ev iv)[j]? = some v) : wr.cell? ⟨w.heap.size, j, none⟩ = some v := by
  rw [Below.cell h (by simp)]
  simpa using hv
theorem MBox.size {m : Msg} {ev iv : Value} {w wr : World} (h : MBox m ev iv w wr) : w.heap.size + 1 ≤ wr.heap.size := by have := Below.size h; simpa using this
theorem MBox.later {m : Msg} {ev iv : Value} {w wr wj : World} (h : MBox m ev iv w wr) (hb : Below wr.heap.size wr wj) : MBox m ev iv w wj := Below.trans h (hb.mono h.size)
theorem MBox.below {m : Msg} {ev iv : Value} {w wr : World} (h : MBox m ev iv w wr) : Below w.heap.size w wr := below_box h (by omega)

set_option maxRecDepth 100000 in
set_option maxHeartbeats 2000000 in
theorem lists_any (m : Msg) (ea ia : Option Addr) (ec ic : Nat) (w : World) (he : RowAt w ea m.entries.length 9 (entAt m.entries)) (hi : RowAt w ia m.items.length 15 (itemAt m.items))
    (hew : ∀ e ∈ m.entries, e.wf) (hiw : ∀ t ∈ m.items, t.wf) (hl1 : m.entries.length ≤ 1000000) (hl2 : m.items.length ≤ 1000000) :
    Calls Tryd.prog 48 #[.agg (msgC m (.slice ea m.entries.length ec) (.slice ia m.items.length ic))] w fun e w' => e = .returned (.bool (listsM m)) ∧ Below w.heap.size w w' := by
  have HE := Lib.hid he
  have HI := Lib.hid hi
  have HEW := Lib.hid hew
  have HIW := Lib.hid hiw
  clear he hi hew hiw
  unfold msgC
  go_enter Tryd.func48, Tryd.ntmps48
  go_wp2
  go_loopw [10] (fun i wr => ∃ k : Nat, k ≤ m.entries.length ∧ i = .int .i64 k ∧ MBox m (.slice ea m.entries.length ec) (.slice ia m.items.length ic) w wr ∧ (m.entries.take k).all Entry.right = true) (fun i _ => m.entries.length - (intOf i).toNat)
  case atStart => exact ⟨0, by omega, rfl, Below.refl _ _, rfl⟩
  case round =>
    obtain ⟨k, hk, rfl, hb, hal⟩ := hrel
    have HB := Lib.hid hb
    have HAL := Lib.hid hal
    clear hb hal
    by_cases hlt : k < m.entries.length
    · obtain ⟨b, o, rfl, hc⟩ := HE.out (by omega)
      have hx : m.entries.getD k zeroEntry = m.entries[k] := by rw [List.getD_eq_getElem?_getD, List.getElem?_eq_getElem hlt]; rfl
      obtain ⟨e, he⟩ : ∃ e, e = m.entries[k] := ⟨_, rfl⟩
      have hc2 : ∀ j v, (entC e)[j]? = some v → wr.cell? ⟨b, o + k * 9 + j, none⟩ = some v := by
        intro j v hv
        have := hc k hlt j v (by rw [entAt, hx, ← he]; exact hv)
        rw [HB.out.below.cell (World.block_lt_of_cell? _ _ this)]; exact this
      have hek : m.entries[k]? = some e := by rw [List.getElem?_eq_getElem hlt, he]
      have HC := Lib.hid hc2
      have HEk := Lib.hid hek
      have HW := Lib.hid (HEW.out e (List.mem_of_getElem? hek))
      have c0 : wr.cell? ⟨b, o + k * 9, none⟩ = some (.int .i64 e.view) := HC.out 0 _ rfl
      have c1 : wr.cell? ⟨b, o + k * 9 + 1, none⟩ = some (.int .i64 e.op) := HC.out 1 _ rfl
      have c2 : wr.cell? ⟨b, o + k * 9 + 2, none⟩ = some (.int .i64 e.under) := HC.out 2 _ rfl
      have c3 : wr.cell? ⟨b, o + k * 9 + 3, none⟩ = some (.int .u64 e.parent) := HC.out 3 _ rfl
      have c4 : wr.cell? ⟨b, o + k * 9 + 4, none⟩ = some (.int .i64 e.client) := HC.out 4 _ rfl
      have c5 : wr.cell? ⟨b, o + k * 9 + 5, none⟩ = some (.int .i64 e.session) := HC.out 5 _ rfl
      have c6 : wr.cell? ⟨b, o + k * 9 + 6, none⟩ = some (.int .i64 e.request) := HC.out 6 _ rfl
      have c7 : wr.cell? ⟨b, o + k * 9 + 7, none⟩ = some (.int .i64 e.operation) := HC.out 7 _ rfl
      have c8 : wr.cell? ⟨b, o + k * 9 + 8, none⟩ = some (.string e.body) := HC.out 8 _ rfl
      have HBa := Lib.hid (HB.out.later ((Below.refl _ _).alloc (Nat.le_refl _) (.cells (entC e) 27)))
      clear hc hc2 hx he hek HC
      cases hr : e.right
      · have Hr := Lib.hid hr
        clear hr
        go_wp2_with (go_at_call 44; refine (entRight_any e HW.out.2 _).mono ?_; rintro x w1 ⟨rfl, hb1⟩; rw [Hr.out])
        go_ret
        exact ⟨by rw [lists_no1 (list_false HEk.out Hr.out)]; rfl, (HBa.out.later hb1).below⟩
      · have Hr := Lib.hid hr
        clear hr
        go_wp2_with (go_at_call 44; refine (entRight_any e HW.out.2 _).mono ?_; rintro x w1 ⟨rfl, hb1⟩; rw [Hr.out]; have HB1 := Lib.hid (HBa.out.later hb1); clear hb1)
        go_roundw
        case rel => exact ⟨k + 1, by omega, by go_num, HB1.out, list_snoc HEk.out Hr.out HAL.out⟩
        case measure => simp [intOf]; omega
    · obtain rfl : k = m.entries.length := by omega
      have hall : m.entries.all Entry.right = true := by have := HAL.out; rwa [List.take_length] at this
      have HA := Lib.hid hall
      have g31 : wr.cell? ⟨w.heap.size, 31, none⟩ = some (.slice ia m.items.length ic) := HB.out.cell rfl
      clear hall HAL HE HEW
      go_wp2
      clear g31
      go_loopw [21] (fun i wr => ∃ k : Nat, k ≤ m.items.length ∧ i = .int .i64 k ∧ MBox m (.slice ea m.entries.length ec) (.slice ia m.items.length ic) w wr ∧ (m.items.take k).all Item.right = true) (fun i _ => m.items.length - (intOf i).toNat)
      case atStart => exact ⟨0, by omega, rfl, HB.out, rfl⟩
      case round =>
        obtain ⟨k, hk, rfl, hb, hal⟩ := hrel
        clear HB
        have HB := Lib.hid hb
        have HAL := Lib.hid hal
        clear hb hal
        by_cases hlt : k < m.items.length
        · obtain ⟨b, o, rfl, hc⟩ := HI.out (by omega)
          have hx : m.items.getD k zeroItem = m.items[k] := by rw [List.getD_eq_getElem?_getD, List.getElem?_eq_getElem hlt]; rfl
          obtain ⟨t, ht⟩ : ∃ t, t = m.items[k] := ⟨_, rfl⟩
          have hc2 : ∀ j v, (itemC t)[j]? = some v → wr.cell? ⟨b, o + k * 15 + j, none⟩ = some v := by
            intro j v hv
            have := hc k hlt j v (by rw [itemAt, hx, ← ht]; exact hv)
            rw [HB.out.below.cell (World.block_lt_of_cell? _ _ this)]; exact this
          have htk : m.items[k]? = some t := by rw [List.getElem?_eq_getElem hlt, ht]
          have HC := Lib.hid hc2
          have HTk := Lib.hid htk
          have HW := Lib.hid (HIW.out t (List.mem_of_getElem? htk))
          have c0 : wr.cell? ⟨b, o + k * 15, none⟩ = some (.int .i64 t.kind) := HC.out 0 _ rfl
          have c1 : wr.cell? ⟨b, o + k * 15 + 1, none⟩ = some (.int .i64 t.stub.op) := HC.out 1 _ rfl
          have c2 : wr.cell? ⟨b, o + k * 15 + 2, none⟩ = some (.int .i64 t.stub.view) := HC.out 2 _ rfl
          have c3 : wr.cell? ⟨b, o + k * 15 + 3, none⟩ = some (.int .i64 t.stub.under) := HC.out 3 _ rfl
          have c4 : wr.cell? ⟨b, o + k * 15 + 4, none⟩ = some (.int .u64 t.stub.parent) := HC.out 4 _ rfl
          have c5 : wr.cell? ⟨b, o + k * 15 + 5, none⟩ = some (.int .u64 t.stub.sum) := HC.out 5 _ rfl
          have c6 : wr.cell? ⟨b, o + k * 15 + 6, none⟩ = some (.int .i64 t.entry.view) := HC.out 6 _ rfl
          have c7 : wr.cell? ⟨b, o + k * 15 + 7, none⟩ = some (.int .i64 t.entry.op) := HC.out 7 _ rfl
          have c8 : wr.cell? ⟨b, o + k * 15 + 8, none⟩ = some (.int .i64 t.entry.under) := HC.out 8 _ rfl
          have c9 : wr.cell? ⟨b, o + k * 15 + 9, none⟩ = some (.int .u64 t.entry.parent) := HC.out 9 _ rfl
          have c10 : wr.cell? ⟨b, o + k * 15 + 10, none⟩ = some (.int .i64 t.entry.client) := HC.out 10 _ rfl
          have c11 : wr.cell? ⟨b, o + k * 15 + 11, none⟩ = some (.int .i64 t.entry.session) := HC.out 11 _ rfl
          have c12 : wr.cell? ⟨b, o + k * 15 + 12, none⟩ = some (.int .i64 t.entry.request) := HC.out 12 _ rfl
          have c13 : wr.cell? ⟨b, o + k * 15 + 13, none⟩ = some (.int .i64 t.entry.operation) := HC.out 13 _ rfl
          have c14 : wr.cell? ⟨b, o + k * 15 + 14, none⟩ = some (.string t.entry.body) := HC.out 14 _ rfl
          have HBa := Lib.hid (HB.out.later ((Below.refl _ _).alloc (Nat.le_refl _) (.cells (itemC t) 68)))
          clear hc hc2 hx ht htk HC
          cases hr : t.right
          · have Hr := Lib.hid hr
            clear hr
            go_wp2_with (go_at_call 74; refine (item_any t HW.out.1.2 HW.out.1.1 HW.out.2.1 HW.out.2.2 _).mono ?_; rintro x w1 ⟨rfl, hb1⟩; rw [Hr.out])
            go_ret
            exact ⟨by rw [lists_no2 (list_false HTk.out Hr.out)]; rfl, (HBa.out.later hb1).below⟩
          · have Hr := Lib.hid hr
            clear hr
            go_wp2_with (go_at_call 74; refine (item_any t HW.out.1.2 HW.out.1.1 HW.out.2.1 HW.out.2.2 _).mono ?_; rintro x w1 ⟨rfl, hb1⟩; rw [Hr.out]; have HB1 := Lib.hid (HBa.out.later hb1); clear hb1)
            go_roundw
            case rel => exact ⟨k + 1, by omega, by go_num, HB1.out, list_snoc HTk.out Hr.out HAL.out⟩
            case measure => simp [intOf]; omega
        · obtain rfl : k = m.items.length := by omega
          have hall : m.items.all Item.right = true := by have := HAL.out; rwa [List.take_length] at this
          have HA2 := Lib.hid hall
          have g0 : wr.cell? ⟨w.heap.size, 0, none⟩ = some (.int .i64 m.kind) := HB.out.cell rfl
          have g30 : wr.cell? ⟨w.heap.size, 30, none⟩ = some (.slice ea m.entries.length ec) := HB.out.cell rfl
          have g31 : wr.cell? ⟨w.heap.size, 31, none⟩ = some (.slice ia m.items.length ic) := HB.out.cell rfl
          have HBo := Lib.hid HB.out.below
          have hl : listsM m = (decide (m.entries.length ≤ 8) && (decide (m.kind ≠ 7) || decide (m.items.length = 8))) := by
            have h1 : m.entries.all Entry.right = true := HA.out
            have h2 : m.items.all Item.right = true := HA2.out
            rw [listsM, h1, h2]; rfl
          have Hl := Lib.hid hl
          clear hall HAL HI HIW HB hk hl HA HA2
          go_wp2
          all_goals go_ret
          all_goals refine ⟨?_, HBo.out⟩
          all_goals rw [Hl.out]
          all_goals clear HBo g0 g30 g31 Hl
          all_goals simp_all [len_dec]
          all_goals omega

end Go.Proofs.YtmidfknlmjgjpaaDoor
