/- The walk of msg.part: the items. -/
import Derived.Test.YtmidfknlmjgjpaaDoorGI
namespace Go.Proofs.YtmidfknlmjgjpaaDoor
open Go.RowKit

def itemB (t : Item) : List UInt8 := UInt8.ofNat t.kind.toNat :: (if t.kind = 1 then textB t.entry else if t.kind = 2 then flat8 t.stub.nums else [])
def itemsB (l : List Item) : List UInt8 := (l.map itemB).flatten

theorem item_ent {t : Item} (h : t.right = true) (hk : t.kind = 1) : t.entry.right = true := by
  rw [Item.right, if_neg (by omega), if_pos hk, Bool.and_eq_true] at h
  exact h.1
theorem item_stubr {t : Item} (h : t.right = true) (hk : t.kind = 2) : t.stub.right = true := by
  rw [Item.right, if_neg (by omega), if_neg (by omega), if_pos hk, Bool.and_eq_true] at h
  exact h.1
theorem item_stub {t : Item} (h : t.right = true) (hk : t.kind = 2) (hw : t.wf) : ∀ x ∈ t.stub.nums, U64 x := by
  obtain ⟨r1, r2, r3, r4, r5⟩ := stub_right (item_stubr h hk)
  intro x hx
  simp only [Stub.nums, List.mem_cons, List.not_mem_nil, or_false] at hx
  rcases hx with rfl | rfl | rfl | rfl | rfl
  · exact ⟨by omega, by omega⟩
  · exact ⟨by omega, by omega⟩
  · exact ⟨by omega, by omega⟩
  · exact hw.2.1
  · exact hw.2.2
theorem item_kinds {t : Item} (h : t.right = true) : t.kind = 0 ∨ t.kind = 1 ∨ t.kind = 2 ∨ t.kind = 3 := by
  rw [Item.right] at h
  by_cases h0 : t.kind = 0 ∨ t.kind = 3
  · omega
  · rw [if_neg h0] at h
    by_cases h1 : t.kind = 1
    · omega
    · rw [if_neg h1] at h
      by_cases h2 : t.kind = 2
      · omega
      · rw [if_neg h2] at h; cases h
theorem itemB_len {t : Item} (h : t.right = true) : (itemB t).length ≤ 331 := by
  rw [itemB]
  by_cases h1 : t.kind = 1
  · have := textB_len (item_ent h h1)
    rw [if_pos h1, List.length_cons]; omega
  · rw [if_neg h1]
    by_cases h2 : t.kind = 2
    · rw [if_pos h2, List.length_cons, flat8_len]; simp [Stub.nums]
    · rw [if_neg h2]; simp
theorem itemsB_len {l : List Item} (h : ∀ t ∈ l, t.right = true) : (itemsB l).length ≤ 331 * l.length := by
  induction l with
  | nil => simp [itemsB]
  | cons e l ih =>
    have h1 := itemB_len (h e (by simp))
    have h2 := ih (fun x hx => h x (by simp [hx]))
    simp only [itemsB, List.map_cons, List.flatten_cons, List.length_append, List.length_cons] at h2 ⊢
    omega
theorem itemsB_snoc {l : List Item} {k : Nat} {e : Item} (h : l[k]? = some e) : itemsB (l.take (k + 1)) = itemsB (l.take k) ++ itemB e := by
  rw [itemsB, List.take_add_one, h]; simp [itemsB]

set_option maxRecDepth 100000 in
set_option maxHeartbeats 4000000 in
theorem part_I (w0 w : World) (v : Value) (l : List UInt8) (m : Msg) (ia : Option Addr) (ic : Nat) (ev : Value) (hb : Below w0.heap.size w0 w) (hv : Bs w0.heap.size w v l) (hl : l.length ≤ 800000)
    (hr : ∀ t ∈ m.items, t.right = true) (hw : ∀ t ∈ m.items, t.wf) (hn : m.items.length ≤ 8) (hre : RowAt w0 ia m.items.length 15 (itemAt m.items)) :
    Calls Tryd.prog 33 #[v, .agg (msgC m ev (.slice ia m.items.length ic)), .int .i32 73] w fun x w' => ∃ v', x = .returned v' ∧ Bs w0.heap.size w' v' (l ++ itemsB m.items) ∧ Below w0.heap.size w w' := by
  obtain ⟨i0, hi, hz0, hz1, hz2⟩ := info_parts info_u8
  have HB := Lib.hid hb
  have HR := Lib.hid hr
  have HW := Lib.hid hw
  have HRE := Lib.hid hre
  have HM : Hid (Below w.heap.size w (w.alloc (.cells (msgC m ev (.slice ia m.items.length ic)) 31))) := (Below.refl _ _).alloc (Nat.le_refl _) _
  have HV1 : Hid (Bs w0.heap.size (w.alloc (.cells (msgC m ev (.slice ia m.items.length ic)) 31)) v l) := hv.later HM.out
  have HB1 : Hid (Below w0.heap.size w (w.alloc (.cells (msgC m ev (.slice ia m.items.length ic)) 31))) := HM.out.mono hb.size
  clear hv hb hr hw hre HM
  unfold msgC at HV1 HB1 ⊢
  go_enter Tryd.func33, Tryd.ntmps33
  go_wp2_with fail
  go_loopw [0, 65] (fun bv i wr => ∃ k : Nat, k ≤ m.items.length ∧ i = .int .i64 k ∧ Below w0.heap.size w wr ∧ Bs w0.heap.size wr bv (l ++ itemsB (m.items.take k))) (fun _ i _ => m.items.length - (intOf i).toNat)
  case atStart => exact ⟨0, by omega, rfl, HB1.out, by simpa [itemsB] using HV1.out⟩
  case round =>
    clear HV1 HB1
    obtain ⟨k, hk, rfl, hb, hbs⟩ := hrel
    have HBr := Lib.hid hb
    have HBS := Lib.hid hbs
    clear hb hbs
    by_cases hlt : k < m.items.length
    · obtain ⟨b, o, rfl, hc⟩ := HRE.out (by omega)
      have hx : m.items.getD k zeroItem = m.items[k] := by rw [List.getD_eq_getElem?_getD, List.getElem?_eq_getElem hlt]; rfl
      obtain ⟨t, ht⟩ : ∃ t, t = m.items[k] := ⟨_, rfl⟩
      have hc2 : ∀ j v, (itemC t)[j]? = some v → wr.cell? ⟨b, o + k * 15 + j, none⟩ = some v := by
        intro j v hv
        have := hc k hlt j v (by rw [itemAt, hx, ← ht]; exact hv)
        rw [(HB.out.trans HBr.out).cell (World.block_lt_of_cell? _ _ this)]; exact this
      have htk : m.items[k]? = some t := by rw [List.getElem?_eq_getElem hlt, ht]
      have HC := Lib.hid hc2
      have HR1 := Lib.hid (HR.out t (List.mem_of_getElem? htk))
      have HW1 := Lib.hid (HW.out t (List.mem_of_getElem? htk))
      have HTk := Lib.hid (itemsB_snoc htk)
      have hll : (l ++ itemsB (m.items.take k)).length ≤ 890000 := by
        have h1 := itemsB_len (l := m.items.take k) (fun x hx => HR.out x (List.mem_of_mem_take hx))
        have h2 : (m.items.take k).length ≤ k := by rw [List.length_take]; omega
        rw [List.length_append]
        omega
      have hsz : w0.heap.size ≤ wr.heap.size := Nat.le_trans HB.out.size HBr.out.size
      rcases item_kinds HR1.out with hkk | hkk | hkk | hkk
      · have e0 : t.kind = 0 := hkk
        have c0 : wr.cell? ⟨b, o + k * 15, none⟩ = some (.int .i64 0) := by rw [← e0]; exact HC.out 0 _ rfl
        have c1 : wr.cell? ⟨b, o + k * 15 + 1, none⟩ = some (.int .i64 t.stub.op) := HC.out 1 _ rfl
        have c2 : wr.cell? ⟨b, o + k * 15 + 2, none⟩ = some (.int .i64 t.stub.view) := HC.out 2 _ rfl
        have c3 : wr.cell? ⟨b, o + k * 15 + 3, none⟩ = some (.int .i64 t.stub.under) := HC.out 3 _ rfl
        have c4 : wr.cell? ⟨b, o + k * 15 + 4, none⟩ = some (.int .u64 t.stub.parent) := HC.out 4 _ rfl
        have c5 : wr.cell? ⟨b, o + k * 15 + 5, none⟩ = some (.int .u64 t.stub.sum) := HC.out 5 _ rfl
        have c6 : wr.cell? ⟨b, o + k * 15 + 6, none⟩ = some (.int .i64 t.entry.view) := HC.out 6 _ rfl
        have c7 : wr.cell? ⟨b, o + k * 15 + 7, none⟩ = some (.int .i64 t.entry.op) := HC.out 7 _ rfl
        have c8 : wr.cell? ⟨b, o + k * 15 + 8, none⟩ = some (.int .i64 t.entry.under) := HC.out 8 _ rfl
        have c9 : wr.cell? ⟨b, o + k * 15 + 9, none⟩ = some (.int .u64 t.entry.parent) := HC.out 9 _ rfl
        have c10 : wr.cell? ⟨b, o + k * 15 + 10, none⟩ = some (.int .i64 t.entry.client) := HC.out 10 _ rfl
        have c11 : wr.cell? ⟨b, o + k * 15 + 11, none⟩ = some (.int .i64 t.entry.session) := HC.out 11 _ rfl
        have c12 : wr.cell? ⟨b, o + k * 15 + 12, none⟩ = some (.int .i64 t.entry.request) := HC.out 12 _ rfl
        have c13 : wr.cell? ⟨b, o + k * 15 + 13, none⟩ = some (.int .i64 t.entry.operation) := HC.out 13 _ rfl
        have c14 : wr.cell? ⟨b, o + k * 15 + 14, none⟩ = some (.string t.entry.body) := HC.out 14 _ rfl
        have b1 : Below wr.heap.size wr ((wr.alloc (.cells #[.int .i64 0, .int .i64 t.stub.op, .int .i64 t.stub.view, .int .i64 t.stub.under, .int .u64 t.stub.parent, .int .u64 t.stub.sum, .int .i64 t.entry.view, .int .i64 t.entry.op, .int .i64 t.entry.under, .int .u64 t.entry.parent, .int .i64 t.entry.client, .int .i64 t.entry.session, .int .i64 t.entry.request, .int .i64 t.entry.operation, .string t.entry.body] 68)).alloc (.cells #[.int .u8 0] 5)) := ((Below.refl _ _).alloc (Nat.le_refl _) _).alloc (by simp) _
        have HVA : Hid (Bs w0.heap.size ((wr.alloc (.cells #[.int .i64 0, .int .i64 t.stub.op, .int .i64 t.stub.view, .int .i64 t.stub.under, .int .u64 t.stub.parent, .int .u64 t.stub.sum, .int .i64 t.entry.view, .int .i64 t.entry.op, .int .i64 t.entry.under, .int .u64 t.entry.parent, .int .i64 t.entry.client, .int .i64 t.entry.session, .int .i64 t.entry.request, .int .i64 t.entry.operation, .string t.entry.body] 68)).alloc (.cells #[.int .u8 0] 5)) _ (l ++ itemsB (m.items.take k))) := HBS.out.later b1
        have HBA : Hid (Below w0.heap.size w ((wr.alloc (.cells #[.int .i64 0, .int .i64 t.stub.op, .int .i64 t.stub.view, .int .i64 t.stub.under, .int .u64 t.stub.parent, .int .u64 t.stub.sum, .int .i64 t.entry.view, .int .i64 t.entry.op, .int .i64 t.entry.under, .int .u64 t.entry.parent, .int .i64 t.entry.client, .int .i64 t.entry.session, .int .i64 t.entry.request, .int .i64 t.entry.operation, .string t.entry.body] 68)).alloc (.cells #[.int .u8 0] 5))) := HBr.out.trans (b1.mono hsz)
        have hz : w0.heap.size ≤ ((wr.alloc (.cells #[.int .i64 0, .int .i64 t.stub.op, .int .i64 t.stub.view, .int .i64 t.stub.under, .int .u64 t.stub.parent, .int .u64 t.stub.sum, .int .i64 t.entry.view, .int .i64 t.entry.op, .int .i64 t.entry.under, .int .u64 t.entry.parent, .int .i64 t.entry.client, .int .i64 t.entry.session, .int .i64 t.entry.request, .int .i64 t.entry.operation, .string t.entry.body] 68)).alloc (.cells #[.int .u8 0] 5)).heap.size := Nat.le_trans hsz b1.size
        have H1 : Hid (Lib.HoldsBytes ((wr.alloc (.cells #[.int .i64 0, .int .i64 t.stub.op, .int .i64 t.stub.view, .int .i64 t.stub.under, .int .u64 t.stub.parent, .int .u64 t.stub.sum, .int .i64 t.entry.view, .int .i64 t.entry.op, .int .i64 t.entry.under, .int .u64 t.entry.parent, .int .i64 t.entry.client, .int .i64 t.entry.session, .int .i64 t.entry.request, .int .i64 t.entry.operation, .string t.entry.body] 68)).alloc (.cells #[.int .u8 0] 5)) (.slice (some ⟨wr.heap.size + 1, 0, none⟩) 1 1) [UInt8.ofNat 0]) := by
          have := one_holds (wr.alloc (.cells #[.int .i64 0, .int .i64 t.stub.op, .int .i64 t.stub.view, .int .i64 t.stub.under, .int .u64 t.stub.parent, .int .u64 t.stub.sum, .int .i64 t.entry.view, .int .i64 t.entry.op, .int .i64 t.entry.under, .int .u64 t.entry.parent, .int .i64 t.entry.client, .int .i64 t.entry.session, .int .i64 t.entry.request, .int .i64 t.entry.operation, .string t.entry.body] 68)) 0 (by omega) (by omega) 5 1
          rw [World.size_alloc] at this
          exact this
        have Hr : Hid ((l ++ itemsB (m.items.take k)).length + [UInt8.ofNat 0].length ≤ 1000000000) := by show (l ++ itemsB (m.items.take k)).length + 1 ≤ _; omega
        have HX : Hid (∀ j v, (#[.int .i64 0, .int .i64 t.stub.op, .int .i64 t.stub.view, .int .i64 t.stub.under, .int .u64 t.stub.parent, .int .u64 t.stub.sum, .int .i64 t.entry.view, .int .i64 t.entry.op, .int .i64 t.entry.under, .int .u64 t.entry.parent, .int .i64 t.entry.client, .int .i64 t.entry.session, .int .i64 t.entry.request, .int .i64 t.entry.operation, .string t.entry.body] : Array Value)[j]? = some v → ((wr.alloc (.cells #[.int .i64 0, .int .i64 t.stub.op, .int .i64 t.stub.view, .int .i64 t.stub.under, .int .u64 t.stub.parent, .int .u64 t.stub.sum, .int .i64 t.entry.view, .int .i64 t.entry.op, .int .i64 t.entry.under, .int .u64 t.entry.parent, .int .i64 t.entry.client, .int .i64 t.entry.session, .int .i64 t.entry.request, .int .i64 t.entry.operation, .string t.entry.body] 68)).alloc (.cells #[.int .u8 0] 5)).cell? ⟨wr.heap.size, j, none⟩ = some v) := by
          intro j v hv
          have e := Below.heap_alloc (wr.alloc (.cells #[.int .i64 0, .int .i64 t.stub.op, .int .i64 t.stub.view, .int .i64 t.stub.under, .int .u64 t.stub.parent, .int .u64 t.stub.sum, .int .i64 t.entry.view, .int .i64 t.entry.op, .int .i64 t.entry.under, .int .u64 t.entry.parent, .int .i64 t.entry.client, .int .i64 t.entry.session, .int .i64 t.entry.request, .int .i64 t.entry.operation, .string t.entry.body] 68)) (.cells #[.int .u8 0] 5) wr.heap.size (by simp)
          have e2 := heap_alloc_new wr (.cells #[.int .i64 0, .int .i64 t.stub.op, .int .i64 t.stub.view, .int .i64 t.stub.under, .int .u64 t.stub.parent, .int .u64 t.stub.sum, .int .i64 t.entry.view, .int .i64 t.entry.op, .int .i64 t.entry.under, .int .u64 t.entry.parent, .int .i64 t.entry.client, .int .i64 t.entry.session, .int .i64 t.entry.request, .int .i64 t.entry.operation, .string t.entry.body] 68 (0, 0))
          rw [cell_of_row _ wr.heap.size j _ _ _ (e.trans e2)]
          exact hv
        have HK := Lib.hid e0
        have HSz := Lib.hid hsz
        have HLL := Lib.hid hll
        clear b1 HC e0 hkk hc hc2 hx ht htk hsz hll
        go_wp2_with (first | (at_builtin; refine wpList_append_Bs rfl _ _ 51 rfl w0.heap.size 5 i0 Tryd.underlying51 hi hz0 hz1 hz2 _ _ rfl HVA.out (.slice (some ⟨wr.heap.size + 1, 0, none⟩) 1 1) _ rfl H1.out (fun c e => nomatch e) Hr.out hz ?_; intro v1 w1 hv1 hg1; have HV1 := Lib.hid hv1; have HB1 : Hid (Below w0.heap.size w w1) := HBA.out.trans (Bs.below HVA.out hg1 hz); have HZ1 : Hid (w0.heap.size ≤ w1.heap.size) := Nat.le_trans hz hg1.size; have g0 : w1.cell? ⟨wr.heap.size, 0, none⟩ = some (.int .i64 0) := grown_cell hg1 (HBS.out.new (Nat.le_refl _)) (HX.out 0 _ rfl); clear hv1 hg1))
        go_roundw
        case rel => exact ⟨k + 1, by omega, by go_num, HB1.out, bs_eq (by rw [HTk.out, itemB, HK.out]; simp) HV1.out⟩
        case measure => simp [intOf]; omega
      · have e0 : t.kind = 1 := hkk
        have c0 : wr.cell? ⟨b, o + k * 15, none⟩ = some (.int .i64 1) := by rw [← e0]; exact HC.out 0 _ rfl
        have c1 : wr.cell? ⟨b, o + k * 15 + 1, none⟩ = some (.int .i64 t.stub.op) := HC.out 1 _ rfl
        have c2 : wr.cell? ⟨b, o + k * 15 + 2, none⟩ = some (.int .i64 t.stub.view) := HC.out 2 _ rfl
        have c3 : wr.cell? ⟨b, o + k * 15 + 3, none⟩ = some (.int .i64 t.stub.under) := HC.out 3 _ rfl
        have c4 : wr.cell? ⟨b, o + k * 15 + 4, none⟩ = some (.int .u64 t.stub.parent) := HC.out 4 _ rfl
        have c5 : wr.cell? ⟨b, o + k * 15 + 5, none⟩ = some (.int .u64 t.stub.sum) := HC.out 5 _ rfl
        have c6 : wr.cell? ⟨b, o + k * 15 + 6, none⟩ = some (.int .i64 t.entry.view) := HC.out 6 _ rfl
        have c7 : wr.cell? ⟨b, o + k * 15 + 7, none⟩ = some (.int .i64 t.entry.op) := HC.out 7 _ rfl
        have c8 : wr.cell? ⟨b, o + k * 15 + 8, none⟩ = some (.int .i64 t.entry.under) := HC.out 8 _ rfl
        have c9 : wr.cell? ⟨b, o + k * 15 + 9, none⟩ = some (.int .u64 t.entry.parent) := HC.out 9 _ rfl
        have c10 : wr.cell? ⟨b, o + k * 15 + 10, none⟩ = some (.int .i64 t.entry.client) := HC.out 10 _ rfl
        have c11 : wr.cell? ⟨b, o + k * 15 + 11, none⟩ = some (.int .i64 t.entry.session) := HC.out 11 _ rfl
        have c12 : wr.cell? ⟨b, o + k * 15 + 12, none⟩ = some (.int .i64 t.entry.request) := HC.out 12 _ rfl
        have c13 : wr.cell? ⟨b, o + k * 15 + 13, none⟩ = some (.int .i64 t.entry.operation) := HC.out 13 _ rfl
        have c14 : wr.cell? ⟨b, o + k * 15 + 14, none⟩ = some (.string t.entry.body) := HC.out 14 _ rfl
        have b1 : Below wr.heap.size wr ((wr.alloc (.cells #[.int .i64 1, .int .i64 t.stub.op, .int .i64 t.stub.view, .int .i64 t.stub.under, .int .u64 t.stub.parent, .int .u64 t.stub.sum, .int .i64 t.entry.view, .int .i64 t.entry.op, .int .i64 t.entry.under, .int .u64 t.entry.parent, .int .i64 t.entry.client, .int .i64 t.entry.session, .int .i64 t.entry.request, .int .i64 t.entry.operation, .string t.entry.body] 68)).alloc (.cells #[.int .u8 1] 5)) := ((Below.refl _ _).alloc (Nat.le_refl _) _).alloc (by simp) _
        have HVA : Hid (Bs w0.heap.size ((wr.alloc (.cells #[.int .i64 1, .int .i64 t.stub.op, .int .i64 t.stub.view, .int .i64 t.stub.under, .int .u64 t.stub.parent, .int .u64 t.stub.sum, .int .i64 t.entry.view, .int .i64 t.entry.op, .int .i64 t.entry.under, .int .u64 t.entry.parent, .int .i64 t.entry.client, .int .i64 t.entry.session, .int .i64 t.entry.request, .int .i64 t.entry.operation, .string t.entry.body] 68)).alloc (.cells #[.int .u8 1] 5)) _ (l ++ itemsB (m.items.take k))) := HBS.out.later b1
        have HBA : Hid (Below w0.heap.size w ((wr.alloc (.cells #[.int .i64 1, .int .i64 t.stub.op, .int .i64 t.stub.view, .int .i64 t.stub.under, .int .u64 t.stub.parent, .int .u64 t.stub.sum, .int .i64 t.entry.view, .int .i64 t.entry.op, .int .i64 t.entry.under, .int .u64 t.entry.parent, .int .i64 t.entry.client, .int .i64 t.entry.session, .int .i64 t.entry.request, .int .i64 t.entry.operation, .string t.entry.body] 68)).alloc (.cells #[.int .u8 1] 5))) := HBr.out.trans (b1.mono hsz)
        have hz : w0.heap.size ≤ ((wr.alloc (.cells #[.int .i64 1, .int .i64 t.stub.op, .int .i64 t.stub.view, .int .i64 t.stub.under, .int .u64 t.stub.parent, .int .u64 t.stub.sum, .int .i64 t.entry.view, .int .i64 t.entry.op, .int .i64 t.entry.under, .int .u64 t.entry.parent, .int .i64 t.entry.client, .int .i64 t.entry.session, .int .i64 t.entry.request, .int .i64 t.entry.operation, .string t.entry.body] 68)).alloc (.cells #[.int .u8 1] 5)).heap.size := Nat.le_trans hsz b1.size
        have H1 : Hid (Lib.HoldsBytes ((wr.alloc (.cells #[.int .i64 1, .int .i64 t.stub.op, .int .i64 t.stub.view, .int .i64 t.stub.under, .int .u64 t.stub.parent, .int .u64 t.stub.sum, .int .i64 t.entry.view, .int .i64 t.entry.op, .int .i64 t.entry.under, .int .u64 t.entry.parent, .int .i64 t.entry.client, .int .i64 t.entry.session, .int .i64 t.entry.request, .int .i64 t.entry.operation, .string t.entry.body] 68)).alloc (.cells #[.int .u8 1] 5)) (.slice (some ⟨wr.heap.size + 1, 0, none⟩) 1 1) [UInt8.ofNat 1]) := by
          have := one_holds (wr.alloc (.cells #[.int .i64 1, .int .i64 t.stub.op, .int .i64 t.stub.view, .int .i64 t.stub.under, .int .u64 t.stub.parent, .int .u64 t.stub.sum, .int .i64 t.entry.view, .int .i64 t.entry.op, .int .i64 t.entry.under, .int .u64 t.entry.parent, .int .i64 t.entry.client, .int .i64 t.entry.session, .int .i64 t.entry.request, .int .i64 t.entry.operation, .string t.entry.body] 68)) 1 (by omega) (by omega) 5 1
          rw [World.size_alloc] at this
          exact this
        have Hr : Hid ((l ++ itemsB (m.items.take k)).length + [UInt8.ofNat 1].length ≤ 1000000000) := by show (l ++ itemsB (m.items.take k)).length + 1 ≤ _; omega
        have HX : Hid (∀ j v, (#[.int .i64 1, .int .i64 t.stub.op, .int .i64 t.stub.view, .int .i64 t.stub.under, .int .u64 t.stub.parent, .int .u64 t.stub.sum, .int .i64 t.entry.view, .int .i64 t.entry.op, .int .i64 t.entry.under, .int .u64 t.entry.parent, .int .i64 t.entry.client, .int .i64 t.entry.session, .int .i64 t.entry.request, .int .i64 t.entry.operation, .string t.entry.body] : Array Value)[j]? = some v → ((wr.alloc (.cells #[.int .i64 1, .int .i64 t.stub.op, .int .i64 t.stub.view, .int .i64 t.stub.under, .int .u64 t.stub.parent, .int .u64 t.stub.sum, .int .i64 t.entry.view, .int .i64 t.entry.op, .int .i64 t.entry.under, .int .u64 t.entry.parent, .int .i64 t.entry.client, .int .i64 t.entry.session, .int .i64 t.entry.request, .int .i64 t.entry.operation, .string t.entry.body] 68)).alloc (.cells #[.int .u8 1] 5)).cell? ⟨wr.heap.size, j, none⟩ = some v) := by
          intro j v hv
          have e := Below.heap_alloc (wr.alloc (.cells #[.int .i64 1, .int .i64 t.stub.op, .int .i64 t.stub.view, .int .i64 t.stub.under, .int .u64 t.stub.parent, .int .u64 t.stub.sum, .int .i64 t.entry.view, .int .i64 t.entry.op, .int .i64 t.entry.under, .int .u64 t.entry.parent, .int .i64 t.entry.client, .int .i64 t.entry.session, .int .i64 t.entry.request, .int .i64 t.entry.operation, .string t.entry.body] 68)) (.cells #[.int .u8 1] 5) wr.heap.size (by simp)
          have e2 := heap_alloc_new wr (.cells #[.int .i64 1, .int .i64 t.stub.op, .int .i64 t.stub.view, .int .i64 t.stub.under, .int .u64 t.stub.parent, .int .u64 t.stub.sum, .int .i64 t.entry.view, .int .i64 t.entry.op, .int .i64 t.entry.under, .int .u64 t.entry.parent, .int .i64 t.entry.client, .int .i64 t.entry.session, .int .i64 t.entry.request, .int .i64 t.entry.operation, .string t.entry.body] 68 (0, 0))
          rw [cell_of_row _ wr.heap.size j _ _ _ (e.trans e2)]
          exact hv
        have HK := Lib.hid e0
        have HSz := Lib.hid hsz
        have HLL := Lib.hid hll
        have HEr : Hid (t.entry.right = true) := item_ent HR1.out e0
        have HEw : Hid t.entry.wf := HW1.out.1
        have HL1 : Hid ((l ++ itemsB (m.items.take k) ++ [UInt8.ofNat 1]).length ≤ 900000) := by show (l ++ itemsB (m.items.take k) ++ [UInt8.ofNat 1]).length ≤ _; rw [List.length_append, List.length_singleton]; omega
        clear b1 HC e0 hkk hc hc2 hx ht htk hsz hll
        go_wp2_with (first | (at_builtin; refine wpList_append_Bs rfl _ _ 51 rfl w0.heap.size 5 i0 Tryd.underlying51 hi hz0 hz1 hz2 _ _ rfl HVA.out (.slice (some ⟨wr.heap.size + 1, 0, none⟩) 1 1) _ rfl H1.out (fun c e => nomatch e) Hr.out hz ?_; intro v1 w1 hv1 hg1; have HV1 := Lib.hid hv1; have HB1 : Hid (Below w0.heap.size w w1) := HBA.out.trans (Bs.below HVA.out hg1 hz); have HZ1 : Hid (w0.heap.size ≤ w1.heap.size) := Nat.le_trans hz hg1.size; have g0 : w1.cell? ⟨wr.heap.size, 0, none⟩ = some (.int .i64 1) := grown_cell hg1 (HBS.out.new (Nat.le_refl _)) (HX.out 0 _ rfl); have g6 : w1.cell? ⟨wr.heap.size, 6, none⟩ = some (.int .i64 t.entry.view) := grown_cell hg1 (HBS.out.new (Nat.le_refl _)) (HX.out 6 _ rfl); have g7 : w1.cell? ⟨wr.heap.size, 7, none⟩ = some (.int .i64 t.entry.op) := grown_cell hg1 (HBS.out.new (Nat.le_refl _)) (HX.out 7 _ rfl); have g8 : w1.cell? ⟨wr.heap.size, 8, none⟩ = some (.int .i64 t.entry.under) := grown_cell hg1 (HBS.out.new (Nat.le_refl _)) (HX.out 8 _ rfl); have g9 : w1.cell? ⟨wr.heap.size, 9, none⟩ = some (.int .u64 t.entry.parent) := grown_cell hg1 (HBS.out.new (Nat.le_refl _)) (HX.out 9 _ rfl); have g10 : w1.cell? ⟨wr.heap.size, 10, none⟩ = some (.int .i64 t.entry.client) := grown_cell hg1 (HBS.out.new (Nat.le_refl _)) (HX.out 10 _ rfl); have g11 : w1.cell? ⟨wr.heap.size, 11, none⟩ = some (.int .i64 t.entry.session) := grown_cell hg1 (HBS.out.new (Nat.le_refl _)) (HX.out 11 _ rfl); have g12 : w1.cell? ⟨wr.heap.size, 12, none⟩ = some (.int .i64 t.entry.request) := grown_cell hg1 (HBS.out.new (Nat.le_refl _)) (HX.out 12 _ rfl); have g13 : w1.cell? ⟨wr.heap.size, 13, none⟩ = some (.int .i64 t.entry.operation) := grown_cell hg1 (HBS.out.new (Nat.le_refl _)) (HX.out 13 _ rfl); have g14 : w1.cell? ⟨wr.heap.size, 14, none⟩ = some (.string t.entry.body) := grown_cell hg1 (HBS.out.new (Nat.le_refl _)) (HX.out 14 _ rfl); clear hv1 hg1) | (go_at_call 61; refine (text_any w0.heap.size _ _ t.entry _ HV1.out HZ1.out HL1.out HEr.out HEw.out).mono ?_; rintro x w2 ⟨v2, rfl, hv2, hb2⟩; have HV2 := Lib.hid hv2; have HB2 : Hid (Below w0.heap.size w w2) := HB1.out.trans (hb2.mono HZ1.out); clear hv2 hb2))
        go_roundw
        case rel => exact ⟨k + 1, by omega, by go_num, HB2.out, bs_eq (by rw [HTk.out, itemB, HK.out]; simp) HV2.out⟩
        case measure => simp [intOf]; omega
      · have e0 : t.kind = 2 := hkk
        have c0 : wr.cell? ⟨b, o + k * 15, none⟩ = some (.int .i64 2) := by rw [← e0]; exact HC.out 0 _ rfl
        have c1 : wr.cell? ⟨b, o + k * 15 + 1, none⟩ = some (.int .i64 t.stub.op) := HC.out 1 _ rfl
        have c2 : wr.cell? ⟨b, o + k * 15 + 2, none⟩ = some (.int .i64 t.stub.view) := HC.out 2 _ rfl
        have c3 : wr.cell? ⟨b, o + k * 15 + 3, none⟩ = some (.int .i64 t.stub.under) := HC.out 3 _ rfl
        have c4 : wr.cell? ⟨b, o + k * 15 + 4, none⟩ = some (.int .u64 t.stub.parent) := HC.out 4 _ rfl
        have c5 : wr.cell? ⟨b, o + k * 15 + 5, none⟩ = some (.int .u64 t.stub.sum) := HC.out 5 _ rfl
        have c6 : wr.cell? ⟨b, o + k * 15 + 6, none⟩ = some (.int .i64 t.entry.view) := HC.out 6 _ rfl
        have c7 : wr.cell? ⟨b, o + k * 15 + 7, none⟩ = some (.int .i64 t.entry.op) := HC.out 7 _ rfl
        have c8 : wr.cell? ⟨b, o + k * 15 + 8, none⟩ = some (.int .i64 t.entry.under) := HC.out 8 _ rfl
        have c9 : wr.cell? ⟨b, o + k * 15 + 9, none⟩ = some (.int .u64 t.entry.parent) := HC.out 9 _ rfl
        have c10 : wr.cell? ⟨b, o + k * 15 + 10, none⟩ = some (.int .i64 t.entry.client) := HC.out 10 _ rfl
        have c11 : wr.cell? ⟨b, o + k * 15 + 11, none⟩ = some (.int .i64 t.entry.session) := HC.out 11 _ rfl
        have c12 : wr.cell? ⟨b, o + k * 15 + 12, none⟩ = some (.int .i64 t.entry.request) := HC.out 12 _ rfl
        have c13 : wr.cell? ⟨b, o + k * 15 + 13, none⟩ = some (.int .i64 t.entry.operation) := HC.out 13 _ rfl
        have c14 : wr.cell? ⟨b, o + k * 15 + 14, none⟩ = some (.string t.entry.body) := HC.out 14 _ rfl
        have b1 : Below wr.heap.size wr ((wr.alloc (.cells #[.int .i64 2, .int .i64 t.stub.op, .int .i64 t.stub.view, .int .i64 t.stub.under, .int .u64 t.stub.parent, .int .u64 t.stub.sum, .int .i64 t.entry.view, .int .i64 t.entry.op, .int .i64 t.entry.under, .int .u64 t.entry.parent, .int .i64 t.entry.client, .int .i64 t.entry.session, .int .i64 t.entry.request, .int .i64 t.entry.operation, .string t.entry.body] 68)).alloc (.cells #[.int .u8 2] 5)) := ((Below.refl _ _).alloc (Nat.le_refl _) _).alloc (by simp) _
        have HVA : Hid (Bs w0.heap.size ((wr.alloc (.cells #[.int .i64 2, .int .i64 t.stub.op, .int .i64 t.stub.view, .int .i64 t.stub.under, .int .u64 t.stub.parent, .int .u64 t.stub.sum, .int .i64 t.entry.view, .int .i64 t.entry.op, .int .i64 t.entry.under, .int .u64 t.entry.parent, .int .i64 t.entry.client, .int .i64 t.entry.session, .int .i64 t.entry.request, .int .i64 t.entry.operation, .string t.entry.body] 68)).alloc (.cells #[.int .u8 2] 5)) _ (l ++ itemsB (m.items.take k))) := HBS.out.later b1
        have HBA : Hid (Below w0.heap.size w ((wr.alloc (.cells #[.int .i64 2, .int .i64 t.stub.op, .int .i64 t.stub.view, .int .i64 t.stub.under, .int .u64 t.stub.parent, .int .u64 t.stub.sum, .int .i64 t.entry.view, .int .i64 t.entry.op, .int .i64 t.entry.under, .int .u64 t.entry.parent, .int .i64 t.entry.client, .int .i64 t.entry.session, .int .i64 t.entry.request, .int .i64 t.entry.operation, .string t.entry.body] 68)).alloc (.cells #[.int .u8 2] 5))) := HBr.out.trans (b1.mono hsz)
        have hz : w0.heap.size ≤ ((wr.alloc (.cells #[.int .i64 2, .int .i64 t.stub.op, .int .i64 t.stub.view, .int .i64 t.stub.under, .int .u64 t.stub.parent, .int .u64 t.stub.sum, .int .i64 t.entry.view, .int .i64 t.entry.op, .int .i64 t.entry.under, .int .u64 t.entry.parent, .int .i64 t.entry.client, .int .i64 t.entry.session, .int .i64 t.entry.request, .int .i64 t.entry.operation, .string t.entry.body] 68)).alloc (.cells #[.int .u8 2] 5)).heap.size := Nat.le_trans hsz b1.size
        have H1 : Hid (Lib.HoldsBytes ((wr.alloc (.cells #[.int .i64 2, .int .i64 t.stub.op, .int .i64 t.stub.view, .int .i64 t.stub.under, .int .u64 t.stub.parent, .int .u64 t.stub.sum, .int .i64 t.entry.view, .int .i64 t.entry.op, .int .i64 t.entry.under, .int .u64 t.entry.parent, .int .i64 t.entry.client, .int .i64 t.entry.session, .int .i64 t.entry.request, .int .i64 t.entry.operation, .string t.entry.body] 68)).alloc (.cells #[.int .u8 2] 5)) (.slice (some ⟨wr.heap.size + 1, 0, none⟩) 1 1) [UInt8.ofNat 2]) := by
          have := one_holds (wr.alloc (.cells #[.int .i64 2, .int .i64 t.stub.op, .int .i64 t.stub.view, .int .i64 t.stub.under, .int .u64 t.stub.parent, .int .u64 t.stub.sum, .int .i64 t.entry.view, .int .i64 t.entry.op, .int .i64 t.entry.under, .int .u64 t.entry.parent, .int .i64 t.entry.client, .int .i64 t.entry.session, .int .i64 t.entry.request, .int .i64 t.entry.operation, .string t.entry.body] 68)) 2 (by omega) (by omega) 5 1
          rw [World.size_alloc] at this
          exact this
        have Hr : Hid ((l ++ itemsB (m.items.take k)).length + [UInt8.ofNat 2].length ≤ 1000000000) := by show (l ++ itemsB (m.items.take k)).length + 1 ≤ _; omega
        have HX : Hid (∀ j v, (#[.int .i64 2, .int .i64 t.stub.op, .int .i64 t.stub.view, .int .i64 t.stub.under, .int .u64 t.stub.parent, .int .u64 t.stub.sum, .int .i64 t.entry.view, .int .i64 t.entry.op, .int .i64 t.entry.under, .int .u64 t.entry.parent, .int .i64 t.entry.client, .int .i64 t.entry.session, .int .i64 t.entry.request, .int .i64 t.entry.operation, .string t.entry.body] : Array Value)[j]? = some v → ((wr.alloc (.cells #[.int .i64 2, .int .i64 t.stub.op, .int .i64 t.stub.view, .int .i64 t.stub.under, .int .u64 t.stub.parent, .int .u64 t.stub.sum, .int .i64 t.entry.view, .int .i64 t.entry.op, .int .i64 t.entry.under, .int .u64 t.entry.parent, .int .i64 t.entry.client, .int .i64 t.entry.session, .int .i64 t.entry.request, .int .i64 t.entry.operation, .string t.entry.body] 68)).alloc (.cells #[.int .u8 2] 5)).cell? ⟨wr.heap.size, j, none⟩ = some v) := by
          intro j v hv
          have e := Below.heap_alloc (wr.alloc (.cells #[.int .i64 2, .int .i64 t.stub.op, .int .i64 t.stub.view, .int .i64 t.stub.under, .int .u64 t.stub.parent, .int .u64 t.stub.sum, .int .i64 t.entry.view, .int .i64 t.entry.op, .int .i64 t.entry.under, .int .u64 t.entry.parent, .int .i64 t.entry.client, .int .i64 t.entry.session, .int .i64 t.entry.request, .int .i64 t.entry.operation, .string t.entry.body] 68)) (.cells #[.int .u8 2] 5) wr.heap.size (by simp)
          have e2 := heap_alloc_new wr (.cells #[.int .i64 2, .int .i64 t.stub.op, .int .i64 t.stub.view, .int .i64 t.stub.under, .int .u64 t.stub.parent, .int .u64 t.stub.sum, .int .i64 t.entry.view, .int .i64 t.entry.op, .int .i64 t.entry.under, .int .u64 t.entry.parent, .int .i64 t.entry.client, .int .i64 t.entry.session, .int .i64 t.entry.request, .int .i64 t.entry.operation, .string t.entry.body] 68 (0, 0))
          rw [cell_of_row _ wr.heap.size j _ _ _ (e.trans e2)]
          exact hv
        have HK := Lib.hid e0
        have HSz := Lib.hid hsz
        have HLL := Lib.hid hll
        have hu : ∀ x ∈ t.stub.nums, U64 x := item_stub HR1.out e0 HW1.out
        have HU := Lib.hid hu
        have hq := (stub_right (item_stubr HR1.out e0))
        have q0 : 0 ≤ t.stub.op := (hu _ (by simp [Stub.nums])).1
        have q1 : 0 ≤ t.stub.view := (hu t.stub.view (by simp [Stub.nums])).1
        have q2 : 0 ≤ t.stub.under := (hu t.stub.under (by simp [Stub.nums])).1
        have q3 : t.stub.op < 18446744073709551616 := (hu _ (by simp [Stub.nums])).2
        have q4 : t.stub.view < 18446744073709551616 := (hu t.stub.view (by simp [Stub.nums])).2
        have q5 : t.stub.under < 18446744073709551616 := (hu t.stub.under (by simp [Stub.nums])).2
        have HL1 : Hid ((l ++ itemsB (m.items.take k) ++ [UInt8.ofNat 2]).length ≤ 900000) := by show (l ++ itemsB (m.items.take k) ++ [UInt8.ofNat 2]).length ≤ _; rw [List.length_append, List.length_singleton]; omega
        clear hu hq
        clear b1 HC e0 hkk hc hc2 hx ht htk hsz hll
        go_wp2_with (first | (at_builtin; refine wpList_append_Bs rfl _ _ 51 rfl w0.heap.size 5 i0 Tryd.underlying51 hi hz0 hz1 hz2 _ _ rfl HVA.out (.slice (some ⟨wr.heap.size + 1, 0, none⟩) 1 1) _ rfl H1.out (fun c e => nomatch e) Hr.out hz ?_; intro v1 w1 hv1 hg1; have HV1 := Lib.hid hv1; have HB1 : Hid (Below w0.heap.size w w1) := HBA.out.trans (Bs.below HVA.out hg1 hz); have HZ1 : Hid (w0.heap.size ≤ w1.heap.size) := Nat.le_trans hz hg1.size; have g0 : w1.cell? ⟨wr.heap.size, 0, none⟩ = some (.int .i64 2) := grown_cell hg1 (HBS.out.new (Nat.le_refl _)) (HX.out 0 _ rfl); have g1 : w1.cell? ⟨wr.heap.size, 1, none⟩ = some (.int .i64 t.stub.op) := grown_cell hg1 (HBS.out.new (Nat.le_refl _)) (HX.out 1 _ rfl); have g2 : w1.cell? ⟨wr.heap.size, 2, none⟩ = some (.int .i64 t.stub.view) := grown_cell hg1 (HBS.out.new (Nat.le_refl _)) (HX.out 2 _ rfl); have g3 : w1.cell? ⟨wr.heap.size, 3, none⟩ = some (.int .i64 t.stub.under) := grown_cell hg1 (HBS.out.new (Nat.le_refl _)) (HX.out 3 _ rfl); have g4 : w1.cell? ⟨wr.heap.size, 4, none⟩ = some (.int .u64 t.stub.parent) := grown_cell hg1 (HBS.out.new (Nat.le_refl _)) (HX.out 4 _ rfl); have g5 : w1.cell? ⟨wr.heap.size, 5, none⟩ = some (.int .u64 t.stub.sum) := grown_cell hg1 (HBS.out.new (Nat.le_refl _)) (HX.out 5 _ rfl); clear hv1 hg1))
        refine (eight_any w0.heap.size _ _ w1.heap.size 0 5 t.stub.nums _ (HV1.out.later ((Below.refl _ _).alloc (Nat.le_refl _) _)) (by have := HZ1.out; simp; omega) (by simp [Stub.nums]) HL1.out (nums_at _ t.stub.nums _ _ rfl) HU.out).mono ?_
        rintro x w2 ⟨v2, rfl, hv2, hb2⟩
        have HV2 := Lib.hid hv2
        have HB2 : Hid (Below w0.heap.size w w2) := HB1.out.trans ((below_box hb2 (by simp)).mono HZ1.out)
        clear hv2 hb2
        go_wp2_with fail
        go_roundw
        case rel => exact ⟨k + 1, by omega, by go_num, HB2.out, bs_eq (by rw [HTk.out, itemB, HK.out]; simp) HV2.out⟩
        case measure => simp [intOf]; omega
      · have e0 : t.kind = 3 := hkk
        have c0 : wr.cell? ⟨b, o + k * 15, none⟩ = some (.int .i64 3) := by rw [← e0]; exact HC.out 0 _ rfl
        have c1 : wr.cell? ⟨b, o + k * 15 + 1, none⟩ = some (.int .i64 t.stub.op) := HC.out 1 _ rfl
        have c2 : wr.cell? ⟨b, o + k * 15 + 2, none⟩ = some (.int .i64 t.stub.view) := HC.out 2 _ rfl
        have c3 : wr.cell? ⟨b, o + k * 15 + 3, none⟩ = some (.int .i64 t.stub.under) := HC.out 3 _ rfl
        have c4 : wr.cell? ⟨b, o + k * 15 + 4, none⟩ = some (.int .u64 t.stub.parent) := HC.out 4 _ rfl
        have c5 : wr.cell? ⟨b, o + k * 15 + 5, none⟩ = some (.int .u64 t.stub.sum) := HC.out 5 _ rfl
        have c6 : wr.cell? ⟨b, o + k * 15 + 6, none⟩ = some (.int .i64 t.entry.view) := HC.out 6 _ rfl
        have c7 : wr.cell? ⟨b, o + k * 15 + 7, none⟩ = some (.int .i64 t.entry.op) := HC.out 7 _ rfl
        have c8 : wr.cell? ⟨b, o + k * 15 + 8, none⟩ = some (.int .i64 t.entry.under) := HC.out 8 _ rfl
        have c9 : wr.cell? ⟨b, o + k * 15 + 9, none⟩ = some (.int .u64 t.entry.parent) := HC.out 9 _ rfl
        have c10 : wr.cell? ⟨b, o + k * 15 + 10, none⟩ = some (.int .i64 t.entry.client) := HC.out 10 _ rfl
        have c11 : wr.cell? ⟨b, o + k * 15 + 11, none⟩ = some (.int .i64 t.entry.session) := HC.out 11 _ rfl
        have c12 : wr.cell? ⟨b, o + k * 15 + 12, none⟩ = some (.int .i64 t.entry.request) := HC.out 12 _ rfl
        have c13 : wr.cell? ⟨b, o + k * 15 + 13, none⟩ = some (.int .i64 t.entry.operation) := HC.out 13 _ rfl
        have c14 : wr.cell? ⟨b, o + k * 15 + 14, none⟩ = some (.string t.entry.body) := HC.out 14 _ rfl
        have b1 : Below wr.heap.size wr ((wr.alloc (.cells #[.int .i64 3, .int .i64 t.stub.op, .int .i64 t.stub.view, .int .i64 t.stub.under, .int .u64 t.stub.parent, .int .u64 t.stub.sum, .int .i64 t.entry.view, .int .i64 t.entry.op, .int .i64 t.entry.under, .int .u64 t.entry.parent, .int .i64 t.entry.client, .int .i64 t.entry.session, .int .i64 t.entry.request, .int .i64 t.entry.operation, .string t.entry.body] 68)).alloc (.cells #[.int .u8 3] 5)) := ((Below.refl _ _).alloc (Nat.le_refl _) _).alloc (by simp) _
        have HVA : Hid (Bs w0.heap.size ((wr.alloc (.cells #[.int .i64 3, .int .i64 t.stub.op, .int .i64 t.stub.view, .int .i64 t.stub.under, .int .u64 t.stub.parent, .int .u64 t.stub.sum, .int .i64 t.entry.view, .int .i64 t.entry.op, .int .i64 t.entry.under, .int .u64 t.entry.parent, .int .i64 t.entry.client, .int .i64 t.entry.session, .int .i64 t.entry.request, .int .i64 t.entry.operation, .string t.entry.body] 68)).alloc (.cells #[.int .u8 3] 5)) _ (l ++ itemsB (m.items.take k))) := HBS.out.later b1
        have HBA : Hid (Below w0.heap.size w ((wr.alloc (.cells #[.int .i64 3, .int .i64 t.stub.op, .int .i64 t.stub.view, .int .i64 t.stub.under, .int .u64 t.stub.parent, .int .u64 t.stub.sum, .int .i64 t.entry.view, .int .i64 t.entry.op, .int .i64 t.entry.under, .int .u64 t.entry.parent, .int .i64 t.entry.client, .int .i64 t.entry.session, .int .i64 t.entry.request, .int .i64 t.entry.operation, .string t.entry.body] 68)).alloc (.cells #[.int .u8 3] 5))) := HBr.out.trans (b1.mono hsz)
        have hz : w0.heap.size ≤ ((wr.alloc (.cells #[.int .i64 3, .int .i64 t.stub.op, .int .i64 t.stub.view, .int .i64 t.stub.under, .int .u64 t.stub.parent, .int .u64 t.stub.sum, .int .i64 t.entry.view, .int .i64 t.entry.op, .int .i64 t.entry.under, .int .u64 t.entry.parent, .int .i64 t.entry.client, .int .i64 t.entry.session, .int .i64 t.entry.request, .int .i64 t.entry.operation, .string t.entry.body] 68)).alloc (.cells #[.int .u8 3] 5)).heap.size := Nat.le_trans hsz b1.size
        have H1 : Hid (Lib.HoldsBytes ((wr.alloc (.cells #[.int .i64 3, .int .i64 t.stub.op, .int .i64 t.stub.view, .int .i64 t.stub.under, .int .u64 t.stub.parent, .int .u64 t.stub.sum, .int .i64 t.entry.view, .int .i64 t.entry.op, .int .i64 t.entry.under, .int .u64 t.entry.parent, .int .i64 t.entry.client, .int .i64 t.entry.session, .int .i64 t.entry.request, .int .i64 t.entry.operation, .string t.entry.body] 68)).alloc (.cells #[.int .u8 3] 5)) (.slice (some ⟨wr.heap.size + 1, 0, none⟩) 1 1) [UInt8.ofNat 3]) := by
          have := one_holds (wr.alloc (.cells #[.int .i64 3, .int .i64 t.stub.op, .int .i64 t.stub.view, .int .i64 t.stub.under, .int .u64 t.stub.parent, .int .u64 t.stub.sum, .int .i64 t.entry.view, .int .i64 t.entry.op, .int .i64 t.entry.under, .int .u64 t.entry.parent, .int .i64 t.entry.client, .int .i64 t.entry.session, .int .i64 t.entry.request, .int .i64 t.entry.operation, .string t.entry.body] 68)) 3 (by omega) (by omega) 5 1
          rw [World.size_alloc] at this
          exact this
        have Hr : Hid ((l ++ itemsB (m.items.take k)).length + [UInt8.ofNat 3].length ≤ 1000000000) := by show (l ++ itemsB (m.items.take k)).length + 1 ≤ _; omega
        have HX : Hid (∀ j v, (#[.int .i64 3, .int .i64 t.stub.op, .int .i64 t.stub.view, .int .i64 t.stub.under, .int .u64 t.stub.parent, .int .u64 t.stub.sum, .int .i64 t.entry.view, .int .i64 t.entry.op, .int .i64 t.entry.under, .int .u64 t.entry.parent, .int .i64 t.entry.client, .int .i64 t.entry.session, .int .i64 t.entry.request, .int .i64 t.entry.operation, .string t.entry.body] : Array Value)[j]? = some v → ((wr.alloc (.cells #[.int .i64 3, .int .i64 t.stub.op, .int .i64 t.stub.view, .int .i64 t.stub.under, .int .u64 t.stub.parent, .int .u64 t.stub.sum, .int .i64 t.entry.view, .int .i64 t.entry.op, .int .i64 t.entry.under, .int .u64 t.entry.parent, .int .i64 t.entry.client, .int .i64 t.entry.session, .int .i64 t.entry.request, .int .i64 t.entry.operation, .string t.entry.body] 68)).alloc (.cells #[.int .u8 3] 5)).cell? ⟨wr.heap.size, j, none⟩ = some v) := by
          intro j v hv
          have e := Below.heap_alloc (wr.alloc (.cells #[.int .i64 3, .int .i64 t.stub.op, .int .i64 t.stub.view, .int .i64 t.stub.under, .int .u64 t.stub.parent, .int .u64 t.stub.sum, .int .i64 t.entry.view, .int .i64 t.entry.op, .int .i64 t.entry.under, .int .u64 t.entry.parent, .int .i64 t.entry.client, .int .i64 t.entry.session, .int .i64 t.entry.request, .int .i64 t.entry.operation, .string t.entry.body] 68)) (.cells #[.int .u8 3] 5) wr.heap.size (by simp)
          have e2 := heap_alloc_new wr (.cells #[.int .i64 3, .int .i64 t.stub.op, .int .i64 t.stub.view, .int .i64 t.stub.under, .int .u64 t.stub.parent, .int .u64 t.stub.sum, .int .i64 t.entry.view, .int .i64 t.entry.op, .int .i64 t.entry.under, .int .u64 t.entry.parent, .int .i64 t.entry.client, .int .i64 t.entry.session, .int .i64 t.entry.request, .int .i64 t.entry.operation, .string t.entry.body] 68 (0, 0))
          rw [cell_of_row _ wr.heap.size j _ _ _ (e.trans e2)]
          exact hv
        have HK := Lib.hid e0
        have HSz := Lib.hid hsz
        have HLL := Lib.hid hll
        clear b1 HC e0 hkk hc hc2 hx ht htk hsz hll
        go_wp2_with (first | (at_builtin; refine wpList_append_Bs rfl _ _ 51 rfl w0.heap.size 5 i0 Tryd.underlying51 hi hz0 hz1 hz2 _ _ rfl HVA.out (.slice (some ⟨wr.heap.size + 1, 0, none⟩) 1 1) _ rfl H1.out (fun c e => nomatch e) Hr.out hz ?_; intro v1 w1 hv1 hg1; have HV1 := Lib.hid hv1; have HB1 : Hid (Below w0.heap.size w w1) := HBA.out.trans (Bs.below HVA.out hg1 hz); have HZ1 : Hid (w0.heap.size ≤ w1.heap.size) := Nat.le_trans hz hg1.size; have g0 : w1.cell? ⟨wr.heap.size, 0, none⟩ = some (.int .i64 3) := grown_cell hg1 (HBS.out.new (Nat.le_refl _)) (HX.out 0 _ rfl); clear hv1 hg1))
        go_roundw
        case rel => exact ⟨k + 1, by omega, by go_num, HB1.out, bs_eq (by rw [HTk.out, itemB, HK.out]; simp) HV1.out⟩
        case measure => simp [intOf]; omega
    · obtain rfl : k = m.items.length := by omega
      go_wp2
      go_ret
      exact ⟨_, rfl, bs_eq (by rw [List.take_length]) HBS.out, HBr.out⟩

end Go.Proofs.YtmidfknlmjgjpaaDoor
