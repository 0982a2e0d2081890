/- The walk of msg.part: the list of entries, the items. -/
import Derived.Test.YtmidfknlmjgjpaaDoorPart1
namespace Go.Proofs.YtmidfknlmjgjpaaDoor
open Go.RowKit

theorem Bs.new {B : Nat} {w : World} {v : Value} {l : List UInt8} (h : Bs B w v l) {k : Nat} (hk : w.heap.size ≤ k) : v.ownBlock ≠ some k := by
  obtain ⟨h1, ⟨rfl, h2⟩ | ⟨g, cap, rfl, h3, h4, h5, hg, hc, hf⟩⟩ := h
  · intro e; cases e
  · intro e
    have : g = k := by simpa [Value.ownBlock] using e
    omega

theorem grown_cell {w w' : World} {row : Option Nat} (h : w.grownBy w' row) {g i : Nat} {x : Value} (hg : row ≠ some g) (hx : w.cell? ⟨g, i, none⟩ = some x) : w'.cell? ⟨g, i, none⟩ = some x := by
  have e := h.block g (World.block_lt_of_cell? _ _ hx) (Ne.symm hg)
  rw [World.cell?_of_block (w := w) (a := ⟨g, i, none⟩) e]
  exact hx

def textsB (l : List Entry) : List UInt8 := (l.map textB).flatten
theorem textB_len {e : Entry} (h : e.right = true) : (textB e).length ≤ 330 := by
  have := (ent_right h).2.2.2.2.2
  rw [textB, List.length_append, Pl.putLE_length, ent_bytes_length]; omega
theorem textsB_len {l : List Entry} (h : ∀ e ∈ l, e.right = true) : (textsB l).length ≤ 330 * l.length := by
  induction l with
  | nil => simp [textsB]
  | cons e l ih =>
    have h1 := textB_len (h e (by simp))
    have h2 := ih (fun x hx => h x (by simp [hx]))
    simp only [textsB, List.map_cons, List.flatten_cons, List.length_append, List.length_cons] at h2 ⊢
    omega
theorem textsB_snoc {l : List Entry} {k : Nat} {e : Entry} (h : l[k]? = some e) : textsB (l.take (k + 1)) = textsB (l.take k) ++ textB e := by
  rw [textsB, List.take_add_one, h]; simp [textsB]

set_option maxRecDepth 100000 in
set_option maxHeartbeats 2000000 in
theorem part_L (w0 w : World) (v : Value) (l : List UInt8) (m : Msg) (ea : Option Addr) (ec : Nat) (iv : Value) (hb : Below w0.heap.size w0 w) (hv : Bs w0.heap.size w v l) (hl : l.length ≤ 800000)
    (hr : ∀ e ∈ m.entries, e.right = true) (hw : ∀ e ∈ m.entries, e.wf) (hn : m.entries.length ≤ 8) (hre : RowAt w0 ea m.entries.length 9 (entAt m.entries)) :
    Calls Tryd.prog 33 #[v, .agg (msgC m (.slice ea m.entries.length ec) iv), .int .i32 76] w fun x w' => ∃ v', x = .returned v' ∧ Bs w0.heap.size w' v' (l ++ (UInt8.ofNat m.entries.length :: textsB m.entries)) ∧ Below w0.heap.size w w' := by
  obtain ⟨i0, hi, hz0, hz1, hz2⟩ := info_parts info_u8
  have HV := Lib.hid hv
  have HB := Lib.hid hb
  have HR := Lib.hid hr
  have HW := Lib.hid hw
  have HRE := Lib.hid hre
  have HM : Hid (Below w.heap.size w ((w.alloc (.cells (msgC m (.slice ea m.entries.length ec) iv) 31)).alloc (.cells #[.int .u8 (m.entries.length : Int)] 5))) := ((Below.refl _ _).alloc (Nat.le_refl _) _).alloc (by simp) _
  have HVN : Hid (Bs w0.heap.size ((w.alloc (.cells (msgC m (.slice ea m.entries.length ec) iv) 31)).alloc (.cells #[.int .u8 (m.entries.length : Int)] 5)) v l) := hv.later HM.out
  have hz : w0.heap.size ≤ ((w.alloc (.cells (msgC m (.slice ea m.entries.length ec) iv) 31)).alloc (.cells #[.int .u8 (m.entries.length : Int)] 5)).heap.size := Nat.le_trans hb.size HM.out.size
  have H1 : Hid (Lib.HoldsBytes ((w.alloc (.cells (msgC m (.slice ea m.entries.length ec) iv) 31)).alloc (.cells #[.int .u8 (m.entries.length : Int)] 5)) (.slice (some ⟨w.heap.size + 1, 0, none⟩) 1 1) [UInt8.ofNat m.entries.length]) := by
    have := one_holds (w.alloc (.cells (msgC m (.slice ea m.entries.length ec) iv) 31)) (m.entries.length : Int) (by omega) (by omega) 5 1
    rw [World.size_alloc, Int.toNat_natCast] at this
    exact this
  have Hr : Hid (l.length + [UInt8.ofNat m.entries.length].length ≤ 1000000000) := by show l.length + 1 ≤ _; omega
  have H30 : Hid (((w.alloc (.cells (msgC m (.slice ea m.entries.length ec) iv) 31)).alloc (.cells #[.int .u8 (m.entries.length : Int)] 5)).cell? ⟨w.heap.size, 30, none⟩ = some (.slice ea m.entries.length ec)) := by
    have e := Below.heap_alloc (w.alloc (.cells (msgC m (.slice ea m.entries.length ec) iv) 31)) (.cells #[.int .u8 (m.entries.length : Int)] 5) w.heap.size (by simp)
    have e2 := heap_alloc_new w (.cells (msgC m (.slice ea m.entries.length ec) iv) 31 (0, 0))
    show ((w.alloc (.cells (msgC m (.slice ea m.entries.length ec) iv) 31)).alloc (.cells #[.int .u8 (m.entries.length : Int)] 5)).cell? _ = _
    rw [cell_of_row _ w.heap.size 30 _ _ _ (e.trans e2)]
    rfl
  clear hv hb hr hw hre
  unfold msgC at HM HVN hz H1 H30 ⊢
  go_enter Tryd.func33, Tryd.ntmps33
  go_wp2_with (at_builtin; refine wpList_append_Bs rfl _ _ 51 rfl w0.heap.size 5 i0 Tryd.underlying51 hi hz0 hz1 hz2 _ _ rfl HVN.out (.slice (some ⟨w.heap.size + 1, 0, none⟩) 1 1) _ rfl H1.out (fun c e => nomatch e) Hr.out hz ?_; intro v1 w1 hv1 hg1; have HV1 := Lib.hid hv1; have HB1 : Hid (Below w0.heap.size w w1) := (HM.out.mono HB.out.size).trans (Bs.below HVN.out hg1 hz); have g30 : w1.cell? ⟨w.heap.size, 30, none⟩ = some (.slice ea m.entries.length ec) := grown_cell hg1 (HV.out.new (Nat.le_refl _)) H30.out; clear hv1 hg1)
  clear g30 HM HVN hz H1 Hr H30 HV hi hz0 hz1 hz2
  go_loopw [0, 52] (fun bv i wr => ∃ k : Nat, k ≤ m.entries.length ∧ i = .int .i64 k ∧ Below w0.heap.size w wr ∧ Bs w0.heap.size wr bv (l ++ [UInt8.ofNat m.entries.length] ++ textsB (m.entries.take k))) (fun _ i _ => m.entries.length - (intOf i).toNat)
  case atStart => exact ⟨0, by omega, rfl, HB1.out, by simpa [textsB] using HV1.out⟩
  case round =>
    obtain ⟨k, hk, rfl, hb, hbs⟩ := hrel
    have HBr := Lib.hid hb
    have HBS := Lib.hid hbs
    clear hb hbs
    by_cases hlt : k < m.entries.length
    · obtain ⟨b, o, rfl, hc⟩ := HRE.out (by omega)
      have hx : m.entries.getD k zeroEntry = m.entries[k] := by rw [List.getD_eq_getElem?_getD, List.getElem?_eq_getElem hlt]; rfl
      obtain ⟨e, he⟩ : ∃ e, e = m.entries[k] := ⟨_, rfl⟩
      have hc2 : ∀ j v, (entC e)[j]? = some v → wr.cell? ⟨b, o + k * 9 + j, none⟩ = some v := by
        intro j v hv
        have := hc k hlt j v (by rw [entAt, hx, ← he]; exact hv)
        rw [(HB.out.trans HBr.out).cell (World.block_lt_of_cell? _ _ this)]; exact this
      have hek : m.entries[k]? = some e := by rw [List.getElem?_eq_getElem hlt, he]
      have HC := Lib.hid hc2
      have hem := List.mem_of_getElem? hek
      have HEr := Lib.hid (HR.out e hem)
      have HEw := Lib.hid (HW.out e hem)
      have HEk := Lib.hid (textsB_snoc hek)
      have hll : (l ++ [UInt8.ofNat m.entries.length] ++ textsB (m.entries.take k)).length ≤ 900000 := by
        have h1 := textsB_len (l := m.entries.take k) (fun x hx => HR.out x (List.mem_of_mem_take hx))
        have h2 : (m.entries.take k).length ≤ k := by rw [List.length_take]; omega
        rw [List.length_append, List.length_append, List.length_singleton]
        omega
      have HLL := Lib.hid hll
      have hsz : w0.heap.size ≤ wr.heap.size := Nat.le_trans HB.out.size HBr.out.size
      have HSZ : Hid (w0.heap.size ≤ (wr.alloc (.cells (entC e) 27)).heap.size) := by show _ ≤ _; rw [World.size_alloc]; omega
      have HSz := Lib.hid hsz
      have c0 : wr.cell? ⟨b, o + k * 9, none⟩ = some (.int .i64 e.view) := HC.out 0 _ rfl
      have c1 : wr.cell? ⟨b, o + k * 9 + 1, none⟩ = some (.int .i64 e.op) := HC.out 1 _ rfl
      have c2 : wr.cell? ⟨b, o + k * 9 + 2, none⟩ = some (.int .i64 e.under) := HC.out 2 _ rfl
      have c3 : wr.cell? ⟨b, o + k * 9 + 3, none⟩ = some (.int .u64 e.parent) := HC.out 3 _ rfl
      have c4 : wr.cell? ⟨b, o + k * 9 + 4, none⟩ = some (.int .i64 e.client) := HC.out 4 _ rfl
      have c5 : wr.cell? ⟨b, o + k * 9 + 5, none⟩ = some (.int .i64 e.session) := HC.out 5 _ rfl
      have c6 : wr.cell? ⟨b, o + k * 9 + 6, none⟩ = some (.int .i64 e.request) := HC.out 6 _ rfl
      have c7 : wr.cell? ⟨b, o + k * 9 + 7, none⟩ = some (.int .i64 e.operation) := HC.out 7 _ rfl
      have c8 : wr.cell? ⟨b, o + k * 9 + 8, none⟩ = some (.string e.body) := HC.out 8 _ rfl
      clear hc hc2 hx he hek HC hem hll hsz
      go_wp2_with (go_at_call 61; refine (text_any w0.heap.size _ _ e _ (HBS.out.later ((Below.refl _ _).alloc (Nat.le_refl _) _)) HSZ.out HLL.out HEr.out HEw.out).mono ?_; rintro x w2 ⟨v2, rfl, hv2, hb2⟩; have HV2 := Lib.hid hv2; have HB2 : Hid (Below w0.heap.size w w2) := HBr.out.trans ((below_box hb2 (by simp)).mono HSz.out); clear hv2 hb2)
      go_roundw
      case rel => exact ⟨k + 1, by omega, by go_num, HB2.out, bs_eq (by rw [HEk.out]; simp) HV2.out⟩
      case measure => simp [intOf]; omega
    · obtain rfl : k = m.entries.length := by omega
      go_wp2
      go_ret
      exact ⟨_, rfl, bs_eq (by rw [List.take_length]; simp) HBS.out, HBr.out⟩

end Go.Proofs.YtmidfknlmjgjpaaDoor
