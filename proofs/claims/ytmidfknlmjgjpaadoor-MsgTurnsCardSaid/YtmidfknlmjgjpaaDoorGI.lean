/- The walks of msg.Right (whole), msg.header, msg.text. The walk of msg.part: the checkpoint's mark, the sums, the entry, the body. The walk of msg.part: the list of entries, the items. -/
import Derived.Test.YtmidfknlmjgjpaaDoorKRight3
namespace Go.Proofs.YtmidfknlmjgjpaaDoor
open Go.RowKit

/-- msg.Right, whole. -/
theorem right_any (m : Msg) (ea ia : Option Addr) (ec ic : Nat) (w : World) (ha : AllAt w) (hw : m.wf)
    (hre : RowAt w ea m.entries.length 9 (entAt m.entries)) (hri : RowAt w ia m.items.length 15 (itemAt m.items)) :
    Calls Tryd.prog 21 #[.agg (msgC m (.slice ea m.entries.length ec) (.slice ia m.items.length ic))] w fun e w' => e = .returned (.bool (rightM m)) ∧ Below w.heap.size w w' := by
  by_cases hk : 1 ≤ m.kind ∧ m.kind ≤ 16
  · obtain ⟨hk1, hk2⟩ := hk
    cases h : headOk m
    · exact right_head m _ _ w ha hk1 hk2 h
    · by_cases hb : m.body.size ≤ mostOf m.kind
      · cases hE : (fieldsOf m.kind).contains 69
        · exact right_main m ea ia ec ic w ha hk1 hk2 h hb (by rw [hE]; rfl) hw hre hri
        · cases he : m.entry.right
          · exact right_ent m _ _ w ha hk1 hk2 h hb hE he hw.1.2
          · exact right_main m ea ia ec ic w ha hk1 hk2 h hb (by rw [he]; simp) hw hre hri
      · exact right_body m _ _ w ha hk1 hk2 h (by omega) hw.2.2.2.1
  · exact right_kind m _ _ w (by omega)

def Msg.head (m : Msg) : Head := { kind := m.kind, src := m.src, operation := m.operation, view := m.view, op := m.op, commit := m.commit, client := m.client, session := m.session, request := m.request, a := m.logView, b := m.index + m.size, parent := 0 }

set_option maxRecDepth 100000 in
set_option maxHeartbeats 1000000 in
theorem msgHeader_any (m : Msg) (ev iv : Value) (w : World) (h1 : fitB m.index = true) (h2 : fitB m.size = true) :
    Calls Tryd.prog 35 #[.agg (msgC m ev iv)] w fun x w' => x = .returned (.agg (headC m.head)) ∧ Below w.heap.size w w' := by
  simp only [fitB, Bool.and_eq_true, decide_eq_true_eq] at h1 h2
  obtain ⟨i0, i1⟩ := h1
  obtain ⟨z0, z1⟩ := h2
  unfold msgC
  go_enter Tryd.func35, Tryd.ntmps35
  go_wp2
  exact bodyPost_ret (v := .agg #[.int .i64 m.kind, .int .i64 m.src, .int .i64 m.operation, .int .i64 m.view, .int .i64 m.op, .int .i64 m.commit, .int .i64 m.client, .int .i64 m.session, .int .i64 m.request, .int .i64 m.logView, .int .i64 (m.index + m.size), .int .u64 0]) (by simp [results, Tryd.results35, go_sem]) rfl ⟨rfl, ((Below.refl _ _).alloc (Nat.le_refl _) _).alloc (by simp) _⟩

def textB (e : Entry) : List UInt8 := Pl.putLE (128 + e.body.size) 2 ++ e.bytes

set_option maxRecDepth 100000 in
set_option maxHeartbeats 1000000 in
theorem text_any (B : Nat) (v : Value) (l : List UInt8) (e : Entry) (w : World) (hv : Bs B w v l) (hB : B ≤ w.heap.size) (hl : l.length ≤ 900000) (hr : e.right = true) (hw : e.wf) :
    Calls Tryd.prog 61 #[v, .agg (entC e)] w fun x w' => ∃ v', x = .returned v' ∧ Bs B w' v' (l ++ textB e) ∧ Below w.heap.size w w' := by
  have HV := Lib.hid hv
  have HR := Lib.hid hr
  have HW := Lib.hid hw
  have HS : Hid ((str e.bytes).size ≤ 65535) := by
    have := (ent_right hr).2.2.2.2.2
    show (str e.bytes).size ≤ 65535
    rw [str_size, ent_bytes_length]
    omega
  clear hv hr hw
  unfold entC
  go_enter Tryd.func61, Tryd.ntmps61
  go_wp2_with (first | (go_at_call 86; refine (entPack_ok e HR.out HW.out.1.1 HW.out.1.2 _).mono ?_; rintro x w1 ⟨rfl, hb1⟩; have HB1 := Lib.hid (below_box hb1 (by simp)); clear hb1) | (go_at_call 87; refine (putText_any _ _ _ HS.out (by omega) _ (HV.out.later HB1.out).holds).mono ?_; rintro x w2 ⟨v', rfl, hb2, hc2⟩; have HB2 := Lib.hid hb2; have HC2 := Lib.hid hc2; clear hb2 hc2))
  go_ret
  have hz := HB1.out.size
  refine ⟨v', rfl, ?_, HB1.out.trans (HC2.out.mono hz)⟩
  refine bs_eq ?_ (HB2.out.mono (by omega))
  rw [str_size, ent_bytes_length, textB, List.append_assoc]

/-- Numbers in a block just laid. -/
theorem nums_at (w : World) (ns : List Int) (T g : Nat) (hg : w.heap.size = g) : ∀ j x, ns[j]? = some x → (w.alloc (.cells (ns.map fun n => Value.int .u64 n).toArray T)).cell? ⟨g, 0 + j, none⟩ = some (.int .u64 x) := by
  intro j x hx
  subst hg
  rw [cell_of_row _ w.heap.size (0 + j) _ _ _ (heap_alloc_new w _), Nat.zero_add]
  simp [hx]

theorem U64.fit {n : Int} (h0 : 0 ≤ n) (h1 : n ≤ 72057594037927935) : U64 n := ⟨h0, by omega⟩

set_option maxRecDepth 100000 in
set_option maxHeartbeats 2000000 in
theorem part_C (B : Nat) (v : Value) (l : List UInt8) (m : Msg) (ev iv : Value) (w : World) (hv : Bs B w v l) (hB : B ≤ w.heap.size) (hl : l.length ≤ 900000) (h1 : fitB m.check.op = true) (h2 : fitB m.check.view = true) (h3 : U64 m.check.sum) :
    Calls Tryd.prog 33 #[v, .agg (msgC m ev iv), .int .i32 67] w fun x w' => ∃ v', x = .returned v' ∧ Bs B w' v' (l ++ flat8 [m.check.op, m.check.view, m.check.sum]) ∧ Below B w w' := by
  simp only [fitB, Bool.and_eq_true, decide_eq_true_eq] at h1 h2
  obtain ⟨p0, p1⟩ := h1
  obtain ⟨q0, q1⟩ := h2
  have HV := Lib.hid hv
  have hu : ∀ x ∈ [m.check.op, m.check.view, m.check.sum], U64 x := by
    intro x hx
    simp only [List.mem_cons, List.not_mem_nil, or_false] at hx
    rcases hx with rfl | rfl | rfl
    · exact U64.fit p0 p1
    · exact U64.fit q0 q1
    · exact h3
  have HU := Lib.hid hu
  clear hv h3 hu
  unfold msgC
  go_enter Tryd.func33, Tryd.ntmps33
  go_wp2_with fail
  refine (eight_any B v l (w.heap.size + 1) 0 3 [m.check.op, m.check.view, m.check.sum] _ (HV.out.later (((Below.refl _ _).alloc (Nat.le_refl _) _).alloc (by simp) _)) (by simp; omega) (by simp) hl (nums_at _ [m.check.op, m.check.view, m.check.sum] _ _ (by simp)) HU.out).mono ?_
  rintro x w1 ⟨v', rfl, hv1, hb1⟩
  have HV1 := Lib.hid hv1
  have HB1 : Hid (Below w.heap.size w w1) := below_box (below_box hb1 (by simp)) (by simp)
  clear hv1 hb1
  go_wp2_with fail
  go_ret
  exact ⟨_, rfl, HV1.out, HB1.out.mono hB⟩

theorem sums_at (w : World) (m : Msg) (ev iv : Value) (T : Nat) : ∀ j x, [m.s0, m.s1, m.s2, m.s3, m.s4, m.s5][j]? = some x → (w.alloc (.cells (msgC m ev iv) T)).cell? ⟨w.heap.size, 15 + j, none⟩ = some (.int .u64 x) := by
  intro j x hx
  rw [cell_of_row _ w.heap.size (15 + j) _ _ _ (heap_alloc_new w _)]
  match j, hx with
  | 0, hx => simp at hx; subst hx; rfl
  | 1, hx => simp at hx; subst hx; rfl
  | 2, hx => simp at hx; subst hx; rfl
  | 3, hx => simp at hx; subst hx; rfl
  | 4, hx => simp at hx; subst hx; rfl
  | 5, hx => simp at hx; subst hx; rfl
  | k + 6, hx => simp at hx

set_option maxRecDepth 100000 in
set_option maxHeartbeats 2000000 in
theorem part_S (B : Nat) (v : Value) (l : List UInt8) (m : Msg) (ev iv : Value) (w : World) (hv : Bs B w v l) (hB : B ≤ w.heap.size) (hl : l.length ≤ 900000) (h3 : ∀ x ∈ [m.s0, m.s1, m.s2, m.s3, m.s4, m.s5], U64 x) :
    Calls Tryd.prog 33 #[v, .agg (msgC m ev iv), .int .i32 83] w fun x w' => ∃ v', x = .returned v' ∧ Bs B w' v' (l ++ flat8 [m.s0, m.s1, m.s2, m.s3, m.s4, m.s5]) ∧ Below B w w' := by
  have HV := Lib.hid hv
  have HU := Lib.hid h3
  clear hv h3
  unfold msgC
  go_enter Tryd.func33, Tryd.ntmps33
  go_wp2_with fail
  refine (eight_any B v l w.heap.size 15 6 [m.s0, m.s1, m.s2, m.s3, m.s4, m.s5] _ (HV.out.later ((Below.refl _ _).alloc (Nat.le_refl _) _)) (by simp; omega) (by simp) hl (sums_at w m ev iv _) HU.out).mono ?_
  rintro x w1 ⟨v', rfl, hv1, hb1⟩
  have HV1 := Lib.hid hv1
  have HB1 : Hid (Below w.heap.size w w1) := below_box hb1 (by simp)
  clear hv1 hb1
  go_wp2_with fail
  go_ret
  exact ⟨_, rfl, HV1.out, HB1.out.mono hB⟩

set_option maxRecDepth 100000 in
set_option maxHeartbeats 2000000 in
theorem part_E (B : Nat) (v : Value) (l : List UInt8) (m : Msg) (ev iv : Value) (w : World) (hv : Bs B w v l) (hB : B ≤ w.heap.size) (hl : l.length ≤ 900000) (hr : m.entry.right = true) (hw : m.entry.wf) :
    Calls Tryd.prog 33 #[v, .agg (msgC m ev iv), .int .i32 69] w fun x w' => ∃ v', x = .returned v' ∧ Bs B w' v' (l ++ textB m.entry) ∧ Below B w w' := by
  have HV := Lib.hid hv
  have HR := Lib.hid hr
  have HW := Lib.hid hw
  clear hv hr hw
  unfold msgC
  go_enter Tryd.func33, Tryd.ntmps33
  go_wp2_with fail
  refine (text_any B v l m.entry _ (HV.out.later ((Below.refl _ _).alloc (Nat.le_refl _) _)) (by simp; omega) hl HR.out HW.out).mono ?_
  rintro x w1 ⟨v', rfl, hv1, hb1⟩
  have HV1 := Lib.hid hv1
  have HB1 : Hid (Below w.heap.size w w1) := below_box hb1 (by simp)
  clear hv1 hb1
  go_wp2_with fail
  go_ret
  exact ⟨_, rfl, HV1.out, HB1.out.mono hB⟩

set_option maxRecDepth 100000 in
set_option maxHeartbeats 2000000 in
theorem part_B (B : Nat) (v : Value) (l : List UInt8) (m : Msg) (ev iv : Value) (w : World) (hv : Bs B w v l) (hB : B ≤ w.heap.size) (hl : l.length ≤ 900000) (hb : m.body.size ≤ 1000) :
    Calls Tryd.prog 33 #[v, .agg (msgC m ev iv), .int .i32 66] w fun x w' => ∃ v', x = .returned v' ∧ Bs B w' v' (l ++ m.body.data.toList) ∧ Below B w w' := by
  obtain ⟨i0, hi, hz0, hz1, hz2⟩ := info_parts info_u8
  have HV : Hid (Bs B (w.alloc (.cells (msgC m ev iv) 31)) v l) := hv.later ((Below.refl _ _).alloc (Nat.le_refl _) _)
  have hz : B ≤ (w.alloc (.cells (msgC m ev iv) 31)).heap.size := by simp; omega
  have Hr : Hid (l.length + m.body.size ≤ 1000000000) := by show _ ≤ _; omega
  clear hv
  unfold msgC at HV hz ⊢
  go_enter Tryd.func33, Tryd.ntmps33
  go_wp2_with (at_builtin; refine wpList_append_Bs_str rfl _ _ 51 9 rfl B 5 i0 Tryd.underlying51 Tryd.underlying9 hi hz0 hz1 hz2 _ _ rfl HV.out m.body rfl Hr.out hz ?_; intro v1 w1 hv1 hg1; have HV1 := Lib.hid hv1; have HB1 := Lib.hid (Bs.below HV.out hg1 hz); clear hv1 hg1)
  go_ret
  exact ⟨_, rfl, HV1.out, ((Below.refl _ _).alloc hB _).trans HB1.out⟩

theorem Bs.new {B : Nat} {w : World} {v : Value} {l : List UInt8} (h : Bs B w v l) {k : Nat} (hk : w.heap.size ≤ k) : v.ownBlock ≠ some k := by
  obtain ⟨h1, ⟨rfl, h2⟩ | ⟨g, cap, rfl, h3, h4, h5, hg, hc, hf⟩⟩ := h
  · intro e; cases e
  · intro e
    have : g = k := by simpa [Value.ownBlock] using e
    omega

theorem grown_cell {w w' : World} {row : Option Nat} (h : w.grownBy w' row) {g i : Nat} {x : Value} (hg : row ≠ some g) (hx : w.cell? ⟨g, i, none⟩ = some x) : w'.cell? ⟨g, i, none⟩ = some x := by
  have e := h.block g (World.block_lt_of_cell? _ _ hx) (Ne.symm hg)
  rw [World.cell?_of_block (w := w) (a := ⟨g, i, none⟩) e]
  exact hx

def textsB (l : List Entry) : List UInt8 := (l.map textB).flatten
theorem textB_len {e : Entry} (h : e.right = true) : (textB e).length ≤ 330 := by
  have := (ent_right h).2.2.2.2.2
  rw [textB, List.length_append, Pl.putLE_length, ent_bytes_length]; omega
theorem textsB_len {l : List Entry} (h : ∀ e ∈ l, e.right = true) : (textsB l).length ≤ 330 * l.length := by
  induction l with
  | nil => simp [textsB]
  | cons e l ih =>
    have h1 := textB_len (h e (by simp))
    have h2 := ih (fun x hx => h x (by simp [hx]))
    simp only [textsB, List.map_cons, List.flatten_cons, List.length_append, List.length_cons] at h2 ⊢
    omega
theorem textsB_snoc {l : List Entry} {k : Nat} {e : Entry} (h : l[k]? = some e) : textsB (l.take (k + 1)) = textsB (l.take k) ++ textB e := by
  rw [textsB, List.take_add_one, h]; simp [textsB]

set_option maxRecDepth 100000 in
set_option maxHeartbeats 2000000 in
theorem part_L (w0 w : World) (v : Value) (l : List UInt8) (m : Msg) (ea : Option Addr) (ec : Nat) (iv : Value) (hb : Below w0.heap.size w0 w) (hv : Bs w0.heap.size w v l) (hl : l.length ≤ 800000)
    (hr : ∀ e ∈ m.entries, e.right = true) (hw : ∀ e ∈ m.entries, e.wf) (hn : m.entries.length ≤ 8) (hre : RowAt w0 ea m.entries.length 9 (entAt m.entries)) :
    Calls Tryd.prog 33 #[v, .agg (msgC m (.slice ea m.entries.length ec) iv), .int .i32 76] w fun x w' => ∃ v', x = .returned v' ∧ Bs w0.heap.size w' v' (l ++ (UInt8.ofNat m.entries.length :: textsB m.entries)) ∧ Below w0.heap.size w w' := by
  obtain ⟨i0, hi, hz0, hz1, hz2⟩ := info_parts info_u8
  have HV := Lib.hid hv
  have HB := Lib.hid hb
  have HR := Lib.hid hr
  have HW := Lib.hid hw
  have HRE := Lib.hid hre
  have HM : Hid (Below w.heap.size w ((w.alloc (.cells (msgC m (.slice ea m.entries.length ec) iv) 31)).alloc (.cells #[.int .u8 (m.entries.length : Int)] 5))) := ((Below.refl _ _).alloc (Nat.le_refl _) _).alloc (by simp) _
  have HVN : Hid (Bs w0.heap.size ((w.alloc (.cells (msgC m (.slice ea m.entries.length ec) iv) 31)).alloc (.cells #[.int .u8 (m.entries.length : Int)] 5)) v l) := hv.later HM.out
  have hz : w0.heap.size ≤ ((w.alloc (.cells (msgC m (.slice ea m.entries.length ec) iv) 31)).alloc (.cells #[.int .u8 (m.entries.length : Int)] 5)).heap.size := Nat.le_trans hb.size HM.out.size
  have H1 : Hid (Lib.HoldsBytes ((w.alloc (.cells (msgC m (.slice ea m.entries.length ec) iv) 31)).alloc (.cells #[.int .u8 (m.entries.length : Int)] 5)) (.slice (some ⟨w.heap.size + 1, 0, none⟩) 1 1) [UInt8.ofNat m.entries.length]) := by
    have := one_holds (w.alloc (.cells (msgC m (.slice ea m.entries.length ec) iv) 31)) (m.entries.length : Int) (by omega) (by omega) 5 1
    rw [World.size_alloc, Int.toNat_natCast] at this
    exact this
  have Hr : Hid (l.length + [UInt8.ofNat m.entries.length].length ≤ 1000000000) := by show l.length + 1 ≤ _; omega
  have H30 : Hid (((w.alloc (.cells (msgC m (.slice ea m.entries.length ec) iv) 31)).alloc (.cells #[.int .u8 (m.entries.length : Int)] 5)).cell? ⟨w.heap.size, 30, none⟩ = some (.slice ea m.entries.length ec)) := by
    have e := Below.heap_alloc (w.alloc (.cells (msgC m (.slice ea m.entries.length ec) iv) 31)) (.cells #[.int .u8 (m.entries.length : Int)] 5) w.heap.size (by simp)
    have e2 := heap_alloc_new w (.cells (msgC m (.slice ea m.entries.length ec) iv) 31 (0, 0))
    show ((w.alloc (.cells (msgC m (.slice ea m.entries.length ec) iv) 31)).alloc (.cells #[.int .u8 (m.entries.length : Int)] 5)).cell? _ = _
    rw [cell_of_row _ w.heap.size 30 _ _ _ (e.trans e2)]
    rfl
  clear hv hb hr hw hre
  unfold msgC at HM HVN hz H1 H30 ⊢
  go_enter Tryd.func33, Tryd.ntmps33
  go_wp2_with (at_builtin; refine wpList_append_Bs rfl _ _ 51 rfl w0.heap.size 5 i0 Tryd.underlying51 hi hz0 hz1 hz2 _ _ rfl HVN.out (.slice (some ⟨w.heap.size + 1, 0, none⟩) 1 1) _ rfl H1.out (fun c e => nomatch e) Hr.out hz ?_; intro v1 w1 hv1 hg1; have HV1 := Lib.hid hv1; have HB1 : Hid (Below w0.heap.size w w1) := (HM.out.mono HB.out.size).trans (Bs.below HVN.out hg1 hz); have g30 : w1.cell? ⟨w.heap.size, 30, none⟩ = some (.slice ea m.entries.length ec) := grown_cell hg1 (HV.out.new (Nat.le_refl _)) H30.out; clear hv1 hg1)
  clear g30 HM HVN hz H1 Hr H30 HV hi hz0 hz1 hz2
  go_loopw [0, 52] (fun bv i wr => ∃ k : Nat, k ≤ m.entries.length ∧ i = .int .i64 k ∧ Below w0.heap.size w wr ∧ Bs w0.heap.size wr bv (l ++ [UInt8.ofNat m.entries.length] ++ textsB (m.entries.take k))) (fun _ i _ => m.entries.length - (intOf i).toNat)
  case atStart => exact ⟨0, by omega, rfl, HB1.out, by simpa [textsB] using HV1.out⟩
  case round =>
    obtain ⟨k, hk, rfl, hb, hbs⟩ := hrel
    have HBr := Lib.hid hb
    have HBS := Lib.hid hbs
    clear hb hbs
    by_cases hlt : k < m.entries.length
    · obtain ⟨b, o, rfl, hc⟩ := HRE.out (by omega)
      have hx : m.entries.getD k zeroEntry = m.entries[k] := by rw [List.getD_eq_getElem?_getD, List.getElem?_eq_getElem hlt]; rfl
      obtain ⟨e, he⟩ : ∃ e, e = m.entries[k] := ⟨_, rfl⟩
      have hc2 : ∀ j v, (entC e)[j]? = some v → wr.cell? ⟨b, o + k * 9 + j, none⟩ = some v := by
        intro j v hv
        have := hc k hlt j v (by rw [entAt, hx, ← he]; exact hv)
        rw [(HB.out.trans HBr.out).cell (World.block_lt_of_cell? _ _ this)]; exact this
      have hek : m.entries[k]? = some e := by rw [List.getElem?_eq_getElem hlt, he]
      have HC := Lib.hid hc2
      have hem := List.mem_of_getElem? hek
      have HEr := Lib.hid (HR.out e hem)
      have HEw := Lib.hid (HW.out e hem)
      have HEk := Lib.hid (textsB_snoc hek)
      have hll : (l ++ [UInt8.ofNat m.entries.length] ++ textsB (m.entries.take k)).length ≤ 900000 := by
        have h1 := textsB_len (l := m.entries.take k) (fun x hx => HR.out x (List.mem_of_mem_take hx))
        have h2 : (m.entries.take k).length ≤ k := by rw [List.length_take]; omega
        rw [List.length_append, List.length_append, List.length_singleton]
        omega
      have HLL := Lib.hid hll
      have hsz : w0.heap.size ≤ wr.heap.size := Nat.le_trans HB.out.size HBr.out.size
      have HSZ : Hid (w0.heap.size ≤ (wr.alloc (.cells (entC e) 27)).heap.size) := by show _ ≤ _; rw [World.size_alloc]; omega
      have HSz := Lib.hid hsz
      have c0 : wr.cell? ⟨b, o + k * 9, none⟩ = some (.int .i64 e.view) := HC.out 0 _ rfl
      have c1 : wr.cell? ⟨b, o + k * 9 + 1, none⟩ = some (.int .i64 e.op) := HC.out 1 _ rfl
      have c2 : wr.cell? ⟨b, o + k * 9 + 2, none⟩ = some (.int .i64 e.under) := HC.out 2 _ rfl
      have c3 : wr.cell? ⟨b, o + k * 9 + 3, none⟩ = some (.int .u64 e.parent) := HC.out 3 _ rfl
      have c4 : wr.cell? ⟨b, o + k * 9 + 4, none⟩ = some (.int .i64 e.client) := HC.out 4 _ rfl
      have c5 : wr.cell? ⟨b, o + k * 9 + 5, none⟩ = some (.int .i64 e.session) := HC.out 5 _ rfl
      have c6 : wr.cell? ⟨b, o + k * 9 + 6, none⟩ = some (.int .i64 e.request) := HC.out 6 _ rfl
      have c7 : wr.cell? ⟨b, o + k * 9 + 7, none⟩ = some (.int .i64 e.operation) := HC.out 7 _ rfl
      have c8 : wr.cell? ⟨b, o + k * 9 + 8, none⟩ = some (.string e.body) := HC.out 8 _ rfl
      clear hc hc2 hx he hek HC hem hll hsz
      go_wp2_with (go_at_call 61; refine (text_any w0.heap.size _ _ e _ (HBS.out.later ((Below.refl _ _).alloc (Nat.le_refl _) _)) HSZ.out HLL.out HEr.out HEw.out).mono ?_; rintro x w2 ⟨v2, rfl, hv2, hb2⟩; have HV2 := Lib.hid hv2; have HB2 : Hid (Below w0.heap.size w w2) := HBr.out.trans ((below_box hb2 (by simp)).mono HSz.out); clear hv2 hb2)
      go_roundw
      case rel => exact ⟨k + 1, by omega, by go_num, HB2.out, bs_eq (by rw [HEk.out]; simp) HV2.out⟩
      case measure => simp [intOf]; omega
    · obtain rfl : k = m.entries.length := by omega
      go_wp2
      go_ret
      exact ⟨_, rfl, bs_eq (by rw [List.take_length]; simp) HBS.out, HBr.out⟩

end Go.Proofs.YtmidfknlmjgjpaaDoor
