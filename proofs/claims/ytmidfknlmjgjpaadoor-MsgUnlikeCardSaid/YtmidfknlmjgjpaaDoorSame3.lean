/- The walk of comptorref17.Same. (Written by gen_same3.py.) -/
import Derived.Test.YtmidfknlmjgjpaaDoorSame2
import Derived.Test.YtmidfknlmjgjpaaDoorRead
namespace Go.Proofs.YtmidfknlmjgjpaaDoor
open Go.RowKit

theorem neq_item (x y : Item) (w : World) : (binOp .neq 68 (.agg (itemC x)) (.agg (itemC y))).run Tryd.prog w = .ok (.bool (!x.beq y)) w := by
  rw [run_neq_struct, eqIn_item 9997]; rfl
theorem eql_entry (x y : Entry) (w : World) : (binOp .eql 27 (.agg (entC x)) (.agg (entC y))).run Tryd.prog w = .ok (.bool (x.beq y)) w := by
  rw [run_eql_struct, eqIn_entry 9998]; rfl

theorem ans_no {m n : Msg} {w w' : World} (h : m ≠ n) (hb : Below w.heap.size w w') : AnsB (fun b => b = true ↔ m = n) (.returned (.bool false)) ∧ Below w.heap.size w w' :=
  ⟨⟨false, rfl, by simp only [Bool.false_eq_true, false_iff]; exact h⟩, hb⟩

/-- The state of the loop over the items. -/
def SLoop (m n : Msg) (ev iv fv jv : Value) (w w1 wr : World) (k : Nat) : Prop := MBox m ev iv w wr ∧ MBox n fv jv w1 wr ∧ m.items.take k = n.items.take k

theorem msg_same {m n : Msg} (h1 : m.kind = n.kind ∧ m.src = n.src ∧ m.view = n.view ∧ m.logView = n.logView ∧ m.op = n.op ∧ m.commit = n.commit ∧ m.client = n.client ∧ m.session = n.session ∧ m.request = n.request ∧ m.operation = n.operation ∧ m.index = n.index ∧ m.size = n.size) (h2 : (m.check.op == n.check.op && m.check.view == n.check.view && m.check.sum == n.check.sum) = true)
    (h3 : (m.s0 == n.s0 && m.s1 == n.s1 && m.s2 == n.s2 && m.s3 == n.s3 && m.s4 == n.s4 && m.s5 == n.s5) = true) (h4 : m.entry = n.entry) (h5 : (m.body.toList == n.body.toList) = true) (h6 : m.entries = n.entries) (h7 : m.items = n.items) : m = n := by
  have hb : m.body = n.body := by
    rw [beq_iff_eq, Lib.toList_data, Lib.toList_data] at h5
    have := congrArg str h5
    rwa [str_of, str_of] at this
  rcases hm : m.check with ⟨c1, c2, c3⟩
  rcases hn : n.check with ⟨d1, d2, d3⟩
  rw [hm, hn] at h2
  cases m
  cases n
  simp only [Bool.and_eq_true, beq_iff_eq] at h2 h3
  simp only at hm hn
  subst hm hn
  simp_all

set_option maxRecDepth 100000 in
set_option maxHeartbeats 8000000 in
theorem same17_any (m n : Msg) (ea ia fa ja : Option Addr) (ec ic fc jc : Nat) (w : World) (hf : m.fit) (hg : n.fit) (he : RowAt w ea m.entries.length 9 (entAt m.entries)) (hi : RowAt w ia m.items.length 15 (itemAt m.items)) (he2 : RowAt w fa n.entries.length 9 (entAt n.entries)) (hi2 : RowAt w ja n.items.length 15 (itemAt n.items)) :
    Calls Tryd.prog 13 #[.agg (msgC m (.slice ea m.entries.length ec) (.slice ia m.items.length ic)), .agg (msgC n (.slice fa n.entries.length fc) (.slice ja n.items.length jc))] w fun e w' => AnsB (fun b => b = true ↔ m = n) e ∧ Below w.heap.size w w' := by
  obtain ⟨w1, hw1⟩ : ∃ w1, w1 = w.alloc (.cells (msgC m (.slice ea m.entries.length ec) (.slice ia m.items.length ic)) 31) := ⟨_, rfl⟩
  have hs1 : w1.heap.size = w.heap.size + 1 := by rw [hw1]; simp
  have hN0 : MBox n (.slice fa n.entries.length fc) (.slice ja n.items.length jc) w1 ((w.alloc (.cells (msgC m (.slice ea m.entries.length ec) (.slice ia m.items.length ic)) 31)).alloc (.cells (msgC n (.slice fa n.entries.length fc) (.slice ja n.items.length jc)) 31)) := by rw [← hw1]; exact Below.refl _ _
  have hM0 : MBox m (.slice ea m.entries.length ec) (.slice ia m.items.length ic) w ((w.alloc (.cells (msgC m (.slice ea m.entries.length ec) (.slice ia m.items.length ic)) 31)).alloc (.cells (msgC n (.slice fa n.entries.length fc) (.slice ja n.items.length jc)) 31)) := by
    have h1 : MBox m (.slice ea m.entries.length ec) (.slice ia m.items.length ic) w w1 := by rw [hw1]; exact Below.refl _ _
    exact h1.later hN0.below
  have HM0 := Lib.hid hM0
  have HN0 := Lib.hid hN0
  have HB0 := Lib.hid hM0.below
  have hn1 : m.items.length ≤ 9223372036854775807 := hf.len2
  have hn2 : n.items.length ≤ 9223372036854775807 := hg.len2
  have HE := Lib.hid he
  have HI := Lib.hid hi
  have HE2 := Lib.hid he2
  have HI2 := Lib.hid hi2
  have HF := Lib.hid hf
  have HG := Lib.hid hg
  have HS1 := Lib.hid hs1
  have q30 : ∀ (m : Msg) (ev iv : Value), (msgC m ev iv)[30]? = some ev := fun _ _ _ => rfl
  have q31 : ∀ (m : Msg) (ev iv : Value), (msgC m ev iv)[31]? = some iv := fun _ _ _ => rfl
  clear hw1 he hi he2 hi2 hf hg hM0 hN0 hs1
  by_cases hl : m.items.length = n.items.length
  · have HL := Lib.hid hl
    have hl1 : m.items.length ≤ n.items.length := by omega
    have hl2 : n.items.length ≤ m.items.length := by omega
    clear hl
    go_enter Tryd.func13, Tryd.ntmps13
    go_wp2_with fail
    refine (same09_any m.entries n.entries _ _ _ _ _ (HE.out.later HB0.out) (HE2.out.later HB0.out) HF.out.len1).mono ?_
    rintro x w3 ⟨⟨b, rfl, hb⟩, hb3⟩
    have HM3 := Lib.hid (HM0.out.later hb3)
    have HN3 := Lib.hid (HN0.out.later hb3)
    have Hb := Lib.hid hb
    clear HM0 HN0 HB0 hb hb3 q30 q31
    cases b
    · go_wp2
      go_ret
      refine ans_no (fun h => ?_) HM3.out.below
      have := Hb.out.2 (by rw [h])
      cases this
    · have HEE : Hid (m.entries = n.entries) := Hb.out.1 rfl
      go_wp2
      go_loopw [5] (fun i wr => ∃ k : Nat, k ≤ n.items.length ∧ i = .int .i64 k ∧ SLoop m n (.slice ea m.entries.length ec) (.slice ia m.items.length ic) (.slice fa n.entries.length fc) (.slice ja n.items.length jc) w w1 wr k) (fun i _ => n.items.length - (intOf i).toNat)
      case atStart => exact ⟨0, by omega, rfl, HM3.out, HN3.out, rfl⟩
      case round =>
        obtain ⟨k, hk, rfl, hL⟩ := hrel
        have HLo := Lib.hid hL
        clear hL HM3 HN3
        have HMr : Hid (MBox m (.slice ea m.entries.length ec) (.slice ia m.items.length ic) w wr) := HLo.out.1
        have HNr : Hid (MBox n (.slice fa n.entries.length fc) (.slice ja n.items.length jc) w1 wr) := HLo.out.2.1
        have HT : Hid (m.items.take k = n.items.take k) := HLo.out.2.2
        have g31 : wr.cell? ⟨w.heap.size, 31, none⟩ = some (.slice ia m.items.length ic) := HMr.out.cell rfl
        have h31 : wr.cell? ⟨w.heap.size + 1, 31, none⟩ = some (.slice ja n.items.length jc) := by rw [← HS1.out]; exact HNr.out.cell rfl
        by_cases hlt : k < n.items.length
        · obtain ⟨x, hx⟩ : ∃ x, m.items[k]? = some x := ⟨_, List.getElem?_eq_getElem (by rw [HL.out]; exact hlt)⟩
          obtain ⟨y, hy⟩ : ∃ y, n.items[k]? = some y := ⟨_, List.getElem?_eq_getElem hlt⟩
          obtain ⟨b1, o1, rfl, hc1⟩ := HI.out.itm HMr.out.below hx
          obtain ⟨b2, o2, rfl, hc2⟩ := HI2.out.itm HMr.out.below hy
          have HX := Lib.hid hx
          have HY := Lib.hid hy
          have HC1 := Lib.hid hc1
          have HC2 := Lib.hid hc2
          clear hx hy hc1 hc2
          have hne := fun w => neq_item x y w
          unfold itemC at hne
          have c0 : wr.cell? ⟨b1, o1 + k * 15, none⟩ = some (.int .i64 x.kind) := HC1.out 0 _ rfl
          have c1 : wr.cell? ⟨b1, o1 + k * 15 + 1, none⟩ = some (.int .i64 x.stub.op) := HC1.out 1 _ rfl
          have c2 : wr.cell? ⟨b1, o1 + k * 15 + 2, none⟩ = some (.int .i64 x.stub.view) := HC1.out 2 _ rfl
          have c3 : wr.cell? ⟨b1, o1 + k * 15 + 3, none⟩ = some (.int .i64 x.stub.under) := HC1.out 3 _ rfl
          have c4 : wr.cell? ⟨b1, o1 + k * 15 + 4, none⟩ = some (.int .u64 x.stub.parent) := HC1.out 4 _ rfl
          have c5 : wr.cell? ⟨b1, o1 + k * 15 + 5, none⟩ = some (.int .u64 x.stub.sum) := HC1.out 5 _ rfl
          have c6 : wr.cell? ⟨b1, o1 + k * 15 + 6, none⟩ = some (.int .i64 x.entry.view) := HC1.out 6 _ rfl
          have c7 : wr.cell? ⟨b1, o1 + k * 15 + 7, none⟩ = some (.int .i64 x.entry.op) := HC1.out 7 _ rfl
          have c8 : wr.cell? ⟨b1, o1 + k * 15 + 8, none⟩ = some (.int .i64 x.entry.under) := HC1.out 8 _ rfl
          have c9 : wr.cell? ⟨b1, o1 + k * 15 + 9, none⟩ = some (.int .u64 x.entry.parent) := HC1.out 9 _ rfl
          have c10 : wr.cell? ⟨b1, o1 + k * 15 + 10, none⟩ = some (.int .i64 x.entry.client) := HC1.out 10 _ rfl
          have c11 : wr.cell? ⟨b1, o1 + k * 15 + 11, none⟩ = some (.int .i64 x.entry.session) := HC1.out 11 _ rfl
          have c12 : wr.cell? ⟨b1, o1 + k * 15 + 12, none⟩ = some (.int .i64 x.entry.request) := HC1.out 12 _ rfl
          have c13 : wr.cell? ⟨b1, o1 + k * 15 + 13, none⟩ = some (.int .i64 x.entry.operation) := HC1.out 13 _ rfl
          have c14 : wr.cell? ⟨b1, o1 + k * 15 + 14, none⟩ = some (.string x.entry.body) := HC1.out 14 _ rfl
          have d0 : wr.cell? ⟨b2, o2 + k * 15, none⟩ = some (.int .i64 y.kind) := HC2.out 0 _ rfl
          have d1 : wr.cell? ⟨b2, o2 + k * 15 + 1, none⟩ = some (.int .i64 y.stub.op) := HC2.out 1 _ rfl
          have d2 : wr.cell? ⟨b2, o2 + k * 15 + 2, none⟩ = some (.int .i64 y.stub.view) := HC2.out 2 _ rfl
          have d3 : wr.cell? ⟨b2, o2 + k * 15 + 3, none⟩ = some (.int .i64 y.stub.under) := HC2.out 3 _ rfl
          have d4 : wr.cell? ⟨b2, o2 + k * 15 + 4, none⟩ = some (.int .u64 y.stub.parent) := HC2.out 4 _ rfl
          have d5 : wr.cell? ⟨b2, o2 + k * 15 + 5, none⟩ = some (.int .u64 y.stub.sum) := HC2.out 5 _ rfl
          have d6 : wr.cell? ⟨b2, o2 + k * 15 + 6, none⟩ = some (.int .i64 y.entry.view) := HC2.out 6 _ rfl
          have d7 : wr.cell? ⟨b2, o2 + k * 15 + 7, none⟩ = some (.int .i64 y.entry.op) := HC2.out 7 _ rfl
          have d8 : wr.cell? ⟨b2, o2 + k * 15 + 8, none⟩ = some (.int .i64 y.entry.under) := HC2.out 8 _ rfl
          have d9 : wr.cell? ⟨b2, o2 + k * 15 + 9, none⟩ = some (.int .u64 y.entry.parent) := HC2.out 9 _ rfl
          have d10 : wr.cell? ⟨b2, o2 + k * 15 + 10, none⟩ = some (.int .i64 y.entry.client) := HC2.out 10 _ rfl
          have d11 : wr.cell? ⟨b2, o2 + k * 15 + 11, none⟩ = some (.int .i64 y.entry.session) := HC2.out 11 _ rfl
          have d12 : wr.cell? ⟨b2, o2 + k * 15 + 12, none⟩ = some (.int .i64 y.entry.request) := HC2.out 12 _ rfl
          have d13 : wr.cell? ⟨b2, o2 + k * 15 + 13, none⟩ = some (.int .i64 y.entry.operation) := HC2.out 13 _ rfl
          have d14 : wr.cell? ⟨b2, o2 + k * 15 + 14, none⟩ = some (.string y.entry.body) := HC2.out 14 _ rfl
          clear HC1 HC2
          cases hb : x.beq y
          · have Hb := Lib.hid hb
            rw [hb] at hne
            clear hb
            go_wp2
            go_region
            go_wp2
            go_ret
            refine ans_no (fun h => ?_) (below_drewN HMr.out.below 1)
            have hx := HX.out
            rw [h, HY.out] at hx
            have := Item.beq_iff.2 (Option.some.inj hx).symm
            rw [Hb.out] at this
            cases this
          · have Hb := Lib.hid hb
            rw [hb] at hne
            clear hb
            go_wp2
            go_region
            clear hne c0 c1 c2 c3 c4 c5 c6 c7 c8 c9 c10 c11 c12 c13 c14 d0 d1 d2 d3 d4 d5 d6 d7 d8 d9 d10 d11 d12 d13 d14
            go_wp2
            go_roundw
            case rel => exact ⟨k + 1, by omega, by go_num, HMr.out.later (below_drewN (Below.refl _ _) 1), HNr.out.later (below_drewN (Below.refl _ _) 1), take_next HT.out HX.out HY.out (Item.beq_iff.1 Hb.out)⟩
            case measure => simp [intOf]; omega
        · obtain rfl : k = n.items.length := by omega
          have HII : Hid (m.items = n.items) := by
            have h1 := HT.out
            have h2 : m.items.length = n.items.length := HL.out
            rw [List.take_length, ← h2, List.take_length] at h1
            exact h1
          clear HT HLo
          have g0 : wr.cell? ⟨w.heap.size, 0, none⟩ = some (.int .i64 m.kind) := HMr.out.cell rfl
          have h0 : wr.cell? ⟨w.heap.size + 1, 0, none⟩ = some (.int .i64 n.kind) := by rw [← HS1.out]; exact HNr.out.cell rfl
          have g1 : wr.cell? ⟨w.heap.size, 1, none⟩ = some (.int .i64 m.src) := HMr.out.cell rfl
          have h1 : wr.cell? ⟨w.heap.size + 1, 1, none⟩ = some (.int .i64 n.src) := by rw [← HS1.out]; exact HNr.out.cell rfl
          have g2 : wr.cell? ⟨w.heap.size, 2, none⟩ = some (.int .i64 m.view) := HMr.out.cell rfl
          have h2 : wr.cell? ⟨w.heap.size + 1, 2, none⟩ = some (.int .i64 n.view) := by rw [← HS1.out]; exact HNr.out.cell rfl
          have g3 : wr.cell? ⟨w.heap.size, 3, none⟩ = some (.int .i64 m.logView) := HMr.out.cell rfl
          have h3 : wr.cell? ⟨w.heap.size + 1, 3, none⟩ = some (.int .i64 n.logView) := by rw [← HS1.out]; exact HNr.out.cell rfl
          have g4 : wr.cell? ⟨w.heap.size, 4, none⟩ = some (.int .i64 m.op) := HMr.out.cell rfl
          have h4 : wr.cell? ⟨w.heap.size + 1, 4, none⟩ = some (.int .i64 n.op) := by rw [← HS1.out]; exact HNr.out.cell rfl
          have g5 : wr.cell? ⟨w.heap.size, 5, none⟩ = some (.int .i64 m.commit) := HMr.out.cell rfl
          have h5 : wr.cell? ⟨w.heap.size + 1, 5, none⟩ = some (.int .i64 n.commit) := by rw [← HS1.out]; exact HNr.out.cell rfl
          have g6 : wr.cell? ⟨w.heap.size, 6, none⟩ = some (.int .i64 m.client) := HMr.out.cell rfl
          have h6 : wr.cell? ⟨w.heap.size + 1, 6, none⟩ = some (.int .i64 n.client) := by rw [← HS1.out]; exact HNr.out.cell rfl
          have g7 : wr.cell? ⟨w.heap.size, 7, none⟩ = some (.int .i64 m.session) := HMr.out.cell rfl
          have h7 : wr.cell? ⟨w.heap.size + 1, 7, none⟩ = some (.int .i64 n.session) := by rw [← HS1.out]; exact HNr.out.cell rfl
          have g8 : wr.cell? ⟨w.heap.size, 8, none⟩ = some (.int .i64 m.request) := HMr.out.cell rfl
          have h8 : wr.cell? ⟨w.heap.size + 1, 8, none⟩ = some (.int .i64 n.request) := by rw [← HS1.out]; exact HNr.out.cell rfl
          have g9 : wr.cell? ⟨w.heap.size, 9, none⟩ = some (.int .i64 m.operation) := HMr.out.cell rfl
          have h9 : wr.cell? ⟨w.heap.size + 1, 9, none⟩ = some (.int .i64 n.operation) := by rw [← HS1.out]; exact HNr.out.cell rfl
          have g10 : wr.cell? ⟨w.heap.size, 10, none⟩ = some (.int .i64 m.index) := HMr.out.cell rfl
          have h10 : wr.cell? ⟨w.heap.size + 1, 10, none⟩ = some (.int .i64 n.index) := by rw [← HS1.out]; exact HNr.out.cell rfl
          have g11 : wr.cell? ⟨w.heap.size, 11, none⟩ = some (.int .i64 m.size) := HMr.out.cell rfl
          have h11 : wr.cell? ⟨w.heap.size + 1, 11, none⟩ = some (.int .i64 n.size) := by rw [← HS1.out]; exact HNr.out.cell rfl
          have g12 : wr.cell? ⟨w.heap.size, 12, none⟩ = some (.int .i64 m.check.op) := HMr.out.cell rfl
          have h12 : wr.cell? ⟨w.heap.size + 1, 12, none⟩ = some (.int .i64 n.check.op) := by rw [← HS1.out]; exact HNr.out.cell rfl
          have g13 : wr.cell? ⟨w.heap.size, 13, none⟩ = some (.int .i64 m.check.view) := HMr.out.cell rfl
          have h13 : wr.cell? ⟨w.heap.size + 1, 13, none⟩ = some (.int .i64 n.check.view) := by rw [← HS1.out]; exact HNr.out.cell rfl
          have g14 : wr.cell? ⟨w.heap.size, 14, none⟩ = some (.int .u64 m.check.sum) := HMr.out.cell rfl
          have h14 : wr.cell? ⟨w.heap.size + 1, 14, none⟩ = some (.int .u64 n.check.sum) := by rw [← HS1.out]; exact HNr.out.cell rfl
          have g15 : wr.cell? ⟨w.heap.size, 15, none⟩ = some (.int .u64 m.s0) := HMr.out.cell rfl
          have h15 : wr.cell? ⟨w.heap.size + 1, 15, none⟩ = some (.int .u64 n.s0) := by rw [← HS1.out]; exact HNr.out.cell rfl
          have g16 : wr.cell? ⟨w.heap.size, 16, none⟩ = some (.int .u64 m.s1) := HMr.out.cell rfl
          have h16 : wr.cell? ⟨w.heap.size + 1, 16, none⟩ = some (.int .u64 n.s1) := by rw [← HS1.out]; exact HNr.out.cell rfl
          have g17 : wr.cell? ⟨w.heap.size, 17, none⟩ = some (.int .u64 m.s2) := HMr.out.cell rfl
          have h17 : wr.cell? ⟨w.heap.size + 1, 17, none⟩ = some (.int .u64 n.s2) := by rw [← HS1.out]; exact HNr.out.cell rfl
          have g18 : wr.cell? ⟨w.heap.size, 18, none⟩ = some (.int .u64 m.s3) := HMr.out.cell rfl
          have h18 : wr.cell? ⟨w.heap.size + 1, 18, none⟩ = some (.int .u64 n.s3) := by rw [← HS1.out]; exact HNr.out.cell rfl
          have g19 : wr.cell? ⟨w.heap.size, 19, none⟩ = some (.int .u64 m.s4) := HMr.out.cell rfl
          have h19 : wr.cell? ⟨w.heap.size + 1, 19, none⟩ = some (.int .u64 n.s4) := by rw [← HS1.out]; exact HNr.out.cell rfl
          have g20 : wr.cell? ⟨w.heap.size, 20, none⟩ = some (.int .u64 m.s5) := HMr.out.cell rfl
          have h20 : wr.cell? ⟨w.heap.size + 1, 20, none⟩ = some (.int .u64 n.s5) := by rw [← HS1.out]; exact HNr.out.cell rfl
          have g21 : wr.cell? ⟨w.heap.size, 21, none⟩ = some (.int .i64 m.entry.view) := HMr.out.cell rfl
          have h21 : wr.cell? ⟨w.heap.size + 1, 21, none⟩ = some (.int .i64 n.entry.view) := by rw [← HS1.out]; exact HNr.out.cell rfl
          have g22 : wr.cell? ⟨w.heap.size, 22, none⟩ = some (.int .i64 m.entry.op) := HMr.out.cell rfl
          have h22 : wr.cell? ⟨w.heap.size + 1, 22, none⟩ = some (.int .i64 n.entry.op) := by rw [← HS1.out]; exact HNr.out.cell rfl
          have g23 : wr.cell? ⟨w.heap.size, 23, none⟩ = some (.int .i64 m.entry.under) := HMr.out.cell rfl
          have h23 : wr.cell? ⟨w.heap.size + 1, 23, none⟩ = some (.int .i64 n.entry.under) := by rw [← HS1.out]; exact HNr.out.cell rfl
          have g24 : wr.cell? ⟨w.heap.size, 24, none⟩ = some (.int .u64 m.entry.parent) := HMr.out.cell rfl
          have h24 : wr.cell? ⟨w.heap.size + 1, 24, none⟩ = some (.int .u64 n.entry.parent) := by rw [← HS1.out]; exact HNr.out.cell rfl
          have g25 : wr.cell? ⟨w.heap.size, 25, none⟩ = some (.int .i64 m.entry.client) := HMr.out.cell rfl
          have h25 : wr.cell? ⟨w.heap.size + 1, 25, none⟩ = some (.int .i64 n.entry.client) := by rw [← HS1.out]; exact HNr.out.cell rfl
          have g26 : wr.cell? ⟨w.heap.size, 26, none⟩ = some (.int .i64 m.entry.session) := HMr.out.cell rfl
          have h26 : wr.cell? ⟨w.heap.size + 1, 26, none⟩ = some (.int .i64 n.entry.session) := by rw [← HS1.out]; exact HNr.out.cell rfl
          have g27 : wr.cell? ⟨w.heap.size, 27, none⟩ = some (.int .i64 m.entry.request) := HMr.out.cell rfl
          have h27 : wr.cell? ⟨w.heap.size + 1, 27, none⟩ = some (.int .i64 n.entry.request) := by rw [← HS1.out]; exact HNr.out.cell rfl
          have g28 : wr.cell? ⟨w.heap.size, 28, none⟩ = some (.int .i64 m.entry.operation) := HMr.out.cell rfl
          have h28 : wr.cell? ⟨w.heap.size + 1, 28, none⟩ = some (.int .i64 n.entry.operation) := by rw [← HS1.out]; exact HNr.out.cell rfl
          have g29 : wr.cell? ⟨w.heap.size, 29, none⟩ = some (.string m.entry.body) := HMr.out.cell rfl
          have h29 : wr.cell? ⟨w.heap.size + 1, 29, none⟩ = some (.string n.entry.body) := by rw [← HS1.out]; exact HNr.out.cell rfl
          have g32 : wr.cell? ⟨w.heap.size, 32, none⟩ = some (.string m.body) := HMr.out.cell rfl
          have h32 : wr.cell? ⟨w.heap.size + 1, 32, none⟩ = some (.string n.body) := by rw [← HS1.out]; exact HNr.out.cell rfl
          by_cases e0 : m.kind = n.kind
          rotate_left
          · go_wp2
            go_ret
            exact ans_no (fun h => e0 (by rw [h])) HMr.out.below
          by_cases e1 : m.src = n.src
          rotate_left
          · go_wp2
            go_ret
            exact ans_no (fun h => e1 (by rw [h])) HMr.out.below
          by_cases e2 : m.view = n.view
          rotate_left
          · go_wp2
            go_ret
            exact ans_no (fun h => e2 (by rw [h])) HMr.out.below
          by_cases e3 : m.logView = n.logView
          rotate_left
          · go_wp2
            go_ret
            exact ans_no (fun h => e3 (by rw [h])) HMr.out.below
          by_cases e4 : m.op = n.op
          rotate_left
          · go_wp2
            go_ret
            exact ans_no (fun h => e4 (by rw [h])) HMr.out.below
          by_cases e5 : m.commit = n.commit
          rotate_left
          · go_wp2
            go_ret
            exact ans_no (fun h => e5 (by rw [h])) HMr.out.below
          by_cases e6 : m.client = n.client
          rotate_left
          · go_wp2
            go_ret
            exact ans_no (fun h => e6 (by rw [h])) HMr.out.below
          by_cases e7 : m.session = n.session
          rotate_left
          · go_wp2
            go_ret
            exact ans_no (fun h => e7 (by rw [h])) HMr.out.below
          by_cases e8 : m.request = n.request
          rotate_left
          · go_wp2
            go_ret
            exact ans_no (fun h => e8 (by rw [h])) HMr.out.below
          by_cases e9 : m.operation = n.operation
          rotate_left
          · go_wp2
            go_ret
            exact ans_no (fun h => e9 (by rw [h])) HMr.out.below
          by_cases e10 : m.index = n.index
          rotate_left
          · go_wp2
            go_ret
            exact ans_no (fun h => e10 (by rw [h])) HMr.out.below
          by_cases e11 : m.size = n.size
          rotate_left
          · go_wp2
            go_ret
            exact ans_no (fun h => e11 (by rw [h])) HMr.out.below
          clear hl1 hl2
          have HEs : Hid (m.kind = n.kind ∧ m.src = n.src ∧ m.view = n.view ∧ m.logView = n.logView ∧ m.op = n.op ∧ m.commit = n.commit ∧ m.client = n.client ∧ m.session = n.session ∧ m.request = n.request ∧ m.operation = n.operation ∧ m.index = n.index ∧ m.size = n.size) := ⟨e0, e1, e2, e3, e4, e5, e6, e7, e8, e9, e10, e11⟩
          have eC := fun w => eq_mark m.check.op m.check.view m.check.sum n.check.op n.check.view n.check.sum w
          have eS := fun w => eq_sums m.s0 m.s1 m.s2 m.s3 m.s4 m.s5 n.s0 n.s1 n.s2 n.s3 n.s4 n.s5 w
          have eE := fun w => eql_entry m.entry n.entry w
          unfold entC at eE
          obtain ⟨bC, hC⟩ : ∃ b, (m.check.op == n.check.op && m.check.view == n.check.view && m.check.sum == n.check.sum) = b := ⟨_, rfl⟩
          obtain ⟨bS, hS⟩ : ∃ b, (m.s0 == n.s0 && m.s1 == n.s1 && m.s2 == n.s2 && m.s3 == n.s3 && m.s4 == n.s4 && m.s5 == n.s5) = b := ⟨_, rfl⟩
          obtain ⟨bE, hE⟩ : ∃ b, m.entry.beq n.entry = b := ⟨_, rfl⟩
          obtain ⟨bB, hB⟩ : ∃ b, (m.body.toList == n.body.toList) = b := ⟨_, rfl⟩
          simp only [hC] at eC
          simp only [hS] at eS
          simp only [hE] at eE
          have HC := Lib.hid hC
          have HSs := Lib.hid hS
          have HEn := Lib.hid hE
          have HBd := Lib.hid hB
          clear hC hS hE
          cases bC
          · go_wp2
            go_ret
            exact ans_no (fun h => by have := HC.out; rw [h] at this; simp at this) HMr.out.below
          cases bS
          · go_wp2
            go_ret
            exact ans_no (fun h => by have := HSs.out; rw [h] at this; simp at this) HMr.out.below
          cases bE
          · go_wp2
            go_ret
            exact ans_no (fun h => by have := HEn.out; rw [h, Entry.beq_iff.2 rfl] at this; cases this) HMr.out.below
          cases bB
          · go_wp2
            go_ret
            exact ans_no (fun h => by have := HBd.out; rw [h] at this; simp at this) HMr.out.below
          go_wp2
          go_ret
          refine ⟨⟨true, rfl, ⟨fun _ => ?_, fun _ => rfl⟩⟩, HMr.out.below⟩
          have h1 := HEs.out
          have h2 := HC.out
          have h3 := HSs.out
          have h4 := Entry.beq_iff.1 HEn.out
          have h5 := HBd.out
          have h6 : m.entries = n.entries := HEE.out
          have h7 : m.items = n.items := HII.out
          exact msg_same h1 h2 h3 h4 h5 h6 h7
  · have HL := Lib.hid hl
    have hne : ¬ ((m.items.length : Int) = n.items.length) := by omega
    clear hl
    go_enter Tryd.func13, Tryd.ntmps13
    go_wp2
    go_ret
    exact ans_no (fun h => HL.out (by rw [h])) HB0.out

end Go.Proofs.YtmidfknlmjgjpaaDoor
