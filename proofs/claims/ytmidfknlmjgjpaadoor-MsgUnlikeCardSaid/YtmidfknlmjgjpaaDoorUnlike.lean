/- The walk of comptorlaw17.MsgUnlike. -/
import Derived.Test.YtmidfknlmjgjpaaDoorAwake
import Derived.Test.YtmidfknlmjgjpaaDoorLong
import Derived.Test.YtmidfknlmjgjpaaDoorSame3
namespace Go.Proofs.YtmidfknlmjgjpaaDoor
open Go.RowKit

theorem short_len {m : Msg} (h : m.short) : m.entries.length ≤ 1000000 ∧ m.items.length ≤ 1000000 := by
  have h1 := h.1
  have h2 := h.2.1
  exact ⟨by omega, by omega⟩

theorem unlike_key {m n : Msg} (hm : m.fit) (hn : n.fit) (sm : m.short) (sn : n.short) (em : m.enc.2 = 0) (en : n.enc.2 = 0) {b : Bool} (hb : b = true ↔ m = n) : (m.enc.1.toList == n.enc.1.toList) = b := by
  obtain ⟨r1, r2, r3, r4⟩ := enc_ok em
  obtain ⟨t1, t2, t3, t4⟩ := enc_ok en
  have f1 := hm.fine (short_len sm).1 (short_len sm).2 r1
  have f2 := hn.fine (short_len sn).1 (short_len sn).2 t1
  cases b
  · rw [beq_eq_false_iff_ne, Lib.toList_data, Lib.toList_data]
    intro h
    have h2 : m = n := by
      rw [r4, t4] at h
      exact msg_inj f1 f2 r2 t2 h
    have := hb.2 h2
    cases this
  · rw [hb.1 rfl, beq_self_eq_true]

set_option maxRecDepth 100000 in
set_option maxHeartbeats 8000000 in
theorem unlike_any (m n : Msg) (ea ia fa ja : Option Addr) (ec ic fc jc : Nat) (w : World) (ha : AllAt w) (hf : m.fit) (hg : n.fit) (he : RowAt w ea m.entries.length 9 (entAt m.entries)) (hi : RowAt w ia m.items.length 15 (itemAt m.items)) (he2 : RowAt w fa n.entries.length 9 (entAt n.entries)) (hi2 : RowAt w ja n.items.length 15 (itemAt n.items)) :
    Calls Tryd.prog 3 #[.agg (msgC m (.slice ea m.entries.length ec) (.slice ia m.items.length ic)), .agg (msgC n (.slice fa n.entries.length fc) (.slice ja n.items.length jc))] w fun e w' => e = .returned (.bool true) ∧ Below w.heap.size w w' := by
  obtain ⟨wa, hw1⟩ : ∃ w1, w1 = w.alloc (.cells (msgC m (.slice ea m.entries.length ec) (.slice ia m.items.length ic)) 31) := ⟨_, rfl⟩
  have hs1 : wa.heap.size = w.heap.size + 1 := by rw [hw1]; simp
  have hN0 : MBox n (.slice fa n.entries.length fc) (.slice ja n.items.length jc) wa ((w.alloc (.cells (msgC m (.slice ea m.entries.length ec) (.slice ia m.items.length ic)) 31)).alloc (.cells (msgC n (.slice fa n.entries.length fc) (.slice ja n.items.length jc)) 31)) := by rw [← hw1]; exact Below.refl _ _
  have hM0 : MBox m (.slice ea m.entries.length ec) (.slice ia m.items.length ic) w ((w.alloc (.cells (msgC m (.slice ea m.entries.length ec) (.slice ia m.items.length ic)) 31)).alloc (.cells (msgC n (.slice fa n.entries.length fc) (.slice ja n.items.length jc)) 31)) := by
    have h1 : MBox m (.slice ea m.entries.length ec) (.slice ia m.items.length ic) w wa := by rw [hw1]; exact Below.refl _ _
    exact h1.later hN0.below
  have hlM := fun (wx : World) (hbw : MBox m (.slice ea m.entries.length ec) (.slice ia m.items.length ic) w wx) (o : Oper) (ops : Array Oper) (rest : List Oper) (a : Act) (Q : Exit → Act → World → Prop) (hgd : Region.wanted o (yielded ops a.tmps) = true) (x : Operand) (ho : o.op = .load 31 x) (hx : a.eval x = .pointer (some ⟨w.heap.size, 0, none⟩)) h => wpList_load_rowG (P := Tryd.prog) (ops := ops) (rest := rest) (a := a) (w := wx) (Q := Q) hgd 31 x ho w.heap.size hx 31 _ (0, 0) _ ((Below.block hbw w.heap.size (by omega)).trans (heap_alloc_new w _)) Tryd.underlying31 rfl msg_info h
  have hlN := fun (wx : World) (hbw : MBox n (.slice fa n.entries.length fc) (.slice ja n.items.length jc) wa wx) (o : Oper) (ops : Array Oper) (rest : List Oper) (a : Act) (Q : Exit → Act → World → Prop) (hgd : Region.wanted o (yielded ops a.tmps) = true) (x : Operand) (ho : o.op = .load 31 x) (hx : a.eval x = .pointer (some ⟨w.heap.size + 1, 0, none⟩)) h => wpList_load_rowG (P := Tryd.prog) (ops := ops) (rest := rest) (a := a) (w := wx) (Q := Q) hgd 31 x ho (w.heap.size + 1) hx 31 (msgC n (.slice fa n.entries.length fc) (.slice ja n.items.length jc)) (0, 0) _ ((Below.block hbw (w.heap.size + 1) (by omega)).trans (by rw [← hs1]; exact heap_alloc_new wa _)) Tryd.underlying31 rfl msg_info h
  have HLM := Lib.hid hlM
  have HLN := Lib.hid hlN
  have HM0 := Lib.hid hM0
  have HN0 := Lib.hid hN0
  have HE := Lib.hid he
  have HI := Lib.hid hi
  have HE2 := Lib.hid he2
  have HI2 := Lib.hid hi2
  have HF := Lib.hid hf
  have HG := Lib.hid hg
  have HA0 := Lib.hid (ha.later hM0.below)
  clear hw1 hs1 hN0 hM0 hlM hlN he hi he2 hi2 hf hg ha
  go_enter Tryd.func3, Tryd.ntmps3
  go_wp2_with (first | (go_at_call 10; refine (awake_any _ HA0.out).mono ?_; rintro x w1 ⟨rfl, hb1⟩; have HM1 := Lib.hid (HM0.out.later hb1); have HN1 := Lib.hid (HN0.out.later hb1); have HA1 := Lib.hid (HA0.out.later hb1); clear hb1) | (refine HLM.out _ HM1.out ⟨some _, _, _, _, _, _⟩ _ _ _ _ rfl _ rfl rfl ?_))
  refine (long_any m _ _ _ _ _ HF.out (HE.out.later HM1.out.below) (HI.out.later HM1.out.below)).mono ?_
  rintro x w2 ⟨⟨b1, rfl, hs⟩, hb2⟩
  have HSm := Lib.hid hs
  have HM2 := Lib.hid (HM1.out.later hb2)
  have HN2 := Lib.hid (HN1.out.later hb2)
  have HA2 := Lib.hid (HA1.out.later hb2)
  clear hs hb2 HM1 HN1 HA1 HM0 HN0 HA0
  cases b1
  rotate_left
  · go_wp2
    go_ret
    exact ⟨rfl, HM2.out.below⟩
  go_wp2_with (refine HLN.out _ HN2.out ⟨some _, _, _, _, _, _⟩ _ _ _ _ rfl _ rfl rfl ?_)
  refine (long_any n _ _ _ _ _ HG.out (HE2.out.later HM2.out.below) (HI2.out.later HM2.out.below)).mono ?_
  rintro x w3 ⟨⟨b2, rfl, hs⟩, hb3⟩
  have HSn := Lib.hid hs
  have HM3 := Lib.hid (HM2.out.later hb3)
  have HN3 := Lib.hid (HN2.out.later hb3)
  have HA3 := Lib.hid (HA2.out.later hb3)
  clear hs hb3 HM2 HN2 HA2
  cases b2
  rotate_left
  · go_wp2
    go_ret
    exact ⟨rfl, HM3.out.below⟩
  have Hsm : Hid m.short := by first | exact HSm.out rfl | exact HSm.out trivial | exact HSm.out
  have Hsn : Hid n.short := by first | exact HSn.out rfl | exact HSn.out trivial | exact HSn.out
  have Hlm := Lib.hid (short_len Hsm.out)
  have Hln := Lib.hid (short_len Hsn.out)
  obtain ⟨s, hs⟩ : ∃ s, m.enc.1 = s := ⟨_, rfl⟩
  obtain ⟨t, ht⟩ : ∃ s, n.enc.1 = s := ⟨_, rfl⟩
  obtain ⟨x, hx⟩ : ∃ s, m.enc.2 = s := ⟨_, rfl⟩
  obtain ⟨y, hy⟩ : ∃ s, n.enc.2 = s := ⟨_, rfl⟩
  have Hs := Lib.hid hs
  have Ht := Lib.hid ht
  have Hx := Lib.hid hx
  have Hy := Lib.hid hy
  clear hs ht hx hy HSm HSn
  have HM := Lib.hid HM3.out.below
  go_wp2_with (refine HLM.out _ HM3.out ⟨some _, _, _, _, _, _⟩ _ _ _ _ rfl _ rfl rfl ?_)
  refine (encode_any m _ _ _ _ _ HA3.out HF.out Hlm.out.1 Hlm.out.2 (HE.out.later HM3.out.below) (HI.out.later HM3.out.below)).mono ?_
  rw [Hs.out, Hx.out]
  rintro r w4 ⟨rfl, hb4⟩
  have HM4 := Lib.hid (HM3.out.later hb4)
  have HN4 := Lib.hid (HN3.out.later hb4)
  have HA4 := Lib.hid (HA3.out.later hb4)
  clear hb4 HM3 HN3 HA3 HM
  go_wp2_with (refine HLN.out _ HN4.out ⟨some _, _, _, _, _, _⟩ _ _ _ _ rfl _ rfl rfl ?_)
  refine (encode_any n _ _ _ _ _ HA4.out HG.out Hln.out.1 Hln.out.2 (HE2.out.later HM4.out.below) (HI2.out.later HM4.out.below)).mono ?_
  rw [Ht.out, Hy.out]
  rintro r w5 ⟨rfl, hb5⟩
  have HM5 := Lib.hid (HM4.out.later hb5)
  have HN5 := Lib.hid (HN4.out.later hb5)
  clear hb5 HM4 HN4 HA4
  by_cases q1 : x = 0
  · by_cases q2 : y = 0
    · subst q1 q2
      go_wp2_with (first | (refine HLM.out _ HM5.out ⟨some _, _, _, _, _, _⟩ _ _ _ _ rfl _ rfl rfl ?_) | (refine HLN.out _ HN5.out ⟨some _, _, _, _, _, _⟩ _ _ _ _ rfl _ rfl rfl ?_))
      refine (same17_any m n _ _ _ _ _ _ _ _ _ HF.out HG.out (HE.out.later HM5.out.below) (HI.out.later HM5.out.below) (HE2.out.later HM5.out.below) (HI2.out.later HM5.out.below)).mono ?_
      rintro r w6 ⟨⟨b, rfl, hb⟩, hb6⟩
      have HM6 := Lib.hid (HM5.out.later hb6)
      have key : (s.toList == t.toList) = b := by
        rw [← Hs.out, ← Ht.out]
        exact unlike_key HF.out HG.out Hsm.out Hsn.out Hx.out Hy.out hb
      clear hb hb6
      cases b
      · go_wp2
        go_ret
        exact ⟨rfl, HM6.out.below⟩
      · go_wp2
        go_ret
        exact ⟨rfl, HM6.out.below⟩
    · go_wp2
      go_ret
      exact ⟨rfl, HM5.out.below⟩
  · go_wp2
    go_ret
    exact ⟨rfl, HM5.out.below⟩

end Go.Proofs.YtmidfknlmjgjpaaDoor
