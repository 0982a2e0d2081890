/- The walks of msg.Right (whole), msg.header, msg.text. -/
import Derived.Test.YtmidfknlmjgjpaaDoorRight3
namespace Go.Proofs.YtmidfknlmjgjpaaDoor
open Go.RowKit

/-- msg.Right, whole. -/
theorem right_any (m : Msg) (ea ia : Option Addr) (ec ic : Nat) (w : World) (ha : AllAt w) (hw : m.wf)
    (hre : RowAt w ea m.entries.length 9 (entAt m.entries)) (hri : RowAt w ia m.items.length 15 (itemAt m.items)) :
    Calls Tryd.prog 21 #[.agg (msgC m (.slice ea m.entries.length ec) (.slice ia m.items.length ic))] w fun e w' => e = .returned (.bool (rightM m)) ∧ Below w.heap.size w w' := by
  by_cases hk : 1 ≤ m.kind ∧ m.kind ≤ 16
  · obtain ⟨hk1, hk2⟩ := hk
    cases h : headOk m
    · exact right_head m _ _ w ha hk1 hk2 h
    · by_cases hb : m.body.size ≤ mostOf m.kind
      · cases hE : (fieldsOf m.kind).contains 69
        · exact right_main m ea ia ec ic w ha hk1 hk2 h hb (by rw [hE]; rfl) hw hre hri
        · cases he : m.entry.right
          · exact right_ent m _ _ w ha hk1 hk2 h hb hE he hw.1.2
          · exact right_main m ea ia ec ic w ha hk1 hk2 h hb (by rw [he]; simp) hw hre hri
      · exact right_body m _ _ w ha hk1 hk2 h (by omega) hw.2.2.2.1
  · exact right_kind m _ _ w (by omega)

def Msg.head (m : Msg) : Head := { kind := m.kind, src := m.src, operation := m.operation, view := m.view, op := m.op, commit := m.commit, client := m.client, session := m.session, request := m.request, a := m.logView, b := m.index + m.size, parent := 0 }

set_option maxRecDepth 100000 in
set_option maxHeartbeats 1000000 in
theorem msgHeader_any (m : Msg) (ev iv : Value) (w : World) (h1 : fitB m.index = true) (h2 : fitB m.size = true) :
    Calls Tryd.prog 35 #[.agg (msgC m ev iv)] w fun x w' => x = .returned (.agg (headC m.head)) ∧ Below w.heap.size w w' := by
  simp only [fitB, Bool.and_eq_true, decide_eq_true_eq] at h1 h2
  obtain ⟨i0, i1⟩ := h1
  obtain ⟨z0, z1⟩ := h2
  unfold msgC
  go_enter Tryd.func35, Tryd.ntmps35
  go_wp2
  exact bodyPost_ret (v := .agg #[.int .i64 m.kind, .int .i64 m.src, .int .i64 m.operation, .int .i64 m.view, .int .i64 m.op, .int .i64 m.commit, .int .i64 m.client, .int .i64 m.session, .int .i64 m.request, .int .i64 m.logView, .int .i64 (m.index + m.size), .int .u64 0]) (by simp [results, Tryd.results35, go_sem]) rfl ⟨rfl, ((Below.refl _ _).alloc (Nat.le_refl _) _).alloc (by simp) _⟩

def textB (e : Entry) : List UInt8 := Pl.putLE (128 + e.body.size) 2 ++ e.bytes

set_option maxRecDepth 100000 in
set_option maxHeartbeats 1000000 in
theorem text_any (B : Nat) (v : Value) (l : List UInt8) (e : Entry) (w : World) (hv : Bs B w v l) (hB : B ≤ w.heap.size) (hl : l.length ≤ 900000) (hr : e.right = true) (hw : e.wf) :
    Calls Tryd.prog 61 #[v, .agg (entC e)] w fun x w' => ∃ v', x = .returned v' ∧ Bs B w' v' (l ++ textB e) ∧ Below w.heap.size w w' := by
  have HV := Lib.hid hv
  have HR := Lib.hid hr
  have HW := Lib.hid hw
  have HS : Hid ((str e.bytes).size ≤ 65535) := by
    have := (ent_right hr).2.2.2.2.2
    show (str e.bytes).size ≤ 65535
    rw [str_size, ent_bytes_length]
    omega
  clear hv hr hw
  unfold entC
  go_enter Tryd.func61, Tryd.ntmps61
  go_wp2_with (first | (go_at_call 86; refine (entPack_ok e HR.out HW.out.1.1 HW.out.1.2 _).mono ?_; rintro x w1 ⟨rfl, hb1⟩; have HB1 := Lib.hid (below_box hb1 (by simp)); clear hb1) | (go_at_call 87; refine (putText_any _ _ _ HS.out (by omega) _ (HV.out.later HB1.out).holds).mono ?_; rintro x w2 ⟨v', rfl, hb2, hc2⟩; have HB2 := Lib.hid hb2; have HC2 := Lib.hid hc2; clear hb2 hc2))
  go_ret
  have hz := HB1.out.size
  refine ⟨v', rfl, ?_, HB1.out.trans (HC2.out.mono hz)⟩
  refine bs_eq ?_ (HB2.out.mono (by omega))
  rw [str_size, ent_bytes_length, textB, List.append_assoc]

end Go.Proofs.YtmidfknlmjgjpaaDoor
