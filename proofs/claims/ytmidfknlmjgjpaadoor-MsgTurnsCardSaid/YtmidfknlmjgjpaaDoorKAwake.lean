/- What msg.Encode answers; the walk of comptorlaw17.awake. -/
import Derived.Test.YtmidfknlmjgjpaaDoorGJ
import Derived.Test.YtmidfknlmjgjpaaDoorKInj
import Derived.Test.YtmidfknlmjgjpaaDoorKRead
namespace Go.Proofs.YtmidfknlmjgjpaaDoor
open Go.RowKit

/-- What msg.Encode answers. -/
def Msg.enc (m : Msg) : ByteArray × Int := if rightM m = true then m.head.packed (str (bodyB m)) else (str [], 4)

theorem encode_any (m : Msg) (ea ia : Option Addr) (ec ic : Nat) (w : World) (ha : AllAt w) (hf : m.fit) (h1 : m.entries.length ≤ 1000000) (h2 : m.items.length ≤ 1000000) (hre : RowAt w ea m.entries.length 9 (entAt m.entries)) (hri : RowAt w ia m.items.length 15 (itemAt m.items)) :
    Calls Tryd.prog 12 #[.agg (msgC m (.slice ea m.entries.length ec) (.slice ia m.items.length ic))] w fun e w' => e = .returned (.tuple #[.string m.enc.1, .int .i64 m.enc.2]) ∧ Below w.heap.size w w' := by
  cases hr : rightM m
  · have e : m.enc = (str [], 4) := by simp [Msg.enc, hr]
    rw [e]
    exact encode_no m ea ia ec ic w ha (hf.wf h1 h2) hre hri hr
  · have e : m.enc = m.head.packed (str (bodyB m)) := by rw [Msg.enc, if_pos hr]
    rw [e]
    exact encode_yes m ea ia ec ic w ha (hf.fine h1 h2 hr) hre hri

theorem enc_ok {m : Msg} (h : m.enc.2 = 0) : rightM m = true ∧ m.head.right = true ∧ (bodyB m).length ≤ 3968 ∧ m.enc.1 = str (m.head.pack (bodyB m)) := by
  unfold Msg.enc at h ⊢
  cases hr : rightM m
  · rw [hr] at h; simp at h
  · rw [hr, if_pos rfl] at h
    rw [if_pos rfl]
    unfold Head.packed at h ⊢
    by_cases h1 : m.head.right = true
    · rw [if_pos h1] at h ⊢
      by_cases h2 : (str (bodyB m)).size ≤ 3968
      · rw [if_pos h2]
        rw [str_size] at h2
        exact ⟨rfl, h1, h2, rfl⟩
      · rw [if_neg h2] at h; simp at h
    · rw [if_neg h1] at h; simp at h

/-- The examples. -/
def keptMsg : Msg := { kind := 3, src := 0, view := 2, logView := 0, op := 5, commit := 0, client := 0, session := 0, request := 0, operation := 0, index := 0, size := 0, check := ⟨0, 0, 0⟩, s0 := 0, s1 := 0, s2 := 0, s3 := 0, s4 := 0, s5 := 0, entry := zeroEntry, entries := [], items := [], body := str [] }
def keptMsg2 : Msg := { kind := 3, src := 0, view := 2, logView := 0, op := 5, commit := 1, client := 0, session := 0, request := 0, operation := 0, index := 0, size := 0, check := ⟨0, 0, 0⟩, s0 := 0, s1 := 0, s2 := 0, s3 := 0, s4 := 0, s5 := 0, entry := zeroEntry, entries := [], items := [], body := str [] }
theorem u64_0 : U64 0 := ⟨by omega, by omega⟩
theorem fit_zero {m : Msg} (h1 : m.entry = zeroEntry) (h2 : m.entries = []) (h3 : m.items = []) (h4 : m.body.size ≤ maxLen) (h5 : m.check = ⟨0, 0, 0⟩) (h6 : m.sums = [0, 0, 0, 0, 0, 0]) : m.fit where
  entry := by
    rw [h1]
    refine ⟨⟨u64_0, Nat.zero_le _⟩, fun x hx => ?_⟩
    have : x = 0 := by simpa [zeroEntry] using hx
    omega
  entries := by rw [h2]; intro e he; cases he
  items := by rw [h3]; intro e he; cases he
  body := h4
  sum := by rw [h5]; exact u64_0
  sums := by
    intro x hx
    have hx : x ∈ m.sums := hx
    rw [h6] at hx
    have : x = 0 := by simpa using hx
    rw [this]; exact u64_0
  len1 := by rw [h2]; exact Nat.zero_le _
  len2 := by rw [h3]; exact Nat.zero_le _
theorem row_none {w : World} {size : Nat} {cs : Nat → Array Value} : RowAt w none 0 size cs := fun h => absurd h (by omega)

theorem kept_enc : ∃ s : ByteArray, keptMsg.enc = (s, 0) ∧ s.size = 128 := by
  have h1 : rightM keptMsg = true := by decide +kernel
  have h2 : keptMsg.head.right = true := by decide +kernel
  have h3 : bodyB keptMsg = [] := by decide +kernel
  refine ⟨str (keptMsg.head.pack []), ?_, by rw [str_size, pack_length]; rfl⟩
  rw [Msg.enc, if_pos h1, Head.packed, if_pos h2, h3, if_pos (by rw [str_size]; exact Nat.zero_le _)]
theorem kept2_no : rightM keptMsg2 = false := by decide +kernel

set_option maxRecDepth 100000 in
set_option maxHeartbeats 2000000 in
theorem awake_any (w : World) (ha : AllAt w) : Calls Tryd.prog 10 #[] w fun e w' => e = .returned (.bool true) ∧ Below w.heap.size w w' := by
  have HA := Lib.hid ha
  clear ha
  obtain ⟨s, hs, hsz⟩ := kept_enc
  have HS := Lib.hid hs
  have hc : ∀ wx, AllAt wx → Calls Tryd.prog 12 #[.agg (msgC keptMsg (.slice none 0 0) (.slice none 0 0))] wx fun e w' => e = .returned (.tuple #[.string s, .int .i64 0]) ∧ Below wx.heap.size wx w' := fun wx hx => by
    have := encode_any keptMsg none none 0 0 wx hx (fit_zero rfl rfl rfl (Nat.zero_le _) rfl rfl) (Nat.zero_le _) (Nat.zero_le _) row_none row_none
    rw [hs] at this
    exact this
  have hd : ∀ wx, AllAt wx → Calls Tryd.prog 21 #[.agg (msgC keptMsg2 (.slice none 0 0) (.slice none 0 0))] wx fun e w' => e = .returned (.bool false) ∧ Below wx.heap.size wx w' := fun wx hx => by
    have := right_any keptMsg2 none none 0 0 wx hx ((fit_zero (m := keptMsg2) rfl rfl rfl (Nat.zero_le _) rfl rfl).wf (Nat.zero_le _) (Nat.zero_le _)) row_none row_none
    rw [kept2_no] at this
    exact this
  have HC := Lib.hid hc
  have HD := Lib.hid hd
  clear hs hc hd
  go_enter Tryd.func10, Tryd.ntmps10
  go_wp2_with (first | (go_at_call 12; refine (HC.out _ HA.out).mono ?_; rintro x w1 ⟨rfl, hb1⟩; have HB1 := Lib.hid hb1; have HA1 := Lib.hid (HA.out.later hb1); clear hb1) | (go_at_call 21; refine (HD.out _ HA1.out).mono ?_; rintro x w2 ⟨rfl, hb2⟩; have HB2 := Lib.hid hb2; clear hb2))
  go_ret
  exact ⟨rfl, HB1.out.trans (HB2.out.mono HB1.out.size)⟩

end Go.Proofs.YtmidfknlmjgjpaaDoor
