/- The walk of comptorlaw22.ClientNil. -/
import Derived.Test.YtmidfknlmjgjpaaDoorCl6
import Derived.Test.YtmidfknlmjgjpaaDoorCl7
namespace Go.Proofs.YtmidfknlmjgjpaaDoor
open Go.RowKit

theorem play_info : (Tryd.prog.info? 55).map (·.size) = some 37 := by kernel_rfl
/-- An act's box, later. -/
def PBox (x : Play) (ev iv : Value) (w wr : World) : Prop := Below (w.heap.size + 1) (w.alloc (.cells (playC x ev iv) 55)) wr
theorem PBox.size {x : Play} {ev iv : Value} {w wr : World} (h : PBox x ev iv w wr) : w.heap.size + 1 ≤ wr.heap.size := by have := Below.size h; simpa using this
theorem PBox.later {x : Play} {ev iv : Value} {w wr wj : World} (h : PBox x ev iv w wr) (hb : Below wr.heap.size wr wj) : PBox x ev iv w wj := Below.trans h (hb.mono h.size)
theorem PBox.below {x : Play} {ev iv : Value} {w wr : World} (h : PBox x ev iv w wr) : Below w.heap.size w wr := below_box h (by omega)
theorem PBox.cell {x : Play} {ev iv : Value} {w wr : World} (h : PBox x ev iv w wr) {j : Nat} {v : Value} (hv : (playC x ev iv)[j]? = some v) : wr.cell? ⟨w.heap.size, j, none⟩ = some v := by
  rw [Below.cell h (by simp)]
  simpa using hv

set_option maxRecDepth 100000 in
set_option maxHeartbeats 4000000 in
theorem clientNil_any (x : Play) (ea ia : Option Addr) (ec ic : Nat) (w : World) (ha : AllAt w) (hf : x.fit) :
    Calls Tryd.prog 9 #[.agg (playC x (.slice ea x.m.entries.length ec) (.slice ia x.m.items.length ic))] w fun e w' => e = .returned (.bool true) ∧ Below w.heap.size w w' := by
  have HP0 : Hid (PBox x (.slice ea x.m.entries.length ec) (.slice ia x.m.items.length ic) w (w.alloc (.cells (playC x (.slice ea x.m.entries.length ec) (.slice ia x.m.items.length ic)) 55))) := Below.refl _ _
  have HA0 := Lib.hid (ha.later HP0.out.below)
  have HF := Lib.hid hf
  have hlP := fun (wx : World) (hbw : PBox x (.slice ea x.m.entries.length ec) (.slice ia x.m.items.length ic) w wx) (o : Oper) (ops : Array Oper) (rest : List Oper) (a : Act) (Q : Exit → Act → World → Prop) (hgd : Region.wanted o (yielded ops a.tmps) = true) (y : Operand) (ho : o.op = .load 55 y) (hx : a.eval y = .pointer (some ⟨w.heap.size, 0, none⟩)) h => wpList_load_rowG (P := Tryd.prog) (ops := ops) (rest := rest) (a := a) (w := wx) (Q := Q) hgd 55 y ho w.heap.size hx 55 (playC x (.slice ea x.m.entries.length ec) (.slice ia x.m.items.length ic)) (0, 0) _ ((Below.block hbw w.heap.size (by omega)).trans (heap_alloc_new w _)) Tryd.underlying55 rfl play_info h
  have HLP := Lib.hid hlP
  clear hlP ha hf
  go_enter Tryd.func9, Tryd.ntmps9
  go_wp2_with (first | (go_at_call 14; refine (awake22_any _ HA0.out).mono ?_; rintro y w1 ⟨rfl, hb1⟩; have HP1 := Lib.hid (HP0.out.later hb1); have HA1 := Lib.hid (HA0.out.later hb1); clear hb1) | (refine HLP.out _ HP1.out ⟨some _, _, _, _, _, _⟩ _ _ _ _ rfl _ rfl rfl ?_))
  refine (far_any x _ _ _ _ _ HF.out).mono ?_
  rintro y w2 ⟨⟨b1, rfl, hs⟩, hb2⟩
  have HSn := Lib.hid hs
  have HP2 := Lib.hid (HP1.out.later hb2)
  have HA2 := Lib.hid (HA1.out.later hb2)
  clear hs hb2 HP1 HA1 HP0 HA0
  cases b1
  rotate_left
  · go_wp2
    go_ret
    exact ⟨rfl, HP2.out.below⟩
  have HN : Hid x.near := by first | exact HSn.out rfl | exact HSn.out trivial | exact HSn.out
  clear HSn
  go_wp2_with (first | (go_at_call 18; refine (nil_tick _).mono ?_; rintro y w3 ⟨rfl, rfl⟩) | (refine HLP.out _ HP2.out ⟨some _, _, _, _, _, _⟩ _ _ _ _ rfl _ rfl rfl ?_))
  refine (data_any x _ _ _ _ _ HA2.out HF.out HN.out).mono ?_
  rintro y w4 ⟨rfl, hb4⟩
  have HP4 := Lib.hid (HP2.out.later hb4)
  have k1 : w4.cell? ⟨w.heap.size, 1, none⟩ = some (.int .i64 x.operation) := HP4.out.cell rfl
  have k2 : w4.cell? ⟨w.heap.size, 2, none⟩ = some (.string x.body) := HP4.out.cell rfl
  clear hb4 HP2 HA2
  go_wp2_with (first | (go_at_call 26; refine (nil_take _ _).mono ?_; rintro y w5 ⟨rfl, rfl⟩) | (go_at_call 16; refine (nil_ask _ _ _).mono ?_; rintro y w5 ⟨rfl, rfl⟩) | (go_at_call 17; refine (nil_letters _).mono ?_; rintro y w5 ⟨rfl, rfl⟩) | (go_at_call 28; refine (nil_told _).mono ?_; rintro y w5 ⟨rfl, rfl⟩) | (go_at_call 19; refine (nil_busy _).mono ?_; rintro y w5 ⟨rfl, rfl⟩) | (go_at_call 29; refine (nil_gone _).mono ?_; rintro y w5 ⟨rfl, rfl⟩) | (go_at_call 30; refine (nil_session _).mono ?_; rintro y w5 ⟨rfl, rfl⟩))
  go_ret
  exact ⟨rfl, HP4.out.below⟩

end Go.Proofs.YtmidfknlmjgjpaaDoor
