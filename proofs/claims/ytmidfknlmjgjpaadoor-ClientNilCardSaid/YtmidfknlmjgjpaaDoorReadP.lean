/- An act among the arguments, opened; a list of them. (Written by gen_readp.py.) -/
import Derived.Test.YtmidfknlmjgjpaaDoorCl6
namespace Go.Proofs.YtmidfknlmjgjpaaDoor
open Go.RowKit Go.Deep Go.ChangeShapes Go.WideShapes

set_option maxRecDepth 100000 in
set_option maxHeartbeats 1000000 in
theorem read_msgL {H : Type} {enc : TypeId × Value → H} {W : World} {base : Nat} {sp : Nat → Bool} {held : Bool} {fuel : Nat} {cs : List Value} {x : DataW H × List MemPlace} (h : DataW.trod enc Tryd.prog W base sp held fuel 31 cs = some x) :
    ∃ (m : Msg) (ea ia : Option Addr) (ec ic : Nat), cs = (msgC m (.slice ea m.entries.length ec) (.slice ia m.items.length ic)).toList ∧ m.fit ∧ RowAt W ea m.entries.length 9 (entAt m.entries) ∧ RowAt W ia m.items.length 15 (itemAt m.items) := by
  obtain ⟨xs, n, _, _, hl, hx, hf⟩ := DataW.trod_struct Tryd.underlying31 h
  have hl : cs.length = 33 := hl.trans (by kernel_rfl)
  have F := field_some hx hf
  obtain ⟨a0, c0, w0⟩ := field_int Tryd.underlying3 (F 0 _ rfl)
  obtain ⟨a1, c1, w1⟩ := field_int Tryd.underlying3 (F 1 _ rfl)
  obtain ⟨a2, c2, w2⟩ := field_int Tryd.underlying3 (F 2 _ rfl)
  obtain ⟨a3, c3, w3⟩ := field_int Tryd.underlying3 (F 3 _ rfl)
  obtain ⟨a4, c4, w4⟩ := field_int Tryd.underlying3 (F 4 _ rfl)
  obtain ⟨a5, c5, w5⟩ := field_int Tryd.underlying3 (F 5 _ rfl)
  obtain ⟨a6, c6, w6⟩ := field_int Tryd.underlying3 (F 6 _ rfl)
  obtain ⟨a7, c7, w7⟩ := field_int Tryd.underlying3 (F 7 _ rfl)
  obtain ⟨a8, c8, w8⟩ := field_int Tryd.underlying3 (F 8 _ rfl)
  obtain ⟨a9, c9, w9⟩ := field_int Tryd.underlying3 (F 9 _ rfl)
  obtain ⟨a10, c10, w10⟩ := field_int Tryd.underlying3 (F 10 _ rfl)
  obtain ⟨a11, c11, w11⟩ := field_int Tryd.underlying3 (F 11 _ rfl)
  obtain ⟨y12, h12⟩ := F 12 _ rfl
  obtain ⟨xs2, n2, _, _, hl2, hx2, hf2⟩ := DataW.trod_struct Tryd.underlying24 h12
  have F2 := field_some hx2 hf2
  obtain ⟨b0, p0, q0⟩ := field_int Tryd.underlying3 (F2 0 _ rfl)
  obtain ⟨b1, p1, q1⟩ := field_int Tryd.underlying3 (F2 1 _ rfl)
  obtain ⟨b2, p2, q2⟩ := field_int Tryd.underlying22 (F2 2 _ rfl)
  obtain ⟨y13, h13⟩ := F 13 _ rfl
  obtain ⟨xs3, n3, _, _, hl3, hx3, hf3⟩ := DataW.trod_array Tryd.underlying25 h13
  have hc64 : Tryd.prog.cellsOf 22 = 1 := by kernel_rfl
  simp only [hc64, Nat.mul_one] at hf3
  have F3 : ∀ i, i < 6 → ∃ y, DataW.trod enc Tryd.prog W base sp held n3 22 _ = some y := fun i hi => ⟨_, (hf3 i hi).trans (List.getElem?_eq_getElem (by omega))⟩
  obtain ⟨s0, r0, t0⟩ := field_int Tryd.underlying22 (F3 0 (by omega))
  obtain ⟨s1, r1, t1⟩ := field_int Tryd.underlying22 (F3 1 (by omega))
  obtain ⟨s2, r2, t2⟩ := field_int Tryd.underlying22 (F3 2 (by omega))
  obtain ⟨s3, r3, t3⟩ := field_int Tryd.underlying22 (F3 3 (by omega))
  obtain ⟨s4, r4, t4⟩ := field_int Tryd.underlying22 (F3 4 (by omega))
  obtain ⟨s5, r5, t5⟩ := field_int Tryd.underlying22 (F3 5 (by omega))
  obtain ⟨y14, h14⟩ := F 14 _ rfl
  obtain ⟨e, e14, f14⟩ := read_entry h14
  obtain ⟨y15, h15⟩ := F 15 _ rfl
  obtain ⟨es, ea, ec, e15, l15, f15, g15⟩ := read_row (z := zeroEntry) (size := 9) Tryd.underlying28 (by kernel_rfl) (by omega) read_entry h15
  obtain ⟨y16, h16⟩ := F 16 _ rfl
  obtain ⟨is, ia, ic, e16, l16, f16, g16⟩ := read_row (z := zeroItem) (size := 15) Tryd.underlying29 (by kernel_rfl) (by omega) read_item h16
  obtain ⟨bd, c17, w17⟩ := field_str Tryd.underlying9 (F 17 _ rfl)
  refine ⟨⟨a0, a1, a2, a3, a4, a5, a6, a7, a8, a9, a10, a11, ⟨b0, b1, b2⟩, s0, s1, s2, s3, s4, s5, e, es, is, bd⟩, ea, ia, ec, ic, ?_, ⟨f14, f15, f16, w17, u64_of q2, ?_, l15, l16⟩, g15, g16⟩
  · refine list_by (by rw [hl]; rfl) fun i v hv => ?_
    match i, hv with
    | 0, hv => exact c0.trans hv
    | 1, hv => exact c1.trans hv
    | 2, hv => exact c2.trans hv
    | 3, hv => exact c3.trans hv
    | 4, hv => exact c4.trans hv
    | 5, hv => exact c5.trans hv
    | 6, hv => exact c6.trans hv
    | 7, hv => exact c7.trans hv
    | 8, hv => exact c8.trans hv
    | 9, hv => exact c9.trans hv
    | 10, hv => exact c10.trans hv
    | 11, hv => exact c11.trans hv
    | 12, hv => exact (sub_at (i := 0) p0).trans hv
    | 13, hv => exact (sub_at (i := 1) p1).trans hv
    | 14, hv => exact (sub_at (i := 2) p2).trans hv
    | 15, hv => exact (sub_at (i := 0) r0).trans hv
    | 16, hv => exact (sub_at (i := 1) r1).trans hv
    | 17, hv => exact (sub_at (i := 2) r2).trans hv
    | 18, hv => exact (sub_at (i := 3) r3).trans hv
    | 19, hv => exact (sub_at (i := 4) r4).trans hv
    | 20, hv => exact (sub_at (i := 5) r5).trans hv
    | 21, hv => exact sub_get (i := 0) e14 hv
    | 22, hv => exact sub_get (i := 1) e14 hv
    | 23, hv => exact sub_get (i := 2) e14 hv
    | 24, hv => exact sub_get (i := 3) e14 hv
    | 25, hv => exact sub_get (i := 4) e14 hv
    | 26, hv => exact sub_get (i := 5) e14 hv
    | 27, hv => exact sub_get (i := 6) e14 hv
    | 28, hv => exact sub_get (i := 7) e14 hv
    | 29, hv => exact sub_get (i := 8) e14 hv
    | 30, hv => exact sub_get (i := 0) e15 hv
    | 31, hv => exact sub_get (i := 0) e16 hv
    | 32, hv => exact c17.trans hv
    | i + 33, hv => exact absurd hv (by simp [msgC])
  · intro x hx
    simp only [List.mem_cons, List.not_mem_nil, or_false] at hx
    rcases hx with rfl | rfl | rfl | rfl | rfl | rfl
    · exact u64_of t0
    · exact u64_of t1
    · exact u64_of t2
    · exact u64_of t3
    · exact u64_of t4
    · exact u64_of t5


set_option maxRecDepth 100000 in
set_option maxHeartbeats 1000000 in
theorem read_playL {H : Type} {enc : TypeId × Value → H} {W : World} {base : Nat} {sp : Nat → Bool} {held : Bool} {fuel : Nat} {cs : List Value} {y : DataW H × List MemPlace} (h : DataW.trod enc Tryd.prog W base sp held fuel 55 cs = some y) :
    ∃ (x : Play) (ea ia : Option Addr) (ec ic : Nat), cs = (playC x (.slice ea x.m.entries.length ec) (.slice ia x.m.items.length ic)).toList ∧ x.fit := by
  obtain ⟨xs, n, _, _, hl, hx, hf⟩ := DataW.trod_struct Tryd.underlying55 h
  have hl : cs.length = 37 := hl.trans (by kernel_rfl)
  have F := field_some hx hf
  obtain ⟨a0, c0, w0⟩ := field_int Tryd.underlying3 (F 0 _ rfl)
  obtain ⟨a1, c1, w1⟩ := field_int Tryd.underlying3 (F 1 _ rfl)
  obtain ⟨a2, c2, w2⟩ := field_str Tryd.underlying9 (F 2 _ rfl)
  obtain ⟨y3, h3⟩ := F 3 _ rfl
  obtain ⟨m, ea, ia, ec, ic, e3, f3, _, _⟩ := read_msgL h3
  obtain ⟨a4, c4, w4⟩ := field_str Tryd.underlying9 (F 4 _ rfl)
  refine ⟨⟨a0, a1, a2, m, a4⟩, ea, ia, ec, ic, list_by (by rw [hl]; rfl) fun i v hv => ?_, ⟨f3, w2, w4, bounds_i64 w1⟩⟩
  match i, hv with
  | 0, hv => exact c0.trans hv
  | 1, hv => exact c1.trans hv
  | 2, hv => exact c2.trans hv
  | 3, hv => exact sub_get (i := 0) e3 hv
  | 4, hv => exact sub_get (i := 1) e3 hv
  | 5, hv => exact sub_get (i := 2) e3 hv
  | 6, hv => exact sub_get (i := 3) e3 hv
  | 7, hv => exact sub_get (i := 4) e3 hv
  | 8, hv => exact sub_get (i := 5) e3 hv
  | 9, hv => exact sub_get (i := 6) e3 hv
  | 10, hv => exact sub_get (i := 7) e3 hv
  | 11, hv => exact sub_get (i := 8) e3 hv
  | 12, hv => exact sub_get (i := 9) e3 hv
  | 13, hv => exact sub_get (i := 10) e3 hv
  | 14, hv => exact sub_get (i := 11) e3 hv
  | 15, hv => exact sub_get (i := 12) e3 hv
  | 16, hv => exact sub_get (i := 13) e3 hv
  | 17, hv => exact sub_get (i := 14) e3 hv
  | 18, hv => exact sub_get (i := 15) e3 hv
  | 19, hv => exact sub_get (i := 16) e3 hv
  | 20, hv => exact sub_get (i := 17) e3 hv
  | 21, hv => exact sub_get (i := 18) e3 hv
  | 22, hv => exact sub_get (i := 19) e3 hv
  | 23, hv => exact sub_get (i := 20) e3 hv
  | 24, hv => exact sub_get (i := 21) e3 hv
  | 25, hv => exact sub_get (i := 22) e3 hv
  | 26, hv => exact sub_get (i := 23) e3 hv
  | 27, hv => exact sub_get (i := 24) e3 hv
  | 28, hv => exact sub_get (i := 25) e3 hv
  | 29, hv => exact sub_get (i := 26) e3 hv
  | 30, hv => exact sub_get (i := 27) e3 hv
  | 31, hv => exact sub_get (i := 28) e3 hv
  | 32, hv => exact sub_get (i := 29) e3 hv
  | 33, hv => exact sub_get (i := 30) e3 hv
  | 34, hv => exact sub_get (i := 31) e3 hv
  | 35, hv => exact sub_get (i := 32) e3 hv
  | 36, hv => exact c4.trans hv
  | i + 37, hv => exact absurd hv (by simp [playC])

set_option maxRecDepth 100000 in
theorem read_play {H : Type} {enc : TypeId × Value → H} {W : World} {base base2 : Nat} {sp : Nat → Bool} {held : Bool} {r : Reach} {v : Value} {d : DataW H} {ps : List MemPlace} (hv : Value.okWide Tryd.prog W r base2 55 v) (h : DataW.Trod enc Tryd.prog W base sp held 55 v d ps) :
    ∃ (x : Play) (ea ia : Option Addr) (ec ic : Nat), v = .agg (playC x (.slice ea x.m.entries.length ec) (.slice ia x.m.items.length ic)) ∧ x.fit := by
  obtain ⟨cs, rfl, _, _⟩ : ∃ cs, v = .agg cs ∧ cs.size = Tryd.prog.cellsOf 55 ∧ Row.okWide Tryd.prog W r base2 55 cs := by
    unfold Value.okWide at hv
    rw [Tryd.underlying55] at hv
    exact hv
  obtain ⟨fuel, h⟩ := h
  have h : DataW.trod enc Tryd.prog W base sp held fuel 55 cs.toList = some (d, ps) := h
  obtain ⟨x, ea, ia, ec, ic, e, hf⟩ := read_playL h
  exact ⟨x, ea, ia, ec, ic, by rw [Array.toList_inj.1 e], hf⟩

end Go.Proofs.YtmidfknlmjgjpaaDoor
