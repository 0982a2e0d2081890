/- The walk of slot.Header (at an empty sector); msg.may, msg.fields, msg.number, msg.hasRune. -/
import Derived.Test.YtmidfknlmjgjpaaDoorSlot
namespace Go.Proofs.YtmidfknlmjgjpaaDoor
open Go.RowKit

def Stub.nums (s : Stub) : List Int := [s.op, s.view, s.under, s.parent, s.sum]

theorem stub_right {s : Stub} (h : s.right = true) : 1 ≤ s.op ∧ s.op ≤ 72057594037927935 ∧ 0 ≤ s.under ∧ s.under ≤ s.view ∧ s.view ≤ 72057594037927935 := by
  simp only [Stub.right, Bool.and_eq_true, decide_eq_true_eq] at h
  obtain ⟨⟨⟨⟨h1, h2⟩, h3⟩, h4⟩, h5⟩ := h
  exact ⟨h1, h2, h3, h4, h5⟩

set_option maxRecDepth 100000 in
set_option maxHeartbeats 1000000 in
theorem slotHeader_no (s : Stub) (hr : s.right = false) (w : World) :
    Calls Tryd.prog 103 #[.string (str []), .agg (stubC s)] w fun x w' => x = .returned (.tuple #[.string (str []), .int .i64 4]) ∧ Below w.heap.size w w' := by
  have Hr := Lib.hid hr
  clear hr
  unfold stubC
  go_enter Tryd.func103, Tryd.ntmps103
  go_wp2_with (go_at_call 114; refine (slotRight_any s _).mono ?_; rintro x w1 ⟨rfl, hb1⟩; rw [Hr.out])
  go_ret2
  exact ⟨rfl, below_box hb1 (by simp)⟩

set_option maxRecDepth 100000 in
set_option maxHeartbeats 1000000 in
theorem slotHeader_ok (s : Stub) (hr : s.right = true) (hp : U64 s.parent) (hm : U64 s.sum) (w : World) :
    Calls Tryd.prog 103 #[.string (str []), .agg (stubC s)] w fun x w' => x = .returned (.tuple #[.string (str (sealB 1 (flat8 s.nums))), .int .i64 0]) ∧ Below w.heap.size w w' := by
  obtain ⟨r1, r2, r3, r4, r5⟩ := stub_right hr
  have r6 : 0 ≤ s.op := by omega
  have r7 : 0 ≤ s.view := by omega
  have hu : ∀ x ∈ s.nums, U64 x := by
    intro x hx
    simp only [Stub.nums, List.mem_cons, List.not_mem_nil, or_false] at hx
    rcases hx with rfl | rfl | rfl | rfl | rfl
    · exact ⟨by omega, by omega⟩
    · exact ⟨by omega, by omega⟩
    · exact ⟨by omega, by omega⟩
    · exact hp
    · exact hm
  have HU := Lib.hid hu
  have Hr := Lib.hid hr
  have HP := Lib.hid hp
  have HM := Lib.hid hm
  clear hr hp hm hu
  unfold stubC
  go_enter Tryd.func103, Tryd.ntmps103
  go_wp2_with (go_at_call 114; refine (slotRight_any s _).mono ?_; rintro x w1 ⟨rfl, hb1⟩; rw [Hr.out]; have c0 : w1.cell? ⟨w.heap.size, 0, none⟩ = some (.int .i64 s.op) := (by rw [hb1.cell (by simp)]; simp); have c1 : w1.cell? ⟨w.heap.size, 1, none⟩ = some (.int .i64 s.view) := (by rw [hb1.cell (by simp)]; simp); have c2 : w1.cell? ⟨w.heap.size, 2, none⟩ = some (.int .i64 s.under) := (by rw [hb1.cell (by simp)]; simp); have c3 : w1.cell? ⟨w.heap.size, 3, none⟩ = some (.int .u64 s.parent) := (by rw [hb1.cell (by simp)]; simp); have c4 : w1.cell? ⟨w.heap.size, 4, none⟩ = some (.int .u64 s.sum) := (by rw [hb1.cell (by simp)]; simp); have HB1 := Lib.hid (below_box hb1 (by simp)); clear hb1)
  clear c0 c1 c2 c3 c4
  go_loopw [6, 27] (fun bv i wr => ∃ k : Nat, k ≤ 5 ∧ i = .int .i64 k ∧ Below (w1.heap.size + 1) (w1.alloc (.cells #[.int .u64 s.op, .int .u64 s.view, .int .u64 s.under, .int .u64 s.parent, .int .u64 s.sum] 22)) wr ∧ Bs (w1.heap.size + 1) wr bv (flat8 (s.nums.take k))) (fun _ i _ => 5 - (intOf i).toNat)
  case atStart => exact ⟨0, by omega, rfl, Below.refl _ _, Bs.nil _ _⟩
  case round =>
    obtain ⟨k, hk, rfl, hb, hbs⟩ := hrel
    have HB := Lib.hid hb
    have HBS := Lib.hid hbs
    clear hb hbs
    by_cases hlt : k < 5
    · obtain ⟨x, hx⟩ : ∃ x, s.nums[k]? = some x := ⟨s.nums[k]'(by simpa [Stub.nums] using hlt), List.getElem?_eq_getElem _⟩
      have hcell : wr.cell? ⟨w1.heap.size, k, none⟩ = some (.int .u64 x) := by
        rw [HB.out.cell (by simp)]
        match k, hx with
        | 0, hx => simp [Stub.nums] at hx; subst hx; simp
        | 1, hx => simp [Stub.nums] at hx; subst hx; simp
        | 2, hx => simp [Stub.nums] at hx; subst hx; simp
        | 3, hx => simp [Stub.nums] at hx; subst hx; simp
        | 4, hx => simp [Stub.nums] at hx; subst hx; simp
      have HX := Lib.hid (HU.out x (List.mem_of_getElem? hx))
      have hls : (flat8 (s.nums.take k)).length ≤ 1000000 := by rw [flat8_len, List.length_take]; omega
      have Hx := Lib.hid hx
      clear hx
      go_wp2_with fail
      refine (put_any _ _ _ _ HX.out.1 (by omega) (by omega) HX.out.pow hls _ HBS.out.holds).mono ?_
      rintro e w8 ⟨v6, rfl, hv6, hb8⟩
      have e8 : Int.toNat 8 = 8 := rfl
      rw [e8, ← flat8_snoc Hx.out] at hv6
      have hz8 := HB.out.size
      simp only [World.size_alloc] at hz8
      have HV6 := Lib.hid (hv6.mono (B' := w1.heap.size + 1) hz8)
      have HB8 := Lib.hid (HB.out.trans (hb8.mono hz8))
      clear hv6 hb8 HB HBS e8 hls hz8
      go_wp2
      go_roundw
      case rel => exact ⟨k + 1, by omega, by go_num, HB8.out, HV6.out⟩
      case measure => simp [intOf]; omega
    · obtain rfl : k = 5 := by omega
      have hfin : flat8 (s.nums.take 5) = flat8 s.nums := rfl
      have Hfin := Lib.hid (bs_eq hfin HBS.out)
      have hsz : (str (flat8 s.nums)).size ≤ 376 := by rw [str_size, flat8_len]; simp [Stub.nums]
      have hb2 := (below_box HB.out (by omega)).mono HB1.out.size
      have HB2 := Lib.hid (HB1.out.trans hb2)
      have kc := conv_holds (P := Tryd.prog) 51 5 9 Tryd.underlying51 Tryd.underlying5 Tryd.underlying9 Hfin.out.holds
      clear hfin HBS hb2
      go_wp2_with (go_at_call 115; refine (seal_empty _ hsz _).mono ?_; rintro x w3 ⟨rfl, hb3⟩)
      go_ret2
      exact ⟨rfl, HB2.out.trans (hb3.mono HB2.out.size)⟩

end Go.Proofs.YtmidfknlmjgjpaaDoor
