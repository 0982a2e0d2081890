/- The walks of package head: Right. -/
import Derived.Test.YtmidfknlmjgjpaaDoorHead0
import Derived.Test.YtmidfknlmjgjpaaDoorNum2
namespace Go.Proofs.YtmidfknlmjgjpaaDoor
open Go.RowKit

/-- A header. -/
structure Head where
  kind : Int
  src : Int
  operation : Int
  view : Int
  op : Int
  commit : Int
  client : Int
  session : Int
  request : Int
  a : Int
  b : Int
  parent : Int

def Head.small (h : Head) : List Int := [h.kind, h.src, h.operation]
def Head.nums (h : Head) : List Int := [h.view, h.op, h.commit, h.client, h.session, h.request, h.a, h.b]
def byteB (n : Int) : Bool := decide (0 ≤ n) && decide (n ≤ 255)
def fitB (n : Int) : Bool := decide (0 ≤ n) && decide (n ≤ 72057594037927935)
def Head.right (h : Head) : Bool := h.small.all byteB && h.nums.all fitB

def headC (h : Head) : Array Value := #[.int .i64 h.kind, .int .i64 h.src, .int .i64 h.operation, .int .i64 h.view, .int .i64 h.op, .int .i64 h.commit, .int .i64 h.client, .int .i64 h.session, .int .i64 h.request, .int .i64 h.a, .int .i64 h.b, .int .u64 h.parent]

theorem run_index_agg {P : Program} (w : World) (t e len : Nat) (cs : Array Value) (k : Nat) (x : Value) (ht : P.underlying t = some (.array len e)) (hs : (isAgg e).run P w = .ok false w) (hz : (sizeOf e).run P w = .ok 1 w) (hk : k < len) (hx : cs[k]? = some x) :
    (Instr.index t (.agg cs) (.int .i64 (k : Int))).run P w = .ok x w := by
  have h0 : (0 : Int) ≤ k ∧ (k : Int) < (len : Int) := by omega
  simp [Instr.index, asIntOf, run_underlying ht, h0, part, hs, hz, hx, Result.andThen]
  intro h; omega

theorem ptr_agg (w : World) : (isAgg 86).run Tryd.prog w = .ok false w := by kernel_rfl
theorem ptr_size (w : World) : (sizeOf 86).run Tryd.prog w = .ok 1 w := by kernel_rfl

theorem all_false {p : Int → Bool} {l : List Int} {k : Nat} {x : Int} (h : l[k]? = some x) (hp : p x = false) : l.all p = false := by
  rw [List.all_eq_false]
  exact ⟨x, List.mem_of_getElem? h, by simp [hp]⟩

theorem take_all_succ {p : Int → Bool} {l : List Int} {k : Nat} {x : Int} (h : l[k]? = some x) (hp : p x = true) (ha : (l.take k).all p = true) : (l.take (k + 1)).all p = true := by
  rw [List.take_add_one, h]
  simp [ha, hp]

theorem cell_small {h : Head} {w1 : World} {N k : Nat} {x : Int} (hc : ∀ j v, (headC h)[j]? = some v → w1.cell? ⟨N, j, none⟩ = some v) (hx : h.small[k]? = some x) : w1.cell? ⟨N, k, none⟩ = some (.int .i64 x) := by
  refine hc k _ ?_
  match k, hx with
  | 0, hx => simp [Head.small] at hx; subst hx; rfl
  | 1, hx => simp [Head.small] at hx; subst hx; rfl
  | 2, hx => simp [Head.small] at hx; subst hx; rfl

theorem cell_nums {h : Head} {w1 : World} {N k : Nat} {x : Int} (hc : ∀ j v, (headC h)[j]? = some v → w1.cell? ⟨N, j, none⟩ = some v) (hx : h.nums[k]? = some x) : w1.cell? ⟨N, k + 3, none⟩ = some (.int .i64 x) := by
  refine hc (k + 3) _ ?_
  match k, hx with
  | 0, hx => simp [Head.nums] at hx; subst hx; rfl
  | 1, hx => simp [Head.nums] at hx; subst hx; rfl
  | 2, hx => simp [Head.nums] at hx; subst hx; rfl
  | 3, hx => simp [Head.nums] at hx; subst hx; rfl
  | 4, hx => simp [Head.nums] at hx; subst hx; rfl
  | 5, hx => simp [Head.nums] at hx; subst hx; rfl
  | 6, hx => simp [Head.nums] at hx; subst hx; rfl
  | 7, hx => simp [Head.nums] at hx; subst hx; rfl

theorem idx_small (N k : Nat) (hk : k < 3) (w : World) :
    (Instr.index 133 (.agg #[.pointer (some ⟨N, 0, none⟩), .pointer (some ⟨N, 1, none⟩), .pointer (some ⟨N, 2, none⟩)]) (.int .i64 (k : Int))).run Tryd.prog w = .ok (.pointer (some ⟨N, k, none⟩)) w := by
  refine run_index_agg w _ 86 3 _ k _ Tryd.underlying133 (ptr_agg w) (ptr_size w) hk ?_
  match k, hk with
  | 0, _ => rfl
  | 1, _ => rfl
  | 2, _ => rfl

theorem idx_nums (N k : Nat) (hk : k < 8) (w : World) :
    (Instr.index 110 (.agg #[.pointer (some ⟨N, 3, none⟩), .pointer (some ⟨N, 4, none⟩), .pointer (some ⟨N, 5, none⟩), .pointer (some ⟨N, 6, none⟩), .pointer (some ⟨N, 7, none⟩), .pointer (some ⟨N, 8, none⟩), .pointer (some ⟨N, 9, none⟩), .pointer (some ⟨N, 10, none⟩)]) (.int .i64 (k : Int))).run Tryd.prog w = .ok (.pointer (some ⟨N, k + 3, none⟩)) w := by
  refine run_index_agg w _ 86 8 _ k _ Tryd.underlying110 (ptr_agg w) (ptr_size w) hk ?_
  match k, hk with
  | 0, _ => rfl
  | 1, _ => rfl
  | 2, _ => rfl
  | 3, _ => rfl
  | 4, _ => rfl
  | 5, _ => rfl
  | 6, _ => rfl
  | 7, _ => rfl

theorem headC_cells {h : Head} {w w1 : World} {T : Nat} (hb : Below (w.heap.size + 1) (w.alloc (.cells (headC h) T)) w1) : ∀ j v, (headC h)[j]? = some v → w1.cell? ⟨w.heap.size, j, none⟩ = some v := by
  intro j v hv
  rw [hb.cell (by simp)]
  simpa using hv

theorem below_box {w w1 : World} {o : Obj} {n : Nat} (hb : Below n (w.alloc o) w1) (hn : w.heap.size ≤ n) : Below w.heap.size w w1 :=
  ((Below.refl _ _).alloc (Nat.le_refl _) _).trans (hb.mono hn)

set_option maxRecDepth 100000 in
set_option maxHeartbeats 1000000 in
theorem headRight_any (h : Head) (w : World) :
    Calls Tryd.prog 62 #[.agg (headC h)] w fun e w' => e = .returned (.bool h.right) ∧ Below w.heap.size w w' := by
  go_enter Tryd.func62, Tryd.ntmps62
  go_wp2_with (go_at_call 88; refine (small_any _ _).mono ?_; rintro e w1 ⟨rfl, hb⟩)
  have hb : Below (w.heap.size + 1) (w.alloc (.cells (headC h) 75)) w1 := by simpa using hb
  have Hc := Lib.hid (headC_cells hb)
  have Hb := Lib.hid hb
  clear hb
  go_loop [8] (fun i => ∃ k : Nat, k ≤ 3 ∧ i = .int .i64 k ∧ (h.small.take k).all byteB = true) (fun i => 3 - (intOf i).toNat)
  case atStart => exact ⟨0, by omega, rfl, rfl⟩
  case round =>
    obtain ⟨k, hk, rfl, hal⟩ := hrel
    have Hal := Lib.hid hal
    clear hal
    by_cases hlt : k < 3
    · obtain ⟨x, hx⟩ : ∃ x, h.small[k]? = some x := ⟨h.small[k]'(by simpa [Head.small] using hlt), by rw [List.getElem?_eq_getElem]⟩
      have hcell := cell_small Hc.out hx
      have hidx := idx_small w.heap.size k hlt
      have Hx := Lib.hid hx
      clear hx
      by_cases hp : 0 ≤ x ∧ x ≤ 255
      · obtain ⟨p1, p2⟩ := hp
        have Hn := Lib.hid (take_all_succ (p := byteB) Hx.out (by simp [byteB, p1, p2]) Hal.out)
        go_wp2
        go_round
        case rel => exact ⟨k + 1, by omega, by go_num, Hn.out⟩
        case measure => simp [intOf]; omega
      · have Hr : Hid (h.right = false) := by
          have : h.small.all byteB = false := all_false Hx.out (by simp only [byteB, Bool.and_eq_false_iff, decide_eq_false_iff_not]; omega)
          show h.right = false
          simp [Head.right, this]
        rcases (show x < 0 ∨ (0 ≤ x ∧ 255 < x) by omega) with hp | ⟨hp, hp2⟩
        all_goals
          go_wp2
          go_ret
          exact ⟨by rw [Hr.out]; rfl, below_box Hb.out (by omega)⟩
    · obtain rfl : k = 3 := by omega
      go_wp2_with (go_at_call 65; refine (numbers_any _ _).mono ?_; rintro e w2 ⟨rfl, hb2⟩)
      have hb2 : Below (w.heap.size + 1) (w.alloc (.cells (headC h) 75)) w2 := Hb.out.trans (hb2.mono (by have := Hb.out.size; simpa using this))
      have Hc2 := Lib.hid (headC_cells hb2)
      have Hb2 := Lib.hid hb2
      clear hb2
      go_loop [23] (fun i => ∃ k : Nat, k ≤ 8 ∧ i = .int .i64 k ∧ (h.nums.take k).all fitB = true) (fun i => 8 - (intOf i).toNat)
      case atStart => exact ⟨0, by omega, rfl, rfl⟩
      case round =>
        obtain ⟨k, hk, rfl, hal⟩ := hrel
        have Hal2 := Lib.hid hal
        clear hal
        by_cases hlt2 : k < 8
        · obtain ⟨x, hx⟩ : ∃ x, h.nums[k]? = some x := ⟨h.nums[k]'(by simpa [Head.nums] using hlt2), by rw [List.getElem?_eq_getElem]⟩
          have hcell := cell_nums Hc2.out hx
          have hidx := idx_nums w.heap.size k hlt2
          have Hx := Lib.hid hx
          clear hx
          by_cases hp : 0 ≤ x ∧ x ≤ 72057594037927935
          · obtain ⟨p1, p2⟩ := hp
            have Hn := Lib.hid (take_all_succ (p := fitB) Hx.out (by simp [fitB, p1, p2]) Hal2.out)
            go_wp2
            go_round
            case rel => exact ⟨k + 1, by omega, by go_num, Hn.out⟩
            case measure => simp [intOf]; omega
          · have Hr : Hid (h.right = false) := by
              have : h.nums.all fitB = false := all_false Hx.out (by simp only [fitB, Bool.and_eq_false_iff, decide_eq_false_iff_not]; omega)
              show h.right = false
              simp [Head.right, this]
            rcases (show x < 0 ∨ (0 ≤ x ∧ 72057594037927935 < x) by omega) with hp | ⟨hp, hp2⟩
            all_goals
              go_wp2
              go_ret
              exact ⟨by rw [Hr.out]; rfl, below_box Hb2.out (by omega)⟩
        · obtain rfl : k = 8 := by omega
          have Hr : Hid (h.right = true) := by
            have h1 : h.small.all byteB = true := Hal.out
            have h2 : h.nums.all fitB = true := Hal2.out
            show h.right = true
            simp [Head.right, h1, h2]
          go_wp2
          go_ret
          exact ⟨by rw [Hr.out]; rfl, below_box Hb2.out (by omega)⟩

end Go.Proofs.YtmidfknlmjgjpaaDoor
