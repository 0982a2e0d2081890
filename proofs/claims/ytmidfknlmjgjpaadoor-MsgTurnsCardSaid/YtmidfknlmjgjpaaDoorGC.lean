/- The walks of package head: the two tables of pointers, Right. The walks of package head: Right. The walks of package head: Pack. -/
import Derived.Test.YtmidfknlmjgjpaaDoorGB
import Derived.StillTailTactics
import Derived.Test.YtmidfknlmjgjpaaDoorGA
import Derived.Test.YtmidfknlmjgjpaaDoorKCrc
namespace Go.Proofs.YtmidfknlmjgjpaaDoor
open Go.RowKit

set_option maxRecDepth 100000 in
set_option maxHeartbeats 400000 in
theorem small_any (b : Nat) (w : World) :
    Calls Tryd.prog 88 #[.pointer (some ⟨b, 0, none⟩)] w fun e w' => e = .returned (.agg #[.pointer (some ⟨b, 0, none⟩), .pointer (some ⟨b, 1, none⟩), .pointer (some ⟨b, 2, none⟩)]) ∧ Below w.heap.size w w' := by
  go_enter Tryd.func88, Tryd.ntmps88
  go_wp2
  go_region
  all_goals go_wp2
  all_goals exact bodyPost_ret (v := .agg #[.pointer (some ⟨b, 0, none⟩), .pointer (some ⟨b, 1, none⟩), .pointer (some ⟨b, 2, none⟩)]) (by simp [results, Tryd.results88, go_sem]) rfl ⟨rfl, ((Below.refl _ _).alloc (Nat.le_refl _) _).drew⟩

set_option maxRecDepth 100000 in
set_option maxHeartbeats 1000000 in
theorem numbers_any (b : Nat) (w : World) :
    Calls Tryd.prog 65 #[.pointer (some ⟨b, 0, none⟩)] w fun e w' => e = .returned (.agg #[.pointer (some ⟨b, 3, none⟩), .pointer (some ⟨b, 4, none⟩), .pointer (some ⟨b, 5, none⟩), .pointer (some ⟨b, 6, none⟩), .pointer (some ⟨b, 7, none⟩), .pointer (some ⟨b, 8, none⟩), .pointer (some ⟨b, 9, none⟩), .pointer (some ⟨b, 10, none⟩)]) ∧ Below w.heap.size w w' := by
  go_enter Tryd.func65, Tryd.ntmps65
  go_wp2
  go_region
  all_goals go_wp2
  all_goals exact bodyPost_ret (v := .agg #[.pointer (some ⟨b, 3, none⟩), .pointer (some ⟨b, 4, none⟩), .pointer (some ⟨b, 5, none⟩), .pointer (some ⟨b, 6, none⟩), .pointer (some ⟨b, 7, none⟩), .pointer (some ⟨b, 8, none⟩), .pointer (some ⟨b, 9, none⟩), .pointer (some ⟨b, 10, none⟩)]) (by simp [results, Tryd.results65, go_sem]) rfl ⟨rfl, ((Below.refl _ _).alloc (Nat.le_refl _) _).drew⟩

/-- A header. -/
structure Head where
  kind : Int
  src : Int
  operation : Int
  view : Int
  op : Int
  commit : Int
  client : Int
  session : Int
  request : Int
  a : Int
  b : Int
  parent : Int

def Head.small (h : Head) : List Int := [h.kind, h.src, h.operation]
def Head.nums (h : Head) : List Int := [h.view, h.op, h.commit, h.client, h.session, h.request, h.a, h.b]
def byteB (n : Int) : Bool := decide (0 ≤ n) && decide (n ≤ 255)
def fitB (n : Int) : Bool := decide (0 ≤ n) && decide (n ≤ 72057594037927935)
def Head.right (h : Head) : Bool := h.small.all byteB && h.nums.all fitB

def headC (h : Head) : Array Value := #[.int .i64 h.kind, .int .i64 h.src, .int .i64 h.operation, .int .i64 h.view, .int .i64 h.op, .int .i64 h.commit, .int .i64 h.client, .int .i64 h.session, .int .i64 h.request, .int .i64 h.a, .int .i64 h.b, .int .u64 h.parent]

theorem run_index_agg {P : Program} (w : World) (t e len : Nat) (cs : Array Value) (k : Nat) (x : Value) (ht : P.underlying t = some (.array len e)) (hs : (isAgg e).run P w = .ok false w) (hz : (sizeOf e).run P w = .ok 1 w) (hk : k < len) (hx : cs[k]? = some x) :
    (Instr.index t (.agg cs) (.int .i64 (k : Int))).run P w = .ok x w := by
  have h0 : (0 : Int) ≤ k ∧ (k : Int) < (len : Int) := by omega
  simp [Instr.index, asIntOf, run_underlying ht, h0, part, hs, hz, hx, Result.andThen]
  intro h; omega

theorem ptr_agg (w : World) : (isAgg 86).run Tryd.prog w = .ok false w := by kernel_rfl
theorem ptr_size (w : World) : (sizeOf 86).run Tryd.prog w = .ok 1 w := by kernel_rfl

theorem all_false {p : Int → Bool} {l : List Int} {k : Nat} {x : Int} (h : l[k]? = some x) (hp : p x = false) : l.all p = false := by
  rw [List.all_eq_false]
  exact ⟨x, List.mem_of_getElem? h, by simp [hp]⟩

theorem take_all_succ {p : Int → Bool} {l : List Int} {k : Nat} {x : Int} (h : l[k]? = some x) (hp : p x = true) (ha : (l.take k).all p = true) : (l.take (k + 1)).all p = true := by
  rw [List.take_add_one, h]
  simp [ha, hp]

theorem cell_small {h : Head} {w1 : World} {N k : Nat} {x : Int} (hc : ∀ j v, (headC h)[j]? = some v → w1.cell? ⟨N, j, none⟩ = some v) (hx : h.small[k]? = some x) : w1.cell? ⟨N, k, none⟩ = some (.int .i64 x) := by
  refine hc k _ ?_
  match k, hx with
  | 0, hx => simp [Head.small] at hx; subst hx; rfl
  | 1, hx => simp [Head.small] at hx; subst hx; rfl
  | 2, hx => simp [Head.small] at hx; subst hx; rfl

theorem cell_nums {h : Head} {w1 : World} {N k : Nat} {x : Int} (hc : ∀ j v, (headC h)[j]? = some v → w1.cell? ⟨N, j, none⟩ = some v) (hx : h.nums[k]? = some x) : w1.cell? ⟨N, k + 3, none⟩ = some (.int .i64 x) := by
  refine hc (k + 3) _ ?_
  match k, hx with
  | 0, hx => simp [Head.nums] at hx; subst hx; rfl
  | 1, hx => simp [Head.nums] at hx; subst hx; rfl
  | 2, hx => simp [Head.nums] at hx; subst hx; rfl
  | 3, hx => simp [Head.nums] at hx; subst hx; rfl
  | 4, hx => simp [Head.nums] at hx; subst hx; rfl
  | 5, hx => simp [Head.nums] at hx; subst hx; rfl
  | 6, hx => simp [Head.nums] at hx; subst hx; rfl
  | 7, hx => simp [Head.nums] at hx; subst hx; rfl

theorem idx_small (N k : Nat) (hk : k < 3) (w : World) :
    (Instr.index 133 (.agg #[.pointer (some ⟨N, 0, none⟩), .pointer (some ⟨N, 1, none⟩), .pointer (some ⟨N, 2, none⟩)]) (.int .i64 (k : Int))).run Tryd.prog w = .ok (.pointer (some ⟨N, k, none⟩)) w := by
  refine run_index_agg w _ 86 3 _ k _ Tryd.underlying133 (ptr_agg w) (ptr_size w) hk ?_
  match k, hk with
  | 0, _ => rfl
  | 1, _ => rfl
  | 2, _ => rfl

theorem idx_nums (N k : Nat) (hk : k < 8) (w : World) :
    (Instr.index 110 (.agg #[.pointer (some ⟨N, 3, none⟩), .pointer (some ⟨N, 4, none⟩), .pointer (some ⟨N, 5, none⟩), .pointer (some ⟨N, 6, none⟩), .pointer (some ⟨N, 7, none⟩), .pointer (some ⟨N, 8, none⟩), .pointer (some ⟨N, 9, none⟩), .pointer (some ⟨N, 10, none⟩)]) (.int .i64 (k : Int))).run Tryd.prog w = .ok (.pointer (some ⟨N, k + 3, none⟩)) w := by
  refine run_index_agg w _ 86 8 _ k _ Tryd.underlying110 (ptr_agg w) (ptr_size w) hk ?_
  match k, hk with
  | 0, _ => rfl
  | 1, _ => rfl
  | 2, _ => rfl
  | 3, _ => rfl
  | 4, _ => rfl
  | 5, _ => rfl
  | 6, _ => rfl
  | 7, _ => rfl

theorem headC_cells {h : Head} {w w1 : World} {T : Nat} (hb : Below (w.heap.size + 1) (w.alloc (.cells (headC h) T)) w1) : ∀ j v, (headC h)[j]? = some v → w1.cell? ⟨w.heap.size, j, none⟩ = some v := by
  intro j v hv
  rw [hb.cell (by simp)]
  simpa using hv

theorem below_box {w w1 : World} {o : Obj} {n : Nat} (hb : Below n (w.alloc o) w1) (hn : w.heap.size ≤ n) : Below w.heap.size w w1 :=
  ((Below.refl _ _).alloc (Nat.le_refl _) _).trans (hb.mono hn)

set_option maxRecDepth 100000 in
set_option maxHeartbeats 1000000 in
theorem headRight_any (h : Head) (w : World) :
    Calls Tryd.prog 62 #[.agg (headC h)] w fun e w' => e = .returned (.bool h.right) ∧ Below w.heap.size w w' := by
  go_enter Tryd.func62, Tryd.ntmps62
  go_wp2_with (go_at_call 88; refine (small_any _ _).mono ?_; rintro e w1 ⟨rfl, hb⟩)
  have hb : Below (w.heap.size + 1) (w.alloc (.cells (headC h) 75)) w1 := by simpa using hb
  have Hc := Lib.hid (headC_cells hb)
  have Hb := Lib.hid hb
  clear hb
  go_loop [8] (fun i => ∃ k : Nat, k ≤ 3 ∧ i = .int .i64 k ∧ (h.small.take k).all byteB = true) (fun i => 3 - (intOf i).toNat)
  case atStart => exact ⟨0, by omega, rfl, rfl⟩
  case round =>
    obtain ⟨k, hk, rfl, hal⟩ := hrel
    have Hal := Lib.hid hal
    clear hal
    by_cases hlt : k < 3
    · obtain ⟨x, hx⟩ : ∃ x, h.small[k]? = some x := ⟨h.small[k]'(by simpa [Head.small] using hlt), by rw [List.getElem?_eq_getElem]⟩
      have hcell := cell_small Hc.out hx
      have hidx := idx_small w.heap.size k hlt
      have Hx := Lib.hid hx
      clear hx
      by_cases hp : 0 ≤ x ∧ x ≤ 255
      · obtain ⟨p1, p2⟩ := hp
        have Hn := Lib.hid (take_all_succ (p := byteB) Hx.out (by simp [byteB, p1, p2]) Hal.out)
        go_wp2
        go_round
        case rel => exact ⟨k + 1, by omega, by go_num, Hn.out⟩
        case measure => simp [intOf]; omega
      · have Hr : Hid (h.right = false) := by
          have : h.small.all byteB = false := all_false Hx.out (by simp only [byteB, Bool.and_eq_false_iff, decide_eq_false_iff_not]; omega)
          show h.right = false
          simp [Head.right, this]
        rcases (show x < 0 ∨ (0 ≤ x ∧ 255 < x) by omega) with hp | ⟨hp, hp2⟩
        all_goals
          go_wp2
          go_ret
          exact ⟨by rw [Hr.out]; rfl, below_box Hb.out (by omega)⟩
    · obtain rfl : k = 3 := by omega
      go_wp2_with (go_at_call 65; refine (numbers_any _ _).mono ?_; rintro e w2 ⟨rfl, hb2⟩)
      have hb2 : Below (w.heap.size + 1) (w.alloc (.cells (headC h) 75)) w2 := Hb.out.trans (hb2.mono (by have := Hb.out.size; simpa using this))
      have Hc2 := Lib.hid (headC_cells hb2)
      have Hb2 := Lib.hid hb2
      clear hb2
      go_loop [23] (fun i => ∃ k : Nat, k ≤ 8 ∧ i = .int .i64 k ∧ (h.nums.take k).all fitB = true) (fun i => 8 - (intOf i).toNat)
      case atStart => exact ⟨0, by omega, rfl, rfl⟩
      case round =>
        obtain ⟨k, hk, rfl, hal⟩ := hrel
        have Hal2 := Lib.hid hal
        clear hal
        by_cases hlt2 : k < 8
        · obtain ⟨x, hx⟩ : ∃ x, h.nums[k]? = some x := ⟨h.nums[k]'(by simpa [Head.nums] using hlt2), by rw [List.getElem?_eq_getElem]⟩
          have hcell := cell_nums Hc2.out hx
          have hidx := idx_nums w.heap.size k hlt2
          have Hx := Lib.hid hx
          clear hx
          by_cases hp : 0 ≤ x ∧ x ≤ 72057594037927935
          · obtain ⟨p1, p2⟩ := hp
            have Hn := Lib.hid (take_all_succ (p := fitB) Hx.out (by simp [fitB, p1, p2]) Hal2.out)
            go_wp2
            go_round
            case rel => exact ⟨k + 1, by omega, by go_num, Hn.out⟩
            case measure => simp [intOf]; omega
          · have Hr : Hid (h.right = false) := by
              have : h.nums.all fitB = false := all_false Hx.out (by simp only [fitB, Bool.and_eq_false_iff, decide_eq_false_iff_not]; omega)
              show h.right = false
              simp [Head.right, this]
            rcases (show x < 0 ∨ (0 ≤ x ∧ 72057594037927935 < x) by omega) with hp | ⟨hp, hp2⟩
            all_goals
              go_wp2
              go_ret
              exact ⟨by rw [Hr.out]; rfl, below_box Hb2.out (by omega)⟩
        · obtain rfl : k = 8 := by omega
          have Hr : Hid (h.right = true) := by
            have h1 : h.small.all byteB = true := Hal.out
            have h2 : h.nums.all fitB = true := Hal2.out
            show h.right = true
            simp [Head.right, h1, h2]
          go_wp2
          go_ret
          exact ⟨by rw [Hr.out]; rfl, below_box Hb2.out (by omega)⟩

def byteOf (n : Int) : UInt8 := UInt8.ofNat n.toNat
def Head.numB (h : Head) : List UInt8 := (h.nums.map fun n => Pl.putLE n.toNat 8).flatten
def Head.front (h : Head) (body : List UInt8) : List UInt8 := Pl.putLE (Pl.crcSum body) 4 ++ [byteOf h.kind, byteOf h.src, byteOf h.operation, 0] ++ Pl.putLE body.length 4 ++ Pl.putLE h.parent.toNat 8
def Head.mid (h : Head) (body : List UInt8) : List UInt8 := h.front body ++ h.numB ++ List.replicate 40 0
def Head.pack (h : Head) (body : List UInt8) : List UInt8 := Pl.putLE (Pl.crcSum (h.mid body)) 4 ++ h.mid body ++ body

theorem info_u8 : (Tryd.prog.info? 5).map (fun i => (i.zero, i.size, i.bytes)) = some (some (.int .u8 0), 1, 1) := by kernel_rfl

set_option maxRecDepth 100000 in
set_option maxHeartbeats 1000000 in
theorem pack_form (h : Head) (s : ByteArray) (w : World) (hr : h.right = false) :
    Calls Tryd.prog 34 #[.agg (headC h), .string s] w fun e w' => e = .returned (.tuple #[.string (str []), .int .i64 4]) ∧ Below w.heap.size w w' := by
  have Hr := Lib.hid hr
  clear hr
  unfold headC
  go_enter Tryd.func34, Tryd.ntmps34
  go_wp2_with (go_at_call 62; refine (headRight_any h _).mono ?_; rintro e w1 ⟨rfl, hb1⟩; rw [Hr.out])
  go_ret2
  exact ⟨rfl, below_box hb1 (by simp)⟩

set_option maxRecDepth 100000 in
set_option maxHeartbeats 1000000 in
theorem pack_long (h : Head) (s : ByteArray) (w : World) (hr : h.right = true) (hs : 3968 < s.size) (hs2 : s.size ≤ maxLen) :
    Calls Tryd.prog 34 #[.agg (headC h), .string s] w fun e w' => e = .returned (.tuple #[.string (str []), .int .i64 5]) ∧ Below w.heap.size w w' := by
  have Hr := Lib.hid hr
  have hs2 : s.size ≤ 9223372036854775807 := hs2
  clear hr
  unfold headC
  go_enter Tryd.func34, Tryd.ntmps34
  go_wp2_with (go_at_call 62; refine (headRight_any h _).mono ?_; rintro e w1 ⟨rfl, hb1⟩; rw [Hr.out])
  go_ret2
  exact ⟨rfl, below_box hb1 (by simp)⟩

theorem right_bounds {h : Head} (hr : h.right = true) : (0 ≤ h.kind ∧ h.kind ≤ 255) ∧ (0 ≤ h.src ∧ h.src ≤ 255) ∧ (0 ≤ h.operation ∧ h.operation ≤ 255) ∧ ∀ n ∈ h.nums, 0 ≤ n ∧ n ≤ 72057594037927935 := by
  simp only [Head.right, Bool.and_eq_true, List.all_eq_true] at hr
  obtain ⟨h1, h2⟩ := hr
  have f : ∀ n ∈ h.small, 0 ≤ n ∧ n ≤ 255 := fun n hn => by simpa [byteB] using h1 n hn
  exact ⟨f _ (by simp [Head.small]), f _ (by simp [Head.small]), f _ (by simp [Head.small]), fun n hn => by simpa [fitB] using h2 n hn⟩

theorem flat8_length (l : List Int) : (l.map fun n => Pl.putLE n.toNat 8).flatten.length = 8 * l.length := by
  induction l with
  | nil => rfl
  | cons x l ih => simp only [List.map_cons, List.flatten_cons, List.length_append, ih, Pl.putLE_length, List.length_cons]; omega

theorem front_length (h : Head) (b : List UInt8) : (h.front b).length = 20 := by simp [Head.front, Pl.putLE_length]

theorem flat8_succ {l : List Int} {k : Nat} {x : Int} (hx : l[k]? = some x) : ((l.take (k + 1)).map fun n => Pl.putLE n.toNat 8).flatten = ((l.take k).map fun n => Pl.putLE n.toNat 8).flatten ++ Pl.putLE x.toNat 8 := by
  rw [List.take_add_one, hx]
  simp

theorem numB_length (h : Head) : h.numB.length = 64 := by rw [Head.numB, flat8_length]; rfl
theorem mid_length (h : Head) (b : List UInt8) : (h.mid b).length = 124 := by
  rw [Head.mid, List.length_append, List.length_append, front_length, numB_length, List.length_replicate]

theorem bs_eq {B : Nat} {w : World} {v : Value} {l m : List UInt8} (e : l = m) (h : Bs B w v l) : Bs B w v m := e ▸ h

theorem byteOf_toNat {n : Int} (h0 : 0 ≤ n) (h1 : n ≤ 255) : ((byteOf n).toNat : Int) = n := by
  simp only [byteOf, UInt8.toNat_ofNat']
  omega

/-- The box of a header, later. -/
def HBox (N : Nat) (h : Head) (w wk : World) : Prop := w.heap.size = N ∧ Below (N + 1) (w.alloc (.cells (headC h) 75)) wk
theorem HBox.cell {N : Nat} {h : Head} {w wk : World} (hb : HBox N h w wk) {j : Nat} {v : Value} (hv : (headC h)[j]? = some v) : wk.cell? ⟨N, j, none⟩ = some v := by
  obtain ⟨rfl, hb⟩ := hb
  exact headC_cells hb j v hv
theorem HBox.size {N : Nat} {h : Head} {w wk : World} (hb : HBox N h w wk) : N + 1 ≤ wk.heap.size := by
  obtain ⟨rfl, hb⟩ := hb
  have := hb.size
  simpa using this
theorem HBox.later {N : Nat} {h : Head} {w wk wj : World} (hb : HBox N h w wk) (hj : Below wk.heap.size wk wj) : HBox N h w wj :=
  ⟨hb.1, hb.2.trans (hj.mono hb.size)⟩
theorem HBox.later' {N : Nat} {h : Head} {w wk wj : World} (hb : HBox N h w wk) (hj : Below (N + 1) wk wj) : HBox N h w wj := ⟨hb.1, hb.2.trans hj⟩
theorem HBox.below {N : Nat} {h : Head} {w wk : World} (hb : HBox N h w wk) : Below w.heap.size w wk := below_box hb.2 (by rw [hb.1]; omega)

set_option maxRecDepth 100000 in
set_option maxHeartbeats 1000000 in
theorem pack_ok (h : Head) (s : ByteArray) (w : World) (hr : h.right = true) (hs : s.size ≤ 3968) (hp0 : 0 ≤ h.parent) (hp1 : h.parent < 18446744073709551616) :
    Calls Tryd.prog 34 #[.agg (headC h), .string s] w fun e w' => e = .returned (.tuple #[.string (str (h.pack s.data.toList)), .int .i64 0]) ∧ Below w.heap.size w w' := by
  have Hr := Lib.hid hr
  obtain ⟨N, hN⟩ : ∃ N, w.heap.size = N := ⟨_, rfl⟩
  have HN := Lib.hid hN
  clear hr hN
  unfold headC
  go_enter Tryd.func34, Tryd.ntmps34
  go_wp2_with (go_at_call 62; refine (headRight_any h _).mono ?_; rintro e w1 ⟨rfl, hb1⟩; rw [Hr.out, HN.out])
  have hB1 : HBox N h w w1 := ⟨HN.out, by have := hb1; simp only [World.size_alloc, HN.out] at this; exact this⟩
  clear hb1
  have HB1 := Lib.hid hB1
  clear hB1
  have hss : s.size ≤ maxLen := by simp only [maxLen]; omega
  refine (sum_any s hss _).mono ?_
  rintro e w2 ⟨rfl, hb2⟩
  have HB2 := Lib.hid (HB1.out.later hb2)
  clear hb2 HB1 hss
  have hcl : Pl.crcSum s.data.toList < 4294967296 := Pl.crcSum_lt _
  obtain ⟨c, hc⟩ : ∃ c, c = Pl.crcSum s.data.toList := ⟨_, rfl⟩
  have HC := Lib.hid hc
  rw [← hc] at hcl ⊢
  clear hc
  go_wp2_with fail
  refine (put_any _ [] _ _ (by omega) (by omega) (by omega) (by simp; omega) (by simp) _ (Bs.nil 0 _).holds).mono ?_
  rintro e w3 ⟨v1, rfl, hv1, hb3⟩
  rw [List.nil_append, Int.toNat_natCast] at hv1
  have hz2 := HB2.out.size
  have HV1 := Lib.hid (hv1.mono (B' := N + 1) hz2)
  have HB3 := Lib.hid (HB2.out.later hb3)
  clear hv1 hb3 HB2 hz2
  have c0 : w3.cell? ⟨N, 0, none⟩ = some (.int .i64 h.kind) := HB3.out.cell rfl
  have c1 : w3.cell? ⟨N, 1, none⟩ = some (.int .i64 h.src) := HB3.out.cell rfl
  have c2 : w3.cell? ⟨N, 2, none⟩ = some (.int .i64 h.operation) := HB3.out.cell rfl
  obtain ⟨⟨k0, k1⟩, ⟨s0, s1⟩, ⟨o0, o1⟩, hnum⟩ := right_bounds Hr.out
  have Hnum := Lib.hid hnum
  clear hnum
  obtain ⟨i0, hi, hz0, hz1, hz2⟩ := info_parts info_u8
  have hsrc : Lib.HoldsBytes (w3.alloc (.cells #[.int .u8 h.kind, .int .u8 h.src, .int .u8 h.operation, .int .u8 0] 5)) (.slice (some ⟨w3.heap.size, 0, none⟩) 4 4) [byteOf h.kind, byteOf h.src, byteOf h.operation, 0] := by
    have := new_holds w3 [byteOf h.kind, byteOf h.src, byteOf h.operation, 0] 5 4
    simpa [bcells, byteOf_toNat k0 k1, byteOf_toNat s0 s1, byteOf_toNat o0 o1] using this
  have Hsrc := Lib.hid hsrc
  have hz3 := HB3.out.size
  have b3 : Below w3.heap.size w3 (w3.alloc (.cells #[.int .u8 h.kind, .int .u8 h.src, .int .u8 h.operation, .int .u8 0] 5)) := (Below.refl _ _).alloc (Nat.le_refl _) _
  have HV1' := Lib.hid (HV1.out.later b3)
  have HB3' := Lib.hid (HB3.out.later b3)
  clear hsrc b3 HV1 HB3
  have l1 : (Pl.putLE c (Int.toNat 4)).length + 4 ≤ 1000000000 := by simp [Pl.putLE_length]
  have z3 : N + 1 ≤ (w3.alloc (.cells #[.int .u8 h.kind, .int .u8 h.src, .int .u8 h.operation, .int .u8 0] 5)).heap.size := by simp; omega
  go_wp2_with (at_builtin; refine wpList_append_Bs rfl _ _ 51 rfl (N + 1) 5 i0 Tryd.underlying51 hi hz0 hz1 hz2 _ _ rfl HV1'.out (.slice (some ⟨w3.heap.size, 0, none⟩) 4 4) _ rfl Hsrc.out (fun c e => nomatch e) l1 z3 ?_)
  intro v2 w4 hv2 hg4
  have HB4 := Lib.hid (HB3'.out.later' (Bs.below HV1'.out hg4 z3))
  have HV2 := Lib.hid hv2
  clear hv2 hg4 HV1' HB3' Hsrc z3 l1 hz3 c0 c1 c2
  have q11 : w4.cell? ⟨N, 11, none⟩ = some (.int .u64 h.parent) := HB4.out.cell rfl
  go_wp2_with fail
  refine (put_any _ _ _ _ (by omega) (by omega) (by omega) (by simp; omega) (by simp [Pl.putLE_length]) _ HV2.out.holds).mono ?_
  rintro e w5 ⟨v3, rfl, hv3, hb5⟩
  have HV3 := Lib.hid (hv3.mono (B' := N + 1) HB4.out.size)
  have HB5 := Lib.hid (HB4.out.later hb5)
  clear hv3 hb5 HB4 HV2 q11
  have q11 : w5.cell? ⟨N, 11, none⟩ = some (.int .u64 h.parent) := HB5.out.cell rfl
  go_wp2_with fail
  refine (put_any _ _ _ _ hp0 (by omega) (by omega) (by simp; omega) (by simp [Pl.putLE_length]) _ HV3.out.holds).mono ?_
  rintro e w6 ⟨v4, rfl, hv4, hb6⟩
  have hfr : Pl.putLE c 4 ++ [byteOf h.kind, byteOf h.src, byteOf h.operation, 0] ++ Pl.putLE s.size 4 ++ Pl.putLE h.parent.toNat 8 = h.front s.data.toList := by
    rw [HC.out]; simp [Head.front]
  have e4 : Int.toNat 4 = 4 := rfl
  have e8 : Int.toNat 8 = 8 := rfl
  rw [Int.toNat_natCast, e4, e8, hfr] at hv4
  clear e4 e8
  have HV4 := Lib.hid (hv4.mono (B' := N + 1) HB5.out.size)
  have HB6 := Lib.hid (HB5.out.later hb6)
  clear hv4 hb6 HB5 HV3 q11 hfr
  go_wp2_with fail
  refine (numbers_any _ _).mono ?_
  rintro e w7 ⟨rfl, hb7⟩
  have HV5 := Lib.hid (HV4.out.later hb7)
  have HB7 := Lib.hid (HB6.out.later hb7)
  clear hb7 HB6 HV4
  go_wp2_with fail
  go_loopw [6, 55] (fun b i wr => ∃ k : Nat, k ≤ 8 ∧ i = .int .i64 k ∧ HBox N h w wr ∧ Bs (N + 1) wr b (h.front s.data.toList ++ ((h.nums.take k).map fun n => Pl.putLE n.toNat 8).flatten)) (fun _ i _ => 8 - (intOf i).toNat)
  case atStart => exact ⟨0, by omega, rfl, HB7.out, by simpa using HV5.out⟩
  case round =>
    obtain ⟨k, hk, rfl, hbox, hbs⟩ := hrel
    have HBX := Lib.hid hbox
    have HBS := Lib.hid hbs
    clear hbox hbs HB7 HV5
    by_cases hlt : k < 8
    · obtain ⟨x, hx⟩ : ∃ x, h.nums[k]? = some x := ⟨h.nums[k]'(by simpa [Head.nums] using hlt), by rw [List.getElem?_eq_getElem]⟩
      have hcell := cell_nums (fun j v hv => HBX.out.cell hv) hx
      have hidx := idx_nums N k hlt
      obtain ⟨x0, x1⟩ := Hnum.out x (List.mem_of_getElem? hx)
      have Hx := Lib.hid hx
      clear hx
      have hls : (h.front s.data.toList ++ ((h.nums.take k).map fun n => Pl.putLE n.toNat 8).flatten).length ≤ 1000000 := by
        rw [List.length_append, front_length, flat8_length, List.length_take]; omega
      go_wp2_with fail
      refine (put_any _ _ _ _ x0 (by omega) (by omega) (by simp; omega) hls _ HBS.out.holds).mono ?_
      rintro e w8 ⟨v6, rfl, hv6, hb8⟩
      have e8 : Int.toNat 8 = 8 := rfl
      rw [e8, List.append_assoc, ← flat8_succ Hx.out] at hv6
      have HV6 := Lib.hid (hv6.mono (B' := N + 1) HBX.out.size)
      have HB8 := Lib.hid (HBX.out.later hb8)
      clear hv6 hb8 HBX HBS e8 hls
      go_wp2
      go_roundw
      case rel => exact ⟨k + 1, by omega, by go_num, HB8.out, HV6.out⟩
      case measure => simp [intOf]; omega
    · obtain rfl : k = 8 := by omega
      have hl84 : (h.front s.data.toList ++ ((h.nums.take 8).map fun n => Pl.putLE n.toNat 8).flatten).length = 84 := by
        rw [List.length_append, front_length, flat8_length]; simp [Head.nums]
      obtain ⟨p, cap, e, _, _⟩ := HBS.out.shape
      rw [hl84] at e
      subst e
      have e40 : (h.front s.data.toList ++ ((h.nums.take 8).map fun n => Pl.putLE n.toNat 8).flatten) ++ List.replicate 40 0 = h.mid s.data.toList := by
        simp [Head.mid, Head.numB, Head.nums]
      have hsz := HBX.out.size
      have hl85 : (h.front s.data.toList ++ ((h.nums.take 8).map fun n => Pl.putLE n.toNat 8).flatten).length + Int.toNat 40 ≤ 1000000000 := by rw [hl84]; decide
      have E40 := Lib.hid e40
      clear hl84 e40
      go_wp2_with (at_builtin; refine wpList_append_zeros rfl _ _ 51 3 rfl (N + 1) 5 i0 .i64 .i64 Tryd.underlying51 Tryd.underlying3 hi hz0 hz1 hz2 _ _ rfl HBS.out 40 rfl (by omega) hl85 hsz ?_; intro v7 w9 hv7 hg9; have HV7 := Lib.hid (bs_eq E40.out hv7); have HB9 := Lib.hid (HBX.out.later' (Bs.below HBS.out hg9 hsz)); clear hv7 hg9 HBX HBS E40 hl85 hsz; have kc := conv_holds (P := Tryd.prog) 51 5 9 Tryd.underlying51 Tryd.underlying5 Tryd.underlying9 HV7.out.holds)
      have hmid := mid_length h s.data.toList
      have Hmid := Lib.hid hmid
      clear hmid
      clear kc
      have hms : (str (h.mid s.data.toList)).size ≤ maxLen := by rw [str_size, Hmid.out]; simp [maxLen]
      refine (sum_any _ hms _).mono ?_
      rintro e w10 ⟨rfl, hb10⟩
      rw [str_data]
      have HV8 := Lib.hid (HV7.out.later hb10)
      have HB10 := Lib.hid (HB9.out.later hb10)
      clear hb10 HV7 HB9 hms
      have hdl : Pl.crcSum (h.mid s.data.toList) < 4294967296 := Pl.crcSum_lt _
      obtain ⟨d, hd⟩ : ∃ d, d = Pl.crcSum (h.mid s.data.toList) := ⟨_, rfl⟩
      have HD := Lib.hid hd
      rw [← hd] at hdl ⊢
      clear hd
      go_wp2_with fail
      refine (put_any _ [] _ _ (by omega) (by omega) (by omega) (by simp; omega) (by simp) _ (Bs.nil 0 _).holds).mono ?_
      rintro e w11 ⟨v9, rfl, hv9, hb11⟩
      rw [List.nil_append, Int.toNat_natCast] at hv9
      have e4 : Int.toNat 4 = 4 := rfl
      rw [e4] at hv9
      clear e4
      have HV9 := Lib.hid hv9
      have HV10 := Lib.hid (HV8.out.later hb11)
      have HB11 := Lib.hid (HB10.out.later hb11)
      clear hv9 hb11 HV8 HB10
      have kc := conv_holds (P := Tryd.prog) 51 5 9 Tryd.underlying51 Tryd.underlying5 Tryd.underlying9 HV9.out.holds
      have kd := conv_holds (P := Tryd.prog) 51 5 9 Tryd.underlying51 Tryd.underlying5 Tryd.underlying9 HV10.out.holds
      have ks : (str (Pl.putLE d 4)).size + (str (h.mid s.data.toList)).size ≤ 9223372036854775807 := by rw [str_size, str_size, Hmid.out, Pl.putLE_length]; omega
      have ks2 : (str (Pl.putLE d 4) ++ str (h.mid s.data.toList)).size + s.size ≤ 9223372036854775807 := by rw [str_append, str_size, List.length_append, Hmid.out, Pl.putLE_length]; omega
      have kf : str (h.pack s.data.toList) = str (Pl.putLE d 4) ++ str (h.mid s.data.toList) ++ s := by
        rw [HD.out, Head.pack, ← str_append, ← str_append, str_of]
      have KF := Lib.hid kf
      clear kf
      go_wp2
      go_ret2
      exact ⟨by rw [KF.out]; rfl, HB11.out.below⟩

theorem pack_length (h : Head) (b : List UInt8) : (h.pack b).length = 128 + b.length := by
  rw [Head.pack, List.length_append, List.length_append, mid_length, Pl.putLE_length]

/-- What head.Pack answers. -/
def Head.packed (h : Head) (s : ByteArray) : ByteArray × Int :=
  if h.right = true then (if s.size ≤ 3968 then (str (h.pack s.data.toList), 0) else (str [], 5)) else (str [], 4)

theorem pack_any (h : Head) (s : ByteArray) (w : World) (hs : s.size ≤ maxLen) (hp0 : 0 ≤ h.parent) (hp1 : h.parent < 18446744073709551616) :
    Calls Tryd.prog 34 #[.agg (headC h), .string s] w fun e w' => e = .returned (.tuple #[.string (h.packed s).1, .int .i64 (h.packed s).2]) ∧ Below w.heap.size w w' := by
  unfold Head.packed
  by_cases hr : h.right = true
  · by_cases hl : s.size ≤ 3968
    · rw [if_pos hr, if_pos hl]; exact pack_ok h s w hr hl hp0 hp1
    · rw [if_pos hr, if_neg hl]; exact pack_long h s w hr (by omega) hs
  · rw [if_neg hr]; exact pack_form h s w (by simpa using hr)

end Go.Proofs.YtmidfknlmjgjpaaDoor
