/- The walk of head.Unpack. -/
import Derived.Test.YtmidfknlmjgjpaaDoorGK
import Derived.Test.YtmidfknlmjgjpaaDoorGC
import Derived.Test.YtmidfknlmjgjpaaDoorGJ
import Derived.Deep.RegionHeld3
namespace Go.Proofs.YtmidfknlmjgjpaaDoor
open Go.RowKit

def i64 (n : Nat) : Int := wrap64 n
def numAt (s : List UInt8) (k : Nat) : Int := i64 (Pl.getLE ((s.drop (24 + 8 * k)).take 8))
/-- The header that bytes speak of. -/
def headOf (s : List UInt8) : Head :=
  { kind := ((s.getD 8 0).toNat : Int), src := ((s.getD 9 0).toNat : Int), operation := ((s.getD 10 0).toNat : Int), view := numAt s 0, op := numAt s 1, commit := numAt s 2, client := numAt s 3, session := numAt s 4, request := numAt s 5, a := numAt s 6, b := numAt s 7, parent := ((Pl.getLE ((s.drop 16).take 8) : Nat) : Int) }
def zeroHead : Head := { kind := 0, src := 0, operation := 0, view := 0, op := 0, commit := 0, client := 0, session := 0, request := 0, a := 0, b := 0, parent := 0 }
/-- What head.Unpack answers. -/
def unpackH (s : List UInt8) : Option (Head × List UInt8) := if 128 ≤ s.length ∧ (headOf s).right = true ∧ s.length - 128 ≤ 3968 ∧ (headOf s).pack (s.drop 128) = s then some (headOf s, s.drop 128) else none
def unpRes (r : Option (Head × List UInt8)) : Value := match r with
  | some (h, b) => .tuple #[.agg (headC h), .string (str b), .int .i64 0]
  | none => .tuple #[.agg (headC zeroHead), .string (str []), .int .i64 4]

theorem takeN_of (n : Nat) (p : Option Addr) (cap : Nat) (l : List UInt8) (at_ size : Nat) (hn : n = l.length) (hsz : size = 1 ∨ size = 2 ∨ size = 8) (h1 : at_ ≤ l.length) (h2 : size ≤ l.length - at_) (w : World) (hv : Lib.HoldsBytes w (.slice p n cap) l) (hcap : n ≤ cap) (hcm : cap ≤ maxLen) (hl : l.length ≤ 1000000) :
    Calls Tryd.prog 77 #[.slice p n cap, .int .i64 at_, .int .i64 size] w fun e w' => e = .returned (.tuple #[.int .u64 (Pl.getLE ((l.drop at_).take size) : Nat), .int .i64 0]) ∧ Below w.heap.size w w' := by
  subst hn
  have := take_any p cap l at_ size hsz w hv hcap hcm hl (by omega)
  have e : takeN l at_ size = (Pl.getLE ((l.drop at_).take size), 0) := by rw [takeN, if_pos ⟨h1, h2⟩]
  rw [e] at this
  exact this

theorem extract_take (s : ByteArray) (n : Nat) : (s.extract 0 n).data.toList = s.data.toList.take n := by
  rw [ByteArray.data_extract, Array.toList_extract]; simp [List.extract]
theorem sub128 (l : List UInt8) (k : Nat) (h : k + 8 ≤ 128) : ((l.take 128).drop k).take 8 = (l.drop k).take 8 := by
  rw [List.drop_take, List.take_take, Nat.min_eq_left (by omega)]
theorem frozen_of_row {w : World} {b : Nat} {cs : Array Value} {T : TypeId} (h : w.heap[b]? = some (.cells cs T (0, 0))) (j : Nat) : w.frozen? ⟨b, j, none⟩ = false := by
  unfold World.frozen?; rw [h]; simp
/-- The loop over the numbers. -/
def ULoop (l : List UInt8) (R : Nat) (W1 wr : World) (k : Nat) : Prop :=
  (∃ arr, wr.heap[R]? = some (.cells arr 75 (0, 0)) ∧ arr.size = 12 ∧ (∀ j, j < k → arr[j + 3]? = some (.int .i64 (numAt l j))) ∧ arr[0]? = some (.int .i64 ((l.getD 8 0).toNat : Int)) ∧ arr[1]? = some (.int .i64 ((l.getD 9 0).toNat : Int)) ∧ arr[2]? = some (.int .i64 ((l.getD 10 0).toNat : Int)) ∧ arr[11]? = some (.int .u64 ((Pl.getLE ((l.drop 16).take 8) : Nat) : Int))) ∧ Below R W1 wr
theorem ULoop.later {l : List UInt8} {R : Nat} {W1 wr wj : World} {k : Nat} (h : ULoop l R W1 wr k) (hb : Below wr.heap.size wr wj) : ULoop l R W1 wj k := by
  obtain ⟨⟨arr, h1, h2⟩, h3⟩ := h
  have hR : R < wr.heap.size := (Array.getElem?_eq_some_iff.1 h1).1
  exact ⟨⟨arr, (hb.block R hR).trans h1, h2⟩, h3.trans (hb.mono (by omega))⟩
theorem ULoop.cell {l : List UInt8} {R : Nat} {W1 wr : World} {k : Nat} (h : ULoop l R W1 wr k) (hk : k < 8) : ∃ u, wr.cell? ⟨R, k + 3, none⟩ = some u := by
  obtain ⟨⟨arr, h1, h2, _⟩, _⟩ := h
  exact ⟨arr[k + 3]'(by omega), by rw [cell_of_row _ _ _ _ _ _ h1]; exact Array.getElem?_eq_getElem (by omega)⟩
theorem ULoop.frozen {l : List UInt8} {R : Nat} {W1 wr : World} {k : Nat} (h : ULoop l R W1 wr k) (j : Nat) : wr.frozen? ⟨R, j, none⟩ = false := by
  obtain ⟨⟨arr, h1, _⟩, _⟩ := h
  exact frozen_of_row h1 j
theorem ULoop.next {l : List UInt8} {R : Nat} {W1 wr : World} {k : Nat} (h : ULoop l R W1 wr k) (hk : k < 8) : ULoop l R W1 (wr.setCell ⟨R, k + 3, none⟩ (.int .i64 (numAt l k))) (k + 1) := by
  obtain ⟨⟨arr, h1, h2, h3, h4, h5, h6, h7⟩, hb⟩ := h
  refine ⟨⟨_, set_block (k + 3) _ h1, by simpa using h2, fun j hj => ?_, ?_, ?_, ?_, ?_⟩, hb.setCell (Nat.le_refl R) _⟩
  · by_cases e : j = k
    · subst e; rw [Array.getElem?_setIfInBounds_self_of_lt (by omega)]
    · rw [Array.getElem?_setIfInBounds_ne (by omega)]; exact h3 j (by omega)
  · rw [Array.getElem?_setIfInBounds_ne (by omega)]; exact h4
  · rw [Array.getElem?_setIfInBounds_ne (by omega)]; exact h5
  · rw [Array.getElem?_setIfInBounds_ne (by omega)]; exact h6
  · rw [Array.getElem?_setIfInBounds_ne (by omega)]; exact h7
theorem ULoop.done {l : List UInt8} {R : Nat} {W1 wr : World} (h : ULoop l R W1 wr 8) : wr.heap[R]? = some (.cells (headC (headOf l)) 75 (0, 0)) := by
  obtain ⟨⟨arr, h1, h2, h3, h4, h5, h6, h7⟩, hb⟩ := h
  have e : arr = headC (headOf l) := by
    apply Array.ext_getElem?
    intro i
    match i with
    | 0 => exact h4
    | 1 => exact h5
    | 2 => exact h6
    | 3 => exact h3 0 (by omega)
    | 4 => exact h3 1 (by omega)
    | 5 => exact h3 2 (by omega)
    | 6 => exact h3 3 (by omega)
    | 7 => exact h3 4 (by omega)
    | 8 => exact h3 5 (by omega)
    | 9 => exact h3 6 (by omega)
    | 10 => exact h3 7 (by omega)
    | 11 => exact h7
    | i + 12 => rw [Array.getElem?_eq_none (by omega), Array.getElem?_eq_none (by simp [headC])]
  rw [← e]; exact h1

theorem head_info : (Tryd.prog.info? 75).map (·.size) = some 12 := by kernel_rfl
theorem parent_lt (l : List UInt8) : (headOf l).parent < 18446744073709551616 := by
  have h1 := Pl.getLE_lt ((l.drop 16).take 8)
  have h2 : ((l.drop 16).take 8).length ≤ 8 := by rw [List.length_take]; omega
  have h3 : (256 : Nat) ^ ((l.drop 16).take 8).length ≤ 256 ^ 8 := Nat.pow_le_pow_right (by omega) h2
  have h4 : (256 : Nat) ^ 8 = 18446744073709551616 := by decide
  show ((Pl.getLE ((l.drop 16).take 8) : Nat) : Int) < _
  omega
theorem extract_drop (s : ByteArray) (n : Nat) : (s.extract n s.size).data.toList = s.data.toList.drop n := by
  rw [ByteArray.data_extract, Array.toList_extract, List.extract_eq_take_drop]
  refine List.take_of_length_le ?_
  rw [List.length_drop, Array.length_toList]
  exact Nat.le_refl _
theorem unp_case (s px : ByteArray) (pn : Int) (hx : px = ((headOf s.data.toList).packed (s.extract 128 s.size)).1) (hn : pn = ((headOf s.data.toList).packed (s.extract 128 s.size)).2) (hb : (s.extract 128 s.size).data.toList = s.data.toList.drop 128) (h1 : ¬ s.size < 128) :
    (pn ≠ 0 ∧ unpackH s.data.toList = none) ∨ (pn = 0 ∧ (px.toList == s.toList) = false ∧ unpackH s.data.toList = none) ∨ (pn = 0 ∧ (px.toList == s.toList) = true ∧ unpackH s.data.toList = some (headOf s.data.toList, s.data.toList.drop 128)) := by
  have hsz : (s.extract 128 s.size).size = s.size - 128 := by rw [ByteArray.size_extract]; omega
  have hln : s.data.toList.length = s.size := by simp
  unfold Head.packed at hx hn
  by_cases hr : (headOf s.data.toList).right = true
  · rw [if_pos hr] at hx hn
    by_cases hl : (s.extract 128 s.size).size ≤ 3968
    · rw [if_pos hl] at hx hn
      rw [hb] at hx
      by_cases he : (headOf s.data.toList).pack (s.data.toList.drop 128) = s.data.toList
      · refine .inr (.inr ⟨hn, ?_, ?_⟩)
        · rw [hx, Lib.toList_data, Lib.toList_data, beq_iff_eq]; exact he
        · rw [unpackH, if_pos ⟨by omega, hr, by omega, he⟩]
      · refine .inr (.inl ⟨hn, ?_, ?_⟩)
        · rw [hx, Lib.toList_data, Lib.toList_data, beq_eq_false_iff_ne]; exact he
        · rw [unpackH, if_neg (fun h => he h.2.2.2)]
    · rw [if_neg hl] at hx hn
      exact .inl ⟨by rw [hn]; simp, by rw [unpackH, if_neg (fun h => by have := h.2.2.1; omega)]⟩
  · rw [if_neg hr] at hx hn
    exact .inl ⟨by rw [hn]; simp, by rw [unpackH, if_neg (fun h => hr h.2.1)]⟩

theorem wpList_move {P : Program} {ops : Array Oper} {rest : List Oper} (op : Oper) {a : Act} {w : World} {Q : Exit → Act → World → Prop} (hgd : op.guard = none) (x : Operand) (ho : op.op = .move x) (h : wpList P ops Q rest (a.put op.dst (a.eval x)) w) : wpList P ops Q (op :: rest) a w := by
  refine wpList_plain hgd fun _ hK => ?_
  unfold Oper.wp execOp
  simp only [ho, Sem.run_pure]
  exact hK _ _ h
theorem below_setRow (w : World) (g : Nat) (cs : Array Value) : Below g w (w.setRow g cs) :=
  ⟨rfl, rfl, rfl, by simp [World.setRow], fun k hk => by simp only [World.setRow, Array.getElem?_modify]; rw [if_neg (by omega)]⟩
theorem holds_at {w : World} {b : Nat} {cap n i : Nat} {l : List UInt8} {x : UInt8} (h : Lib.HoldsBytes w (.slice (some ⟨b, 0, none⟩) n cap) l) (hn : l.length = n) (hx : l[i]? = some x) : w.cell? ⟨b, i, none⟩ = some (.int .u8 (x.toNat : Int)) := by
  subst hn
  obtain ⟨b', o, e, hc⟩ := HoldsBytes.at h (by have := (List.getElem?_eq_some_iff.1 hx).1; omega)
  simp only [Option.some.injEq, Addr.mk.injEq, and_true] at e
  obtain ⟨rfl, rfl⟩ := e
  have := hc i x hx
  rwa [Nat.zero_add] at this

set_option maxRecDepth 100000 in
set_option maxHeartbeats 4000000 in
theorem unpack_any (s : ByteArray) (hs : s.size ≤ maxLen) (w : World) :
    Calls Tryd.prog 53 #[.string s] w fun e w' => e = .returned (unpRes (unpackH s.data.toList)) ∧ Below w.heap.size w w' := by
  have hs : s.size ≤ 9223372036854775807 := hs
  by_cases h1 : s.size < 128
  · have e : unpackH s.data.toList = none := by rw [unpackH, if_neg (fun h => by have := h.1; simp at this; omega)]
    rw [e]
    clear e
    go_enter Tryd.func53, Tryd.ntmps53
    go_wp2
    exact bodyPost_ret (v := unpRes none) (by simp [results, Tryd.results53, go_sem]; rfl) rfl ⟨rfl, (Below.refl _ _).alloc (Nat.le_refl _) _⟩
  · have kc := fun (wx : World) => Lib.run_convert_string_bytes (P := Tryd.prog) wx 9 51 5 (s.extract 0 128) Tryd.underlying9 Tryd.underlying51 Tryd.underlying5
    have hb1 : Below w.heap.size w (Lib.bytesWorld (w.alloc (.cells #[.int .i64 0, .int .i64 0, .int .i64 0, .int .i64 0, .int .i64 0, .int .i64 0, .int .i64 0, .int .i64 0, .int .i64 0, .int .i64 0, .int .i64 0, .int .u64 0] 75)) 5 (s.extract 0 128)) := ((Below.refl _ _).alloc (Nat.le_refl _) _).trans ((below_bytes _ _ _).mono (by simp))
    have hh1 : Lib.HoldsBytes (Lib.bytesWorld (w.alloc (.cells #[.int .i64 0, .int .i64 0, .int .i64 0, .int .i64 0, .int .i64 0, .int .i64 0, .int .i64 0, .int .i64 0, .int .i64 0, .int .i64 0, .int .i64 0, .int .u64 0] 75)) 5 (s.extract 0 128)) (.slice (some ⟨w.heap.size + 1, 0, none⟩) (s.extract 0 128).size (grownCap (w.alloc (.cells #[.int .i64 0, .int .i64 0, .int .i64 0, .int .i64 0, .int .i64 0, .int .i64 0, .int .i64 0, .int .i64 0, .int .i64 0, .int .i64 0, .int .i64 0, .int .u64 0] 75)) (s.extract 0 128).size 0 5)) (s.extract 0 128).data.toList := by
      have := bytes_holds (w := w.alloc (.cells #[.int .i64 0, .int .i64 0, .int .i64 0, .int .i64 0, .int .i64 0, .int .i64 0, .int .i64 0, .int .i64 0, .int .i64 0, .int .i64 0, .int .i64 0, .int .u64 0] 75)) 5 (s.extract 0 128) (grownCap (w.alloc (.cells #[.int .i64 0, .int .i64 0, .int .i64 0, .int .i64 0, .int .i64 0, .int .i64 0, .int .i64 0, .int .i64 0, .int .i64 0, .int .i64 0, .int .i64 0, .int .u64 0] 75)) (s.extract 0 128).size 0 5) (Below.refl _ _)
      simpa using this
    have hz1 : (Lib.bytesWorld (w.alloc (.cells #[.int .i64 0, .int .i64 0, .int .i64 0, .int .i64 0, .int .i64 0, .int .i64 0, .int .i64 0, .int .i64 0, .int .i64 0, .int .i64 0, .int .i64 0, .int .u64 0] 75)) 5 (s.extract 0 128)).heap.size = w.heap.size + 2 := by rw [Lib.bytesWorld_size]; simp
    have hr1 : (Lib.bytesWorld (w.alloc (.cells #[.int .i64 0, .int .i64 0, .int .i64 0, .int .i64 0, .int .i64 0, .int .i64 0, .int .i64 0, .int .i64 0, .int .i64 0, .int .i64 0, .int .i64 0, .int .u64 0] 75)) 5 (s.extract 0 128)).heap[w.heap.size]? = some (.cells #[.int .i64 0, .int .i64 0, .int .i64 0, .int .i64 0, .int .i64 0, .int .i64 0, .int .i64 0, .int .i64 0, .int .i64 0, .int .i64 0, .int .i64 0, .int .u64 0] 75 (0, 0)) := (Lib.bytesWorld_at_old _ _ _ _ (by simp)).trans (heap_alloc_new w _)
    have hmin : min 128 s.size = 128 := by omega
    have hxs : (s.extract 0 128).size = 128 := by rw [ByteArray.size_extract]; omega
    rw [hxs] at hh1
    have Hxs := Lib.hid hxs
    clear hxs
    go_enter Tryd.func53, Tryd.ntmps53
    go_wp2
    change Code.wp _ _ _ _ (Lib.bytesWorld (w.alloc (.cells #[.int .i64 0, .int .i64 0, .int .i64 0, .int .i64 0, .int .i64 0, .int .i64 0, .int .i64 0, .int .i64 0, .int .i64 0, .int .i64 0, .int .i64 0, .int .u64 0] 75)) 5 (s.extract 0 128))
    have hcg : 128 ≤ grownCap (w.alloc (.cells #[.int .i64 0, .int .i64 0, .int .i64 0, .int .i64 0, .int .i64 0, .int .i64 0, .int .i64 0, .int .i64 0, .int .i64 0, .int .i64 0, .int .i64 0, .int .u64 0] 75)) 128 0 5 := grownCap_ge _ _ _ _
    have hcx : grownCap (w.alloc (.cells #[.int .i64 0, .int .i64 0, .int .i64 0, .int .i64 0, .int .i64 0, .int .i64 0, .int .i64 0, .int .i64 0, .int .i64 0, .int .i64 0, .int .i64 0, .int .u64 0] 75)) 128 0 5 ≤ maxLen := grownCap_le_maxLen _ _ _ _ (by simp only [maxLen]; omega)
    generalize Lib.bytesWorld (w.alloc (.cells #[.int .i64 0, .int .i64 0, .int .i64 0, .int .i64 0, .int .i64 0, .int .i64 0, .int .i64 0, .int .i64 0, .int .i64 0, .int .i64 0, .int .i64 0, .int .u64 0] 75)) 5 (s.extract 0 128) = W1 at *
    generalize grownCap (w.alloc (.cells #[.int .i64 0, .int .i64 0, .int .i64 0, .int .i64 0, .int .i64 0, .int .i64 0, .int .i64 0, .int .i64 0, .int .i64 0, .int .i64 0, .int .i64 0, .int .u64 0] 75)) 128 0 5 = cap at *
    have hl : (s.extract 0 128).data.toList = s.data.toList.take 128 := extract_take s 128
    rw [hl] at hh1
    have hln : (s.data.toList.take 128).length = 128 := by rw [List.length_take]; simp; omega
    obtain ⟨x8, e8⟩ : ∃ x, s.data.toList[8]? = some x := ⟨_, List.getElem?_eq_getElem (by simp; omega)⟩
    obtain ⟨x9, e9⟩ : ∃ x, s.data.toList[9]? = some x := ⟨_, List.getElem?_eq_getElem (by simp; omega)⟩
    obtain ⟨x10, e10⟩ : ∃ x, s.data.toList[10]? = some x := ⟨_, List.getElem?_eq_getElem (by simp; omega)⟩
    have c8 : W1.cell? ⟨w.heap.size + 1, 8, none⟩ = some (.int .u8 (x8.toNat : Int)) := holds_at hh1 hln (by rw [List.getElem?_take, if_pos (by omega)]; exact e8)
    have c9 : W1.cell? ⟨w.heap.size + 1, 9, none⟩ = some (.int .u8 (x9.toNat : Int)) := holds_at hh1 hln (by rw [List.getElem?_take, if_pos (by omega)]; exact e9)
    have c10 : W1.cell? ⟨w.heap.size + 1, 10, none⟩ = some (.int .u8 (x10.toNat : Int)) := holds_at hh1 hln (by rw [List.getElem?_take, if_pos (by omega)]; exact e10)
    have HH := Lib.hid hh1
    have HL := Lib.hid hln
    have HB1 := Lib.hid hb1
    have HR1 := Lib.hid hr1
    have HZ1 := Lib.hid hz1
    have E8 := Lib.hid e8
    have E9 := Lib.hid e9
    have E10 := Lib.hid e10
    have HCx := Lib.hid hcx
    have hw2 : w.heap.size + 1 < W1.heap.size := by omega
    have v8 : IntKind.i64.wrap (x8.toNat : Int) = (x8.toNat : Int) := wrap_i64_small (by omega) (by have := x8.toNat_lt; omega)
    have v9 : IntKind.i64.wrap (x9.toNat : Int) = (x9.toNat : Int) := wrap_i64_small (by omega) (by have := x9.toNat_lt; omega)
    have v10 : IntKind.i64.wrap (x10.toNat : Int) = (x10.toNat : Int) := wrap_i64_small (by omega) (by have := x10.toNat_lt; omega)
    clear hl hln hh1 kc hb1 hr1 hz1 e8 e9 e10 hcx
    go_region_held3 (fun w' => w'.cell? ⟨w.heap.size + 1, 8, none⟩ = some (.int .u8 (x8.toNat : Int)) ∧ w'.cell? ⟨w.heap.size + 1, 9, none⟩ = some (.int .u8 (x9.toNat : Int)) ∧ w'.cell? ⟨w.heap.size + 1, 10, none⟩ = some (.int .u8 (x10.toNat : Int)))
      (go_keep)
      (first | fail)
    rename_i hHeld
    clear hHeld v8 v9 v10 c8 c9 c10
    obtain ⟨R, hR⟩ : ∃ R, W1.heap.size = R := ⟨_, rfl⟩
    have hb2 : Below W1.heap.size W1 (W1.alloc (.cells #[.int .i64 (x8.toNat : Int), .int .i64 (x9.toNat : Int), .int .i64 (x10.toNat : Int), .int .i64 0, .int .i64 0, .int .i64 0, .int .i64 0, .int .i64 0, .int .i64 0, .int .i64 0, .int .i64 0, .int .u64 0] 75)).drew := ((Below.refl _ _).alloc (Nat.le_refl _) _).drew
    have hk2 : (W1.alloc (.cells #[.int .i64 (x8.toNat : Int), .int .i64 (x9.toNat : Int), .int .i64 (x10.toNat : Int), .int .i64 0, .int .i64 0, .int .i64 0, .int .i64 0, .int .i64 0, .int .i64 0, .int .i64 0, .int .i64 0, .int .u64 0] 75)).drew.heap[W1.heap.size]? = some (.cells #[.int .i64 (x8.toNat : Int), .int .i64 (x9.toNat : Int), .int .i64 (x10.toNat : Int), .int .i64 0, .int .i64 0, .int .i64 0, .int .i64 0, .int .i64 0, .int .i64 0, .int .i64 0, .int .i64 0, .int .u64 0] 75 (0, 0)) := heap_alloc_new W1 _
    have hz2 : R < (W1.alloc (.cells #[.int .i64 (x8.toNat : Int), .int .i64 (x9.toNat : Int), .int .i64 (x10.toNat : Int), .int .i64 0, .int .i64 0, .int .i64 0, .int .i64 0, .int .i64 0, .int .i64 0, .int .i64 0, .int .i64 0, .int .u64 0] 75)).drew.heap.size := by rw [← hR]; simp
    generalize (W1.alloc (.cells #[.int .i64 (x8.toNat : Int), .int .i64 (x9.toNat : Int), .int .i64 (x10.toNat : Int), .int .i64 0, .int .i64 0, .int .i64 0, .int .i64 0, .int .i64 0, .int .i64 0, .int .i64 0, .int .i64 0, .int .u64 0] 75)).drew = W2 at *
    rw [hR] at hb2 hk2
    simp only [hR]
    have HB2 : Hid (Below R W1 W2) := hb2
    have HK2 := Lib.hid hk2
    have HZ2 := Lib.hid hz2
    have HRz : Hid (W1.heap.size = R) := hR
    have HH2 : Hid (Lib.HoldsBytes W2 (.slice (some ⟨w.heap.size + 1, 0, none⟩) 128 cap) (s.data.toList.take 128)) := HoldsBytes.later HH.out (by rw [hR]; exact hb2)
    clear hb2 hk2 hz2 hw2
    go_wp2_with (go_at_call 77; refine (takeN_of 128 _ cap _ 16 8 HL.out.symm (by omega) (by rw [HL.out]; omega) (by rw [HL.out]; omega) _ HH2.out hcg HCx.out (by rw [HL.out]; omega)).mono ?_; rw [sub128 _ 16 (by omega)]; rintro x w3 ⟨rfl, hb3⟩; have HB3 := Lib.hid hb3; have HK3 := Lib.hid ((hb3.block R HZ2.out).trans HK2.out); have k11 : w3.cell? ⟨R, 11, none⟩ = some (.int .u64 0) := (cell_of_row _ _ _ _ _ _ HK3.out); have z11 : w3.frozen? ⟨R, 11, none⟩ = false := frozen_of_row HK3.out 11; clear hb3)
    refine (numbers_any R _).mono ?_
    rintro x w4 ⟨rfl, hb4⟩
    have hU : ULoop s.data.toList R W1 w4 0 := by
      have hk4 := (hb4.block R (by simp only [World.setCell, Array.size_modify]; exact Nat.lt_of_lt_of_le HZ2.out HB3.out.size)).trans (set_block 11 (.int .u64 (Pl.getLE (List.take 8 (List.drop 16 s.data.toList)) : Nat)) HK3.out)
      refine ⟨⟨_, hk4, by simp, fun j hj => by omega, ?_, ?_, ?_, ?_⟩, ?_⟩
      · rw [List.getD_eq_getElem?_getD, E8.out]; rfl
      · rw [List.getD_eq_getElem?_getD, E9.out]; rfl
      · rw [List.getD_eq_getElem?_getD, E10.out]; rfl
      · simp
      · exact HB2.out.trans (((HB3.out.mono (Nat.le_of_lt HZ2.out)).setCell (Nat.le_refl R) _).trans (hb4.mono (by simp only [World.setCell, Array.size_modify]; exact Nat.le_trans (Nat.le_of_lt HZ2.out) HB3.out.size)))
    have HU := Lib.hid hU
    clear hb4 hU HB3 HK3 k11 z11 HK2 HZ2 HH2 HB2
    go_wp2
    go_loopw [41] (fun i wr => ∃ k : Nat, k ≤ 8 ∧ i = .int .i64 k ∧ ULoop s.data.toList R W1 wr k) (fun i _ => 8 - (intOf i).toNat)
    case atStart => exact ⟨0, by omega, rfl, HU.out⟩
    case round =>
      obtain ⟨k, hk, rfl, hu⟩ := hrel
      have HUk := Lib.hid hu
      clear hu HU
      by_cases hlt : k < 8
      · have hidx := idx_nums R k hlt wr
        have HHr : Hid (Lib.HoldsBytes wr (.slice (some ⟨w.heap.size + 1, 0, none⟩) 128 cap) (s.data.toList.take 128)) := HoldsBytes.later HH.out (by rw [HRz.out]; exact HUk.out.2)
        go_wp2_with (go_at_call 77; refine (takeN_of 128 _ cap _ (24 + 8 * k) 8 HL.out.symm (by omega) (by rw [HL.out]; omega) (by rw [HL.out]; omega) _ HHr.out hcg HCx.out (by rw [HL.out]; omega)).mono ?_; rw [sub128 _ (24 + 8 * k) (by omega)]; rintro x w5 ⟨rfl, hb5⟩; have HU5 := Lib.hid (HUk.out.later hb5); obtain ⟨u, k5⟩ := HU5.out.cell hlt; have z5 := HU5.out.frozen (k + 3); clear hb5)
        go_roundw
        case rel => exact ⟨k + 1, by omega, by go_num, HU5.out.next hlt⟩
        case measure => simp [intOf]; omega
      · obtain rfl : k = 8 := by omega
        have hd := HUk.out.done
        have hbw := HUk.out.2
        have hres : wr.heap[w.heap.size]? = some (.cells #[.int .i64 0, .int .i64 0, .int .i64 0, .int .i64 0, .int .i64 0, .int .i64 0, .int .i64 0, .int .i64 0, .int .i64 0, .int .i64 0, .int .i64 0, .int .u64 0] 75 (0, 0)) := (hbw.block w.heap.size (by have := HZ1.out; have := HRz.out; omega)).trans HR1.out
        have hB : Below w.heap.size w wr := HB1.out.trans (hbw.mono (by have := HZ1.out; have := HRz.out; omega))
        have HB := Lib.hid hB
        have HRes := Lib.hid hres
        have HD := Lib.hid hd
        have hp0 : 0 ≤ (headOf s.data.toList).parent := Int.natCast_nonneg _
        have hp1 : (headOf s.data.toList).parent < 18446744073709551616 := parent_lt _
        have hbody : (s.extract 128 s.size).data.toList = s.data.toList.drop 128 := extract_drop s 128
        have hbs : (s.extract 128 s.size).size ≤ maxLen := by rw [ByteArray.size_extract]; simp only [maxLen]; omega
        obtain ⟨px, hpx⟩ : ∃ x, x = ((headOf s.data.toList).packed (s.extract 128 s.size)).1 := ⟨_, rfl⟩
        obtain ⟨pn, hpn⟩ : ∃ x, x = ((headOf s.data.toList).packed (s.extract 128 s.size)).2 := ⟨_, rfl⟩
        have hcase := unp_case s px pn hpx hpn hbody h1
        have HPk := Lib.hid (fun wx => pack_as (headOf s.data.toList) (s.extract 128 s.size) px pn hpx hpn wx hbs hp0 hp1)
        have HCase := Lib.hid hcase
        obtain ⟨hh, hhe⟩ : ∃ hh, hh = headOf s.data.toList := ⟨_, rfl⟩
        rw [← hhe] at HPk HD
        have HHe := Lib.hid hhe
        clear hd hbw hres hB hp0 hp1 hbody hbs hpx hpn hcase hhe HUk HH HL HB1 HR1 E8 E9 E10 HCx hcg hR
        have hlD := fun (o : Oper) (ops : Array Oper) (rest : List Oper) (a : Act) (wx : World) (hwx : wx.heap[R]? = some (.cells (headC hh) 75 (0, 0))) (Q : Exit → Act → World → Prop) (hgd : o.guard = none) (x : Operand) (ho : o.op = .load 75 x) (hx : a.eval x = .pointer (some ⟨R, 0, none⟩)) h => wpList_load_row (P := Tryd.prog) (w := wx) (ops := ops) (rest := rest) (a := a) (Q := Q) hgd 75 x ho R hx 75 (headC hh) (0, 0) _ hwx Tryd.underlying75 rfl head_info h
        have HLD := Lib.hid hlD
        clear hlD
        go_wp2_with (refine HLD.out ⟨some 61, _, _, _, _, _⟩ _ _ _ _ HD.out _ rfl _ rfl rfl ?_)
        refine (HPk.out _).mono ?_
        rintro x w6 ⟨rfl, hb6⟩
        have HB6 := Lib.hid (HB.out.trans (hb6.mono HB.out.size))
        have hd6 := (hb6.block R (Array.getElem?_eq_some_iff.1 HD.out).1).trans HD.out
        have hr6 := (hb6.block w.heap.size (Array.getElem?_eq_some_iff.1 HRes.out).1).trans HRes.out
        have HD6 := Lib.hid hd6
        have HR6 := Lib.hid hr6
        clear hb6 hd6 hr6 HD HRes HB HPk
        rcases HCase.out with ⟨hp, hu⟩ | ⟨rfl, hq, hu⟩ | ⟨rfl, hq, hu⟩
        · have hp2 : (pn == 0) = false := by simpa using hp
          have hp3 : (pn != 0) = true := by simp [hp2, bne]
          have HU := Lib.hid hu
          clear hu hp hp2 HCase
          have k0 : w6.cell? ⟨w.heap.size, 0, none⟩ = some (.int .i64 0) := cell_of_row _ _ _ _ _ _ HR6.out
          have z0 := frozen_of_row HR6.out 0
          have k1 : w6.cell? ⟨w.heap.size, 1, none⟩ = some (.int .i64 0) := cell_of_row _ _ _ _ _ _ HR6.out
          have z1 := frozen_of_row HR6.out 1
          have k2 : w6.cell? ⟨w.heap.size, 2, none⟩ = some (.int .i64 0) := cell_of_row _ _ _ _ _ _ HR6.out
          have z2 := frozen_of_row HR6.out 2
          have k3 : w6.cell? ⟨w.heap.size, 3, none⟩ = some (.int .i64 0) := cell_of_row _ _ _ _ _ _ HR6.out
          have z3 := frozen_of_row HR6.out 3
          have k4 : w6.cell? ⟨w.heap.size, 4, none⟩ = some (.int .i64 0) := cell_of_row _ _ _ _ _ _ HR6.out
          have z4 := frozen_of_row HR6.out 4
          have k5 : w6.cell? ⟨w.heap.size, 5, none⟩ = some (.int .i64 0) := cell_of_row _ _ _ _ _ _ HR6.out
          have z5 := frozen_of_row HR6.out 5
          have k6 : w6.cell? ⟨w.heap.size, 6, none⟩ = some (.int .i64 0) := cell_of_row _ _ _ _ _ _ HR6.out
          have z6 := frozen_of_row HR6.out 6
          have k7 : w6.cell? ⟨w.heap.size, 7, none⟩ = some (.int .i64 0) := cell_of_row _ _ _ _ _ _ HR6.out
          have z7 := frozen_of_row HR6.out 7
          have k8 : w6.cell? ⟨w.heap.size, 8, none⟩ = some (.int .i64 0) := cell_of_row _ _ _ _ _ _ HR6.out
          have z8 := frozen_of_row HR6.out 8
          have k9 : w6.cell? ⟨w.heap.size, 9, none⟩ = some (.int .i64 0) := cell_of_row _ _ _ _ _ _ HR6.out
          have z9 := frozen_of_row HR6.out 9
          have k10 : w6.cell? ⟨w.heap.size, 10, none⟩ = some (.int .i64 0) := cell_of_row _ _ _ _ _ _ HR6.out
          have z10 := frozen_of_row HR6.out 10
          have k11 : w6.cell? ⟨w.heap.size, 11, none⟩ = some (.int .u64 0) := cell_of_row _ _ _ _ _ _ HR6.out
          have z11 := frozen_of_row HR6.out 11
          go_wp2
          have hu := HU.out
          clear k0 z0 k1 z1 k2 z2 k3 z3 k4 z4 k5 z5 k6 z6 k7 z7 k8 z8 k9 z9 k10 z10 k11 z11
          have hk : ((((((((((((w6.setCell ⟨w.heap.size, 0, none⟩ (.int .i64 0)).setCell ⟨w.heap.size, 1, none⟩ (.int .i64 0)).setCell ⟨w.heap.size, 2, none⟩ (.int .i64 0)).setCell ⟨w.heap.size, 3, none⟩ (.int .i64 0)).setCell ⟨w.heap.size, 4, none⟩ (.int .i64 0)).setCell ⟨w.heap.size, 5, none⟩ (.int .i64 0)).setCell ⟨w.heap.size, 6, none⟩ (.int .i64 0)).setCell ⟨w.heap.size, 7, none⟩ (.int .i64 0)).setCell ⟨w.heap.size, 8, none⟩ (.int .i64 0)).setCell ⟨w.heap.size, 9, none⟩ (.int .i64 0)).setCell ⟨w.heap.size, 10, none⟩ (.int .i64 0)).setCell ⟨w.heap.size, 11, none⟩ (.int .u64 0)).heap[w.heap.size]? = some (.cells #[.int .i64 0, .int .i64 0, .int .i64 0, .int .i64 0, .int .i64 0, .int .i64 0, .int .i64 0, .int .i64 0, .int .i64 0, .int .i64 0, .int .i64 0, .int .u64 0] 75 (0, 0)) := (set_block 11 _ (set_block 10 _ (set_block 9 _ (set_block 8 _ (set_block 7 _ (set_block 6 _ (set_block 5 _ (set_block 4 _ (set_block 3 _ (set_block 2 _ (set_block 1 _ (set_block 0 _ HR6.out))))))))))))
          have hbz : Below w.heap.size w ((((((((((((w6.setCell ⟨w.heap.size, 0, none⟩ (.int .i64 0)).setCell ⟨w.heap.size, 1, none⟩ (.int .i64 0)).setCell ⟨w.heap.size, 2, none⟩ (.int .i64 0)).setCell ⟨w.heap.size, 3, none⟩ (.int .i64 0)).setCell ⟨w.heap.size, 4, none⟩ (.int .i64 0)).setCell ⟨w.heap.size, 5, none⟩ (.int .i64 0)).setCell ⟨w.heap.size, 6, none⟩ (.int .i64 0)).setCell ⟨w.heap.size, 7, none⟩ (.int .i64 0)).setCell ⟨w.heap.size, 8, none⟩ (.int .i64 0)).setCell ⟨w.heap.size, 9, none⟩ (.int .i64 0)).setCell ⟨w.heap.size, 10, none⟩ (.int .i64 0)).setCell ⟨w.heap.size, 11, none⟩ (.int .u64 0)) := ((((((((((((HB6.out.setCell (Nat.le_refl _) _).setCell (Nat.le_refl _) _).setCell (Nat.le_refl _) _).setCell (Nat.le_refl _) _).setCell (Nat.le_refl _) _).setCell (Nat.le_refl _) _).setCell (Nat.le_refl _) _).setCell (Nat.le_refl _) _).setCell (Nat.le_refl _) _).setCell (Nat.le_refl _) _).setCell (Nat.le_refl _) _).setCell (Nat.le_refl _) _)
          generalize ((((((((((((w6.setCell ⟨w.heap.size, 0, none⟩ (.int .i64 0)).setCell ⟨w.heap.size, 1, none⟩ (.int .i64 0)).setCell ⟨w.heap.size, 2, none⟩ (.int .i64 0)).setCell ⟨w.heap.size, 3, none⟩ (.int .i64 0)).setCell ⟨w.heap.size, 4, none⟩ (.int .i64 0)).setCell ⟨w.heap.size, 5, none⟩ (.int .i64 0)).setCell ⟨w.heap.size, 6, none⟩ (.int .i64 0)).setCell ⟨w.heap.size, 7, none⟩ (.int .i64 0)).setCell ⟨w.heap.size, 8, none⟩ (.int .i64 0)).setCell ⟨w.heap.size, 9, none⟩ (.int .i64 0)).setCell ⟨w.heap.size, 10, none⟩ (.int .i64 0)).setCell ⟨w.heap.size, 11, none⟩ (.int .u64 0)) = w7 at *
          have e0 := cell_of_row w7 w.heap.size 0 _ _ _ hk
          have e1 := cell_of_row w7 w.heap.size 1 _ _ _ hk
          have e2 := cell_of_row w7 w.heap.size 2 _ _ _ hk
          have e3 := cell_of_row w7 w.heap.size 3 _ _ _ hk
          have e4 := cell_of_row w7 w.heap.size 4 _ _ _ hk
          have e5 := cell_of_row w7 w.heap.size 5 _ _ _ hk
          have e6 := cell_of_row w7 w.heap.size 6 _ _ _ hk
          have e7 := cell_of_row w7 w.heap.size 7 _ _ _ hk
          have e8 := cell_of_row w7 w.heap.size 8 _ _ _ hk
          have e9 := cell_of_row w7 w.heap.size 9 _ _ _ hk
          have e10 := cell_of_row w7 w.heap.size 10 _ _ _ hk
          have e11 := cell_of_row w7 w.heap.size 11 _ _ _ hk
          clear hk
          exact bodyPost_ret (v := unpRes none) (by simp [results, Tryd.results53, go_sem, e0, e1, e2, e3, e4, e5, e6, e7, e8, e9, e10, e11, unpRes, headC, zeroHead]) rfl ⟨by rw [hu], hbz⟩
        · have HU := Lib.hid hu
          clear hu HCase
          have k0 : w6.cell? ⟨w.heap.size, 0, none⟩ = some (.int .i64 0) := cell_of_row _ _ _ _ _ _ HR6.out
          have z0 := frozen_of_row HR6.out 0
          have k1 : w6.cell? ⟨w.heap.size, 1, none⟩ = some (.int .i64 0) := cell_of_row _ _ _ _ _ _ HR6.out
          have z1 := frozen_of_row HR6.out 1
          have k2 : w6.cell? ⟨w.heap.size, 2, none⟩ = some (.int .i64 0) := cell_of_row _ _ _ _ _ _ HR6.out
          have z2 := frozen_of_row HR6.out 2
          have k3 : w6.cell? ⟨w.heap.size, 3, none⟩ = some (.int .i64 0) := cell_of_row _ _ _ _ _ _ HR6.out
          have z3 := frozen_of_row HR6.out 3
          have k4 : w6.cell? ⟨w.heap.size, 4, none⟩ = some (.int .i64 0) := cell_of_row _ _ _ _ _ _ HR6.out
          have z4 := frozen_of_row HR6.out 4
          have k5 : w6.cell? ⟨w.heap.size, 5, none⟩ = some (.int .i64 0) := cell_of_row _ _ _ _ _ _ HR6.out
          have z5 := frozen_of_row HR6.out 5
          have k6 : w6.cell? ⟨w.heap.size, 6, none⟩ = some (.int .i64 0) := cell_of_row _ _ _ _ _ _ HR6.out
          have z6 := frozen_of_row HR6.out 6
          have k7 : w6.cell? ⟨w.heap.size, 7, none⟩ = some (.int .i64 0) := cell_of_row _ _ _ _ _ _ HR6.out
          have z7 := frozen_of_row HR6.out 7
          have k8 : w6.cell? ⟨w.heap.size, 8, none⟩ = some (.int .i64 0) := cell_of_row _ _ _ _ _ _ HR6.out
          have z8 := frozen_of_row HR6.out 8
          have k9 : w6.cell? ⟨w.heap.size, 9, none⟩ = some (.int .i64 0) := cell_of_row _ _ _ _ _ _ HR6.out
          have z9 := frozen_of_row HR6.out 9
          have k10 : w6.cell? ⟨w.heap.size, 10, none⟩ = some (.int .i64 0) := cell_of_row _ _ _ _ _ _ HR6.out
          have z10 := frozen_of_row HR6.out 10
          have k11 : w6.cell? ⟨w.heap.size, 11, none⟩ = some (.int .u64 0) := cell_of_row _ _ _ _ _ _ HR6.out
          have z11 := frozen_of_row HR6.out 11
          go_wp2
          have hu := HU.out
          clear k0 z0 k1 z1 k2 z2 k3 z3 k4 z4 k5 z5 k6 z6 k7 z7 k8 z8 k9 z9 k10 z10 k11 z11
          have hk : ((((((((((((w6.setCell ⟨w.heap.size, 0, none⟩ (.int .i64 0)).setCell ⟨w.heap.size, 1, none⟩ (.int .i64 0)).setCell ⟨w.heap.size, 2, none⟩ (.int .i64 0)).setCell ⟨w.heap.size, 3, none⟩ (.int .i64 0)).setCell ⟨w.heap.size, 4, none⟩ (.int .i64 0)).setCell ⟨w.heap.size, 5, none⟩ (.int .i64 0)).setCell ⟨w.heap.size, 6, none⟩ (.int .i64 0)).setCell ⟨w.heap.size, 7, none⟩ (.int .i64 0)).setCell ⟨w.heap.size, 8, none⟩ (.int .i64 0)).setCell ⟨w.heap.size, 9, none⟩ (.int .i64 0)).setCell ⟨w.heap.size, 10, none⟩ (.int .i64 0)).setCell ⟨w.heap.size, 11, none⟩ (.int .u64 0)).heap[w.heap.size]? = some (.cells #[.int .i64 0, .int .i64 0, .int .i64 0, .int .i64 0, .int .i64 0, .int .i64 0, .int .i64 0, .int .i64 0, .int .i64 0, .int .i64 0, .int .i64 0, .int .u64 0] 75 (0, 0)) := (set_block 11 _ (set_block 10 _ (set_block 9 _ (set_block 8 _ (set_block 7 _ (set_block 6 _ (set_block 5 _ (set_block 4 _ (set_block 3 _ (set_block 2 _ (set_block 1 _ (set_block 0 _ HR6.out))))))))))))
          have hbz : Below w.heap.size w ((((((((((((w6.setCell ⟨w.heap.size, 0, none⟩ (.int .i64 0)).setCell ⟨w.heap.size, 1, none⟩ (.int .i64 0)).setCell ⟨w.heap.size, 2, none⟩ (.int .i64 0)).setCell ⟨w.heap.size, 3, none⟩ (.int .i64 0)).setCell ⟨w.heap.size, 4, none⟩ (.int .i64 0)).setCell ⟨w.heap.size, 5, none⟩ (.int .i64 0)).setCell ⟨w.heap.size, 6, none⟩ (.int .i64 0)).setCell ⟨w.heap.size, 7, none⟩ (.int .i64 0)).setCell ⟨w.heap.size, 8, none⟩ (.int .i64 0)).setCell ⟨w.heap.size, 9, none⟩ (.int .i64 0)).setCell ⟨w.heap.size, 10, none⟩ (.int .i64 0)).setCell ⟨w.heap.size, 11, none⟩ (.int .u64 0)) := ((((((((((((HB6.out.setCell (Nat.le_refl _) _).setCell (Nat.le_refl _) _).setCell (Nat.le_refl _) _).setCell (Nat.le_refl _) _).setCell (Nat.le_refl _) _).setCell (Nat.le_refl _) _).setCell (Nat.le_refl _) _).setCell (Nat.le_refl _) _).setCell (Nat.le_refl _) _).setCell (Nat.le_refl _) _).setCell (Nat.le_refl _) _).setCell (Nat.le_refl _) _)
          generalize ((((((((((((w6.setCell ⟨w.heap.size, 0, none⟩ (.int .i64 0)).setCell ⟨w.heap.size, 1, none⟩ (.int .i64 0)).setCell ⟨w.heap.size, 2, none⟩ (.int .i64 0)).setCell ⟨w.heap.size, 3, none⟩ (.int .i64 0)).setCell ⟨w.heap.size, 4, none⟩ (.int .i64 0)).setCell ⟨w.heap.size, 5, none⟩ (.int .i64 0)).setCell ⟨w.heap.size, 6, none⟩ (.int .i64 0)).setCell ⟨w.heap.size, 7, none⟩ (.int .i64 0)).setCell ⟨w.heap.size, 8, none⟩ (.int .i64 0)).setCell ⟨w.heap.size, 9, none⟩ (.int .i64 0)).setCell ⟨w.heap.size, 10, none⟩ (.int .i64 0)).setCell ⟨w.heap.size, 11, none⟩ (.int .u64 0)) = w7 at *
          have e0 := cell_of_row w7 w.heap.size 0 _ _ _ hk
          have e1 := cell_of_row w7 w.heap.size 1 _ _ _ hk
          have e2 := cell_of_row w7 w.heap.size 2 _ _ _ hk
          have e3 := cell_of_row w7 w.heap.size 3 _ _ _ hk
          have e4 := cell_of_row w7 w.heap.size 4 _ _ _ hk
          have e5 := cell_of_row w7 w.heap.size 5 _ _ _ hk
          have e6 := cell_of_row w7 w.heap.size 6 _ _ _ hk
          have e7 := cell_of_row w7 w.heap.size 7 _ _ _ hk
          have e8 := cell_of_row w7 w.heap.size 8 _ _ _ hk
          have e9 := cell_of_row w7 w.heap.size 9 _ _ _ hk
          have e10 := cell_of_row w7 w.heap.size 10 _ _ _ hk
          have e11 := cell_of_row w7 w.heap.size 11 _ _ _ hk
          clear hk
          exact bodyPost_ret (v := unpRes none) (by simp [results, Tryd.results53, go_sem, e0, e1, e2, e3, e4, e5, e6, e7, e8, e9, e10, e11, unpRes, headC, zeroHead]) rfl ⟨by rw [hu], hbz⟩
        · have HU := Lib.hid hu
          clear hu HCase
          unfold headC at HD6 HLD
          have k0 : w6.cell? ⟨w.heap.size, 0, none⟩ = some (.int .i64 0) := cell_of_row _ _ _ _ _ _ HR6.out
          have z0 := frozen_of_row HR6.out 0
          have k1 : w6.cell? ⟨w.heap.size, 1, none⟩ = some (.int .i64 0) := cell_of_row _ _ _ _ _ _ HR6.out
          have z1 := frozen_of_row HR6.out 1
          have k2 : w6.cell? ⟨w.heap.size, 2, none⟩ = some (.int .i64 0) := cell_of_row _ _ _ _ _ _ HR6.out
          have z2 := frozen_of_row HR6.out 2
          have k3 : w6.cell? ⟨w.heap.size, 3, none⟩ = some (.int .i64 0) := cell_of_row _ _ _ _ _ _ HR6.out
          have z3 := frozen_of_row HR6.out 3
          have k4 : w6.cell? ⟨w.heap.size, 4, none⟩ = some (.int .i64 0) := cell_of_row _ _ _ _ _ _ HR6.out
          have z4 := frozen_of_row HR6.out 4
          have k5 : w6.cell? ⟨w.heap.size, 5, none⟩ = some (.int .i64 0) := cell_of_row _ _ _ _ _ _ HR6.out
          have z5 := frozen_of_row HR6.out 5
          have k6 : w6.cell? ⟨w.heap.size, 6, none⟩ = some (.int .i64 0) := cell_of_row _ _ _ _ _ _ HR6.out
          have z6 := frozen_of_row HR6.out 6
          have k7 : w6.cell? ⟨w.heap.size, 7, none⟩ = some (.int .i64 0) := cell_of_row _ _ _ _ _ _ HR6.out
          have z7 := frozen_of_row HR6.out 7
          have k8 : w6.cell? ⟨w.heap.size, 8, none⟩ = some (.int .i64 0) := cell_of_row _ _ _ _ _ _ HR6.out
          have z8 := frozen_of_row HR6.out 8
          have k9 : w6.cell? ⟨w.heap.size, 9, none⟩ = some (.int .i64 0) := cell_of_row _ _ _ _ _ _ HR6.out
          have z9 := frozen_of_row HR6.out 9
          have k10 : w6.cell? ⟨w.heap.size, 10, none⟩ = some (.int .i64 0) := cell_of_row _ _ _ _ _ _ HR6.out
          have z10 := frozen_of_row HR6.out 10
          have k11 : w6.cell? ⟨w.heap.size, 11, none⟩ = some (.int .u64 0) := cell_of_row _ _ _ _ _ _ HR6.out
          have z11 := frozen_of_row HR6.out 11
          go_wp2_with (refine HLD.out ⟨some 74, _, _, _, _, _⟩ _ _ _ _ HD6.out _ rfl _ rfl rfl ?_)
          have hu := HU.out
          rw [← HHe.out] at hu
          have hbd : str (s.data.toList.drop 128) = s.extract 128 s.size := by rw [← extract_drop s 128, str_of]
          clear k0 z0 k1 z1 k2 z2 k3 z3 k4 z4 k5 z5 k6 z6 k7 z7 k8 z8 k9 z9 k10 z10 k11 z11
          have hk := (set_block 11 (.int .u64 hh.parent) (set_block 10 (.int .i64 hh.b) (set_block 9 (.int .i64 hh.a) (set_block 8 (.int .i64 hh.request) (set_block 7 (.int .i64 hh.session) (set_block 6 (.int .i64 hh.client) (set_block 5 (.int .i64 hh.commit) (set_block 4 (.int .i64 hh.op) (set_block 3 (.int .i64 hh.view) (set_block 2 (.int .i64 hh.operation) (set_block 1 (.int .i64 hh.src) (set_block 0 (.int .i64 hh.kind) HR6.out))))))))))))
          simp only [List.setIfInBounds_toArray, List.set_cons_zero, List.set_cons_succ] at hk
          have hbz : Below w.heap.size w ((((((((((((w6.setCell ⟨w.heap.size, 0, none⟩ (.int .i64 hh.kind)).setCell ⟨w.heap.size, 1, none⟩ (.int .i64 hh.src)).setCell ⟨w.heap.size, 2, none⟩ (.int .i64 hh.operation)).setCell ⟨w.heap.size, 3, none⟩ (.int .i64 hh.view)).setCell ⟨w.heap.size, 4, none⟩ (.int .i64 hh.op)).setCell ⟨w.heap.size, 5, none⟩ (.int .i64 hh.commit)).setCell ⟨w.heap.size, 6, none⟩ (.int .i64 hh.client)).setCell ⟨w.heap.size, 7, none⟩ (.int .i64 hh.session)).setCell ⟨w.heap.size, 8, none⟩ (.int .i64 hh.request)).setCell ⟨w.heap.size, 9, none⟩ (.int .i64 hh.a)).setCell ⟨w.heap.size, 10, none⟩ (.int .i64 hh.b)).setCell ⟨w.heap.size, 11, none⟩ (.int .u64 hh.parent)) := ((((((((((((HB6.out.setCell (Nat.le_refl _) _).setCell (Nat.le_refl _) _).setCell (Nat.le_refl _) _).setCell (Nat.le_refl _) _).setCell (Nat.le_refl _) _).setCell (Nat.le_refl _) _).setCell (Nat.le_refl _) _).setCell (Nat.le_refl _) _).setCell (Nat.le_refl _) _).setCell (Nat.le_refl _) _).setCell (Nat.le_refl _) _).setCell (Nat.le_refl _) _)
          generalize ((((((((((((w6.setCell ⟨w.heap.size, 0, none⟩ (.int .i64 hh.kind)).setCell ⟨w.heap.size, 1, none⟩ (.int .i64 hh.src)).setCell ⟨w.heap.size, 2, none⟩ (.int .i64 hh.operation)).setCell ⟨w.heap.size, 3, none⟩ (.int .i64 hh.view)).setCell ⟨w.heap.size, 4, none⟩ (.int .i64 hh.op)).setCell ⟨w.heap.size, 5, none⟩ (.int .i64 hh.commit)).setCell ⟨w.heap.size, 6, none⟩ (.int .i64 hh.client)).setCell ⟨w.heap.size, 7, none⟩ (.int .i64 hh.session)).setCell ⟨w.heap.size, 8, none⟩ (.int .i64 hh.request)).setCell ⟨w.heap.size, 9, none⟩ (.int .i64 hh.a)).setCell ⟨w.heap.size, 10, none⟩ (.int .i64 hh.b)).setCell ⟨w.heap.size, 11, none⟩ (.int .u64 hh.parent)) = w7 at *
          have e0 := cell_of_row w7 w.heap.size 0 _ _ _ hk
          have e1 := cell_of_row w7 w.heap.size 1 _ _ _ hk
          have e2 := cell_of_row w7 w.heap.size 2 _ _ _ hk
          have e3 := cell_of_row w7 w.heap.size 3 _ _ _ hk
          have e4 := cell_of_row w7 w.heap.size 4 _ _ _ hk
          have e5 := cell_of_row w7 w.heap.size 5 _ _ _ hk
          have e6 := cell_of_row w7 w.heap.size 6 _ _ _ hk
          have e7 := cell_of_row w7 w.heap.size 7 _ _ _ hk
          have e8 := cell_of_row w7 w.heap.size 8 _ _ _ hk
          have e9 := cell_of_row w7 w.heap.size 9 _ _ _ hk
          have e10 := cell_of_row w7 w.heap.size 10 _ _ _ hk
          have e11 := cell_of_row w7 w.heap.size 11 _ _ _ hk
          clear hk
          exact bodyPost_ret (v := unpRes (some (hh, s.data.toList.drop 128))) (by simp [results, Tryd.results53, go_sem, e0, e1, e2, e3, e4, e5, e6, e7, e8, e9, e10, e11, unpRes, hbd, headC]) rfl ⟨by rw [hu], hbz⟩

end Go.Proofs.YtmidfknlmjgjpaaDoor
