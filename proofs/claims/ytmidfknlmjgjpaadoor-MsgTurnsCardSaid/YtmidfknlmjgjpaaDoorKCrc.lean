/- The walks of package crc. -/
import Derived.Test.YtmidfknlmjgjpaaDoorProg
import Derived.Test.YtmidfknlmjgjpaaDoorKPlain
import Derived.WalkKit
import Derived.WalkSpells
import Derived.WalkLawsBesides
import Derived.Lib.Hide
import Derived.Lib.Strings
import Derived.Deep.QuietTactic
import Derived.BigQuiet
namespace Go.Proofs.YtmidfknlmjgjpaaDoor
open Go.RowKit

theorem ret_int {k : IntKind} {a b : Int} (h : a = b) : Ending.returned (.int k a) = .returned (.int k b) := by rw [h]

theorem xor_u64 (a b : Nat) (ha : a < 18446744073709551616) (hb : b < 18446744073709551616) : bits .xor .u64 (a : Int) (b : Int) = ((a ^^^ b : Nat) : Int) := bits_xor_u64_nat a b ha hb

theorem mul_u64 (x m : Nat) : IntKind.u64.wrap ((x : Int) * (m : Int)) = ((x * m % 18446744073709551616 : Nat) : Int) := by
  rw [IntKind.wrap_u64, Int.natCast_emod, Int.natCast_mul]; rfl

theorem step_term (h c : Nat) (hh : h < 18446744073709551616) (hc : c < 256) :
    bits BinOp.xor IntKind.u64 (IntKind.u64.wrap (bits BinOp.xor IntKind.u64 (h : Int) (IntKind.u64.wrap (c : Int)) * 1099511628211))
      (IntKind.u64.wrap (bits BinOp.xor IntKind.u64 (h : Int) (IntKind.u64.wrap (c : Int)) * 1099511628211) / 536870912) = ((Pl.chainStep h c : Nat) : Int) := by
  have e1 : IntKind.u64.wrap (c : Int) = (c : Int) := by rw [IntKind.wrap_u64]; omega
  rw [e1, xor_u64 h c hh (by omega)]
  unfold Pl.chainStep
  have e2 := mul_u64 (h ^^^ c) 1099511628211
  have e3 : ((1099511628211 : Nat) : Int) = 1099511628211 := rfl
  rw [e3] at e2
  rw [e2]
  have hlt : (h ^^^ c) * 1099511628211 % 18446744073709551616 < 18446744073709551616 := Nat.mod_lt _ (Nat.zero_lt_succ _)
  generalize (h ^^^ c) * 1099511628211 % 18446744073709551616 = y at *
  have := xorShift_u64 y 536870912 hlt
  exact this

set_option maxRecDepth 100000 in
set_option maxHeartbeats 400000 in
theorem step_any (h : Nat) (c : Int) (hh : h < 18446744073709551616) (h0 : 0 ≤ c) (h1 : c < 256) (w : World) :
    Calls Tryd.prog 119 #[.int .u64 h, .int .u8 c] w fun e w' => e = .returned (.int .u64 (Pl.chainStep h c.toNat : Nat)) ∧ w' = w := by
  obtain ⟨c, rfl⟩ := Int.eq_ofNat_of_zero_le h0
  rw [Int.toNat_natCast]
  have hs := Lib.hid (step_term h c hh (by omega))
  clear hh h0 h1
  go_enter Tryd.func119, Tryd.ntmps119
  go_wp2
  go_ret
  exact ⟨ret_int hs.out, rfl⟩

theorem bit_term (r : Nat) (hr : r < 4294967296) : bits BinOp.xor IntKind.u32 ((r : Int) / 2) (2197175160 * bits BinOp.and IntKind.u32 (r : Int) 1 % 4294967296) = ((Pl.crcBit r : Nat) : Int) := by
  have h1 : bits BinOp.and IntKind.u32 (r : Int) 1 = ((r % 2 : Nat) : Int) := by
    have := u32_and_nat r 1 hr (by omega)
    rw [Nat.and_one_is_mod] at this
    exact this
  rw [h1]
  have h2 : ((r : Int) / 2) = ((r / 2 : Nat) : Int) := by omega
  have h3 : (2197175160 * ((r % 2 : Nat) : Int) % 4294967296) = ((2197175160 * (r % 2) : Nat) : Int) := by omega
  rw [h2, h3, u32_xor_nat _ _ (by omega) (by omega)]
  rfl

def tabOk (arr : Array Value) (k : Nat) : Prop := arr.size = 256 ∧ ∀ j < k, arr[j]? = some (.int .u32 (Pl.crcByte j : Nat))

theorem tabOk_next {arr : Array Value} {k : Nat} (h : tabOk arr k) (hk : k < 256) : tabOk (arr.setIfInBounds k (.int .u32 (Pl.crcByte k : Nat))) (k + 1) := by
  obtain ⟨h1, h2⟩ := h
  refine ⟨by simp [h1], fun j hj => ?_⟩
  by_cases e : j = k
  · subst e; simp [h1, hk]
  · rw [Array.getElem?_setIfInBounds_ne (by omega)]
    exact h2 j (by omega)

theorem alloc_cells_inj (w : World) (a b : Array Value) (t : Nat) (h : a = b) : w.alloc (.cells a t) = w.alloc (.cells b t) := by rw [h]

set_option maxRecDepth 100000 in
set_option maxHeartbeats 400000 in
theorem made_any (w : World) :
    Calls Tryd.prog 109 #[] w fun e w' => ∃ arr, e = .returned (.pointer (some ⟨w.heap.size, 0, none⟩)) ∧ w' = w.alloc (.cells arr 156) ∧ tabOk arr 256 := by
  go_enter Tryd.func109, Tryd.ntmps109
  go_wp2
  go_loopw [4] (fun i wr => ∃ (k : Nat) (arr : Array Value), k ≤ 256 ∧ i = .int .i64 k ∧ wr = w.alloc (.cells arr 156) ∧ tabOk arr k)
    (fun i _ => 256 - (intOf i).toNat)
  case atStart => exact ⟨0, _, by omega, rfl, rfl, by kernel_rfl, fun j hj => by omega⟩
  case round =>
    obtain ⟨k, arr, hk, rfl, rfl, ha⟩ := hrel
    by_cases hlt : k < 256
    · have hT := Lib.hid (tabOk_next ha hlt)
      obtain ⟨v0, hv⟩ : ∃ v0, arr[k]? = some v0 := ⟨arr[k]'(by rw [ha.1]; exact hlt), by rw [Array.getElem?_eq_getElem]⟩
      clear ha
      go_wp2
      go_loop [3, 9] (fun r i => ∃ (j : Nat), j ≤ 8 ∧ i = .int .i64 j ∧ r = .int .u32 (Pl.crcBits j k : Nat))
        (fun _ i => 8 - (intOf i).toNat)
      case atStart => exact ⟨0, by omega, rfl, rfl⟩
      case round =>
        obtain ⟨j, hj, rfl, rfl⟩ := hrel
        by_cases hlj : j < 8
        · have hb := Lib.hid (bit_term _ (Pl.crcBits_lt (r := k) j (by omega)))
          have hs := Lib.hid (Pl.crcBits_succ j k)
          go_wp2
          go_round
          case rel => exact ⟨j + 1, by omega, by go_num, by rw [hb.out, hs.out]⟩
          case measure => simp [intOf]; omega
        · obtain rfl : j = 8 := by omega
          go_wp2
          go_roundw
          case rel => exact ⟨k + 1, _, by omega, by go_num, rfl, hT.out⟩
          case measure => simp [intOf]; omega
    · obtain rfl : k = 256 := by omega
      go_wp2
      go_ret
      exact ⟨_, rfl, rfl, ha⟩

theorem not_u32 (u : Nat) (hu : u < 4294967296) : bits BinOp.xor IntKind.u32 IntKind.u32.max (u : Int) = ((4294967295 - u : Nat) : Int) := by
  have h : IntKind.u32.max = ((4294967295 : Nat) : Int) := rfl
  rw [h, u32_xor_nat _ _ (by omega) hu]
  have : 4294967295 ^^^ u = 4294967295 - u := by
    have h1 : (BitVec.allOnes 32 ^^^ BitVec.ofNat 32 u).toNat = 4294967295 ^^^ u := by
      rw [BitVec.toNat_xor, BitVec.toNat_allOnes, BitVec.toNat_ofNat, Nat.mod_eq_of_lt hu]
    rw [← h1, BitVec.allOnes_xor, BitVec.toNat_not, BitVec.toNat_ofNat, Nat.mod_eq_of_lt hu]
  rw [this]

theorem idx_term (r : Nat) (c : UInt8) : bits BinOp.xor IntKind.u8 (IntKind.u8.wrap (r : Int)) (c.toNat : Int) = (((r % 256) ^^^ c.toNat : Nat) : Int) := by
  have e : IntKind.u8.wrap (r : Int) = ((r % 256 : Nat) : Int) := by rw [IntKind.wrap_u8]; omega
  rw [e, u8_xor_nat _ _ (by omega) c.toNat_lt]

theorem idx_lt (r : Nat) (c : UInt8) : (r % 256) ^^^ c.toNat < 256 := Nat.xor_lt_two_pow (n := 8) (by omega) c.toNat_lt

theorem reg_term (r : Nat) (c : UInt8) (hr : r < 4294967296) :
    bits BinOp.xor IntKind.u32 ((r : Int) / 256) ((Pl.crcByte ((r % 256) ^^^ c.toNat) : Nat) : Int) = ((Pl.crcByte (r ^^^ c.toNat) : Nat) : Int) := by
  have e : ((r : Int) / 256) = ((r / 256 : Nat) : Int) := by omega
  rw [e, u32_xor_nat _ _ (by omega) (Pl.crcByte_lt (by have := idx_lt r c; omega)), Pl.crcByte_table r c.toNat c.toNat_lt]

theorem take_snoc (s : ByteArray) (k : Nat) (h : k < s.size) : s.data.toList.take (k + 1) = s.data.toList.take k ++ [s[k]] := by
  rw [List.take_succ_eq_append_getElem (by simpa using h)]; rfl

set_option maxRecDepth 100000 in
set_option maxHeartbeats 400000 in
theorem add_any (u : Nat) (hu : u < 4294967296) (s : ByteArray) (hs : s.size ≤ maxLen) (w : World) :
    Calls Tryd.prog 90 #[.int .u32 u, .string s] w fun e w' => e = .returned (.int .u32 (Pl.crcAdd u s.data.toList : Nat)) ∧ Below w.heap.size w w' := by
  have hs : s.size ≤ 9223372036854775807 := hs
  by_cases h0 : s.toList.isEmpty = true
  · have e : Pl.crcAdd u s.data.toList = u := by
      have : s.data.toList = [] := by rw [Lib.toList_data] at h0; simpa using h0
      rw [this]
      show 4294967295 - (4294967295 - u) = u
      omega
    have he := Lib.hid e
    clear e
    go_enter Tryd.func90, Tryd.ntmps90
    go_wp2
    go_ret
    exact ⟨ret_int (by rw [he.out]), Below.refl _ _⟩
  · have h0' : s.toList.isEmpty = false := by simpa using h0
    clear h0
    have hn := Lib.hid (not_u32 u hu)
    go_enter Tryd.func90, Tryd.ntmps90
    go_wp2_with (go_at_call 109; refine (made_any _).mono ?_; rintro e w' ⟨arr, rfl, rfl, hT⟩)
    go_loopw [6, 16] (fun r i wr => ∃ (k : Nat), k ≤ s.size ∧ i = .int .i64 k ∧ r = .int .u32 (Pl.crcReg (4294967295 - u) (s.data.toList.take k) : Nat) ∧ Below (w.heap.size + 1) (w.alloc (.cells arr 156)) wr)
      (fun _ i _ => s.size - (intOf i).toNat)
    case atStart => exact ⟨0, by omega, rfl, by rw [hn.out]; rfl, Below.refl _ _⟩
    case round =>
      obtain ⟨k, hk, rfl, rfl, hb⟩ := hrel
      have hr2 : Pl.crcReg (4294967295 - u) (s.data.toList.take k) < 4294967296 := Pl.crcReg_lt _ (by omega)
      have H := Lib.hid hb
      clear hn
      by_cases hlt : k < s.size
      · have hr3 := Lib.hid ((congrArg (Pl.crcReg (4294967295 - u)) (take_snoc s k hlt)).trans (Pl.crcReg_snoc _ _ _))
        generalize Pl.crcReg (4294967295 - u) (s.data.toList.take k) = r at *
        have i1 := Lib.hid (idx_term r s[k])
        have hc : wr.cell? ⟨w.heap.size, (bits BinOp.xor IntKind.u8 (IntKind.u8.wrap (r : Int)) ((s[k]).toNat : Int)).toNat, none⟩ = some (.int .u32 (Pl.crcByte ((r % 256) ^^^ (s[k]).toNat) : Nat)) := by
          rw [i1.out, Int.toNat_natCast, hb.cell (by simp)]
          simpa [World.cell?_alloc_at] using hT.2 _ (idx_lt r s[k])
        have i2 : 0 ≤ bits BinOp.xor IntKind.u8 (IntKind.u8.wrap (r : Int)) ((s[k]).toNat : Int) := by rw [i1.out]; omega
        have i3 : bits BinOp.xor IntKind.u8 (IntKind.u8.wrap (r : Int)) ((s[k]).toNat : Int) < 256 := by have := idx_lt r s[k]; rw [i1.out]; omega
        have hR := Lib.hid (reg_term r s[k] hr2)
        clear hT hb hr2
        go_wp2
        go_quiet (fail)
        go_wp2
        go_roundw
        case rel => exact ⟨k + 1, by omega, by go_num, by rw [hR.out, hr3.out], below_drewN H.out _⟩
        case measure => simp [intOf]; omega
      · obtain rfl : k = s.size := by omega
        have hfin : Pl.crcAdd u s.data.toList = 4294967295 - Pl.crcReg (4294967295 - u) (s.data.toList.take s.size) := by
          rw [List.take_of_length_le (by simp)]; rfl
        have hfin := Lib.hid hfin
        have hn := Lib.hid (not_u32 _ hr2)
        clear hT hb hr2
        go_wp2
        go_ret
        exact ⟨ret_int (by rw [hn.out, hfin.out]), ((Below.refl _ _).alloc (Nat.le_refl _) _).trans (H.out.mono (by omega))⟩

set_option maxHeartbeats 400000 in
theorem sum_any (s : ByteArray) (hs : s.size ≤ maxLen) (w : World) :
    Calls Tryd.prog 64 #[.string s] w fun e w' => e = .returned (.int .u32 (Pl.crcSum s.data.toList : Nat)) ∧ Below w.heap.size w w' := by
  go_enter Tryd.func64, Tryd.ntmps64
  go_wp2_with (go_at_call 90; refine (add_any 0 (by omega) s hs _).mono ?_; rintro e w' ⟨rfl, hb⟩)
  go_ret
  exact ⟨rfl, hb⟩

theorem u8_of (n : Nat) : IntKind.u8.wrap (n : Int) = ((n % 256 : Nat) : Int) := by rw [IntKind.wrap_u8]; omega

theorem putLE_take (n k j : Nat) (h : j < k) : (Pl.putLE n k).take (j + 1) = (Pl.putLE n k).take j ++ [UInt8.ofNat (n / 256 ^ j % 256)] := by
  have hl : j < (Pl.putLE n k).length := by rw [Pl.putLE_length]; exact h
  rw [List.take_succ_eq_append_getElem hl]
  have := Pl.putLE_get n k j h
  rw [List.getElem?_eq_getElem hl] at this
  simp only [Option.some.injEq] at this
  rw [this]

set_option maxRecDepth 100000 in
set_option maxHeartbeats 400000 in
theorem chain_any (h : Nat) (hh : h < 18446744073709551616) (s : ByteArray) (hs : s.size ≤ maxLen) (w : World) :
    Calls Tryd.prog 118 #[.int .u64 h, .string s] w fun e w' => e = .returned (.int .u64 (Pl.chain h s.data.toList : Nat)) ∧ w' = w := by
  have hs : s.size ≤ 9223372036854775807 := hs
  have hx : bits BinOp.xor IntKind.u64 (h : Int) 14695981039346656037 = ((h ^^^ 14695981039346656037 : Nat) : Int) := xor_u64 h 14695981039346656037 hh (by omega)
  have hlt0 : h ^^^ 14695981039346656037 < 18446744073709551616 := Pl.xor_lt64 hh (by omega)
  obtain ⟨g, hg⟩ : ∃ g, g = h ^^^ 14695981039346656037 := ⟨_, rfl⟩
  rw [← hg] at hx hlt0
  have Hx := Lib.hid hx
  have hfin : Pl.chain h s.data.toList = Pl.chainFold (Pl.chainFold g (s.data.toList.take s.size)) ((Pl.putLE s.size 8).take 8) := by
    rw [List.take_of_length_le (by simp), List.take_of_length_le (by simp [Pl.putLE_length]), hg, ← Pl.chainFold_append]
    unfold Pl.chain
    rfl
  have Hfin := Lib.hid hfin
  have hl := Lib.hid hlt0
  clear hg hx hlt0 hh hfin
  go_enter Tryd.func118, Tryd.ntmps118
  go_wp2
  go_loop [0, 12] (fun r i => ∃ (k : Nat), k ≤ s.size ∧ i = .int .i64 k ∧ r = .int .u64 (Pl.chainFold g (s.data.toList.take k) : Nat))
    (fun _ i => s.size - (intOf i).toNat)
  case atStart => exact ⟨0, by omega, rfl, by rw [Hx.out]; rfl⟩
  case round =>
    obtain ⟨k, hk, rfl, rfl⟩ := hrel
    clear Hx
    have hr2 := Lib.hid (Pl.chainFold_lt (s.data.toList.take k) hl.out)
    by_cases hlt : k < s.size
    · have hr3 := Lib.hid ((congrArg (Pl.chainFold g) (take_snoc s k hlt)).trans (Pl.chainFold_snoc _ _ _))
      generalize Pl.chainFold g (s.data.toList.take k) = r at *
      have hc8 := (s[k]).toNat_lt
      go_wp2_with (go_at_call 119; refine (step_any r _ hr2.out (by omega) (by omega) _).mono ?_; rintro e w' ⟨rfl, rfl⟩)
      go_round
      case rel => exact ⟨k + 1, by omega, by go_num, by rw [hr3.out]⟩
      case measure => simp [intOf]; omega
    · obtain rfl : k = s.size := by omega
      obtain ⟨q, hq⟩ : ∃ q, q = Pl.chainFold g (s.data.toList.take s.size) := ⟨_, rfl⟩
      rw [← hq] at hr2 Hfin
      rw [← hq]
      clear hq hl hlt
      go_wp2
      go_loop [0, 6, 7] (fun r n i => ∃ (k : Nat), k ≤ 8 ∧ i = .int .i64 k ∧ n = .int .i64 (s.size / 256 ^ k : Nat) ∧ r = .int .u64 (Pl.chainFold q ((Pl.putLE s.size 8).take k) : Nat))
        (fun _ _ i => 8 - (intOf i).toNat)
      case atStart => exact ⟨0, by omega, rfl, by simp, rfl⟩
      case round =>
        obtain ⟨k, hk, rfl, rfl, rfl⟩ := hrel
        have hr4 := Lib.hid (Pl.chainFold_lt ((Pl.putLE s.size 8).take k) hr2.out)
        by_cases hlt : k < 8
        · have hr3 := Lib.hid ((congrArg (Pl.chainFold q) (putLE_take s.size 8 k hlt)).trans (Pl.chainFold_snoc _ _ _))
          generalize Pl.chainFold q ((Pl.putLE s.size 8).take k) = r at *
          have hm : s.size / 256 ^ k ≤ 9223372036854775807 := Nat.le_trans (Nat.div_le_self _ _) hs
          have hp := Lib.hid (show s.size / 256 ^ (k + 1) = s.size / 256 ^ k / 256 by rw [Nat.div_div_eq_div_mul, Nat.pow_succ])
          generalize s.size / 256 ^ k = m at *
          have hw := Lib.hid (u8_of m)
          have q0 : 0 ≤ IntKind.u8.wrap (m : Int) := by rw [hw.out]; omega
          have q1 : IntKind.u8.wrap (m : Int) < 256 := by rw [hw.out]; omega
          have hu : (UInt8.ofNat (m % 256)).toNat = m % 256 := by simp
          rw [hu] at hr3
          clear hu
          go_wp2_with (go_at_call 119; refine (step_any r _ hr4.out q0 q1 _).mono ?_; rintro e w' ⟨rfl, rfl⟩)
          go_round
          case rel => exact ⟨k + 1, by omega, by go_num, by rw [hp.out]; go_num, by rw [hr3.out, hw.out, Int.toNat_natCast]⟩
          case measure => simp [intOf]; omega
        · obtain rfl : k = 8 := by omega
          go_wp2
          go_ret
          exact ⟨ret_int (congrArg Nat.cast Hfin.out.symm), rfl⟩

end Go.Proofs.YtmidfknlmjgjpaaDoor
