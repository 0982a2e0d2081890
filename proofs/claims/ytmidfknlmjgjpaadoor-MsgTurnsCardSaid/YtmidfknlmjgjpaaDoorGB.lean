/- The walks of package num. The walks of package num: PutText. -/
import Derived.Test.YtmidfknlmjgjpaaDoorShelf
import Derived.Test.YtmidfknlmjgjpaaDoorKPlain
import Derived.Test.YtmidfknlmjgjpaaDoorGA
import Derived.Deep.QuietTactic
import Derived.BigQuiet
namespace Go.Proofs.YtmidfknlmjgjpaaDoor
open Go.RowKit

def putCells (n : Nat) (arr : Array Value) (k : Nat) : Prop := arr.size = 8 ∧ ∀ j < k, arr[j]? = some (.int .u8 ((n / 256 ^ j % 256 : Nat) : Int))

theorem putCells_next {n : Nat} {arr : Array Value} {k : Nat} (h : putCells n arr k) (hk : k < 8) : putCells n (arr.setIfInBounds k (.int .u8 ((n / 256 ^ k % 256 : Nat) : Int))) (k + 1) := by
  obtain ⟨h1, h2⟩ := h
  refine ⟨by simp [h1], fun j hj => ?_⟩
  by_cases e : j = k
  · subst e; simp [h1, hk]
  · rw [Array.getElem?_setIfInBounds_ne (by omega)]
    exact h2 j (by omega)

theorem pow_256 (k : Nat) : (256 : Nat) ^ k = 2 ^ (8 * k) := by
  rw [Nat.pow_mul]

theorem shift_term (n j : Nat) : IntKind.u8.wrap ((n : Int) / 2 ^ (8 * j)) = ((n / 256 ^ j % 256 : Nat) : Int) := by
  rw [IntKind.wrap_u8, pow_256]
  have : (2 : Int) ^ (8 * j) = ((2 ^ (8 * j) : Nat) : Int) := by simp
  rw [this]
  omega

theorem shift_zero (n k : Nat) (h : n < 256 ^ k) : ((n : Int) / 2 ^ (8 * k) != 0) = false := by
  rw [pow_256] at h
  have e : (2 : Int) ^ (8 * k) = ((2 ^ (8 * k) : Nat) : Int) := by simp
  have : (n : Int) / ((2 ^ (8 * k) : Nat) : Int) = 0 := by
    rw [← Int.natCast_ediv, Nat.div_eq_of_lt h]; rfl
  rw [e, this]; rfl

theorem put_holds {n : Nat} {arr : Array Value} {w' : World} {B k : Nat} (h : putCells n arr 8) (hk : k ≤ 8) (hw : ∀ i, w'.cell? ⟨B, i, none⟩ = arr[i]?) :
    Lib.HoldsBytes w' (.slice (some ⟨B, 0, none⟩) k 8) (Pl.putLE n k) := by
  refine ⟨some ⟨B, 0, none⟩, 8, by rw [Pl.putLE_length], (fun e => nomatch e), fun a e i x hx => ?_⟩
  obtain rfl := Option.some.inj e
  have hi : i < k := by have := (List.getElem?_eq_some_iff.1 hx).1; rwa [Pl.putLE_length] at this
  rw [Pl.putLE_get n k i hi] at hx
  obtain rfl := Option.some.inj hx
  rw [add_plain, Nat.zero_add, hw, h.2 i (by omega)]
  simp

theorem bs_of_fresh {B : Nat} {w : World} {v : Value} {l : List UInt8} (h : Lib.FreshBytes B w v l) (hl : l ≠ []) : Bs B w v l := by
  refine Bs.of_fresh h fun g cap e => ?_
  obtain ⟨g', cap', zs, rfl, _, hn, _, _, _, _, hc, _⟩ := h
  simp only [Value.slice.injEq, Option.some.injEq, Addr.mk.injEq, true_and, and_true] at e
  obtain ⟨rfl, rfl⟩ := e
  have : 0 < l.length := List.length_pos_iff.2 hl
  exact World.block_lt_of_cell? _ _ (hc 0 (by omega))

theorem join_flat (ls : List (List UInt8)) : Lib.join ls [] = ls.flatten := by
  cases ls with
  | nil => rfl
  | cons x r => rw [Lib.join_cons]; simp [Lib.joinTail]

/-- bytes.Join without a separator, of two parts or more. -/
theorem join_any (b n c : Nat) (vs : List Value) (ls : List (List UInt8)) (w : World) (hn : ls.length = n) (h2 : 2 ≤ n) (hP : Lib.PartsAt w ⟨b, 0, none⟩ vs ls) (hcap : n ≤ c) (hlen : Lib.lens ls ≤ 100000000) (h0 : ls.flatten ≠ []) (hnn : n ≤ 100) :
    Calls Tryd.prog 89 #[.slice (some ⟨b, 0, none⟩) n c, .slice none 0 0] w fun e w' => ∃ v', e = .returned v' ∧ Bs w.heap.size w' v' ls.flatten ∧ Below w.heap.size w w' := by
  refine (Tryd.bytes_Join_many b 0 n c vs ls (.slice none 0 0) [] w hn h2 hP hcap ⟨none, 0, rfl, fun _ => rfl, fun a e => nomatch e⟩ (by omega) (by simp; omega)).mono ?_
  rintro e w' ⟨v', rfl, hf, hb⟩
  rw [join_flat] at hf
  exact ⟨v', rfl, bs_of_fresh hf h0, hb⟩

theorem holds2 {w w' : World} {p : Option Addr} {n cap : Nat} {l : List UInt8} (h : Lib.HoldsBytes w (.slice p n cap) l) (hc : ∀ a v, w.cell? a = some v → w'.cell? a = some v) : Lib.HoldsBytes w' (.slice p n cap) l := by
  obtain ⟨q, c2, e, h1, h2⟩ := h
  exact ⟨q, c2, e, h1, fun a ha i x hx => hc _ _ (h2 a ha i x hx)⟩

theorem cell_alloc_old {w : World} (o : Obj) {a : Addr} {v : Value} (h : w.cell? a = some v) : (w.alloc o).cell? a = some v := by
  rw [((Below.refl w.heap.size w).alloc (Nat.le_refl _) o).cell (World.block_lt_of_cell? _ _ h)]; exact h

theorem put_parts {w : World} {p : Option Addr} {n k cap : Nat} {l : List UInt8} {arr : Array Value} (h : Lib.HoldsBytes w (.slice p l.length cap) l) (ha : putCells n arr 8) (hk : k ≤ 8) (T U : Nat) :
    Lib.PartsAt ((w.alloc (.cells arr T)).alloc (.cells #[.slice p l.length cap, .slice (some ⟨w.heap.size, 0, none⟩) k 8] U)) ⟨w.heap.size + 1, 0, none⟩
      [.slice p l.length cap, .slice (some ⟨w.heap.size, 0, none⟩) k 8] [l, Pl.putLE n k] := by
  refine ⟨rfl, fun i v hv => ?_, fun i v l' hv hl => ?_⟩
  · rw [add_plain, Nat.zero_add]
    match i, hv with
    | 0, hv => simp only [List.getElem?_cons_zero, Option.some.injEq] at hv; subst hv; simp
    | 1, hv => simp only [List.getElem?_cons_succ, List.getElem?_cons_zero, Option.some.injEq] at hv; subst hv; simp
  · match i, hv, hl with
    | 0, hv, hl =>
      simp only [List.getElem?_cons_zero, Option.some.injEq] at hv hl; subst hv hl
      exact holds2 h fun a v hv => cell_alloc_old _ (cell_alloc_old _ hv)
    | 1, hv, hl =>
      simp only [List.getElem?_cons_succ, List.getElem?_cons_zero, Option.some.injEq] at hv hl; subst hv hl
      exact put_holds ha hk fun i => by simp

set_option maxRecDepth 100000 in
set_option maxHeartbeats 400000 in
theorem put_nat (v : Value) (l : List UInt8) (n k : Nat) (h1 : 1 ≤ k) (h8 : k ≤ 8) (hn : n < 256 ^ k) (hl : l.length ≤ 1000000) (w : World) (hv : Lib.HoldsBytes w v l) :
    Calls Tryd.prog 63 #[v, .int .u64 n, .int .i64 k] w fun e w' => ∃ v', e = .returned (.tuple #[v', .int .i64 0]) ∧ Bs w.heap.size w' v' (l ++ Pl.putLE n k) ∧ Below w.heap.size w w' := by
  have hsh := shift_zero n k hn
  clear hn
  have Hv := Lib.hid hv
  obtain ⟨p, cap, rfl, hp1, hp2⟩ := hv
  clear hp1 hp2
  rcases Nat.lt_or_ge k 8 with hk | hk
  all_goals
    go_enter Tryd.func63, Tryd.ntmps63
    go_wp2
    go_loopw [27] (fun i wr => ∃ (j : Nat) (arr : Array Value), j ≤ 8 ∧ i = .int .i64 j ∧ wr = w.alloc (.cells arr 135) ∧ putCells n arr j)
      (fun i _ => 8 - (intOf i).toNat)
    case atStart => exact ⟨0, _, by omega, rfl, rfl, by kernel_rfl, fun j hj => by omega⟩
    case round =>
      obtain ⟨j, arr, hj, rfl, rfl, ha⟩ := hrel
      by_cases hlt : j < 8
      · have hT := Lib.hid (putCells_next ha hlt)
        obtain ⟨v0, hv⟩ : ∃ v0, arr[j]? = some v0 := ⟨arr[j]'(by rw [ha.1]; exact hlt), by rw [Array.getElem?_eq_getElem]⟩
        have hs := Lib.hid (shift_term n j)
        clear ha hsh
        go_wp2
        go_roundw
        case rel => exact ⟨j + 1, _, by omega, by go_num, rfl, by have e := hs.out; rw [IntKind.wrap_u8] at e; rw [e]; exact hT.out⟩
        case measure => simp [intOf]; omega
      · obtain rfl : j = 8 := by omega
        have HP := Lib.hid (put_parts Hv.out ha h8 135 51)
        have hfl : [l, Pl.putLE n k].flatten = l ++ Pl.putLE n k := by simp
        have hne : [l, Pl.putLE n k].flatten ≠ [] := by
          rw [hfl]; intro e; have := congrArg List.length e; simp [Pl.putLE_length] at this; omega
        have hln : Lib.lens [l, Pl.putLE n k] ≤ 100000000 := by simp [Lib.lens, Pl.putLE_length]; omega
        have Hfl := Lib.hid hfl
        clear ha hsh hfl
        go_wp2_with (go_at_call 89; refine (join_any _ 2 2 _ _ _ rfl (by omega) HP.out (by omega) hln hne (by omega)).mono ?_; rintro e w' ⟨v', rfl, hB, hb⟩)
        go_ret2
        exact ⟨v', rfl, Hfl.out ▸ (hB.mono (by simp; omega)), (((Below.refl _ _).alloc (Nat.le_refl _) _).alloc (by simp) _).trans (hb.mono (by simp; omega))⟩

theorem put_any (v : Value) (l : List UInt8) (n k : Int) (h0 : 0 ≤ n) (h1 : 1 ≤ k) (h8 : k ≤ 8) (hn : n.toNat < 256 ^ k.toNat) (hl : l.length ≤ 1000000) (w : World) (hv : Lib.HoldsBytes w v l) :
    Calls Tryd.prog 63 #[v, .int .u64 n, .int .i64 k] w fun e w' => ∃ v', e = .returned (.tuple #[v', .int .i64 0]) ∧ Bs w.heap.size w' v' (l ++ Pl.putLE n.toNat k.toNat) ∧ Below w.heap.size w w' := by
  obtain ⟨n, rfl⟩ := Int.eq_ofNat_of_zero_le h0
  obtain ⟨k, rfl⟩ := Int.eq_ofNat_of_zero_le (show 0 ≤ k by omega)
  simp only [Int.toNat_natCast] at hn ⊢
  exact put_nat v l n k (by omega) (by omega) hn hl w hv

theorem below_bytes (w : World) (e : TypeId) (s : ByteArray) : Below w.heap.size w (Lib.bytesWorld w e s) := by
  refine ⟨?_, ?_, ?_, by rw [Lib.bytesWorld_size]; omega, fun k hk => Lib.bytesWorld_at_old w e s k hk⟩ <;>
  · unfold Lib.bytesWorld World.freeze
    split <;> rfl

theorem bytes_holds {w w' : World} (e : TypeId) (s : ByteArray) (c : Nat) (hb : Below (Lib.bytesWorld w e s).heap.size (Lib.bytesWorld w e s) w') : Lib.HoldsBytes w' (.slice (some ⟨w.heap.size, 0, none⟩) s.size c) s.data.toList := by
  refine ⟨some ⟨w.heap.size, 0, none⟩, c, by simp, (fun e => nomatch e), fun a ea i x hx => ?_⟩
  obtain rfl := Option.some.inj ea
  have hi : i < s.size := by have := (List.getElem?_eq_some_iff.1 hx).1; simpa using this
  rw [add_plain, Nat.zero_add, hb.cell (by rw [Lib.bytesWorld_size]; simp), Lib.bytesWorld_cell w e s i hi, List.getD_eq_getElem?_getD, hx]
  rfl

theorem two_bytes (n : Nat) (h : n ≤ 65535) : Pl.putLE n 2 = [UInt8.ofNat (n % 256), UInt8.ofNat (n / 256)] := by
  have h2 : n / 256 % 256 = n / 256 := by omega
  show [UInt8.ofNat (n % 256), UInt8.ofNat (n / 256 % 256)] = _
  rw [h2]

theorem text_parts {w : World} {p : Option Addr} {cap c : Nat} {l : List UInt8} (s : ByteArray) (hs : s.size ≤ 65535) (h : Lib.HoldsBytes w (.slice p l.length cap) l) (T U : Nat) :
    Lib.PartsAt ((Lib.bytesWorld (w.alloc (.cells #[.int .u8 ((s.size : Int) % 256), .int .u8 ((s.size : Int) / 256)] T)) T s).alloc (.cells #[.slice p l.length cap, .slice (some ⟨w.heap.size, 0, none⟩) 2 2, .slice (some ⟨w.heap.size + 1, 0, none⟩) s.size c] U))
      ⟨(Lib.bytesWorld (w.alloc (.cells #[.int .u8 ((s.size : Int) % 256), .int .u8 ((s.size : Int) / 256)] T)) T s).heap.size, 0, none⟩
      [.slice p l.length cap, .slice (some ⟨w.heap.size, 0, none⟩) 2 2, .slice (some ⟨w.heap.size + 1, 0, none⟩) s.size c] [l, Pl.putLE s.size 2, s.data.toList] := by
  have b1 : Below w.heap.size w (w.alloc (.cells #[.int .u8 ((s.size : Int) % 256), .int .u8 ((s.size : Int) / 256)] T)) := (Below.refl _ _).alloc (Nat.le_refl _) _
  have b2 := below_bytes (w.alloc (.cells #[.int .u8 ((s.size : Int) % 256), .int .u8 ((s.size : Int) / 256)] T)) T s
  generalize hW : Lib.bytesWorld (w.alloc (.cells #[.int .u8 ((s.size : Int) % 256), .int .u8 ((s.size : Int) / 256)] T)) T s = W at *
  have b3 : Below W.heap.size W (W.alloc (.cells #[.slice p l.length cap, .slice (some ⟨w.heap.size, 0, none⟩) 2 2, .slice (some ⟨w.heap.size + 1, 0, none⟩) s.size c] U)) := (Below.refl _ _).alloc (Nat.le_refl _) _
  have hz : w.heap.size + 1 ≤ W.heap.size := by have := b2.size; simpa using this
  refine ⟨rfl, fun i v hv => ?_, fun i v l' hv hl => ?_⟩
  · rw [add_plain, Nat.zero_add]
    match i, hv with
    | 0, hv => simp only [List.getElem?_cons_zero, Option.some.injEq] at hv; subst hv; simp
    | 1, hv => simp only [List.getElem?_cons_succ, List.getElem?_cons_zero, Option.some.injEq] at hv; subst hv; simp
    | 2, hv => simp only [List.getElem?_cons_succ, List.getElem?_cons_zero, Option.some.injEq] at hv; subst hv; simp
  · match i, hv, hl with
    | 0, hv, hl =>
      simp only [List.getElem?_cons_zero, Option.some.injEq] at hv hl; subst hv hl
      exact HoldsBytes.later h (b1.trans ((b2.trans (b3.mono b2.size)).mono (by simp)))
    | 1, hv, hl =>
      simp only [List.getElem?_cons_succ, List.getElem?_cons_zero, Option.some.injEq] at hv hl; subst hv hl
      refine ⟨some ⟨w.heap.size, 0, none⟩, 2, by rw [Pl.putLE_length], (fun e => nomatch e), fun a ea i x hx => ?_⟩
      obtain rfl := Option.some.inj ea
      rw [two_bytes _ hs] at hx
      rw [add_plain, Nat.zero_add, b3.cell (by simp; omega), b2.cell (by simp)]
      match i, hx with
      | 0, hx => simp only [List.getElem?_cons_zero, Option.some.injEq] at hx; subst hx; simp
      | 1, hx => simp only [List.getElem?_cons_succ, List.getElem?_cons_zero, Option.some.injEq] at hx; subst hx; simp; omega
    | 2, hv, hl =>
      simp only [List.getElem?_cons_succ, List.getElem?_cons_zero, Option.some.injEq] at hv hl; subst hv hl
      have := bytes_holds (w := w.alloc (.cells #[.int .u8 ((s.size : Int) % 256), .int .u8 ((s.size : Int) / 256)] T)) (w' := W.alloc (.cells #[.slice p l.length cap, .slice (some ⟨w.heap.size, 0, none⟩) 2 2, .slice (some ⟨w.heap.size + 1, 0, none⟩) s.size c] U)) T s c (by rw [hW]; exact b3)
      simpa using this

set_option maxRecDepth 100000 in
set_option maxHeartbeats 400000 in
theorem putText_any (v : Value) (l : List UInt8) (s : ByteArray) (hs : s.size ≤ 65535) (hl : l.length ≤ 1000000) (w : World) (hv : Lib.HoldsBytes w v l) :
    Calls Tryd.prog 87 #[v, .string s] w fun e w' => ∃ v', e = .returned (.tuple #[v', .int .i64 0]) ∧ Bs w.heap.size w' v' (l ++ Pl.putLE s.size 2 ++ s.data.toList) ∧ Below w.heap.size w w' := by
  obtain ⟨p, cap, rfl, hp1, hp2⟩ := id hv
  have Hv := Lib.hid hv
  clear hv hp1 hp2
  have kc := fun (wx : World) => Lib.run_convert_string_bytes (P := Tryd.prog) wx 9 51 5 s Tryd.underlying9 Tryd.underlying51 Tryd.underlying5
  have HP := Lib.hid (text_parts (c := grownCap (w.alloc (.cells #[.int .u8 ((s.size : Int) % 256), .int .u8 ((s.size : Int) / 256)] 5)) s.size 0 5) s hs Hv.out 5 51)
  have hfl : [l, Pl.putLE s.size 2, s.data.toList].flatten = l ++ Pl.putLE s.size 2 ++ s.data.toList := by simp
  have hne : [l, Pl.putLE s.size 2, s.data.toList].flatten ≠ [] := by
    rw [hfl]; intro e; have := congrArg List.length e; simp [Pl.putLE_length] at this
  have hln : Lib.lens [l, Pl.putLE s.size 2, s.data.toList] ≤ 100000000 := by simp [Lib.lens, Pl.putLE_length]; omega
  have Hfl := Lib.hid hfl
  clear hfl
  go_enter Tryd.func87, Tryd.ntmps87
  go_wp2_with (go_at_call 89; refine (join_any _ 3 3 _ _ _ rfl (by omega) HP.out (by omega) hln hne (by omega)).mono ?_; rintro e w' ⟨v', rfl, hB, hb⟩)
  go_ret2
  have b1 : Below w.heap.size w (w.alloc (.cells #[.int .u8 ((s.size : Int) % 256), .int .u8 ((s.size : Int) / 256)] 5)) := (Below.refl _ _).alloc (Nat.le_refl _) _
  have b2 := below_bytes (w.alloc (.cells #[.int .u8 ((s.size : Int) % 256), .int .u8 ((s.size : Int) / 256)] 5)) 5 s
  have hz := b2.size
  simp only [World.size_alloc] at hz
  exact ⟨v', rfl, Hfl.out ▸ (hB.mono (by simp; omega)), ((b1.trans (b2.mono (by simp))).alloc (by omega) _).trans (hb.mono (by simp; omega))⟩

end Go.Proofs.YtmidfknlmjgjpaaDoor
