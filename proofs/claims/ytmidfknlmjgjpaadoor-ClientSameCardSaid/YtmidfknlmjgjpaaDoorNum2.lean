/- The walks of package num: PutText. -/
import Derived.Test.YtmidfknlmjgjpaaDoorNum
namespace Go.Proofs.YtmidfknlmjgjpaaDoor
open Go.RowKit

theorem below_bytes (w : World) (e : TypeId) (s : ByteArray) : Below w.heap.size w (Lib.bytesWorld w e s) := by
  refine ⟨?_, ?_, ?_, by rw [Lib.bytesWorld_size]; omega, fun k hk => Lib.bytesWorld_at_old w e s k hk⟩ <;>
  · unfold Lib.bytesWorld World.freeze
    split <;> rfl

theorem bytes_holds {w w' : World} (e : TypeId) (s : ByteArray) (c : Nat) (hb : Below (Lib.bytesWorld w e s).heap.size (Lib.bytesWorld w e s) w') : Lib.HoldsBytes w' (.slice (some ⟨w.heap.size, 0, none⟩) s.size c) s.data.toList := by
  refine ⟨some ⟨w.heap.size, 0, none⟩, c, by simp, (fun e => nomatch e), fun a ea i x hx => ?_⟩
  obtain rfl := Option.some.inj ea
  have hi : i < s.size := by have := (List.getElem?_eq_some_iff.1 hx).1; simpa using this
  rw [add_plain, Nat.zero_add, hb.cell (by rw [Lib.bytesWorld_size]; simp), Lib.bytesWorld_cell w e s i hi, List.getD_eq_getElem?_getD, hx]
  rfl

theorem two_bytes (n : Nat) (h : n ≤ 65535) : Pl.putLE n 2 = [UInt8.ofNat (n % 256), UInt8.ofNat (n / 256)] := by
  have h2 : n / 256 % 256 = n / 256 := by omega
  show [UInt8.ofNat (n % 256), UInt8.ofNat (n / 256 % 256)] = _
  rw [h2]

theorem text_parts {w : World} {p : Option Addr} {cap c : Nat} {l : List UInt8} (s : ByteArray) (hs : s.size ≤ 65535) (h : Lib.HoldsBytes w (.slice p l.length cap) l) (T U : Nat) :
    Lib.PartsAt ((Lib.bytesWorld (w.alloc (.cells #[.int .u8 ((s.size : Int) % 256), .int .u8 ((s.size : Int) / 256)] T)) T s).alloc (.cells #[.slice p l.length cap, .slice (some ⟨w.heap.size, 0, none⟩) 2 2, .slice (some ⟨w.heap.size + 1, 0, none⟩) s.size c] U))
      ⟨(Lib.bytesWorld (w.alloc (.cells #[.int .u8 ((s.size : Int) % 256), .int .u8 ((s.size : Int) / 256)] T)) T s).heap.size, 0, none⟩
      [.slice p l.length cap, .slice (some ⟨w.heap.size, 0, none⟩) 2 2, .slice (some ⟨w.heap.size + 1, 0, none⟩) s.size c] [l, Pl.putLE s.size 2, s.data.toList] := by
  have b1 : Below w.heap.size w (w.alloc (.cells #[.int .u8 ((s.size : Int) % 256), .int .u8 ((s.size : Int) / 256)] T)) := (Below.refl _ _).alloc (Nat.le_refl _) _
  have b2 := below_bytes (w.alloc (.cells #[.int .u8 ((s.size : Int) % 256), .int .u8 ((s.size : Int) / 256)] T)) T s
  generalize hW : Lib.bytesWorld (w.alloc (.cells #[.int .u8 ((s.size : Int) % 256), .int .u8 ((s.size : Int) / 256)] T)) T s = W at *
  have b3 : Below W.heap.size W (W.alloc (.cells #[.slice p l.length cap, .slice (some ⟨w.heap.size, 0, none⟩) 2 2, .slice (some ⟨w.heap.size + 1, 0, none⟩) s.size c] U)) := (Below.refl _ _).alloc (Nat.le_refl _) _
  have hz : w.heap.size + 1 ≤ W.heap.size := by have := b2.size; simpa using this
  refine ⟨rfl, fun i v hv => ?_, fun i v l' hv hl => ?_⟩
  · rw [add_plain, Nat.zero_add]
    match i, hv with
    | 0, hv => simp only [List.getElem?_cons_zero, Option.some.injEq] at hv; subst hv; simp
    | 1, hv => simp only [List.getElem?_cons_succ, List.getElem?_cons_zero, Option.some.injEq] at hv; subst hv; simp
    | 2, hv => simp only [List.getElem?_cons_succ, List.getElem?_cons_zero, Option.some.injEq] at hv; subst hv; simp
  · match i, hv, hl with
    | 0, hv, hl =>
      simp only [List.getElem?_cons_zero, Option.some.injEq] at hv hl; subst hv hl
      exact HoldsBytes.later h (b1.trans ((b2.trans (b3.mono b2.size)).mono (by simp)))
    | 1, hv, hl =>
      simp only [List.getElem?_cons_succ, List.getElem?_cons_zero, Option.some.injEq] at hv hl; subst hv hl
      refine ⟨some ⟨w.heap.size, 0, none⟩, 2, by rw [Pl.putLE_length], (fun e => nomatch e), fun a ea i x hx => ?_⟩
      obtain rfl := Option.some.inj ea
      rw [two_bytes _ hs] at hx
      rw [add_plain, Nat.zero_add, b3.cell (by simp; omega), b2.cell (by simp)]
      match i, hx with
      | 0, hx => simp only [List.getElem?_cons_zero, Option.some.injEq] at hx; subst hx; simp
      | 1, hx => simp only [List.getElem?_cons_succ, List.getElem?_cons_zero, Option.some.injEq] at hx; subst hx; simp; omega
    | 2, hv, hl =>
      simp only [List.getElem?_cons_succ, List.getElem?_cons_zero, Option.some.injEq] at hv hl; subst hv hl
      have := bytes_holds (w := w.alloc (.cells #[.int .u8 ((s.size : Int) % 256), .int .u8 ((s.size : Int) / 256)] T)) (w' := W.alloc (.cells #[.slice p l.length cap, .slice (some ⟨w.heap.size, 0, none⟩) 2 2, .slice (some ⟨w.heap.size + 1, 0, none⟩) s.size c] U)) T s c (by rw [hW]; exact b3)
      simpa using this

set_option maxRecDepth 100000 in
set_option maxHeartbeats 400000 in
theorem putText_any (v : Value) (l : List UInt8) (s : ByteArray) (hs : s.size ≤ 65535) (hl : l.length ≤ 1000000) (w : World) (hv : Lib.HoldsBytes w v l) :
    Calls Tryd.prog 87 #[v, .string s] w fun e w' => ∃ v', e = .returned (.tuple #[v', .int .i64 0]) ∧ Bs w.heap.size w' v' (l ++ Pl.putLE s.size 2 ++ s.data.toList) ∧ Below w.heap.size w w' := by
  obtain ⟨p, cap, rfl, hp1, hp2⟩ := id hv
  have Hv := Lib.hid hv
  clear hv hp1 hp2
  have kc := fun (wx : World) => Lib.run_convert_string_bytes (P := Tryd.prog) wx 9 51 5 s Tryd.underlying9 Tryd.underlying51 Tryd.underlying5
  have HP := Lib.hid (text_parts (c := grownCap (w.alloc (.cells #[.int .u8 ((s.size : Int) % 256), .int .u8 ((s.size : Int) / 256)] 5)) s.size 0 5) s hs Hv.out 5 51)
  have hfl : [l, Pl.putLE s.size 2, s.data.toList].flatten = l ++ Pl.putLE s.size 2 ++ s.data.toList := by simp
  have hne : [l, Pl.putLE s.size 2, s.data.toList].flatten ≠ [] := by
    rw [hfl]; intro e; have := congrArg List.length e; simp [Pl.putLE_length] at this
  have hln : Lib.lens [l, Pl.putLE s.size 2, s.data.toList] ≤ 100000000 := by simp [Lib.lens, Pl.putLE_length]; omega
  have Hfl := Lib.hid hfl
  clear hfl
  go_enter Tryd.func87, Tryd.ntmps87
  go_wp2_with (go_at_call 89; refine (join_any _ 3 3 _ _ _ rfl (by omega) HP.out (by omega) hln hne (by omega)).mono ?_; rintro e w' ⟨v', rfl, hB, hb⟩)
  go_ret2
  have b1 : Below w.heap.size w (w.alloc (.cells #[.int .u8 ((s.size : Int) % 256), .int .u8 ((s.size : Int) / 256)] 5)) := (Below.refl _ _).alloc (Nat.le_refl _) _
  have b2 := below_bytes (w.alloc (.cells #[.int .u8 ((s.size : Int) % 256), .int .u8 ((s.size : Int) / 256)] 5)) 5 s
  have hz := b2.size
  simp only [World.size_alloc] at hz
  exact ⟨v', rfl, Hfl.out ▸ (hB.mono (by simp; omega)), ((b1.trans (b2.mono (by simp))).alloc (by omega) _).trans (hb.mono (by simp; omega))⟩

end Go.Proofs.YtmidfknlmjgjpaaDoor
