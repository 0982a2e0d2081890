/- The walks of package seal: Seal; of package slot: right, Header. -/
import Derived.Test.YtmidfknlmjgjpaaDoorEntry2
namespace Go.Proofs.YtmidfknlmjgjpaaDoor
open Go.RowKit

/-- A sector's first bytes. -/
def sealFront (g : UInt8) (s : List UInt8) : List UInt8 := [g] ++ Pl.putLE s.length 2 ++ s ++ List.replicate (376 - s.length) 0
def sealB (g : UInt8) (s : List UInt8) : List UInt8 := sealFront g s ++ Pl.putLE (Pl.crcSum (sealFront g s)) 4 ++ [g]
/-- The sector's next mark. -/
def sealMark (old : List UInt8) : UInt8 := match old.getLast? with | none => 1 | some c => c + 1

theorem sealFront_length (g : UInt8) (s : List UInt8) (h : s.length ≤ 376) : (sealFront g s).length = 379 := by
  simp [sealFront, Pl.putLE_length]; omega

theorem one_holds (w : World) (g : Int) (h0 : 0 ≤ g) (h1 : g < 256) (T c : Nat) : Lib.HoldsBytes (w.alloc (.cells #[.int .u8 g] T)) (.slice (some ⟨w.heap.size, 0, none⟩) 1 c) [UInt8.ofNat g.toNat] := by
  have := new_holds w [UInt8.ofNat g.toNat] T c
  have e : ((UInt8.ofNat g.toNat).toNat : Int) = g := by simp only [UInt8.toNat_ofNat']; omega
  have e2 : (bcells [UInt8.ofNat g.toNat]).toArray = #[.int .u8 g] := by simp only [bcells, List.map_cons, List.map_nil, e]
  rw [e2] at this
  exact this

set_option maxRecDepth 100000 in
set_option maxHeartbeats 1000000 in
theorem seal_empty (s : ByteArray) (hs : s.size ≤ 376) (w : World) :
    Calls Tryd.prog 115 #[.string (str []), .string s] w fun x w' => x = .returned (.tuple #[.string (str (sealB 1 s.data.toList)), .int .i64 0]) ∧ Below w.heap.size w w' := by
  have H1 := Lib.hid (one_holds w 1 (by omega) (by omega) 5 1)
  have hl1 : [UInt8.ofNat (Int.toNat 1)].length ≤ 1000000 := by simp
  obtain ⟨i0, hi, hz0, hz1, hz2⟩ := info_parts info_u8
  go_enter Tryd.func115, Tryd.ntmps115
  go_wp2_with fail
  refine (putText_any _ _ s (by omega) hl1 _ H1.out).mono ?_
  rintro x w1 ⟨v1, rfl, hv1, hb1⟩
  have hlen : ([UInt8.ofNat (Int.toNat 1)] ++ Pl.putLE s.size 2 ++ s.data.toList).length = 3 + s.size := by simp [Pl.putLE_length]; omega
  obtain ⟨p, cap, e, _, _⟩ := hv1.shape
  rw [hlen] at e
  subst e
  have hz : w.heap.size ≤ w1.heap.size := by have := hb1.size; simp at this; omega
  have hB : Below w.heap.size w w1 := below_box hb1 (by simp)
  have HV1 := Lib.hid (hv1.mono (B' := w.heap.size) (by simp))
  have HB := Lib.hid hB
  have hroom : ([UInt8.ofNat (Int.toNat 1)] ++ Pl.putLE s.size 2 ++ s.data.toList).length + ((379 : Int) - (3 + (s.size : Int))).toNat ≤ 1000000000 := by rw [hlen]; omega
  have hm0 : 0 ≤ (379 : Int) - (3 + (s.size : Int)) := by omega
  have hfr : [UInt8.ofNat (Int.toNat 1)] ++ Pl.putLE s.size 2 ++ s.data.toList ++ List.replicate ((379 : Int) - (3 + (s.size : Int))).toNat 0 = sealFront 1 s.data.toList := by
    have e1 : ((379 : Int) - (3 + (s.size : Int))).toNat = 376 - s.size := by omega
    rw [e1]
    simp [sealFront]
  have Hfr := Lib.hid hfr
  have Hroom := Lib.hid hroom
  clear hv1 hb1 hlen hB hfr hroom
  go_wp2_with (at_builtin; refine wpList_append_zeros rfl _ _ 51 3 rfl w.heap.size 5 i0 .i64 .i64 Tryd.underlying51 Tryd.underlying3 hi hz0 hz1 hz2 _ _ rfl HV1.out (379 - (3 + (s.size : Int))) rfl hm0 Hroom.out hz ?_; intro v2 w2 hv2 hg2; have HV2 := Lib.hid (bs_eq Hfr.out hv2); have HB2 := Lib.hid (HB.out.trans (Bs.below HV1.out hg2 hz)); clear hv2 hg2 HV1 HB hz Hfr Hroom; have kc := conv_holds (P := Tryd.prog) 51 5 9 Tryd.underlying51 Tryd.underlying5 Tryd.underlying9 HV2.out.holds)
  clear kc
  have hfl := sealFront_length 1 s.data.toList (by simpa using hs)
  have Hfl := Lib.hid hfl
  have hms : (str (sealFront 1 s.data.toList)).size ≤ maxLen := by rw [str_size, hfl]; simp [maxLen]
  clear hfl
  refine (sum_any _ hms _).mono ?_
  rintro x w3 ⟨rfl, hb3⟩
  rw [str_data]
  have HV3 := Lib.hid (HV2.out.later hb3)
  have HB3 := Lib.hid (HB2.out.trans (hb3.mono HB2.out.size))
  clear hb3 HV2 HB2 hms
  have hdl : Pl.crcSum (sealFront 1 s.data.toList) < 4294967296 := Pl.crcSum_lt _
  obtain ⟨d, hd⟩ : ∃ d, d = Pl.crcSum (sealFront 1 s.data.toList) := ⟨_, rfl⟩
  have HD := Lib.hid hd
  rw [← hd] at hdl ⊢
  clear hd
  go_wp2_with fail
  refine (put_any _ _ _ _ (by omega) (by omega) (by omega) (by simp; omega) (by rw [Hfl.out]; omega) _ HV3.out.holds).mono ?_
  rintro x w4 ⟨v4, rfl, hv4, hb4⟩
  have e4 : Int.toNat 4 = 4 := rfl
  rw [Int.toNat_natCast, e4] at hv4
  clear e4
  have HV4 := Lib.hid (hv4.mono (B' := w.heap.size) HB3.out.size)
  have HB4 := Lib.hid (HB3.out.trans (hb4.mono HB3.out.size))
  clear hv4 hb4 HV3 HB3
  have H2 := Lib.hid (one_holds w4 1 (by omega) (by omega) 5 1)
  have b5 : Below w4.heap.size w4 (w4.alloc (.cells #[.int .u8 1] 5)) := (Below.refl _ _).alloc (Nat.le_refl _) _
  have HV5 := Lib.hid (HV4.out.later b5)
  have HB5 := Lib.hid (HB4.out.trans (b5.mono HB4.out.size))
  have hz5 : w.heap.size ≤ (w4.alloc (.cells #[.int .u8 1] 5)).heap.size := by have := HB5.out.size; exact this
  have hroom : (sealFront 1 s.data.toList ++ Pl.putLE d 4).length + [UInt8.ofNat (Int.toNat 1)].length ≤ 1000000000 := by rw [List.length_append, Hfl.out, Pl.putLE_length]; decide
  have hfin : sealFront 1 s.data.toList ++ Pl.putLE d 4 ++ [UInt8.ofNat (Int.toNat 1)] = sealB 1 s.data.toList := by rw [HD.out]; rfl
  have Hfin := Lib.hid hfin
  have Hroom := Lib.hid hroom
  clear b5 HV4 HB4 hroom hfin
  go_wp2_with (at_builtin; refine wpList_append_Bs rfl _ _ 51 rfl w.heap.size 5 i0 Tryd.underlying51 hi hz0 hz1 hz2 _ _ rfl HV5.out (.slice (some ⟨w4.heap.size, 0, none⟩) 1 1) _ rfl H2.out (fun c e => nomatch e) Hroom.out hz5 ?_; intro v6 w6 hv6 hg6; have HV6 := Lib.hid (bs_eq Hfin.out hv6); have HB6 := Lib.hid (HB5.out.trans (Bs.below HV5.out hg6 hz5)); clear hv6 hg6 HV5 HB5 hz5 Hfin Hroom; have kc := conv_holds (P := Tryd.prog) 51 5 9 Tryd.underlying51 Tryd.underlying5 Tryd.underlying9 HV6.out.holds)
  go_ret2
  exact ⟨rfl, HB6.out⟩

end Go.Proofs.YtmidfknlmjgjpaaDoor
