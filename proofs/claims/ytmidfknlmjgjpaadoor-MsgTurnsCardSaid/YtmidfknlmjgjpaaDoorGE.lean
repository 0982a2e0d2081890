/- The walks of package seal: Seal; of package slot: right, Header. The walks of slot.right, slot.Header; msg.eight, msg.may, msg.fields. The walk of slot.Header (at an empty sector); msg.may, msg.fields, msg.number, msg.hasRune. -/
import Derived.Test.YtmidfknlmjgjpaaDoorGD
namespace Go.Proofs.YtmidfknlmjgjpaaDoor
open Go.RowKit

/-- A sector's first bytes. -/
def sealFront (g : UInt8) (s : List UInt8) : List UInt8 := [g] ++ Pl.putLE s.length 2 ++ s ++ List.replicate (376 - s.length) 0
def sealB (g : UInt8) (s : List UInt8) : List UInt8 := sealFront g s ++ Pl.putLE (Pl.crcSum (sealFront g s)) 4 ++ [g]
/-- The sector's next mark. -/
def sealMark (old : List UInt8) : UInt8 := match old.getLast? with | none => 1 | some c => c + 1

theorem sealFront_length (g : UInt8) (s : List UInt8) (h : s.length ≤ 376) : (sealFront g s).length = 379 := by
  simp [sealFront, Pl.putLE_length]; omega

theorem one_holds (w : World) (g : Int) (h0 : 0 ≤ g) (h1 : g < 256) (T c : Nat) : Lib.HoldsBytes (w.alloc (.cells #[.int .u8 g] T)) (.slice (some ⟨w.heap.size, 0, none⟩) 1 c) [UInt8.ofNat g.toNat] := by
  have := new_holds w [UInt8.ofNat g.toNat] T c
  have e : ((UInt8.ofNat g.toNat).toNat : Int) = g := by simp only [UInt8.toNat_ofNat']; omega
  have e2 : (bcells [UInt8.ofNat g.toNat]).toArray = #[.int .u8 g] := by simp only [bcells, List.map_cons, List.map_nil, e]
  rw [e2] at this
  exact this

set_option maxRecDepth 100000 in
set_option maxHeartbeats 1000000 in
theorem seal_empty (s : ByteArray) (hs : s.size ≤ 376) (w : World) :
    Calls Tryd.prog 115 #[.string (str []), .string s] w fun x w' => x = .returned (.tuple #[.string (str (sealB 1 s.data.toList)), .int .i64 0]) ∧ Below w.heap.size w w' := by
  have H1 := Lib.hid (one_holds w 1 (by omega) (by omega) 5 1)
  have hl1 : [UInt8.ofNat (Int.toNat 1)].length ≤ 1000000 := by simp
  obtain ⟨i0, hi, hz0, hz1, hz2⟩ := info_parts info_u8
  go_enter Tryd.func115, Tryd.ntmps115
  go_wp2_with fail
  refine (putText_any _ _ s (by omega) hl1 _ H1.out).mono ?_
  rintro x w1 ⟨v1, rfl, hv1, hb1⟩
  have hlen : ([UInt8.ofNat (Int.toNat 1)] ++ Pl.putLE s.size 2 ++ s.data.toList).length = 3 + s.size := by simp [Pl.putLE_length]; omega
  obtain ⟨p, cap, e, _, _⟩ := hv1.shape
  rw [hlen] at e
  subst e
  have hz : w.heap.size ≤ w1.heap.size := by have := hb1.size; simp at this; omega
  have hB : Below w.heap.size w w1 := below_box hb1 (by simp)
  have HV1 := Lib.hid (hv1.mono (B' := w.heap.size) (by simp))
  have HB := Lib.hid hB
  have hroom : ([UInt8.ofNat (Int.toNat 1)] ++ Pl.putLE s.size 2 ++ s.data.toList).length + ((379 : Int) - (3 + (s.size : Int))).toNat ≤ 1000000000 := by rw [hlen]; omega
  have hm0 : 0 ≤ (379 : Int) - (3 + (s.size : Int)) := by omega
  have hfr : [UInt8.ofNat (Int.toNat 1)] ++ Pl.putLE s.size 2 ++ s.data.toList ++ List.replicate ((379 : Int) - (3 + (s.size : Int))).toNat 0 = sealFront 1 s.data.toList := by
    have e1 : ((379 : Int) - (3 + (s.size : Int))).toNat = 376 - s.size := by omega
    rw [e1]
    simp [sealFront]
  have Hfr := Lib.hid hfr
  have Hroom := Lib.hid hroom
  clear hv1 hb1 hlen hB hfr hroom
  go_wp2_with (at_builtin; refine wpList_append_zeros rfl _ _ 51 3 rfl w.heap.size 5 i0 .i64 .i64 Tryd.underlying51 Tryd.underlying3 hi hz0 hz1 hz2 _ _ rfl HV1.out (379 - (3 + (s.size : Int))) rfl hm0 Hroom.out hz ?_; intro v2 w2 hv2 hg2; have HV2 := Lib.hid (bs_eq Hfr.out hv2); have HB2 := Lib.hid (HB.out.trans (Bs.below HV1.out hg2 hz)); clear hv2 hg2 HV1 HB hz Hfr Hroom; have kc := conv_holds (P := Tryd.prog) 51 5 9 Tryd.underlying51 Tryd.underlying5 Tryd.underlying9 HV2.out.holds)
  clear kc
  have hfl := sealFront_length 1 s.data.toList (by simpa using hs)
  have Hfl := Lib.hid hfl
  have hms : (str (sealFront 1 s.data.toList)).size ≤ maxLen := by rw [str_size, hfl]; simp [maxLen]
  clear hfl
  refine (sum_any _ hms _).mono ?_
  rintro x w3 ⟨rfl, hb3⟩
  rw [str_data]
  have HV3 := Lib.hid (HV2.out.later hb3)
  have HB3 := Lib.hid (HB2.out.trans (hb3.mono HB2.out.size))
  clear hb3 HV2 HB2 hms
  have hdl : Pl.crcSum (sealFront 1 s.data.toList) < 4294967296 := Pl.crcSum_lt _
  obtain ⟨d, hd⟩ : ∃ d, d = Pl.crcSum (sealFront 1 s.data.toList) := ⟨_, rfl⟩
  have HD := Lib.hid hd
  rw [← hd] at hdl ⊢
  clear hd
  go_wp2_with fail
  refine (put_any _ _ _ _ (by omega) (by omega) (by omega) (by simp; omega) (by rw [Hfl.out]; omega) _ HV3.out.holds).mono ?_
  rintro x w4 ⟨v4, rfl, hv4, hb4⟩
  have e4 : Int.toNat 4 = 4 := rfl
  rw [Int.toNat_natCast, e4] at hv4
  clear e4
  have HV4 := Lib.hid (hv4.mono (B' := w.heap.size) HB3.out.size)
  have HB4 := Lib.hid (HB3.out.trans (hb4.mono HB3.out.size))
  clear hv4 hb4 HV3 HB3
  have H2 := Lib.hid (one_holds w4 1 (by omega) (by omega) 5 1)
  have b5 : Below w4.heap.size w4 (w4.alloc (.cells #[.int .u8 1] 5)) := (Below.refl _ _).alloc (Nat.le_refl _) _
  have HV5 := Lib.hid (HV4.out.later b5)
  have HB5 := Lib.hid (HB4.out.trans (b5.mono HB4.out.size))
  have hz5 : w.heap.size ≤ (w4.alloc (.cells #[.int .u8 1] 5)).heap.size := by have := HB5.out.size; exact this
  have hroom : (sealFront 1 s.data.toList ++ Pl.putLE d 4).length + [UInt8.ofNat (Int.toNat 1)].length ≤ 1000000000 := by rw [List.length_append, Hfl.out, Pl.putLE_length]; decide
  have hfin : sealFront 1 s.data.toList ++ Pl.putLE d 4 ++ [UInt8.ofNat (Int.toNat 1)] = sealB 1 s.data.toList := by rw [HD.out]; rfl
  have Hfin := Lib.hid hfin
  have Hroom := Lib.hid hroom
  clear b5 HV4 HB4 hroom hfin
  go_wp2_with (at_builtin; refine wpList_append_Bs rfl _ _ 51 rfl w.heap.size 5 i0 Tryd.underlying51 hi hz0 hz1 hz2 _ _ rfl HV5.out (.slice (some ⟨w4.heap.size, 0, none⟩) 1 1) _ rfl H2.out (fun c e => nomatch e) Hroom.out hz5 ?_; intro v6 w6 hv6 hg6; have HV6 := Lib.hid (bs_eq Hfin.out hv6); have HB6 := Lib.hid (HB5.out.trans (Bs.below HV5.out hg6 hz5)); clear hv6 hg6 HV5 HB5 hz5 Hfin Hroom; have kc := conv_holds (P := Tryd.prog) 51 5 9 Tryd.underlying51 Tryd.underlying5 Tryd.underlying9 HV6.out.holds)
  go_ret2
  exact ⟨rfl, HB6.out⟩

def Stub.right (s : Stub) : Bool := decide (1 ≤ s.op) && decide (s.op ≤ 72057594037927935) && decide (0 ≤ s.under) && decide (s.under ≤ s.view) && decide (s.view ≤ 72057594037927935)

set_option maxRecDepth 100000 in
set_option maxHeartbeats 1000000 in
theorem slotRight_any (s : Stub) (w : World) :
    Calls Tryd.prog 114 #[.agg (stubC s)] w fun x w' => x = .returned (.bool s.right) ∧ Below w.heap.size w w' := by
  unfold stubC
  go_enter Tryd.func114, Tryd.ntmps114
  go_wp2
  all_goals go_ret
  all_goals refine ⟨?_, (Below.refl _ _).alloc (Nat.le_refl _) _⟩
  all_goals simp_all [Stub.right]
  all_goals omega

def flat8 (l : List Int) : List UInt8 := (l.map fun n => Pl.putLE n.toNat 8).flatten
theorem flat8_len (l : List Int) : (flat8 l).length = 8 * l.length := flat8_length l
theorem flat8_snoc {l : List Int} {k : Nat} {x : Int} (hx : l[k]? = some x) : flat8 (l.take (k + 1)) = flat8 (l.take k) ++ Pl.putLE x.toNat 8 := flat8_succ hx

/-- A number of eight bytes. -/
def U64 (n : Int) : Prop := 0 ≤ n ∧ n < 18446744073709551616
theorem U64.pow {n : Int} (h : U64 n) : n.toNat < 256 ^ Int.toNat 8 := by
  obtain ⟨h0, h1⟩ := h
  have : (256 : Nat) ^ Int.toNat 8 = 18446744073709551616 := by decide
  rw [this]; omega

set_option maxRecDepth 100000 in
set_option maxHeartbeats 1000000 in
theorem eight_any (B : Nat) (v : Value) (l : List UInt8) (b o cap : Nat) (ns : List Int) (w : World) (hv : Bs B w v l) (hB : B ≤ w.heap.size) (hn : ns.length ≤ 100) (hl : l.length ≤ 900000)
    (hc : ∀ j x, ns[j]? = some x → w.cell? ⟨b, o + j, none⟩ = some (.int .u64 x)) (hu : ∀ x ∈ ns, U64 x) :
    Calls Tryd.prog 60 #[v, .slice (some ⟨b, o, none⟩) ns.length cap] w fun x w' => ∃ v', x = .returned v' ∧ Bs B w' v' (l ++ flat8 ns) ∧ Below w.heap.size w w' := by
  have HV := Lib.hid hv
  have HC := Lib.hid hc
  have HU := Lib.hid hu
  have HBz := Lib.hid hB
  clear hv hc hu hB
  go_enter Tryd.func60, Tryd.ntmps60
  go_wp2
  go_loopw [0, 9] (fun bv i wr => ∃ k : Nat, k ≤ ns.length ∧ i = .int .i64 k ∧ Below w.heap.size w wr ∧ Bs B wr bv (l ++ flat8 (ns.take k))) (fun _ i _ => ns.length - (intOf i).toNat)
  case atStart => exact ⟨0, by omega, rfl, Below.refl _ _, by simpa [flat8] using HV.out⟩
  case round =>
    obtain ⟨k, hk, rfl, hb, hbs⟩ := hrel
    have HB := Lib.hid hb
    have HBS := Lib.hid hbs
    clear hb hbs HV
    by_cases hlt : k < ns.length
    · obtain ⟨x, hx⟩ : ∃ x, ns[k]? = some x := ⟨ns[k], List.getElem?_eq_getElem hlt⟩
      have hcell : wr.cell? ⟨b, o + k, none⟩ = some (.int .u64 x) := by
        have := HC.out k x hx
        rw [HB.out.cell (World.block_lt_of_cell? _ _ this)]; exact this
      have HX := Lib.hid (HU.out x (List.mem_of_getElem? hx))
      have hls : (l ++ flat8 (ns.take k)).length ≤ 1000000 := by rw [List.length_append, flat8_len, List.length_take]; omega
      have Hx := Lib.hid hx
      clear hx
      go_wp2_with fail
      refine (put_any _ _ _ _ HX.out.1 (by omega) (by omega) HX.out.pow hls _ HBS.out.holds).mono ?_
      rintro e w8 ⟨v6, rfl, hv6, hb8⟩
      have e8 : Int.toNat 8 = 8 := rfl
      rw [e8, List.append_assoc, ← flat8_snoc Hx.out] at hv6
      have HV6 := Lib.hid (hv6.mono (B' := B) (Nat.le_trans HBz.out HB.out.size))
      have HB8 := Lib.hid (HB.out.trans (hb8.mono HB.out.size))
      clear hv6 hb8 HB HBS e8 hls
      go_wp2
      go_roundw
      case rel => exact ⟨k + 1, by omega, by go_num, HB8.out, HV6.out⟩
      case measure => simp [intOf]; omega
    · obtain rfl : k = ns.length := by omega
      have hfin : l ++ flat8 (ns.take ns.length) = l ++ flat8 ns := by rw [List.take_length]
      have Hfin := Lib.hid (bs_eq hfin HBS.out)
      clear hfin HBS
      go_wp2
      go_ret
      exact ⟨_, rfl, Hfin.out, HB.out⟩

def Stub.nums (s : Stub) : List Int := [s.op, s.view, s.under, s.parent, s.sum]

theorem stub_right {s : Stub} (h : s.right = true) : 1 ≤ s.op ∧ s.op ≤ 72057594037927935 ∧ 0 ≤ s.under ∧ s.under ≤ s.view ∧ s.view ≤ 72057594037927935 := by
  simp only [Stub.right, Bool.and_eq_true, decide_eq_true_eq] at h
  obtain ⟨⟨⟨⟨h1, h2⟩, h3⟩, h4⟩, h5⟩ := h
  exact ⟨h1, h2, h3, h4, h5⟩

set_option maxRecDepth 100000 in
set_option maxHeartbeats 1000000 in
theorem slotHeader_no (s : Stub) (hr : s.right = false) (w : World) :
    Calls Tryd.prog 103 #[.string (str []), .agg (stubC s)] w fun x w' => x = .returned (.tuple #[.string (str []), .int .i64 4]) ∧ Below w.heap.size w w' := by
  have Hr := Lib.hid hr
  clear hr
  unfold stubC
  go_enter Tryd.func103, Tryd.ntmps103
  go_wp2_with (go_at_call 114; refine (slotRight_any s _).mono ?_; rintro x w1 ⟨rfl, hb1⟩; rw [Hr.out])
  go_ret2
  exact ⟨rfl, below_box hb1 (by simp)⟩

set_option maxRecDepth 100000 in
set_option maxHeartbeats 1000000 in
theorem slotHeader_ok (s : Stub) (hr : s.right = true) (hp : U64 s.parent) (hm : U64 s.sum) (w : World) :
    Calls Tryd.prog 103 #[.string (str []), .agg (stubC s)] w fun x w' => x = .returned (.tuple #[.string (str (sealB 1 (flat8 s.nums))), .int .i64 0]) ∧ Below w.heap.size w w' := by
  obtain ⟨r1, r2, r3, r4, r5⟩ := stub_right hr
  have r6 : 0 ≤ s.op := by omega
  have r7 : 0 ≤ s.view := by omega
  have hu : ∀ x ∈ s.nums, U64 x := by
    intro x hx
    simp only [Stub.nums, List.mem_cons, List.not_mem_nil, or_false] at hx
    rcases hx with rfl | rfl | rfl | rfl | rfl
    · exact ⟨by omega, by omega⟩
    · exact ⟨by omega, by omega⟩
    · exact ⟨by omega, by omega⟩
    · exact hp
    · exact hm
  have HU := Lib.hid hu
  have Hr := Lib.hid hr
  have HP := Lib.hid hp
  have HM := Lib.hid hm
  clear hr hp hm hu
  unfold stubC
  go_enter Tryd.func103, Tryd.ntmps103
  go_wp2_with (go_at_call 114; refine (slotRight_any s _).mono ?_; rintro x w1 ⟨rfl, hb1⟩; rw [Hr.out]; have c0 : w1.cell? ⟨w.heap.size, 0, none⟩ = some (.int .i64 s.op) := (by rw [hb1.cell (by simp)]; simp); have c1 : w1.cell? ⟨w.heap.size, 1, none⟩ = some (.int .i64 s.view) := (by rw [hb1.cell (by simp)]; simp); have c2 : w1.cell? ⟨w.heap.size, 2, none⟩ = some (.int .i64 s.under) := (by rw [hb1.cell (by simp)]; simp); have c3 : w1.cell? ⟨w.heap.size, 3, none⟩ = some (.int .u64 s.parent) := (by rw [hb1.cell (by simp)]; simp); have c4 : w1.cell? ⟨w.heap.size, 4, none⟩ = some (.int .u64 s.sum) := (by rw [hb1.cell (by simp)]; simp); have HB1 := Lib.hid (below_box hb1 (by simp)); clear hb1)
  clear c0 c1 c2 c3 c4
  go_loopw [6, 27] (fun bv i wr => ∃ k : Nat, k ≤ 5 ∧ i = .int .i64 k ∧ Below (w1.heap.size + 1) (w1.alloc (.cells #[.int .u64 s.op, .int .u64 s.view, .int .u64 s.under, .int .u64 s.parent, .int .u64 s.sum] 22)) wr ∧ Bs (w1.heap.size + 1) wr bv (flat8 (s.nums.take k))) (fun _ i _ => 5 - (intOf i).toNat)
  case atStart => exact ⟨0, by omega, rfl, Below.refl _ _, Bs.nil _ _⟩
  case round =>
    obtain ⟨k, hk, rfl, hb, hbs⟩ := hrel
    have HB := Lib.hid hb
    have HBS := Lib.hid hbs
    clear hb hbs
    by_cases hlt : k < 5
    · obtain ⟨x, hx⟩ : ∃ x, s.nums[k]? = some x := ⟨s.nums[k]'(by simpa [Stub.nums] using hlt), List.getElem?_eq_getElem _⟩
      have hcell : wr.cell? ⟨w1.heap.size, k, none⟩ = some (.int .u64 x) := by
        rw [HB.out.cell (by simp)]
        match k, hx with
        | 0, hx => simp [Stub.nums] at hx; subst hx; simp
        | 1, hx => simp [Stub.nums] at hx; subst hx; simp
        | 2, hx => simp [Stub.nums] at hx; subst hx; simp
        | 3, hx => simp [Stub.nums] at hx; subst hx; simp
        | 4, hx => simp [Stub.nums] at hx; subst hx; simp
      have HX := Lib.hid (HU.out x (List.mem_of_getElem? hx))
      have hls : (flat8 (s.nums.take k)).length ≤ 1000000 := by rw [flat8_len, List.length_take]; omega
      have Hx := Lib.hid hx
      clear hx
      go_wp2_with fail
      refine (put_any _ _ _ _ HX.out.1 (by omega) (by omega) HX.out.pow hls _ HBS.out.holds).mono ?_
      rintro e w8 ⟨v6, rfl, hv6, hb8⟩
      have e8 : Int.toNat 8 = 8 := rfl
      rw [e8, ← flat8_snoc Hx.out] at hv6
      have hz8 := HB.out.size
      simp only [World.size_alloc] at hz8
      have HV6 := Lib.hid (hv6.mono (B' := w1.heap.size + 1) hz8)
      have HB8 := Lib.hid (HB.out.trans (hb8.mono hz8))
      clear hv6 hb8 HB HBS e8 hls hz8
      go_wp2
      go_roundw
      case rel => exact ⟨k + 1, by omega, by go_num, HB8.out, HV6.out⟩
      case measure => simp [intOf]; omega
    · obtain rfl : k = 5 := by omega
      have hfin : flat8 (s.nums.take 5) = flat8 s.nums := rfl
      have Hfin := Lib.hid (bs_eq hfin HBS.out)
      have hsz : (str (flat8 s.nums)).size ≤ 376 := by rw [str_size, flat8_len]; simp [Stub.nums]
      have hb2 := (below_box HB.out (by omega)).mono HB1.out.size
      have HB2 := Lib.hid (HB1.out.trans hb2)
      have kc := conv_holds (P := Tryd.prog) 51 5 9 Tryd.underlying51 Tryd.underlying5 Tryd.underlying9 Hfin.out.holds
      clear hfin HBS hb2
      go_wp2_with (go_at_call 115; refine (seal_empty _ hsz _).mono ?_; rintro x w3 ⟨rfl, hb3⟩)
      go_ret2
      exact ⟨rfl, HB2.out.trans (hb3.mono HB2.out.size)⟩

end Go.Proofs.YtmidfknlmjgjpaaDoor
