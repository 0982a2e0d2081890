/- The walks of slot.right, slot.Header; msg.eight, msg.may, msg.fields. -/
import Derived.Test.YtmidfknlmjgjpaaDoorSeal
namespace Go.Proofs.YtmidfknlmjgjpaaDoor
open Go.RowKit

def Stub.right (s : Stub) : Bool := decide (1 ≤ s.op) && decide (s.op ≤ 72057594037927935) && decide (0 ≤ s.under) && decide (s.under ≤ s.view) && decide (s.view ≤ 72057594037927935)

set_option maxRecDepth 100000 in
set_option maxHeartbeats 1000000 in
theorem slotRight_any (s : Stub) (w : World) :
    Calls Tryd.prog 114 #[.agg (stubC s)] w fun x w' => x = .returned (.bool s.right) ∧ Below w.heap.size w w' := by
  unfold stubC
  go_enter Tryd.func114, Tryd.ntmps114
  go_wp2
  all_goals go_ret
  all_goals refine ⟨?_, (Below.refl _ _).alloc (Nat.le_refl _) _⟩
  all_goals simp_all [Stub.right]
  all_goals omega

def flat8 (l : List Int) : List UInt8 := (l.map fun n => Pl.putLE n.toNat 8).flatten
theorem flat8_len (l : List Int) : (flat8 l).length = 8 * l.length := flat8_length l
theorem flat8_snoc {l : List Int} {k : Nat} {x : Int} (hx : l[k]? = some x) : flat8 (l.take (k + 1)) = flat8 (l.take k) ++ Pl.putLE x.toNat 8 := flat8_succ hx

/-- A number of eight bytes. -/
def U64 (n : Int) : Prop := 0 ≤ n ∧ n < 18446744073709551616
theorem U64.pow {n : Int} (h : U64 n) : n.toNat < 256 ^ Int.toNat 8 := by
  obtain ⟨h0, h1⟩ := h
  have : (256 : Nat) ^ Int.toNat 8 = 18446744073709551616 := by decide
  rw [this]; omega

set_option maxRecDepth 100000 in
set_option maxHeartbeats 1000000 in
theorem eight_any (B : Nat) (v : Value) (l : List UInt8) (b o cap : Nat) (ns : List Int) (w : World) (hv : Bs B w v l) (hB : B ≤ w.heap.size) (hn : ns.length ≤ 100) (hl : l.length ≤ 900000)
    (hc : ∀ j x, ns[j]? = some x → w.cell? ⟨b, o + j, none⟩ = some (.int .u64 x)) (hu : ∀ x ∈ ns, U64 x) :
    Calls Tryd.prog 60 #[v, .slice (some ⟨b, o, none⟩) ns.length cap] w fun x w' => ∃ v', x = .returned v' ∧ Bs B w' v' (l ++ flat8 ns) ∧ Below w.heap.size w w' := by
  have HV := Lib.hid hv
  have HC := Lib.hid hc
  have HU := Lib.hid hu
  have HBz := Lib.hid hB
  clear hv hc hu hB
  go_enter Tryd.func60, Tryd.ntmps60
  go_wp2
  go_loopw [0, 9] (fun bv i wr => ∃ k : Nat, k ≤ ns.length ∧ i = .int .i64 k ∧ Below w.heap.size w wr ∧ Bs B wr bv (l ++ flat8 (ns.take k))) (fun _ i _ => ns.length - (intOf i).toNat)
  case atStart => exact ⟨0, by omega, rfl, Below.refl _ _, by simpa [flat8] using HV.out⟩
  case round =>
    obtain ⟨k, hk, rfl, hb, hbs⟩ := hrel
    have HB := Lib.hid hb
    have HBS := Lib.hid hbs
    clear hb hbs HV
    by_cases hlt : k < ns.length
    · obtain ⟨x, hx⟩ : ∃ x, ns[k]? = some x := ⟨ns[k], List.getElem?_eq_getElem hlt⟩
      have hcell : wr.cell? ⟨b, o + k, none⟩ = some (.int .u64 x) := by
        have := HC.out k x hx
        rw [HB.out.cell (World.block_lt_of_cell? _ _ this)]; exact this
      have HX := Lib.hid (HU.out x (List.mem_of_getElem? hx))
      have hls : (l ++ flat8 (ns.take k)).length ≤ 1000000 := by rw [List.length_append, flat8_len, List.length_take]; omega
      have Hx := Lib.hid hx
      clear hx
      go_wp2_with fail
      refine (put_any _ _ _ _ HX.out.1 (by omega) (by omega) HX.out.pow hls _ HBS.out.holds).mono ?_
      rintro e w8 ⟨v6, rfl, hv6, hb8⟩
      have e8 : Int.toNat 8 = 8 := rfl
      rw [e8, List.append_assoc, ← flat8_snoc Hx.out] at hv6
      have HV6 := Lib.hid (hv6.mono (B' := B) (Nat.le_trans HBz.out HB.out.size))
      have HB8 := Lib.hid (HB.out.trans (hb8.mono HB.out.size))
      clear hv6 hb8 HB HBS e8 hls
      go_wp2
      go_roundw
      case rel => exact ⟨k + 1, by omega, by go_num, HB8.out, HV6.out⟩
      case measure => simp [intOf]; omega
    · obtain rfl : k = ns.length := by omega
      have hfin : l ++ flat8 (ns.take ns.length) = l ++ flat8 ns := by rw [List.take_length]
      have Hfin := Lib.hid (bs_eq hfin HBS.out)
      clear hfin HBS
      go_wp2
      go_ret
      exact ⟨_, rfl, Hfin.out, HB.out⟩

end Go.Proofs.YtmidfknlmjgjpaaDoor
