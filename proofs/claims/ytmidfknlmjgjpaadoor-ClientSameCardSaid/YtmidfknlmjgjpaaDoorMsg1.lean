/- The walks of package msg: may, fields, number, hasRune. -/
import Derived.Test.YtmidfknlmjgjpaaDoorSlot2
import Derived.Test.YtmidfknlmjgjpaaDoorIter
namespace Go.Proofs.YtmidfknlmjgjpaaDoor
open Go.RowKit

/-- The fields of all kinds. -/
def allL : List (List UInt8) := [[119, 115, 114, 112, 66], [118, 99, 69], [118, 111], [118, 111, 119, 115, 114, 66], [118, 99], [118], [118, 108, 99, 67, 73], [118, 99, 67, 76], [118], [111], [69], [], [67, 122, 83], [67, 105], [67, 105, 66], [118, 111, 119, 115, 114]]
def fieldsOf (kind : Int) : List UInt8 := if 1 ≤ kind ∧ kind ≤ 16 then allL.getD (kind.toNat - 1) [] else []
/-- The table lies as the text lays it. -/
def AllAt (w : World) : Prop := ∀ i l, allL[i]? = some l → w.cell? ⟨0, i, none⟩ = some (.string (str l))

theorem AllAt.later {w w' : World} (h : AllAt w) (hb : Below w.heap.size w w') : AllAt w' := by
  intro i l hl
  have := h i l hl
  rw [hb.cell (World.block_lt_of_cell? _ _ this)]; exact this
theorem AllAt.laterB {w w' : World} {B : Nat} (h : AllAt w) (hb : Below B w w') (hB : 0 < B) : AllAt w' := by
  intro i l hl
  have := h i l hl
  rw [hb.cell hB]; exact this
theorem AllAt.pos {w : World} (h : AllAt w) : 0 < w.heap.size := World.block_lt_of_cell? _ _ (h 0 _ rfl)

set_option maxHeartbeats 400000 in
theorem may_any (n : Int) (w : World) :
    Calls Tryd.prog 42 #[.int .i64 n] w fun e w' => e = .returned (.bool (fitB n)) ∧ w' = w := by
  go_enter Tryd.func42, Tryd.ntmps42
  go_wp2
  all_goals go_ret
  all_goals refine ⟨?_, rfl⟩
  all_goals simp_all [fitB]
  all_goals omega

set_option maxHeartbeats 400000 in
theorem fields_yes (k : Int) (h1 : 1 ≤ k) (h2 : k ≤ 16) (w : World) (ha : AllAt w) :
    Calls Tryd.prog 31 #[.int .i64 k] w fun e w' => e = .returned (.tuple #[.string (str (fieldsOf k)), .bool true]) ∧ w' = w := by
  have hlt : k.toNat - 1 < allL.length := by simp [allL]; omega
  have hl : allL[k.toNat - 1]? = some (fieldsOf k) := by
    rw [List.getElem?_eq_getElem hlt, fieldsOf, if_pos ⟨h1, h2⟩, List.getD_eq_getElem?_getD, List.getElem?_eq_getElem hlt]; rfl
  have hc : w.cell? ⟨0, k.toNat - 1, none⟩ = some (.string (str (fieldsOf k))) := ha _ _ hl
  clear hl hlt ha
  go_enter Tryd.func31, Tryd.ntmps31
  go_wp2
  go_ret2
  exact ⟨rfl, rfl⟩

set_option maxHeartbeats 400000 in
theorem fields_no (k : Int) (h : k < 1 ∨ 16 < k) (w : World) :
    Calls Tryd.prog 31 #[.int .i64 k] w fun e w' => e = .returned (.tuple #[.string (str []), .bool false]) ∧ w' = w := by
  rcases (show k < 1 ∨ (1 ≤ k ∧ 16 < k) by omega) with h | ⟨h0, h⟩
  all_goals
    go_enter Tryd.func31, Tryd.ntmps31
    go_wp2
    go_ret2
    exact ⟨rfl, rfl⟩

def numOff (f : Int) : Option Nat :=
  if f = 118 then some 2 else if f = 108 then some 3 else if f = 111 then some 4 else if f = 99 then some 5 else if f = 119 then some 6 else if f = 115 then some 7
  else if f = 114 then some 8 else if f = 112 then some 9 else if f = 105 then some 10 else if f = 122 then some 11 else none

set_option maxHeartbeats 400000 in
theorem number_any (b : Nat) (f : Int) (w : World) :
    Calls Tryd.prog 45 #[.pointer (some ⟨b, 0, none⟩), .int .i32 f] w fun e w' => e = .returned (.pointer ((numOff f).map fun o => ⟨b, o, none⟩)) ∧ w' = w := by
  go_enter Tryd.func45, Tryd.ntmps45
  go_wp2
  all_goals go_ret
  all_goals refine ⟨?_, rfl⟩
  all_goals simp_all [numOff]

set_option maxRecDepth 100000 in
set_option maxHeartbeats 400000 in
theorem hasRune_any (l : List UInt8) (r : UInt8) (hs : ∀ c ∈ l, c.toNat < 128) (w : World) :
    Calls Tryd.prog 32 #[.string (str l), .int .i32 r.toNat] w fun e w' => e = .returned (.bool (l.contains r)) ∧ Below w.heap.size w w' := by
  have Hs := Lib.hid hs
  clear hs
  go_enter Tryd.func32, Tryd.ntmps32
  go_wp2
  go_loopw [] (fun wr => ∃ k : Nat, k ≤ l.length ∧ Below w.heap.size w wr ∧ wr.heap[w.heap.size]? = some (.stringIter (str l) k) ∧ (l.take k).contains r = false) (fun wr => l.length - wr.iterPos w.heap.size)
  case atStart => exact ⟨0, by omega, (Below.refl _ _).alloc (Nat.le_refl _) _, World.iter_heap _ _ _, rfl⟩
  case round =>
    obtain ⟨k, hk, hb, hit, hno⟩ := hrel
    have HB := Lib.hid hb
    have HI := Lib.hid hit
    have Hno := Lib.hid hno
    clear hb hit hno
    by_cases hlt : k < l.length
    · obtain ⟨c, hc⟩ : ∃ c, l[k]? = some c := ⟨l[k], List.getElem?_eq_getElem hlt⟩
      have hn := fun ty => run_next_at (P := Tryd.prog) ty HI.out hc (Hs.out c (List.mem_of_getElem? hc))
      have HN := Lib.hid (setIter_at (str l) (k + 1) HI.out)
      have HBn := Lib.hid (HB.out.trans (setIter_below wr w.heap.size (str l) (k + 1) (Nat.le_refl _)))
      have htk : (l.take (k + 1)).contains r = ((l.take k).contains r || c == r) := by
        rw [List.take_add_one, hc]; simp [Bool.beq_comm]
        congr 1
      have Htk := Lib.hid htk
      have Hc := Lib.hid hc
      clear hc htk
      by_cases hcr : c = r
      · have hcr' : (((c.toNat : Nat) : Int) == ((r.toNat : Nat) : Int)) = true := by rw [hcr]; simp
        have HR : Hid (l.contains r = true) := by
          have : c ∈ l := List.mem_of_getElem? Hc.out
          rw [hcr] at this
          show l.contains r = true
          simpa using this
        clear hcr
        go_wp2
        go_ret
        exact ⟨by rw [HR.out]; rfl, HBn.out⟩
      · have hcr' : (((c.toNat : Nat) : Int) == ((r.toNat : Nat) : Int)) = false := by
          rw [beq_eq_false_iff_ne]
          intro e
          exact hcr (UInt8.toNat_inj.1 (by omega))
        have Hcr := Lib.hid hcr
        clear hcr
        go_wp2
        go_roundw
        case rel => exact ⟨k + 1, by omega, HBn.out, HN.out, by rw [Htk.out, Hno.out]; simpa using Hcr.out⟩
        case measure => simp only [World.iterPos, HN.out, HI.out]; omega
    · obtain rfl : k = l.length := by omega
      have hn := fun ty => run_next_done (P := Tryd.prog) ty HI.out (Nat.le_refl _)
      have HR : Hid (l.contains r = false) := by
        have := Hno.out
        rw [List.take_length] at this
        exact this
      go_wp2
      go_ret
      exact ⟨by rw [HR.out]; rfl, HB.out⟩

end Go.Proofs.YtmidfknlmjgjpaaDoor
