/- A client that waits; the walk of comptorlaw22.awake. -/
import Derived.Test.YtmidfknlmjgjpaaDoorCl5
namespace Go.Proofs.YtmidfknlmjgjpaaDoor
open Go.RowKit

/-- A client that has registered and waits, its letters taken; k ticks have gone by. -/
def waitCl (id count : Int) (body : ByteArray) (k : Nat) : Cl := { askDone (newCl id count) 1 body with out := [], waited := ((k % 4 : Nat) : Int) }
/-- Its letters to all. -/
def allLetters (id count : Int) (body : ByteArray) : List Letter := lettersTo (waitCl id count body 0) count.toNat

theorem ask_wait (id count : Int) (body : ByteArray) : { askDone (newCl id count) 1 body with out := [] } = waitCl id count body 0 := rfl

theorem tick_wait (id count : Int) (body : ByteArray) (k : Nat) : tickCl (waitCl id count body k) = { waitCl id count body (k + 1) with out := if (k + 1) % 4 = 0 then allLetters id count body else [] } := by
  have hn : (waitCl id count body k).way.isNone = false := rfl
  unfold tickCl
  rw [hn]
  by_cases h : (k + 1) % 4 = 0
  · have h4 : ¬ ((waitCl id count body k).waited + 1 < 4) := by show ¬ (((k % 4 : Nat) : Int) + 1 < 4); omega
    have hz : (((k + 1) % 4 : Nat) : Int) = 0 := by omega
    rw [if_neg (by simp), if_neg h4, if_pos h]
    simp only [waitCl, hz, List.nil_append]
    rfl
  · have h4 : (waitCl id count body k).waited + 1 < 4 := by show ((k % 4 : Nat) : Int) + 1 < 4; omega
    have hz : (((k + 1) % 4 : Nat) : Int) = ((k % 4 : Nat) : Int) + 1 := by omega
    rw [if_neg (by simp), if_pos h4, if_neg h]
    simp only [waitCl, hz]

theorem new_ok_cl {id count : Int} (h : newOk id count = true) : (newCl id count).ok := by
  simp only [newOk, Bool.and_eq_true, decide_eq_true_eq, Bool.or_eq_true, beq_iff_eq] at h
  exact ⟨h.1, h.2, ⟨by show (0 : Int) ≤ 0; omega, by show (0 : Int) ≤ _; omega⟩, ⟨by show (0 : Int) ≤ 0; omega, by show (0 : Int) ≤ _; omega⟩, ⟨by show (0 : Int) ≤ 0; omega, by show (0 : Int) ≤ _; omega⟩, ⟨by show (0 : Int) ≤ 0; omega, by show (0 : Int) ≤ _; omega⟩⟩
theorem wait_ok {id count : Int} (h : newOk id count = true) (body : ByteArray) (k : Nat) (l : List Letter) : ({ waitCl id count body k with out := l } : Cl).ok := by
  have h1 := new_ok_cl h
  exact ⟨h1.id, h1.count, h1.session, h1.last, h1.view, ⟨by show (0 : Int) ≤ ((k % 4 : Nat) : Int); omega, by show ((k % 4 : Nat) : Int) ≤ 3; omega⟩⟩

theorem lettersC_get {l : List Letter} {k : Nat} {x : Letter} (h : l[k]? = some x) : (lettersC l)[k * 3]? = some (.int .i64 x.src) ∧ (lettersC l)[k * 3 + 1]? = some (.int .i64 x.dst) ∧ (lettersC l)[k * 3 + 2]? = some (.string x.data) := by
  induction l generalizing k with
  | nil => simp at h
  | cons y l ih =>
    have e : lettersC (y :: l) = letC y ++ lettersC l := by simp [lettersC]
    rw [e]
    cases k with
    | zero =>
      have : y = x := by simpa using h
      subst this
      exact ⟨rfl, rfl, rfl⟩
    | succ k =>
      have h2 := ih (by simpa using h)
      have hl : (letC y).length = 3 := rfl
      refine ⟨?_, ?_, ?_⟩
      · rw [List.getElem?_append_right (by omega), hl, show (k + 1) * 3 - 3 = k * 3 by omega]; exact h2.1
      · rw [List.getElem?_append_right (by omega), hl, show (k + 1) * 3 + 1 - 3 = k * 3 + 1 by omega]; exact h2.2.1
      · rw [List.getElem?_append_right (by omega), hl, show (k + 1) * 3 + 2 - 3 = k * 3 + 2 by omega]; exact h2.2.2

/-- A letter in a slice that is owned. -/
theorem Own.letter {B : Nat} {w : World} {v : Value} {l : List Letter} (h : Own B w 3 v l.length (lettersC l)) {k : Nat} {x : Letter} (hk : l[k]? = some x) :
    ∃ g cap, v = .slice (some ⟨g, 0, none⟩) l.length cap ∧ w.cell? ⟨g, 0 + k * 3, none⟩ = some (.int .i64 x.src) ∧ w.cell? ⟨g, 0 + k * 3 + 1, none⟩ = some (.int .i64 x.dst) ∧ w.cell? ⟨g, 0 + k * 3 + 2, none⟩ = some (.string x.data) := by
  have hlt : k < l.length := (List.getElem?_eq_some_iff.1 hk).1
  obtain ⟨_, ⟨_, h0⟩ | ⟨g, cap, rfl, _, _, _, _, hc, _⟩⟩ := h
  · omega
  · obtain ⟨a, b, c⟩ := lettersC_get hk
    rw [Nat.zero_add]
    exact ⟨g, cap, rfl, hc _ _ a, hc _ _ b, hc _ _ c⟩

/-- What the caller holds stays, if it is none of the client's. -/
theorem Own.off {B : Nat} {w w' : World} {size : Nat} {v : Value} {n : Nat} {xs : List Value} {O : Nat → Prop} (h : Own B w size v n xs) (ho : Off O w w') (hn : ∀ k, v.ownBlock = some k → ¬ O k) : Own B w' size v n xs :=
  h.same ho.size fun k hk hlt => ho.block k hlt (hn k hk)
theorem none_later {O O' : Nat → Prop} {w : World} {v : Value} (hs : Sub O O' w) (hn : ∀ k, v.ownBlock = some k → ¬ O k) (hl : ∀ k, v.ownBlock = some k → k < w.heap.size) : ∀ k, v.ownBlock = some k → ¬ O' k := fun k hk ho => by
  rcases hs k ho with h | h
  · exact hn k hk h
  · have := hl k hk; omega

/-- The state of the example's loop. -/
def ALoop (B b : Nat) (w0 wr : World) (av : Value) (x : Letter) (k : Nat) : Prop :=
  ∃ O, COn B b wr { waitCl 11 3 (str []) k with out := if k = 4 then allLetters 11 3 (str []) else [] } O ∧ Own B wr 3 av 1 (lettersC [x]) ∧ (∀ j, av.ownBlock = some j → ¬ O j) ∧ Below B w0 wr

theorem aloop_next {B b : Nat} {w : World} {O : Nat → Prop} {k : Nat} (hk : k < 4) (h : COn B b w (tickCl (waitCl 11 3 (str []) k)) O) : COn B b w { waitCl 11 3 (str []) (k + 1) with out := if k + 1 = 4 then allLetters 11 3 (str []) else [] } O := by
  rw [tick_wait] at h
  by_cases h3 : k = 3
  · subst h3; exact h
  · rw [if_neg (by omega)] at h
    rw [if_neg (by omega)]
    exact h

set_option maxRecDepth 100000 in
set_option maxHeartbeats 4000000 in
theorem awake22_any (w : World) (ha : AllAt w) : Calls Tryd.prog 14 #[] w fun e w' => e = .returned (.bool true) ∧ Below w.heap.size w w' := by
  have hnw : newOk 11 3 = true := rfl
  have hc1 := newCl_at 11 3 w
  have hb1 : Below w.heap.size w (w.alloc (.cells (clC (newCl 11 3) (.pointer none) (.slice none 0 0) (.slice none 0 0)) 81)) := (Below.refl _ _).alloc (Nat.le_refl _) _
  have HC1 := Lib.hid hc1
  have HA1 := Lib.hid (ha.later hb1)
  have HB1 := Lib.hid hb1
  have HNw := Lib.hid hnw
  clear hc1 hb1 ha hnw
  go_enter Tryd.func14, Tryd.ntmps14
  go_wp2_with (first | (go_at_call 15; refine (new_ok 11 3 HNw.out _).mono ?_; rintro x w1 ⟨rfl, rfl⟩) | (go_at_call 16; refine (ask_one _ _ _ _ _ _ _ HC1.out (str []) (Nat.zero_le _) HA1.out (new_ok_cl HNw.out) (Nat.zero_le _) rfl rfl).mono ?_; rintro x w2 ⟨rfl, O2, ⟨wp2, ov2, tv2, h2⟩, hs2, ho2⟩; have HC2 := Lib.hid h2; have HB2 := Lib.hid (HB1.out.trans (ho2.below (B := w.heap.size) (fun k hk => by rw [hk]; exact Nat.le_refl _) (by simp))); clear h2 hs2 ho2) | (go_at_call 17; refine (letters_ok _ _ _ _ _ _ _ _ HC2.out).mono ?_; rintro x w3 ⟨rfl, O3, h3, hs3, ho3, hw3, hn3⟩; have HL : Hid (ALoop w.heap.size w.heap.size w w3 ov2 ⟨11, 1, (askMsg (newCl 11 3) 1 (str []) 0).enc.1⟩ 0) := ⟨O3, ⟨_, _, _, h3⟩, hw3, hn3, HB2.out.trans (ho3.below (fun k hk => (HC2.out.all k hk).1) HC2.out.base)⟩; clear h3 hs3 ho3 hw3 hn3))
  clear HC2
  go_loopw [4] (fun i wr => ∃ k : Nat, k ≤ 4 ∧ i = .int .i64 k ∧ ALoop w.heap.size w.heap.size w wr ov2 ⟨11, 1, (askMsg (newCl 11 3) 1 (str []) 0).enc.1⟩ k) (fun i _ => 4 - (intOf i).toNat)
  case atStart => exact ⟨0, by omega, rfl, HL.out⟩
  case round =>
    obtain ⟨k, hk, rfl, O, hC, hw, hn, hb⟩ := hrel
    have HCk := Lib.hid hC
    have HW := Lib.hid hw
    have HNn := Lib.hid hn
    have HBb := Lib.hid hb
    clear hC hw hn hb
    by_cases hlt : k < 4
    · have HCw : Hid (COn w.heap.size w.heap.size wr (waitCl 11 3 (str []) k) O) := by have := HCk.out; rw [if_neg (by omega)] at this; exact this
      have HBl : Hid (∀ j, O j → w.heap.size ≤ j ∧ j < wr.heap.size) := by obtain ⟨_, _, _, h⟩ := HCk.out; exact h.all
      have HBz : Hid (w.heap.size ≤ wr.heap.size) := HBb.out.size
      go_wp2_with (go_at_call 18; refine (tick_ok _ _ _ _ _ HCw.out (wait_ok HNw.out _ k []) (Nat.zero_le _)).mono ?_; rintro x w4 ⟨rfl, O4, h4, hs4, ho4⟩; have HL4 : Hid (ALoop w.heap.size w.heap.size w w4 ov2 ⟨11, 1, (askMsg (newCl 11 3) 1 (str []) 0).enc.1⟩ (k + 1)) := ⟨O4, aloop_next hlt h4, HW.out.off ho4 HNn.out, none_later hs4 HNn.out (fun j hj => (HW.out.lt j hj).2), HBb.out.trans (ho4.below (fun j hj => (HBl.out j hj).1) HBz.out)⟩; clear h4 hs4 ho4)
      go_roundw
      case rel => exact ⟨k + 1, by omega, by go_num, HL4.out⟩
      case measure => simp [intOf]; omega
    · obtain rfl : k = 4 := by omega
      obtain ⟨g, cap, rfl, c0, c1, c2⟩ := HW.out.letter (l := [⟨11, 1, (askMsg (newCl 11 3) 1 (str []) 0).enc.1⟩]) (k := 0) rfl
      have hC4 : COn w.heap.size w.heap.size wr { waitCl 11 3 (str []) 4 with out := allLetters 11 3 (str []) } O := HCk.out
      obtain ⟨wp4, ov4, tv4, h4⟩ := hC4
      obtain ⟨p4, cap4, rfl, _, _⟩ := h4.out.shape
      have e3 : (allLetters 11 3 (str [])).length = 3 := rfl
      have HC4 := Lib.hid h4
      have HAll : Hid (∀ j, O j → w.heap.size ≤ j) := fun j hj => (h4.all j hj).1
      clear h4 c2
      go_wp2_with (go_at_call 17; refine (letters_ok _ _ _ _ _ _ _ _ HC4.out).mono ?_; rintro x w5 ⟨rfl, O5, h5, hs5, ho5, hw5, hn5⟩; have HB5 := Lib.hid (HBb.out.trans (ho5.below HAll.out HBb.out.size)); clear h5 hs5 ho5 hw5 hn5)
      go_ret
      exact ⟨rfl, HB5.out⟩

end Go.Proofs.YtmidfknlmjgjpaaDoor
