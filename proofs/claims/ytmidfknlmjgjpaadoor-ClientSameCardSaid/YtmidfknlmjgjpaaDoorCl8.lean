/- The walk of comptorlaw22.ClientSame. -/
import Derived.Test.YtmidfknlmjgjpaaDoorCl7
import Derived.Deep.QuietTactic
import Derived.BigQuiet
namespace Go.Proofs.YtmidfknlmjgjpaaDoor
open Go.RowKit

def firstL (id count : Int) (body : ByteArray) : Letter := ⟨id, 0 % count + 1, (askMsg (newCl id count) 1 body 0).enc.1⟩
/-- The state of the loop over the ticks. -/
def WLoop (w1 wr : World) (av : Value) (id count : Int) (body : ByteArray) (k : Nat) : Prop :=
  ∃ O, COn w1.heap.size w1.heap.size wr (waitCl id count body k) O ∧ Own w1.heap.size wr 3 av 1 (lettersC [firstL id count body]) ∧ (∀ j, av.ownBlock = some j → ¬ O j) ∧ Below w1.heap.size w1 wr

theorem WLoop.later {w1 wr wj : World} {av : Value} {id count : Int} {body : ByteArray} {k : Nat} (h : WLoop w1 wr av id count body k) (hb : Below wr.heap.size wr wj) : WLoop w1 wj av id count body k := by
  obtain ⟨O, ⟨wp, ov, tv, h1⟩, h2, h3, h4⟩ := h
  exact ⟨O, ⟨wp, ov, tv, h1.later hb⟩, h2.later hb, h3, h4.trans (hb.mono h4.size)⟩
theorem Own.letterN {B : Nat} {w : World} {v : Value} {l : List Letter} {n : Nat} (h : Own B w 3 v n (lettersC l)) (hl : l.length = n) {k : Nat} {x : Letter} (hk : l[k]? = some x) :
    ∃ g cap, v = .slice (some ⟨g, 0, none⟩) n cap ∧ w.cell? ⟨g, 0 + k * 3, none⟩ = some (.int .i64 x.src) ∧ w.cell? ⟨g, 0 + k * 3 + 1, none⟩ = some (.int .i64 x.dst) ∧ w.cell? ⟨g, 0 + k * 3 + 2, none⟩ = some (.string x.data) := by
  subst hl; exact h.letter hk

theorem allLetters_get {id : Int} {n : Nat} {body : ByteArray} {k : Nat} (h : k < n) : (allLetters id n body)[k]? = some ⟨id, (k : Int) + 1, (askMsg (newCl id n) 1 body 0).enc.1⟩ := by
  unfold allLetters lettersTo
  rw [List.getElem?_map, List.getElem?_range (by simpa using h)]
  rfl
theorem allLetters_length (id : Int) (n : Nat) (body : ByteArray) : (allLetters id n body).length = n := by
  unfold allLetters; rw [lettersTo_length]; simp

theorem ticks_nat (t : Int) : ∃ k : Nat, k < 60 ∧ wrap64 ((IntKind.u64.wrap t).tmod 60) = k := by
  have h := wrap_u64_nonneg t
  obtain ⟨a, ha⟩ := Int.eq_ofNat_of_zero_le h
  refine ⟨a % 60, Nat.mod_lt _ (by omega), ?_⟩
  rw [ha]
  have : (a : Int).tmod 60 = ((a % 60 : Nat) : Int) := by rw [Int.tmod_eq_emod_of_nonneg (by omega)]; omega
  rw [this]
  unfold wrap64
  omega

set_option maxRecDepth 100000 in
set_option maxHeartbeats 8000000 in
theorem clientSame_any (id count : Int) (body : ByteArray) (ticks : Int) (w : World) (ha : AllAt w) (hb : body.size ≤ maxLen) (ht : -9223372036854775808 ≤ ticks ∧ ticks ≤ 9223372036854775807) :
    Calls Tryd.prog 4 #[.int .i64 id, .int .i64 count, .string body, .int .i64 ticks] w fun e w' => e = .returned (.bool true) ∧ Below w.heap.size w w' := by
  have HA0 := Lib.hid ha
  have hb : body.size ≤ 9223372036854775807 := hb
  obtain ⟨t1, t2⟩ := ht
  clear ha
  cases hn : newOk id count
  · have HNo := Lib.hid hn
    clear hn
    go_enter Tryd.func4, Tryd.ntmps4
    go_wp2_with (first | (go_at_call 14; refine (awake22_any _ HA0.out).mono ?_; rintro y w1 ⟨rfl, hb1⟩; have HB1 := Lib.hid hb1; clear hb1) | (go_at_call 15; refine (new_no _ _ HNo.out _).mono ?_; rintro x w2 ⟨rfl, rfl⟩))
    go_ret
    exact ⟨rfl, HB1.out⟩
  · have HNw := Lib.hid hn
    obtain ⟨n, rfl⟩ : ∃ n : Nat, count = n := by
      have := (new_ok_cl hn).count
      exact ⟨count.toNat, by have h : count = 3 ∨ count = 5 := this; omega⟩
    have hn5 : n ≤ 5 := by have h : (n : Int) = 3 ∨ (n : Int) = 5 := (new_ok_cl HNw.out).count; omega
    clear hn
    go_enter Tryd.func4, Tryd.ntmps4
    go_wp2_with (first | (go_at_call 14; refine (awake22_any _ HA0.out).mono ?_; rintro y w1 ⟨rfl, hb1⟩; have HB1 := Lib.hid hb1; have HA1 := Lib.hid ((HA0.out.later hb1).later ((Below.refl w1.heap.size w1).alloc (Nat.le_refl _) (.cells (clC (newCl id n) (.pointer none) (.slice none 0 0) (.slice none 0 0)) 81))); have HC1 := Lib.hid (newCl_at id n w1); clear hb1) | (go_at_call 15; refine (new_ok _ _ HNw.out _).mono ?_; rintro x w2 ⟨rfl, rfl⟩))
    have hbz : (body.extract 0 (min (body.size : Int) 200).toNat).size ≤ 200 := by rw [ByteArray.size_extract]; omega
    generalize body.extract 0 (min (body.size : Int) 200).toNat = bd at hbz ⊢
    have HBz := Lib.hid hbz
    clear hbz hb
    refine (ask_one _ _ _ _ _ _ _ HC1.out bd HBz.out HA1.out (new_ok_cl HNw.out) (Nat.zero_le _) rfl rfl).mono ?_
    rintro x w2 ⟨rfl, O2, ⟨wp2, ov2, tv2, h2⟩, hs2, ho2⟩
    have HC2 := Lib.hid h2
    have HB2 : Hid (Below w1.heap.size w1 w2) := ((Below.refl w1.heap.size w1).alloc (Nat.le_refl _) _).trans (ho2.below (B := w1.heap.size) (fun k hk => by rw [hk]; exact Nat.le_refl _) (by simp))
    clear h2 hs2 ho2
    go_wp2_with fail
    refine (letters_ok _ _ _ _ _ _ _ _ HC2.out).mono ?_
    rintro x w3 ⟨rfl, O3, h3, hs3, ho3, hw3, hn3⟩
    have HL : Hid (WLoop w1 w3 ov2 id n bd 0) := ⟨O3, ⟨_, _, _, h3⟩, hw3, hn3, HB2.out.trans (ho3.below (fun k hk => (HC2.out.all k hk).1) HC2.out.base)⟩
    obtain ⟨g, cap, rfl, _⟩ := hw3.letter (l := [firstL id n bd]) (k := 0) rfl
    clear h3 hs3 ho3 hw3 hn3 HC2 HB2
    go_wp2
    obtain ⟨T, hT, eT⟩ := ticks_nat ticks
    rw [eT]
    clear eT t1 t2
    go_loopw [12] (fun i wr => ∃ k : Nat, k ≤ T ∧ i = .int .i64 ((k : Int) + 1) ∧ WLoop w1 wr (.slice (some ⟨g, 0, none⟩) 1 cap) id n bd k) (fun i _ => T + 1 - (intOf i).toNat)
    case atStart => exact ⟨0, by omega, rfl, HL.out⟩
    case round =>
      obtain ⟨k, hk, rfl, hW⟩ := hrel
      have HW := Lib.hid hW
      clear hW HL
      by_cases hlt : k < T
      · obtain ⟨O, hC, ho, hno, hbl⟩ := HW.out
        have HC := Lib.hid hC
        have HOw := Lib.hid ho
        have HNo := Lib.hid hno
        have HBl := Lib.hid hbl
        have HAl : Hid (∀ j, O j → w1.heap.size ≤ j) := by obtain ⟨_, _, _, h⟩ := hC; exact fun j hj => (h.all j hj).1
        clear hC ho hno hbl HW
        go_wp2_with fail
        refine (tick_ok _ _ _ _ _ HC.out (wait_ok HNw.out bd k []) (Nat.zero_le _)).mono ?_
        rintro x w4 ⟨rfl, O4, h4, hs4, ho4⟩
        rw [tick_wait] at h4
        have HOw4 := Lib.hid (HOw.out.off ho4 HNo.out)
        have HNo4 := Lib.hid (none_later hs4 HNo.out (fun j hj => (HOw.out.lt j hj).2))
        have HBl4 := Lib.hid (HBl.out.trans (ho4.below HAl.out HBl.out.size))
        obtain ⟨wp4, ov4, tv4, h4⟩ := h4
        have H4 := Lib.hid h4
        clear h4 hs4 ho4 HC HOw HNo HBl HAl
        go_wp2_with fail
        refine (letters_ok _ _ _ _ _ _ _ _ H4.out).mono ?_
        rintro x w5 ⟨rfl, O5, h5, hs5, ho5, hw5, hn5⟩
        have HW5 : Hid (WLoop w1 w5 (.slice (some ⟨g, 0, none⟩) 1 cap) id n bd (k + 1)) := ⟨O5, ⟨_, _, _, h5⟩, HOw4.out.off ho5 HNo4.out, none_later hs5 HNo4.out (fun j hj => (HOw4.out.lt j hj).2), HBl4.out.trans (ho5.below (fun j hj => (H4.out.all j hj).1) HBl4.out.size)⟩
        have HLv := Lib.hid hw5
        clear h5 hs5 ho5 hw5 hn5 H4 HOw4 HNo4 HBl4
        by_cases hm : (k + 1) % 4 = 0
        · have hmod : ((k : Int) + 1).tmod 4 = 0 := by rw [Int.tmod_eq_emod_of_nonneg (by omega)]; omega
          have hv : Own w1.heap.size w5 3 ov4 n (lettersC (allLetters id n bd)) := by have := HLv.out; rw [if_pos hm, allLetters_length] at this; exact this
          obtain ⟨p, cap2, rfl, _, _⟩ := hv.shape
          have HV := Lib.hid hv
          clear hv HLv
          go_wp2
          go_loopw [14] (fun i wr => ∃ j : Nat, j ≤ n ∧ i = .int .i64 j ∧ Below w5.heap.size w5 wr) (fun i _ => n - (intOf i).toNat)
          case atStart => exact ⟨0, by omega, rfl, Below.refl _ _⟩
          case round =>
            obtain ⟨j, hj, rfl, hb6⟩ := hrel
            have HB6 := Lib.hid hb6
            clear hb6
            by_cases hjl : j < n
            · obtain ⟨g2, cap3, e, c0, c1, c2⟩ := (HV.out.later HB6.out).letterN (allLetters_length id n bd) (allLetters_get hjl)
              simp only [Value.slice.injEq] at e
              obtain ⟨rfl, _, rfl⟩ := e
              obtain ⟨_, _, hof, _⟩ := HW5.out
              obtain ⟨g3, cap4, e, _, _, d2⟩ := (hof.later HB6.out).letterN (l := [firstL id n bd]) (k := 0) rfl rfl
              simp only [Value.slice.injEq, Option.some.injEq, Addr.mk.injEq, true_and, and_true] at e
              obtain ⟨rfl, rfl⟩ := e
              unfold firstL at d2
              dsimp only at c0 c1 c2 d2
              simp only [Nat.zero_add, Nat.zero_mul] at c0 c1 c2 d2
              clear hof
              go_wp2
              go_quiet (fail)
              go_wp2
              go_roundw
              case rel => exact ⟨j + 1, by omega, by go_num, below_drewN HB6.out _⟩
              case measure => simp [intOf]; omega
            · obtain rfl : j = n := by omega
              go_wp2
              go_roundw
              case rel => exact ⟨k + 1, by omega, by go_num, HW5.out.later HB6.out⟩
              case measure => simp [intOf]; omega
        · have hmod : ∃ r : Nat, 0 < r ∧ ((k : Int) + 1).tmod 4 = r := ⟨(k + 1) % 4, by omega, by rw [Int.tmod_eq_emod_of_nonneg (by omega)]; omega⟩
          obtain ⟨r, hr, hmod⟩ := hmod
          have hv : Own w1.heap.size w5 3 ov4 0 (lettersC []) := by have := HLv.out; rw [if_neg hm] at this; exact this
          obtain ⟨p, cap2, rfl, _, _⟩ := hv.shape
          clear hv HLv
          go_wp2
          go_roundw
          case rel => exact ⟨k + 1, by omega, by go_num, HW5.out⟩
          case measure => simp [intOf]; omega
      · obtain rfl : k = T := by omega
        obtain ⟨O, ⟨wp4, ov4, tv4, hC⟩, _, _, hbl⟩ := HW.out
        have HC := Lib.hid hC
        have HBl := Lib.hid hbl
        clear hC hbl HW
        go_wp2_with (go_at_call 19; refine (busy_ok _ _ _ _ _ _ _ _ HC.out).mono ?_; rintro x w5 ⟨rfl, rfl⟩)
        go_ret
        exact ⟨rfl, HB1.out.trans (HBl.out.mono HB1.out.size)⟩

end Go.Proofs.YtmidfknlmjgjpaaDoor
