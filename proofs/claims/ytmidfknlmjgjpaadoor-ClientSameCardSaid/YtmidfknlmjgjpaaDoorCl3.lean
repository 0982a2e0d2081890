/- The walk of Tick. -/
import Derived.Test.YtmidfknlmjgjpaaDoorCl2
namespace Go.Proofs.YtmidfknlmjgjpaaDoor
open Go.RowKit

/-- A client in memory; how it moves. -/
def COn (B b : Nat) (w : World) (c : Cl) (O : Nat → Prop) : Prop := ∃ wp ov tv, CAt B b w c O wp ov tv
def Moves (B b : Nat) (O : Nat → Prop) (w : World) (c' : Cl) (w' : World) : Prop := ∃ O', COn B b w' c' O' ∧ Sub O O' w ∧ Off O w w'

theorem Moves.refl {B b : Nat} {O : Nat → Prop} {w : World} {c : Cl} (h : COn B b w c O) : Moves B b O w c w := ⟨O, h, Sub.refl _ _, Off.refl _ _⟩

/-- Letters to the first n replicas. -/
def lettersTo (c : Cl) (n : Nat) : List Letter := (List.range n).map fun (k : Nat) => ⟨c.id, (k : Int) + 1, c.data⟩
theorem lettersTo_succ (c : Cl) (n : Nat) : lettersTo c (n + 1) = lettersTo c n ++ [⟨c.id, (n : Int) + 1, c.data⟩] := by
  simp [lettersTo, List.range_succ]
theorem lettersTo_length (c : Cl) (n : Nat) : (lettersTo c n).length = n := by simp [lettersTo]

def tickCl (c : Cl) : Cl := if c.way.isNone then c else if c.waited + 1 < 4 then { c with waited := c.waited + 1 } else { c with waited := 0, out := c.out ++ lettersTo c c.count.toNat }

/-- What every client keeps to. -/
structure Cl.ok (c : Cl) : Prop where
  id : 6 ≤ c.id ∧ c.id ≤ 255
  count : c.count = 3 ∨ c.count = 5
  session : 0 ≤ c.session ∧ c.session ≤ 72057594037927935
  last : 0 ≤ c.last ∧ c.last ≤ 72057594037927935
  view : 0 ≤ c.view ∧ c.view ≤ 72057594037927935
  waited : 0 ≤ c.waited ∧ c.waited ≤ 3

set_option maxRecDepth 100000 in
set_option maxHeartbeats 2000000 in
theorem tick_ok (B b : Nat) (w : World) (c : Cl) (O : Nat → Prop) (h : COn B b w c O) (hc : c.ok) (hl : c.out.length ≤ 900000) :
    Calls Tryd.prog 18 #[.pointer (some ⟨b, 0, none⟩)] w fun e w' => e = .returned (.tuple #[]) ∧ Moves B b O w (tickCl c) w' := by
  obtain ⟨wp, ov, tv, h⟩ := h
  have g6 : w.cell? ⟨b, 6, none⟩ = some (.pointer wp) := h.cell rfl
  have g8 : w.cell? ⟨b, 8, none⟩ = some (.int .i64 c.waited) := h.cell rfl
  have z8 := h.frozen 8
  have hsome := h.way.some_iff
  obtain ⟨w0, w1⟩ := hc.waited
  cases hw : c.way with
  | none =>
    rw [hw] at hsome
    have e : tickCl c = c := by simp [tickCl, hw]
    have hM : Hid (Moves B b O w (tickCl c) w) := by rw [Hid, e]; exact Moves.refl ⟨wp, ov, tv, h⟩
    cases wp with
    | some p => cases hsome
    | none =>
      clear hsome e h hc hw
      go_enter Tryd.func18, Tryd.ntmps18
      go_wp2
      exact bodyPost_ret (v := .tuple #[]) (by simp [results, Tryd.results18, go_sem]) rfl ⟨rfl, hM.out⟩
  | some m =>
    rw [hw] at hsome
    cases wp with
    | none => cases hsome
    | some p =>
      by_cases h4 : c.waited + 1 < 4
      · have e : tickCl c = { c with waited := c.waited + 1 } := by simp [tickCl, hw, h4]
        have hM : Hid (Moves B b O w (tickCl c) (w.setCell ⟨b, 8, none⟩ (.int .i64 (c.waited + 1)))) := by
          rw [Hid, e]
          exact ⟨O, ⟨_, _, _, h.set 8 (.int .i64 (c.waited + 1)) rfl rfl rfl rfl⟩, Sub.refl _ _, Off.set w 8 _ h.self⟩
        clear hsome e h hc hw
        go_enter Tryd.func18, Tryd.ntmps18
        go_wp2
        exact bodyPost_ret (v := .tuple #[]) (by simp [results, Tryd.results18, go_sem]) rfl ⟨rfl, hM.out⟩
      · have e : tickCl c = { c with waited := 0, out := c.out ++ lettersTo c c.count.toNat } := by simp [tickCl, hw, h4]
        have h2 : CAt B b ((w.setCell ⟨b, 8, none⟩ (.int .i64 (c.waited + 1))).setCell ⟨b, 8, none⟩ (.int .i64 0)) { c with waited := 0 } O (some p) ov tv :=
          (h.set (c' := { c with waited := c.waited + 1 }) 8 (.int .i64 (c.waited + 1)) rfl rfl rfl rfl).set 8 (.int .i64 0) rfl rfl rfl rfl
        have hoff : Off O w ((w.setCell ⟨b, 8, none⟩ (.int .i64 (c.waited + 1))).setCell ⟨b, 8, none⟩ (.int .i64 0)) := (Off.set w 8 _ h.self).trans (Off.set _ 8 _ h.self) (Sub.refl _ _)
        have H2 := Lib.hid h2
        have HO := Lib.hid hoff
        have HC := Lib.hid hc
        have HE := Lib.hid e
        obtain ⟨n, hn⟩ : ∃ n : Nat, c.count = n := ⟨c.count.toNat, by rcases hc.count with e | e <;> rw [e] <;> rfl⟩
        have hn5 : n ≤ 5 := by rcases hc.count with e | e <;> omega
        have HN := Lib.hid hn
        clear hsome e h hc hw h2 hoff hn
        go_enter Tryd.func18, Tryd.ntmps18
        go_wp2
        clear g6 g8 z8
        go_loopw [2] (fun i wr => ∃ k : Nat, k ≤ n ∧ i = .int .i64 ((k : Int) + 1) ∧ ∃ ov' O', CAt B b wr { c with waited := 0, out := c.out ++ lettersTo c k } O' (some p) ov' tv ∧ Sub O O' w ∧ Off O w wr) (fun i _ => n + 1 - (intOf i).toNat)
        case atStart => exact ⟨0, by omega, rfl, ov, O, by simpa [lettersTo] using H2.out, Sub.refl _ _, HO.out⟩
        case round =>
          obtain ⟨k, hk, rfl, ov', O', hC, hs, ho⟩ := hrel
          have g1 : wr.cell? ⟨b, 1, none⟩ = some (.int .i64 n) := by rw [← HN.out]; exact hC.cell rfl
          have HCk := Lib.hid hC
          have HSb := Lib.hid hs
          have HOf := Lib.hid ho
          clear hC hs ho
          by_cases hlt : k < n
          · have hlen : (c.out ++ lettersTo c k).length ≤ 1000000 := by rw [List.length_append, lettersTo_length]; omega
            have HLen := Lib.hid hlen
            clear hlen
            go_wp2_with (go_at_call 38; refine (send_ok B b _ _ _ _ _ _ HCk.out ((k : Int) + 1) HLen.out).mono ?_; rintro x w3 ⟨rfl, ov3, O3, hC3, hs3, ho3⟩; have HC3 := Lib.hid hC3; have HS3 := Lib.hid (HSb.out.trans hs3 HOf.out.size); have HO3 := Lib.hid (HOf.out.trans ho3 HSb.out); clear hC3 hs3 ho3)
            go_roundw
            case rel => exact ⟨k + 1, by omega, by go_num, ov3, O3, by rw [lettersTo_succ, ← List.append_assoc]; exact HC3.out, HS3.out, HO3.out⟩
            case measure => simp [intOf]; omega
          · obtain rfl : k = n := by omega
            go_wp2
            go_end0
            exact ⟨rfl, O', ⟨_, _, _, by have e := HE.out; rw [show c.count.toNat = k by rw [HN.out]; rfl] at e; rw [e]; exact HCk.out⟩, HSb.out, HOf.out⟩

end Go.Proofs.YtmidfknlmjgjpaaDoor
