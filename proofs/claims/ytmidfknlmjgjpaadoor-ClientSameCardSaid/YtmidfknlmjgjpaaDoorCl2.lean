/- The walks of Letters, Told, Busy, Gone, Session; a client that is not there. -/
import Derived.Test.YtmidfknlmjgjpaaDoorCl1
namespace Go.Proofs.YtmidfknlmjgjpaaDoor
open Go.RowKit

set_option maxRecDepth 100000 in
set_option maxHeartbeats 1000000 in
theorem letters_ok (B b : Nat) (w : World) (c : Cl) (O : Nat → Prop) (wp : Option Addr) (ov tv : Value) (h : CAt B b w c O wp ov tv) :
    Calls Tryd.prog 17 #[.pointer (some ⟨b, 0, none⟩)] w fun e w' => e = .returned ov ∧
      ∃ (O' : Nat → Prop), CAt B b w' { c with out := [] } O' wp (.slice none 0 0) tv ∧ Sub O O' w ∧ Off O w w' ∧ Own B w' 3 ov c.out.length (lettersC c.out) ∧ ∀ k, ov.ownBlock = some k → ¬ O' k := by
  have g9 : w.cell? ⟨b, 9, none⟩ = some ov := h.cell rfl
  have z9 := h.frozen 9
  have hfin : ∃ (O' : Nat → Prop), CAt B b (w.setCell ⟨b, 9, none⟩ (.slice none 0 0)) { c with out := [] } O' wp (.slice none 0 0) tv ∧ Sub O O' w ∧ Off O w (w.setCell ⟨b, 9, none⟩ (.slice none 0 0)) ∧ Own B (w.setCell ⟨b, 9, none⟩ (.slice none 0 0)) 3 ov c.out.length (lettersC c.out) ∧ ∀ k, ov.ownBlock = some k → ¬ O' k := by
    have hother : ∀ k, k ≠ b → (w.setCell ⟨b, 9, none⟩ (.slice none 0 0)).heap[k]? = w.heap[k]? := fun k hk => Below.heap_setCell _ _ _ _ hk
    have hs : (w.setCell ⟨b, 9, none⟩ (.slice none 0 0)).heap.size = w.heap.size := by simp [World.setCell]
    refine ⟨fun k => O k ∧ ov.ownBlock ≠ some k, ⟨(by rw [set_block 9 _ h.blk]; rfl), Own.nil _ _ _, ?_, ?_, ⟨h.self, fun e => (h.outO b e).2.1 rfl⟩, (fun k hk => by cases hk), ?_, ?_, (by rw [hs]; exact h.base)⟩, fun k hk => .inl hk.1, Off.set w 9 _ h.self, ?_, fun k hk hn => hn.2 hk⟩
    · exact h.told.same (by rw [hs]; exact Nat.le_refl _) fun k hk _ => hother k (h.toldO k hk).2
    · show WayAt _ b _ wp _ tv c.way
      have hway := h.way
      cases hw : c.way with
      | none => rw [hw] at hway; exact hway
      | some m =>
        rw [hw] at hway
        obtain ⟨g, e1, e2, e3, e4, e5, e6⟩ := hway
        exact ⟨g, e1, ⟨e2, e4⟩, e3, (fun e => by cases e), e5, (hother g e3).trans e6⟩
    · intro k hk
      exact ⟨⟨(h.toldO k hk).1, fun e => (h.outO k e).2.2 hk⟩, (h.toldO k hk).2⟩
    · intro k hk
      rw [hs]; exact h.all k hk.1
    · exact h.out.same (by rw [hs]; exact Nat.le_refl _) fun k hk _ => hother k (h.outO k hk).2.1
  obtain ⟨p, cap, rfl, _, _⟩ := h.out.shape
  have HFin := Lib.hid hfin
  clear hfin h
  go_enter Tryd.func17, Tryd.ntmps17
  go_wp2
  go_ret
  exact ⟨rfl, HFin.out⟩

set_option maxRecDepth 100000 in
set_option maxHeartbeats 1000000 in
theorem told_ok (B b : Nat) (w : World) (c : Cl) (O : Nat → Prop) (wp : Option Addr) (ov tv : Value) (h : CAt B b w c O wp ov tv) :
    Calls Tryd.prog 28 #[.pointer (some ⟨b, 0, none⟩)] w fun e w' => e = .returned tv ∧
      ∃ (O' : Nat → Prop), CAt B b w' { c with told := [] } O' wp ov (.slice none 0 0) ∧ Sub O O' w ∧ Off O w w' ∧ Own B w' 7 tv c.told.length (toldsC c.told) ∧ ∀ k, tv.ownBlock = some k → ¬ O' k := by
  have g10 : w.cell? ⟨b, 10, none⟩ = some tv := h.cell rfl
  have z10 := h.frozen 10
  have hfin : ∃ (O' : Nat → Prop), CAt B b (w.setCell ⟨b, 10, none⟩ (.slice none 0 0)) { c with told := [] } O' wp ov (.slice none 0 0) ∧ Sub O O' w ∧ Off O w (w.setCell ⟨b, 10, none⟩ (.slice none 0 0)) ∧ Own B (w.setCell ⟨b, 10, none⟩ (.slice none 0 0)) 7 tv c.told.length (toldsC c.told) ∧ ∀ k, tv.ownBlock = some k → ¬ O' k := by
    have hother : ∀ k, k ≠ b → (w.setCell ⟨b, 10, none⟩ (.slice none 0 0)).heap[k]? = w.heap[k]? := fun k hk => Below.heap_setCell _ _ _ _ hk
    have hs : (w.setCell ⟨b, 10, none⟩ (.slice none 0 0)).heap.size = w.heap.size := by simp [World.setCell]
    refine ⟨fun k => O k ∧ tv.ownBlock ≠ some k, ⟨(by rw [set_block 10 _ h.blk]; rfl), ?_, Own.nil _ _ _, ?_, ⟨h.self, fun e => (h.toldO b e).2 rfl⟩, ?_, (fun k hk => by cases hk), ?_, (by rw [hs]; exact h.base)⟩, fun k hk => .inl hk.1, Off.set w 10 _ h.self, ?_, fun k hk hn => hn.2 hk⟩
    · exact h.out.same (by rw [hs]; exact Nat.le_refl _) fun k hk _ => hother k (h.outO k hk).2.1
    · show WayAt _ b _ wp ov _ c.way
      have hway := h.way
      cases hw : c.way with
      | none => rw [hw] at hway; exact hway
      | some m =>
        rw [hw] at hway
        obtain ⟨g, e1, e2, e3, e4, e5, e6⟩ := hway
        exact ⟨g, e1, ⟨e2, e5⟩, e3, e4, (fun e => by cases e), (hother g e3).trans e6⟩
    · intro k hk
      exact ⟨⟨(h.outO k hk).1, fun e => (h.outO k hk).2.2 e⟩, (h.outO k hk).2.1, fun e => by cases e⟩
    · intro k hk
      rw [hs]; exact h.all k hk.1
    · exact h.told.same (by rw [hs]; exact Nat.le_refl _) fun k hk _ => hother k (h.toldO k hk).2
  obtain ⟨p, cap, rfl, _, _⟩ := h.told.shape
  have HFin := Lib.hid hfin
  clear hfin h
  go_enter Tryd.func28, Tryd.ntmps28
  go_wp2
  go_ret
  exact ⟨rfl, HFin.out⟩

theorem WayAt.some_iff {w : World} {b : Nat} {O : Nat → Prop} {wp : Option Addr} {ov tv : Value} {x : Option Msg} (h : WayAt w b O wp ov tv x) : wp.isSome = x.isSome := by
  cases x with
  | none => have h : wp = none := h; rw [h]; rfl
  | some m => obtain ⟨g, h1, _⟩ := h; rw [h1]; rfl

set_option maxRecDepth 100000 in
set_option maxHeartbeats 1000000 in
theorem busy_ok (B b : Nat) (w : World) (c : Cl) (O : Nat → Prop) (wp : Option Addr) (ov tv : Value) (h : CAt B b w c O wp ov tv) :
    Calls Tryd.prog 19 #[.pointer (some ⟨b, 0, none⟩)] w fun e w' => e = .returned (.bool c.way.isSome) ∧ w' = w := by
  have g6 : w.cell? ⟨b, 6, none⟩ = some (.pointer wp) := h.cell rfl
  have hw := h.way.some_iff
  have HW := Lib.hid hw
  clear h hw
  rw [← HW.out]
  clear HW
  cases wp
  all_goals
    go_enter Tryd.func19, Tryd.ntmps19
    go_wp2
    go_ret
    exact ⟨rfl, rfl⟩

set_option maxRecDepth 100000 in
set_option maxHeartbeats 1000000 in
theorem gone_ok (B b : Nat) (w : World) (c : Cl) (O : Nat → Prop) (wp : Option Addr) (ov tv : Value) (h : CAt B b w c O wp ov tv) :
    Calls Tryd.prog 29 #[.pointer (some ⟨b, 0, none⟩)] w fun e w' => e = .returned (.bool c.gone) ∧ w' = w := by
  have g5 : w.cell? ⟨b, 5, none⟩ = some (.bool c.gone) := h.cell rfl
  clear h
  go_enter Tryd.func29, Tryd.ntmps29
  go_wp2
  go_ret
  exact ⟨rfl, rfl⟩

set_option maxRecDepth 100000 in
set_option maxHeartbeats 1000000 in
theorem session_ok (B b : Nat) (w : World) (c : Cl) (O : Nat → Prop) (wp : Option Addr) (ov tv : Value) (h : CAt B b w c O wp ov tv) :
    Calls Tryd.prog 30 #[.pointer (some ⟨b, 0, none⟩)] w fun e w' => e = .returned (.int .i64 c.session) ∧ w' = w := by
  have g2 : w.cell? ⟨b, 2, none⟩ = some (.int .i64 c.session) := h.cell rfl
  clear h
  go_enter Tryd.func30, Tryd.ntmps30
  go_wp2
  go_ret
  exact ⟨rfl, rfl⟩

set_option maxRecDepth 100000 in
set_option maxHeartbeats 1000000 in
theorem nil_letters (w : World) : Calls Tryd.prog 17 #[.pointer none] w fun e w' => e = .returned (.slice none 0 0) ∧ w' = w := by
  go_enter Tryd.func17, Tryd.ntmps17
  go_wp2
  go_ret
  exact ⟨rfl, rfl⟩
set_option maxRecDepth 100000 in
set_option maxHeartbeats 1000000 in
theorem nil_told (w : World) : Calls Tryd.prog 28 #[.pointer none] w fun e w' => e = .returned (.slice none 0 0) ∧ w' = w := by
  go_enter Tryd.func28, Tryd.ntmps28
  go_wp2
  go_ret
  exact ⟨rfl, rfl⟩
set_option maxRecDepth 100000 in
set_option maxHeartbeats 1000000 in
theorem nil_busy (w : World) : Calls Tryd.prog 19 #[.pointer none] w fun e w' => e = .returned (.bool false) ∧ w' = w := by
  go_enter Tryd.func19, Tryd.ntmps19
  go_wp2
  go_ret
  exact ⟨rfl, rfl⟩
set_option maxRecDepth 100000 in
set_option maxHeartbeats 1000000 in
theorem nil_gone (w : World) : Calls Tryd.prog 29 #[.pointer none] w fun e w' => e = .returned (.bool false) ∧ w' = w := by
  go_enter Tryd.func29, Tryd.ntmps29
  go_wp2
  go_ret
  exact ⟨rfl, rfl⟩
set_option maxRecDepth 100000 in
set_option maxHeartbeats 1000000 in
theorem nil_session (w : World) : Calls Tryd.prog 30 #[.pointer none] w fun e w' => e = .returned (.int .i64 0) ∧ w' = w := by
  go_enter Tryd.func30, Tryd.ntmps30
  go_wp2
  go_ret
  exact ⟨rfl, rfl⟩
set_option maxRecDepth 100000 in
set_option maxHeartbeats 1000000 in
theorem nil_ask (n : Int) (s : ByteArray) (w : World) : Calls Tryd.prog 16 #[.pointer none, .int .i64 n, .string s] w fun e w' => e = .returned (.int .i64 2) ∧ w' = w := by
  go_enter Tryd.func16, Tryd.ntmps16
  go_wp2
  go_ret
  exact ⟨rfl, rfl⟩
set_option maxRecDepth 100000 in
set_option maxHeartbeats 1000000 in
theorem nil_tick (w : World) : Calls Tryd.prog 18 #[.pointer none] w fun e w' => e = .returned (.tuple #[]) ∧ w' = w := by
  go_enter Tryd.func18, Tryd.ntmps18
  go_wp2
  exact bodyPost_ret (v := .tuple #[]) (by simp [results, Tryd.results18, go_sem]) rfl ⟨rfl, rfl⟩
set_option maxRecDepth 100000 in
set_option maxHeartbeats 1000000 in
theorem nil_take (s : ByteArray) (w : World) : Calls Tryd.prog 26 #[.pointer none, .string s] w fun e w' => e = .returned (.tuple #[]) ∧ w' = w := by
  go_enter Tryd.func26, Tryd.ntmps26
  go_wp2
  exact bodyPost_ret (v := .tuple #[]) (by simp [results, Tryd.results26, go_sem]) rfl ⟨rfl, rfl⟩

end Go.Proofs.YtmidfknlmjgjpaaDoor
