/- The walk of Ask. -/
import Derived.Test.YtmidfknlmjgjpaaDoorCl3
import Derived.StillTailTactics
namespace Go.Proofs.YtmidfknlmjgjpaaDoor
open Go.RowKit

/-- What is asked. -/
def askMsg (c : Cl) (op : Int) (body : ByteArray) (req : Int) : Msg := { kind := 1, src := c.id, view := 0, logView := 0, op := 0, commit := 0, client := c.id, session := c.session, request := req, operation := op, index := 0, size := 0, check := ⟨0, 0, 0⟩, s0 := 0, s1 := 0, s2 := 0, s3 := 0, s4 := 0, s5 := 0, entry := zeroEntry, entries := [], items := [], body := body }
def askReq (c : Cl) (op : Int) : Int := if op = 1 then 0 else c.last + 1
def askE (c : Cl) (op : Int) (body : ByteArray) : Int :=
  if c.gone = true then 14 else if c.way.isSome = true then 10 else if op < 1 ∨ 5 < op then 1 else if ¬ (op = 1 ↔ c.session = 0) then 13 else if 200 < body.size then 5 else 0
def askDone (c : Cl) (op : Int) (body : ByteArray) : Cl :=
  { c with data := (askMsg c op body (askReq c op)).enc.1, way := some (askMsg c op body (askReq c op)), waited := 0, out := c.out ++ [⟨c.id, c.view % c.count + 1, (askMsg c op body (askReq c op)).enc.1⟩] }
def askCl (c : Cl) (op : Int) (body : ByteArray) : Cl := if askE c op body = 0 then askDone c op body else c

theorem askMsg_fit (c : Cl) (op : Int) (body : ByteArray) (req : Int) (h : body.size ≤ maxLen) : (askMsg c op body req).fit := fit_zero rfl rfl rfl h rfl rfl

/-- The message's block taken up. -/
theorem CAt.take {B b : Nat} {w : World} {c : Cl} {O : Nat → Prop} {ov tv : Value} (h : CAt B b w c O none ov tv) (g : Nat) (m : Msg) (s : ByteArray) (hg : w.heap[g]? = some (.cells (mvec m) 31 (0, 0))) (hB : B ≤ g) (hO : ¬ O g) :
    CAt B b (((w.setCell ⟨b, 7, none⟩ (.string s)).setCell ⟨b, 6, none⟩ (.pointer (some ⟨g, 0, none⟩))).setCell ⟨b, 8, none⟩ (.int .i64 0)) { c with data := s, way := some m, waited := 0 } (fun k => O k ∨ k = g) (some ⟨g, 0, none⟩) ov tv := by
  have hgb : g ≠ b := fun e => hO (e ▸ h.self)
  have hs : (((w.setCell ⟨b, 7, none⟩ (.string s)).setCell ⟨b, 6, none⟩ (.pointer (some ⟨g, 0, none⟩))).setCell ⟨b, 8, none⟩ (.int .i64 0)).heap.size = w.heap.size := by simp [World.setCell]
  have ho : ∀ k, k ≠ b → (((w.setCell ⟨b, 7, none⟩ (.string s)).setCell ⟨b, 6, none⟩ (.pointer (some ⟨g, 0, none⟩))).setCell ⟨b, 8, none⟩ (.int .i64 0)).heap[k]? = w.heap[k]? := fun k hk =>
    (Below.heap_setCell _ _ _ _ hk).trans ((Below.heap_setCell _ _ _ _ hk).trans (Below.heap_setCell _ _ _ _ hk))
  have hglt : g < w.heap.size := (Array.getElem?_eq_some_iff.1 hg).1
  refine ⟨?_, ?_, ?_, ?_, .inl h.self, ?_, ?_, ?_, by rw [hs]; exact h.base⟩
  · rw [set_block 8 _ (set_block 6 _ (set_block 7 _ h.blk))]; rfl
  · exact h.out.same (by rw [hs]; exact Nat.le_refl _) fun k hk _ => ho k (h.outO k hk).2.1
  · exact h.told.same (by rw [hs]; exact Nat.le_refl _) fun k hk _ => ho k (h.toldO k hk).2
  · exact ⟨g, rfl, .inr rfl, hgb, fun e => hO (h.outO g e).1, fun e => hO (h.toldO g e).1, (ho g hgb).trans hg⟩
  · exact fun k hk => ⟨.inl (h.outO k hk).1, (h.outO k hk).2⟩
  · exact fun k hk => ⟨.inl (h.toldO k hk).1, (h.toldO k hk).2⟩
  · intro k hk
    rw [hs]
    rcases hk with hk | hk
    · exact h.all k hk
    · rw [hk]; exact ⟨hB, hglt⟩

set_option maxRecDepth 100000 in
set_option maxHeartbeats 2000000 in
theorem ask_no (B b : Nat) (w : World) (c : Cl) (O : Nat → Prop) (h : COn B b w c O) (op : Int) (body : ByteArray) (hb : body.size ≤ maxLen) (he : askE c op body ≠ 0) :
    Calls Tryd.prog 16 #[.pointer (some ⟨b, 0, none⟩), .int .i64 op, .string body] w fun e w' => e = .returned (.int .i64 (askE c op body)) ∧ w' = w := by
  obtain ⟨wp, ov, tv, h⟩ := h
  have hb : body.size ≤ 9223372036854775807 := hb
  have g5 : w.cell? ⟨b, 5, none⟩ = some (.bool c.gone) := h.cell rfl
  have g6 : w.cell? ⟨b, 6, none⟩ = some (.pointer wp) := h.cell rfl
  have g2 : w.cell? ⟨b, 2, none⟩ = some (.int .i64 c.session) := h.cell rfl
  have hsome := h.way.some_iff
  clear h
  by_cases q1 : c.gone = true
  · have e : askE c op body = 14 := by simp [askE, q1]
    rw [e]
    rw [q1] at g5
    clear he e hsome q1
    go_enter Tryd.func16, Tryd.ntmps16
    go_wp2
    go_ret
    exact ⟨rfl, rfl⟩
  have q1' : c.gone = false := by simpa using q1
  rw [q1'] at g5
  by_cases q2 : c.way.isSome = true
  · have e : askE c op body = 10 := by simp [askE, q1', q2]
    rw [e]
    rw [q2] at hsome
    cases wp with
    | none => cases hsome
    | some p =>
      clear he e hsome q1 q2 q1'
      go_enter Tryd.func16, Tryd.ntmps16
      go_wp2
      go_ret
      exact ⟨rfl, rfl⟩
  have q2' : c.way.isSome = false := by simpa using q2
  rw [q2'] at hsome
  cases wp with
  | some p => cases hsome
  | none =>
    by_cases q3 : op < 1
    · have e : askE c op body = 1 := by simp [askE, q1', q2', q3]
      rw [e]
      clear he e hsome q1 q2 q1' q2'
      go_enter Tryd.func16, Tryd.ntmps16
      go_wp2
      go_ret
      exact ⟨rfl, rfl⟩
    by_cases q4 : 5 < op
    · have e : askE c op body = 1 := by simp [askE, q1', q2', q4]
      rw [e]
      clear he e hsome q1 q2 q1' q2'
      go_enter Tryd.func16, Tryd.ntmps16
      go_wp2
      go_ret
      exact ⟨rfl, rfl⟩
    have q34 : ¬ (op < 1 ∨ 5 < op) := by omega
    by_cases q5 : op = 1
    · by_cases q6 : c.session = 0
      · by_cases q7 : 200 < body.size
        · have e : askE c op body = 5 := by simp [askE, q1', q2', q5, q6, q7]
          rw [e]
          subst q5
          rw [q6] at g2
          clear he e hsome q1 q2 q1' q2' q34
          go_enter Tryd.func16, Tryd.ntmps16
          go_wp2
          go_ret
          exact ⟨rfl, rfl⟩
        · exact absurd (by simp [askE, q1', q2', q5, q6, q7]) he
      · have e : askE c op body = 13 := by simp [askE, q1', q2', q5, q6]
        rw [e]
        subst q5
        have b2 : (c.session == 0) = false := by simpa using q6
        clear he e hsome q1 q2 q1' q2' q34
        go_enter Tryd.func16, Tryd.ntmps16
        go_wp2
        go_ret
        exact ⟨rfl, rfl⟩
    · by_cases q6 : c.session = 0
      · have e : askE c op body = 13 := by simp [askE, q1', q2', q34, q5, q6]
        rw [e]
        rw [q6] at g2
        have b1 : (op == 1) = false := by simpa using q5
        clear he e hsome q1 q2 q1' q2' q34
        go_enter Tryd.func16, Tryd.ntmps16
        go_wp2
        go_ret
        exact ⟨rfl, rfl⟩
      · by_cases q7 : 200 < body.size
        · have e : askE c op body = 5 := by simp [askE, q1', q2', q34, q5, q6, q7]
          rw [e]
          have b1 : (op == 1) = false := by simpa using q5
          have b2 : (c.session == 0) = false := by simpa using q6
          clear he e hsome q1 q2 q1' q2' q34
          go_enter Tryd.func16, Tryd.ntmps16
          go_wp2
          go_ret
          exact ⟨rfl, rfl⟩
        · exact absurd (by simp [askE, q1', q2', q34, q5, q6, q7]) he

end Go.Proofs.YtmidfknlmjgjpaaDoor
