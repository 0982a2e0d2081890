/- The walks of client.New, send. -/
import Derived.Test.YtmidfknlmjgjpaaDoorKCl0
import Derived.Deep.RegionLaw
namespace Go.Proofs.YtmidfknlmjgjpaaDoor
open Go.RowKit

/-- A new client. -/
def newCl (id count : Int) : Cl := { id := id, count := count, session := 0, last := 0, view := 0, gone := false, way := none, data := str [], waited := 0, out := [], told := [] }
def newOk (id count : Int) : Bool := decide (6 ≤ id) && decide (id ≤ 255) && (count == 3 || count == 5)

theorem newCl_at (id count : Int) (w : World) : CAt w.heap.size w.heap.size (w.alloc (.cells (clC (newCl id count) (.pointer none) (.slice none 0 0) (.slice none 0 0)) 81)) (newCl id count) (fun k => k = w.heap.size) none (.slice none 0 0) (.slice none 0 0) where
  blk := heap_alloc_new w _
  out := Own.nil _ _ _
  told := Own.nil _ _ _
  way := rfl
  self := rfl
  outO := fun k h => by cases h
  toldO := fun k h => by cases h
  all := fun k h => by rw [h]; simp
  base := by simp

set_option maxRecDepth 100000 in
set_option maxHeartbeats 1000000 in
theorem new_no (id count : Int) (h : newOk id count = false) (w : World) : Calls Tryd.prog 15 #[.int .i64 id, .int .i64 count] w fun e w' => e = .returned (.tuple #[.pointer none, .int .i64 1]) ∧ w' = w := by
  simp only [newOk, Bool.and_eq_false_iff, decide_eq_false_iff_not] at h
  by_cases h1 : id ≤ 5
  · go_enter Tryd.func15, Tryd.ntmps15
    go_wp2
    go_ret2
    exact ⟨rfl, rfl⟩
  by_cases h2 : 255 < id
  · go_enter Tryd.func15, Tryd.ntmps15
    go_wp2
    go_ret2
    exact ⟨rfl, rfl⟩
  have h3 : (count == 3 || count == 5) = false := by
    rcases h with (h | h) | h
    · omega
    · omega
    · exact h
  have H3 := Lib.hid h3
  clear h h3
  go_enter Tryd.func15, Tryd.ntmps15
  go_wp2_with (go_at_call 37; refine (quorumMay_any _ _).mono ?_; rintro x w1 ⟨rfl, rfl⟩; rw [H3.out])
  go_ret2
  exact ⟨rfl, rfl⟩

set_option maxRecDepth 100000 in
set_option maxHeartbeats 1000000 in
theorem new_ok (id count : Int) (h : newOk id count = true) (w : World) : Calls Tryd.prog 15 #[.int .i64 id, .int .i64 count] w fun e w' => e = .returned (.tuple #[.pointer (some ⟨w.heap.size, 0, none⟩), .int .i64 0]) ∧
    w' = w.alloc (.cells (clC (newCl id count) (.pointer none) (.slice none 0 0) (.slice none 0 0)) 81) := by
  simp only [newOk, Bool.and_eq_true, decide_eq_true_eq] at h
  obtain ⟨⟨h1, h2⟩, h3⟩ := h
  have H3 := Lib.hid h3
  clear h3
  go_enter Tryd.func15, Tryd.ntmps15
  go_wp2_with (go_at_call 37; refine (quorumMay_any _ _).mono ?_; rintro x w1 ⟨rfl, rfl⟩; rw [H3.out])
  go_ret2
  exact ⟨rfl, rfl⟩

/-- append at a step of a region that draws, by what its run is. -/
theorem step_append_run {P : Program} {ops : Array Oper} {o : Oper} {a : Act} {w : World} {K : Act → World → Prop} {Q : Exit → Act → World → Prop} {E : Prop} (hg : o.guard = none) (s x : Operand) (t u : TypeId)
    (hop : o.op = .call { callee := .builtin .append, args := #[s, x], argTypes := #[t, u] }) (vs vx : Value) (hs : a.eval s = vs) (hx : a.eval x = vx) (v' : Value) (w' : World)
    (hr : (Builtin.append_ #[t, u] o.type #[vs, vx]).run P w = .ok v' w') (hK : K (a.put o.dst v') w') : if Region.wanted o (yielded ops a.tmps) = true then Oper.wp P o a w K Q else E := by
  have hw : Region.wanted o (yielded ops a.tmps) = true := by simp [Region.wanted, hg]
  rw [if_pos hw]
  exact Lib.wp_append_run w s x t u hop vs vx hs hx v' w' hr hK

theorem letter_info : (Tryd.prog.info? 46).map (fun i => (i.zero, i.size, i.bytes)) = some (some (.agg #[.int .i64 0, .int .i64 0, .string ⟨#[]⟩]), 3, 32) := by kernel_rfl

set_option maxRecDepth 100000 in
set_option maxHeartbeats 2000000 in
theorem send_ok (B b : Nat) (w : World) (c : Cl) (O : Nat → Prop) (wp : Option Addr) (ov tv : Value) (h : CAt B b w c O wp ov tv) (dst : Int) (hl : c.out.length ≤ 1000000) :
    Calls Tryd.prog 38 #[.pointer (some ⟨b, 0, none⟩), .int .i64 dst] w fun e w' => e = .returned (.tuple #[]) ∧
      ∃ (ov' : Value) (O' : Nat → Prop), CAt B b w' { c with out := c.out ++ [⟨c.id, dst, c.data⟩] } O' wp ov' tv ∧ Sub O O' w ∧ Off O w w' := by
  obtain ⟨i0, hi, hz0, hz1, hz2⟩ : ∃ i, Tryd.prog.info? 46 = some i ∧ i.zero = some (.agg #[.int .i64 0, .int .i64 0, .string ⟨#[]⟩]) ∧ i.size = 3 ∧ i.bytes = 32 := by
    have := letter_info
    rw [Option.map_eq_some_iff] at this
    obtain ⟨i, h1, h2⟩ := this
    simp only [Prod.mk.injEq] at h2
    exact ⟨i, h1, h2⟩
  have H := Lib.hid h
  have hb0 : b < w.heap.size := (h.all b h.self).2
  have hdr : Below w.heap.size w w.drew := below_drewN (Below.refl _ _) 1
  have hB1 : Below w.heap.size w (w.drew.alloc (.cells #[.int .i64 c.id, .int .i64 dst, .string c.data] 46))  := hdr.alloc (Nat.le_refl _) _
  have h1 := h.later hB1
  have hsrc : Src Tryd.prog (w.drew.alloc (.cells #[.int .i64 c.id, .int .i64 dst, .string c.data] 46)) 42 3 (.slice (some ⟨w.drew.heap.size, 0, none⟩) 1 1) 1 (letC ⟨c.id, dst, c.data⟩) := by
    refine ⟨rfl, by intro v hv; simp [letC] at hv; rcases hv with rfl | rfl | rfl <;> rfl, .inl ⟨⟨_, Tryd.underlying42⟩, .inr ⟨_, 1, rfl, fun j v hv => ?_⟩⟩⟩
    rw [add_plain, cell_of_row _ w.drew.heap.size _ _ _ _ (heap_alloc_new w.drew _), Nat.zero_add]
    simpa [letC] using hv
  obtain ⟨ov', w2, hr, hO2, hg2, hf2⟩ := run_append_Own2 (P := Tryd.prog) _ B 42 42 42 46 i0 _ 3 32 Tryd.underlying42 hi hz0 hz1 hz2 rfl ov _ _ h1.out _ 1 _ hsrc (by simp only [maxLen]; omega) (by omega) h1.base
  obtain ⟨pa, cap2, hov2, _, _⟩ := hO2.shape
  subst hov2
  have hne : ov.ownBlock ≠ some b := fun e => (h.outO b e).2.1 rfl
  have hblk2 : w2.heap[b]? = some (.cells (clC c (.pointer wp) ov tv) 81 (0, 0)) := (hg2.block b (Nat.lt_of_lt_of_le hb0 hB1.size) (fun e => hne e.symm)).trans h1.blk
  have hS : ∀ wx : World, wx.heap[b]? = some (.cells (clC c (.pointer wp) ov tv) 81 (0, 0)) → wx.cell? ⟨b, 0, none⟩ = some (.int .i64 c.id) ∧ wx.cell? ⟨b, 7, none⟩ = some (.string c.data) ∧ wx.cell? ⟨b, 9, none⟩ = some ov := fun wx hx =>
    ⟨by rw [cell_of_row wx b 0 _ _ _ hx]; rfl, by rw [cell_of_row wx b 7 _ _ _ hx]; rfl, by rw [cell_of_row wx b 9 _ _ _ hx]; rfl⟩
  have HS0 := Lib.hid (hS _ (h.later hdr).blk)
  have HS1 := Lib.hid (hS _ h1.blk)
  have HS2 := Lib.hid (hS _ hblk2)
  have hz9 : w2.frozen? ⟨b, 9, none⟩ = false := by unfold World.frozen?; rw [hblk2]; simp
  have hfin : ∃ (ov' : Value) (O' : Nat → Prop), CAt B b (w2.setCell ⟨b, 9, none⟩ (.slice pa (c.out.length + 1) cap2)) { c with out := c.out ++ [⟨c.id, dst, c.data⟩] } O' wp ov' tv ∧ Sub O O' w ∧ Off O w (w2.setCell ⟨b, 9, none⟩ (.slice pa (c.out.length + 1) cap2)) := by
    have hsz : w.heap.size ≤ w2.heap.size := Nat.le_trans hB1.size hg2.size
    have hother : ∀ k, k ≠ b → (w2.setCell ⟨b, 9, none⟩ (.slice pa (c.out.length + 1) cap2)).heap[k]? = w2.heap[k]? := fun k hk => Below.heap_setCell _ _ _ _ hk
    have hold : ∀ k, k < w.heap.size → ov.ownBlock ≠ some k → w2.heap[k]? = w.heap[k]? := fun k hk hn => (hg2.block k (Nat.lt_of_lt_of_le hk hB1.size) (fun e => hn e.symm)).trans (hB1.block k hk)
    have hbk : ∀ k, Value.ownBlock (.slice pa (c.out.length + 1) cap2) = some k → k ≠ b ∧ tv.ownBlock ≠ some k ∧ (O k ∨ w.heap.size ≤ k) := by
      intro k hk
      rcases hf2 with e | e
      · rw [e] at hk
        exact ⟨(h.outO k hk).2.1, (h.outO k hk).2.2, .inl (h.outO k hk).1⟩
      · have h3 := e k hk
        have h4 : w.heap.size ≤ k := Nat.le_trans hB1.size h3
        exact ⟨by omega, fun e2 => by have := (h.all k (h.toldO k e2).1).2; omega, .inr h4⟩
    refine ⟨.slice pa (c.out.length + 1) cap2, fun k => O k ∨ Value.ownBlock (.slice pa (c.out.length + 1) cap2) = some k, ⟨?_, ?_, ?_, ?_, .inl h.self, ?_, ?_, ?_, ?_⟩, ?_, ?_⟩
    · rw [set_block 9 _ hblk2]; rfl
    · have e : lettersC (c.out ++ [⟨c.id, dst, c.data⟩]) = lettersC c.out ++ letC ⟨c.id, dst, c.data⟩ := lettersC_snoc _ _
      show Own B _ 3 _ (c.out ++ [_]).length (lettersC (c.out ++ [_]))
      rw [e, List.length_append]
      exact hO2.same (by simp [World.setCell]) fun k hk _ => hother k (hbk k hk).1
    · exact h.told.same (by simp [World.setCell]; exact hsz) fun k hk hlt => (hother k (h.toldO k hk).2).trans (hold k hlt (fun e => (h.outO k e).2.2 hk))
    · show WayAt _ b _ wp _ tv c.way
      have hway := h.way
      cases hw : c.way with
      | none => rw [hw] at hway; exact hway
      | some m =>
        rw [hw] at hway
        obtain ⟨g, e1, e2, e3, e4, e5, e6⟩ := hway
        have hg := (h.all g e2).2
        exact ⟨g, e1, .inl e2, e3, fun e => by
          rcases hf2 with q | q
          · rw [q] at e; exact e4 e
          · have h3 := q g e
            have h4 : w.heap.size ≤ g := Nat.le_trans hB1.size h3
            omega, e5, ((hother g e3).trans (hold g hg e4)).trans e6⟩
    · intro k hk
      exact ⟨.inr hk, (hbk k hk).1, (hbk k hk).2.1⟩
    · intro k hk
      exact ⟨.inl (h.toldO k hk).1, (h.toldO k hk).2⟩
    · intro k hk
      have hs2 : (w2.setCell ⟨b, 9, none⟩ (.slice pa (c.out.length + 1) cap2)).heap.size = w2.heap.size := by simp [World.setCell]
      rw [hs2]
      rcases hk with hk | hk
      · exact ⟨(h.all k hk).1, Nat.lt_of_lt_of_le (h.all k hk).2 hsz⟩
      · exact hO2.lt k hk
    · simp only [World.setCell, Array.size_modify]; exact Nat.le_trans h.base hsz
    · intro k hk
      rcases hk with hk | hk
      · exact .inl hk
      · exact (hbk k hk).2.2
    · refine Off.trans (O' := O) (w' := w2) ⟨hg2.os.trans hB1.os, hg2.tape.trans hB1.tape, hg2.output.trans hB1.output, hsz, fun k hk hn => hold k hk fun e => hn (h.outO k e).1⟩ (Off.set w2 9 _ h.self) (Sub.refl _ _)
  have HFin := Lib.hid hfin
  clear hfin
  have HR := Lib.hid hr
  have HO2 := Lib.hid hO2
  have HG2 := Lib.hid hg2
  have HF2 := Lib.hid hf2
  have HBl := Lib.hid hblk2
  have HB1 := Lib.hid hB1
  have H1 := Lib.hid h1
  clear h h1 hr hO2 hg2 hf2 hblk2 hB1 hS hsrc hdr hi hz0 hz1 hz2 hne
  go_enter Tryd.func38, Tryd.ntmps38
  have k0 : w.cell? ⟨b, 0, none⟩ = some (.int .i64 c.id) := H.out.cell rfl
  have k7 : w.cell? ⟨b, 7, none⟩ = some (.string c.data) := H.out.cell rfl
  have k9 : w.cell? ⟨b, 9, none⟩ = some ov := H.out.cell rfl
  have j9 : w2.cell? ⟨b, 9, none⟩ = some ov := HS2.out.2.2
  go_region_law (refine step_append_run rfl (.tmp 8) (.tmp 19) 42 42 rfl _ _ rfl rfl _ w2 HR.out ?_)
  all_goals go_end0
  all_goals exact ⟨rfl, HFin.out⟩

end Go.Proofs.YtmidfknlmjgjpaaDoor
