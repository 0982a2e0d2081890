/- The walks of the reader's take of entries and of items. The walks of the reader's take of entries. The walks of the reader's take of items. -/
import Derived.Test.YtmidfknlmjgjpaaDoorGO
import Derived.Test.YtmidfknlmjgjpaaDoorKCl1
import Derived.Deep.RegionLaw
namespace Go.Proofs.YtmidfknlmjgjpaaDoor
open Go.RowKit

theorem entsC_snoc (l : List Entry) (x : Entry) : entsC (l ++ [x]) = entsC l ++ (entC x).toList := by simp [entsC]
theorem E_info3 : (Tryd.prog.info? 27).map (fun i => (i.zero.map (fun z => z.cells.size), i.size, i.bytes)) = some (some 9, 9, 80) := by kernel_rfl
theorem set_E (m : Msg) (ev iv v : Value) : (msgC m ev iv).setIfInBounds 30 v = msgC m v iv := by
  simp only [msgC, List.setIfInBounds_toArray, List.set_cons_zero, List.set_cons_succ]
theorem msgC_entries (m : Msg) (ev iv : Value) (x : List Entry) : msgC { m with entries := x } ev iv = msgC m ev iv := rfl

set_option maxHeartbeats 1000000 in
theorem DAt.appendE {w1 : World} {O : Nat → Prop} {M R : Nat} {p : Option Addr} {cap : Nat} {l : List UInt8} {r : Rd} {m : Msg} {ev iv : Value} (h : DAt w1 O M R p cap l r m ev iv) (x : Entry) (hl : m.entries.length ≤ 1000) :
    ∃ (v' : Value) (w2 : World), (Builtin.append_ #[28, 28] 28 #[ev, .slice (some ⟨w1.heap.size, 0, none⟩) 1 1]).run Tryd.prog (w1.alloc (.cells (entC x) 27)) = .ok v' w2 ∧ w2.heap[M]? = some (.cells (msgC m ev iv) 31 (0, 0)) ∧
      ∃ (O' : Nat → Prop), DAt (w2.setCell ⟨M, 30, none⟩ v') O' M R p cap l r { m with entries := m.entries ++ [x] } v' iv ∧ Sub O O' w1 ∧ Off O w1 (w2.setCell ⟨M, 30, none⟩ v') := by
  obtain ⟨i0, hi, z, hz0, hzs, hz1, hz2⟩ : ∃ i, Tryd.prog.info? 27 = some i ∧ ∃ z, i.zero = some z ∧ z.cells.size = 9 ∧ i.size = 9 ∧ i.bytes = 80 := by
    have := E_info3
    rw [Option.map_eq_some_iff] at this
    obtain ⟨i, h1, h2⟩ := this
    simp only [Prod.mk.injEq] at h2
    obtain ⟨h2, h3, h4⟩ := h2
    rw [Option.map_eq_some_iff] at h2
    obtain ⟨z, h5, h6⟩ := h2
    exact ⟨i, h1, z, h5, h6, h3, h4⟩
  have hB1 : Below w1.heap.size w1 (w1.alloc (.cells (entC x) 27)) := (Below.refl _ _).alloc (Nat.le_refl _) _
  have h1 := h.quiet hB1
  have hsrc : Src Tryd.prog (w1.alloc (.cells (entC x) 27)) 28 9 (.slice (some ⟨w1.heap.size, 0, none⟩) 1 1) 1 (entC x).toList := by
    refine ⟨rfl, fun v hv => ?_, .inl ⟨⟨_, Tryd.underlying28⟩, .inr ⟨_, 1, rfl, fun j v hv => ?_⟩⟩⟩
    · exact (Array.all_eq_true_iff_forall_mem.1 (ent_one x)) v (by simpa using hv)
    · rw [add_plain, cell_of_row _ w1.heap.size _ _ _ _ (heap_alloc_new w1 _), Nat.zero_add]
      simpa using hv
  obtain ⟨v', w2, hr, hO2, hg2, hf2⟩ := run_append_Own2 (P := Tryd.prog) _ 0 28 28 28 27 i0 z 9 80 Tryd.underlying28 hi hz0 hz1 hz2 hzs ev _ _ h1.ents _ 1 _ hsrc (by simp only [maxLen]; omega) (by omega) (Nat.zero_le _)
  have hM : ev.ownBlock ≠ some M := fun e => (h.oe M e).2.1 rfl
  have hblk2 : w2.heap[M]? = some (.cells (msgC m ev iv) 31 (0, 0)) := (hg2.block M (h1.low M h1.oM) (fun e => hM e.symm)).trans h1.msg
  have hsz : w1.heap.size ≤ w2.heap.size := Nat.le_trans hB1.size hg2.size
  have hs2 : (w2.setCell ⟨M, 30, none⟩ v').heap.size = w2.heap.size := by simp [World.setCell]
  have hother : ∀ k, k ≠ M → (w2.setCell ⟨M, 30, none⟩ v').heap[k]? = w2.heap[k]? := fun k hk => Below.heap_setCell _ _ _ _ hk
  have hold : ∀ k, k < w1.heap.size → ev.ownBlock ≠ some k → w2.heap[k]? = w1.heap[k]? := fun k hk hn => (hg2.block k (Nat.lt_of_lt_of_le hk hB1.size) (fun e => hn e.symm)).trans (hB1.block k hk)
  have hbk : ∀ k, v'.ownBlock = some k → k ≠ M ∧ k ≠ R ∧ iv.ownBlock ≠ some k ∧ (O k ∨ w1.heap.size ≤ k) := by
    intro k hk
    rcases hf2 with e | e
    · rw [e] at hk
      have := h.oe k hk
      exact ⟨this.2.1, this.2.2.1, this.2.2.2, .inl this.1⟩
    · have h3 := e k hk
      have h4 : w1.heap.size ≤ k := Nat.le_trans hB1.size h3
      have hM1 := h.low M h.oM
      have hR1 := h.low R h.oR
      exact ⟨by omega, by omega, fun e2 => by have := h.low k (h.oi k e2).1; omega, .inr h4⟩
  have hoff : Off O w1 (w2.setCell ⟨M, 30, none⟩ v') := Off.trans (O' := O) (w' := w2) ⟨hg2.os.trans hB1.os, hg2.tape.trans hB1.tape, hg2.output.trans hB1.output, hsz, fun k hk hn => hold k hk fun e => hn (h.oe k e).1⟩ (Off.set (O := O) (b := M) w2 30 _ h.oM) (Sub.refl _ _)
  have hRk : ∀ k, k < w1.heap.size → k ≠ M → ev.ownBlock ≠ some k → (w2.setCell ⟨M, 30, none⟩ v').heap[k]? = w1.heap[k]? := fun k hk hm hn => (hother k hm).trans (hold k hk hn)
  refine ⟨v', w2, hr, hblk2, fun k => O k ∨ v'.ownBlock = some k, ⟨?_, ?_, ?_, ?_, .inl h.oM, .inl h.oR, h.ne, ?_, ?_, ?_, ?_⟩, ?_, hoff⟩
  · exact h.rd.upd (O := fun k => O k ∧ k ≠ R) ⟨hoff.os, hoff.tape, hoff.output, hoff.size, fun k hk hn => by
      by_cases e : k = R
      · rw [e]; exact hRk R (h.low R h.oR) (fun e => h.ne e.symm) (fun e2 => (h.oe R e2).2.2.1 rfl)
      · exact hoff.block k hk fun ho => hn ⟨ho, e⟩⟩ (fun a e ho => h.op a e ho.1) ((hRk R (h.low R h.oR) (fun e => h.ne e.symm) (fun e2 => (h.oe R e2).2.2.1 rfl)).trans h.rd.blk)
  · rw [set_block 30 _ hblk2, set_E]; rfl
  · show Own 0 _ 9 v' (m.entries ++ [x]).length (entsC (m.entries ++ [x]))
    rw [entsC_snoc, List.length_append]
    exact hO2.same (by rw [hs2]; exact Nat.le_refl _) fun k hk _ => hother k (hbk k hk).1
  · exact h.items.same (by rw [hs2]; exact hsz) fun k hk hlt => hRk k hlt (h.oi k hk).2.1 (fun e => (h.oe k e).2.2.2 hk)
  · intro k hk
    exact ⟨.inr hk, (hbk k hk).1, (hbk k hk).2.1, (hbk k hk).2.2.1⟩
  · intro k hk
    exact ⟨.inl (h.oi k hk).1, (h.oi k hk).2⟩
  · intro a e ho
    rcases ho with ho | ho
    · exact h.op a e ho
    · rcases (hbk _ ho).2.2.2 with h1 | h1
      · exact h.op a e h1
      · have := h.rd.low a e; omega
  · intro k hk
    rw [hs2]
    rcases hk with hk | hk
    · exact Nat.lt_of_lt_of_le (h.low k hk) hsz
    · exact (hO2.lt k hk).2
  · intro k hk
    rcases hk with hk | hk
    · exact .inl hk
    · exact (hbk k hk).2.2.2

theorem itemsC_snoc (l : List Item) (x : Item) : itemsC (l ++ [x]) = itemsC l ++ (itemC x).toList := by simp [itemsC]
theorem I_info3 : (Tryd.prog.info? 68).map (fun i => (i.zero.map (fun z => z.cells.size), i.size, i.bytes)) = some (some 15, 15, 128) := by kernel_rfl
theorem set_I (m : Msg) (ev iv v : Value) : (msgC m ev iv).setIfInBounds 31 v = msgC m ev v := by
  simp only [msgC, List.setIfInBounds_toArray, List.set_cons_zero, List.set_cons_succ]
theorem msgC_items (m : Msg) (ev iv : Value) (x : List Item) : msgC { m with items := x } ev iv = msgC m ev iv := rfl

set_option maxHeartbeats 1000000 in
theorem DAt.appendI {w1 : World} {O : Nat → Prop} {M R : Nat} {p : Option Addr} {cap : Nat} {l : List UInt8} {r : Rd} {m : Msg} {ev iv : Value} (h : DAt w1 O M R p cap l r m ev iv) (x : Item) (hl : m.items.length ≤ 1000) :
    ∃ (v' : Value) (w2 : World), (Builtin.append_ #[29, 29] 29 #[iv, .slice (some ⟨w1.heap.size, 0, none⟩) 1 1]).run Tryd.prog (w1.alloc (.cells (itemC x) 68)) = .ok v' w2 ∧ w2.heap[M]? = some (.cells (msgC m ev iv) 31 (0, 0)) ∧
      ∃ (O' : Nat → Prop), DAt (w2.setCell ⟨M, 31, none⟩ v') O' M R p cap l r { m with items := m.items ++ [x] } ev v' ∧ Sub O O' w1 ∧ Off O w1 (w2.setCell ⟨M, 31, none⟩ v') := by
  obtain ⟨i0, hi, z, hz0, hzs, hz1, hz2⟩ : ∃ i, Tryd.prog.info? 68 = some i ∧ ∃ z, i.zero = some z ∧ z.cells.size = 15 ∧ i.size = 15 ∧ i.bytes = 128 := by
    have := I_info3
    rw [Option.map_eq_some_iff] at this
    obtain ⟨i, h1, h2⟩ := this
    simp only [Prod.mk.injEq] at h2
    obtain ⟨h2, h3, h4⟩ := h2
    rw [Option.map_eq_some_iff] at h2
    obtain ⟨z, h5, h6⟩ := h2
    exact ⟨i, h1, z, h5, h6, h3, h4⟩
  have hB1 : Below w1.heap.size w1 (w1.alloc (.cells (itemC x) 68)) := (Below.refl _ _).alloc (Nat.le_refl _) _
  have h1 := h.quiet hB1
  have hsrc : Src Tryd.prog (w1.alloc (.cells (itemC x) 68)) 29 15 (.slice (some ⟨w1.heap.size, 0, none⟩) 1 1) 1 (itemC x).toList := by
    refine ⟨rfl, fun v hv => ?_, .inl ⟨⟨_, Tryd.underlying29⟩, .inr ⟨_, 1, rfl, fun j v hv => ?_⟩⟩⟩
    · exact (Array.all_eq_true_iff_forall_mem.1 (item_one' x)) v (by simpa using hv)
    · rw [add_plain, cell_of_row _ w1.heap.size _ _ _ _ (heap_alloc_new w1 _), Nat.zero_add]
      simpa using hv
  obtain ⟨v', w2, hr, hO2, hg2, hf2⟩ := run_append_Own2 (P := Tryd.prog) _ 0 29 29 29 68 i0 z 15 128 Tryd.underlying29 hi hz0 hz1 hz2 hzs iv _ _ h1.items _ 1 _ hsrc (by simp only [maxLen]; omega) (by omega) (Nat.zero_le _)
  have hM : iv.ownBlock ≠ some M := fun e => (h.oi M e).2.1 rfl
  have hblk2 : w2.heap[M]? = some (.cells (msgC m ev iv) 31 (0, 0)) := (hg2.block M (h1.low M h1.oM) (fun e => hM e.symm)).trans h1.msg
  have hsz : w1.heap.size ≤ w2.heap.size := Nat.le_trans hB1.size hg2.size
  have hs2 : (w2.setCell ⟨M, 31, none⟩ v').heap.size = w2.heap.size := by simp [World.setCell]
  have hother : ∀ k, k ≠ M → (w2.setCell ⟨M, 31, none⟩ v').heap[k]? = w2.heap[k]? := fun k hk => Below.heap_setCell _ _ _ _ hk
  have hold : ∀ k, k < w1.heap.size → iv.ownBlock ≠ some k → w2.heap[k]? = w1.heap[k]? := fun k hk hn => (hg2.block k (Nat.lt_of_lt_of_le hk hB1.size) (fun e => hn e.symm)).trans (hB1.block k hk)
  have hbk : ∀ k, v'.ownBlock = some k → k ≠ M ∧ k ≠ R ∧ ev.ownBlock ≠ some k ∧ (O k ∨ w1.heap.size ≤ k) := by
    intro k hk
    rcases hf2 with e | e
    · rw [e] at hk
      have := h.oi k hk
      exact ⟨this.2.1, this.2.2, fun e2 => (h.oe k e2).2.2.2 hk, .inl this.1⟩
    · have h3 := e k hk
      have h4 : w1.heap.size ≤ k := Nat.le_trans hB1.size h3
      have hM1 := h.low M h.oM
      have hR1 := h.low R h.oR
      exact ⟨by omega, by omega, fun e2 => by have := h.low k (h.oe k e2).1; omega, .inr h4⟩
  have hoff : Off O w1 (w2.setCell ⟨M, 31, none⟩ v') := Off.trans (O' := O) (w' := w2) ⟨hg2.os.trans hB1.os, hg2.tape.trans hB1.tape, hg2.output.trans hB1.output, hsz, fun k hk hn => hold k hk fun e => hn (h.oi k e).1⟩ (Off.set (O := O) (b := M) w2 31 _ h.oM) (Sub.refl _ _)
  have hRk : ∀ k, k < w1.heap.size → k ≠ M → iv.ownBlock ≠ some k → (w2.setCell ⟨M, 31, none⟩ v').heap[k]? = w1.heap[k]? := fun k hk hm hn => (hother k hm).trans (hold k hk hn)
  refine ⟨v', w2, hr, hblk2, fun k => O k ∨ v'.ownBlock = some k, ⟨?_, ?_, ?_, ?_, .inl h.oM, .inl h.oR, h.ne, ?_, ?_, ?_, ?_⟩, ?_, hoff⟩
  · exact h.rd.upd (O := fun k => O k ∧ k ≠ R) ⟨hoff.os, hoff.tape, hoff.output, hoff.size, fun k hk hn => by
      by_cases e : k = R
      · rw [e]; exact hRk R (h.low R h.oR) (fun e => h.ne e.symm) (fun e2 => (h.oi R e2).2.2 rfl)
      · exact hoff.block k hk fun ho => hn ⟨ho, e⟩⟩ (fun a e ho => h.op a e ho.1) ((hRk R (h.low R h.oR) (fun e => h.ne e.symm) (fun e2 => (h.oi R e2).2.2 rfl)).trans h.rd.blk)
  · rw [set_block 31 _ hblk2, set_I]; rfl
  · exact h.ents.same (by rw [hs2]; exact hsz) fun k hk hlt => hRk k hlt (h.oe k hk).2.1 (fun e => (h.oe k hk).2.2.2 e)
  · show Own 0 _ 15 v' (m.items ++ [x]).length (itemsC (m.items ++ [x]))
    rw [itemsC_snoc, List.length_append]
    exact hO2.same (by rw [hs2]; exact Nat.le_refl _) fun k hk _ => hother k (hbk k hk).1
  · intro k hk
    exact ⟨.inl (h.oe k hk).1, (h.oe k hk).2.1, (h.oe k hk).2.2.1, fun e => (hbk k e).2.2.1 hk⟩
  · intro k hk
    exact ⟨.inr hk, (hbk k hk).1, (hbk k hk).2.1⟩
  · intro a e ho
    rcases ho with ho | ho
    · exact h.op a e ho
    · rcases (hbk _ ho).2.2.2 with h1 | h1
      · exact h.op a e h1
      · have := h.rd.low a e; omega
  · intro k hk
    rw [hs2]
    rcases hk with hk | hk
    · exact Nat.lt_of_lt_of_le (h.low k hk) hsz
    · exact (hO2.lt k hk).2
  · intro k hk
    rcases hk with hk | hk
    · exact .inl hk
    · exact (hbk k hk).2.2.2

theorem many_stop {α : Type} (f : Rd → α × Rd) (n : Nat) (r : Rd) (h : n = 0 ∨ r.bad = true) : rdMany f n r = ([], r) := by
  cases n with
  | zero => rfl
  | succ n =>
    rcases h with h | h
    · omega
    · rw [rdMany, if_pos h]
theorem many_step {α : Type} (f : Rd → α × Rd) (n : Nat) (r : Rd) (h : r.bad = false) : rdMany f (n + 1) r = ((f r).1 :: (rdMany f n (f r).2).1, (rdMany f n (f r).2).2) := by
  rw [rdMany, if_neg (by rw [h]; simp)]

/-- The loop over the entries. -/
def LSt (l : List UInt8) (mT : Msg) (rT : Rd) (n : Nat) (m : Msg) (r : Rd) : Prop :=
  { m with entries := m.entries ++ (rdMany (rdEntry l) n r).1 } = mT ∧ (rdMany (rdEntry l) n r).2 = rT ∧ m.entries.length + n ≤ 600 ∧ r.pos ≤ 900000

theorem LSt.stop {l : List UInt8} {mT : Msg} {rT : Rd} {n : Nat} {m : Msg} {r : Rd} (h : LSt l mT rT n m r) (hs : n = 0 ∨ r.bad = true) : m = mT ∧ r = rT := by
  obtain ⟨h1, h2, _⟩ := h
  rw [many_stop _ _ _ hs] at h1 h2
  simp only [List.append_nil] at h1
  exact ⟨h1, h2⟩
theorem LSt.step {l : List UInt8} {mT : Msg} {rT : Rd} {n : Nat} {m : Msg} {r : Rd} (h : LSt l mT rT (n + 1) m r) (hb : r.bad = false) (hl : l.length ≤ 900000) : LSt l mT rT n { m with entries := m.entries ++ [(rdEntry l r).1] } (rdEntry l r).2 := by
  obtain ⟨h1, h2, h3, _⟩ := h
  rw [many_step _ _ _ hb] at h1 h2
  refine ⟨?_, h2, by simp; omega, Nat.le_trans (rdEntry_pos l r) hl⟩
  rw [← h1]
  simp only [List.append_assoc, List.singleton_append]

set_option maxRecDepth 100000 in
set_option maxHeartbeats 8000000 in
theorem take_L (w : World) (O : Nat → Prop) (M R : Nat) (p : Option Addr) (cap : Nat) (l : List UInt8) (r : Rd) (m : Msg) (ev iv : Value) (h : DAt w O M R p cap l r m ev iv) (hp : r.pos ≤ 800000) (hm : m.entries.length ≤ 300) :
    Calls Tryd.prog 54 #[.pointer (some ⟨R, 0, none⟩), .pointer (some ⟨M, 0, none⟩), .int .i32 76] w fun x w' => x = .returned (.tuple #[]) ∧ Tk O M R p cap l ({ m with entries := m.entries ++ (rdMany (rdEntry l) (rdNum l 1 r).1 (rdNum l 1 r).2).1 }, (rdMany (rdEntry l) (rdNum l 1 r).1 (rdNum l 1 r).2).2) w w' := by
  have H0 := Lib.hid h
  have HE1 := Lib.hid (rdOne_any R p cap l r (by omega) w h.rd)
  have hll := h.rd.len
  obtain ⟨n, hn⟩ : ∃ u, (rdNum l 1 r).1 = u := ⟨_, rfl⟩
  obtain ⟨r1, hr1⟩ : ∃ u, (rdNum l 1 r).2 = u := ⟨_, rfl⟩
  have hn2 : n < 256 := by rw [← hn]; exact takeN1_lt l r.pos
  have hq : r1.pos ≤ 900000 := by rw [← hr1, itemPos]; omega
  rw [hn, hr1] at HE1
  rw [hn, hr1]
  obtain ⟨mT, hmT⟩ : ∃ u, { m with entries := m.entries ++ (rdMany (rdEntry l) n r1).1 } = u := ⟨_, rfl⟩
  obtain ⟨rT, hrT⟩ : ∃ u, (rdMany (rdEntry l) n r1).2 = u := ⟨_, rfl⟩
  have hL : LSt l mT rT n m r1 := ⟨hmT, hrT, by omega, hq⟩
  rw [hmT, hrT]
  have HL := Lib.hid hL
  clear hL hmT hrT hn hr1 h hp hm hq
  go_enter Tryd.func54, Tryd.ntmps54
  go_wp2_with fail
  refine HE1.out.mono ?_
  rintro x w1 ⟨rfl, q, o⟩
  have H1 := Lib.hid (H0.out.call q o)
  have O1 := Lib.hid (o.sub (O' := O) (fun k hk => by rw [show k = R from hk]; exact H0.out.oR))
  clear q o
  go_wp2
  go_loopw [7] (fun i wr => ∃ (k : Nat) (m' : Msg) (r' : Rd) (O' : Nat → Prop) (ev' iv' : Value), k ≤ 255 ∧ i = .int .i64 k ∧ DAt wr O' M R p cap l r' m' ev' iv' ∧ Sub O O' w ∧ Off O w wr ∧ LSt l mT rT k m' r') (fun i _ => (intOf i).toNat)
  case atStart => exact ⟨n, m, r1, O, ev, iv, by omega, rfl, H1.out, Sub.refl _ _, O1.out, HL.out⟩
  case round =>
    obtain ⟨k, m', r', O', ev', iv', hk, rfl, hd, hs, ho, hl⟩ := hrel
    have HD := Lib.hid hd
    have HS := Lib.hid hs
    have HO := Lib.hid ho
    have HLk := Lib.hid hl
    clear hs ho hl HL O1 H1
    by_cases h0 : k = 0
    · subst h0
      obtain ⟨rfl, rfl⟩ := HLk.out.stop (.inl rfl)
      clear hd
      go_wp2
      go_end0
      exact ⟨rfl, O', ev', iv', HD.out, HS.out, HO.out⟩
    · have hpos : (0 : Int) < (k : Int) := by omega
      cases hb : r'.bad
      · have HB := Lib.hid hb
        clear hb
        have c2 : wr.cell? ⟨R, 2, none⟩ = some (.bool false) := by rw [← HB.out]; exact cell_of_row _ _ _ _ _ _ hd.rd.blk
        have c30 : wr.cell? ⟨M, 30, none⟩ = some ev' := cell_of_row _ _ _ _ _ _ hd.msg
        clear hd
        have HDd := Lib.hid (HD.out.quiet (below_drewN (Below.refl _ _) 1))
        have HOd := Lib.hid (HO.out.trans (Off.of_below (O := O') (below_drewN (Below.refl wr.heap.size wr) 1)) HS.out)
        have HE := Lib.hid (rdEntry_any R p cap l r' (Nat.le_trans HLk.out.2.2.2 (by omega)) _ HDd.out.rd)
        have HNext := Lib.hid (LSt.step (n := k - 1) (by rw [Nat.sub_add_cancel (by omega)]; exact HLk.out) HB.out (by omega))
        have HLen : Hid (m'.entries.length ≤ 1000) := Nat.le_trans (Nat.le_of_add_right_le HLk.out.2.2.1) (by omega)
        obtain ⟨x, hx⟩ : ∃ x, (rdEntry l r').1 = x := ⟨_, rfl⟩
        obtain ⟨r2, hr2⟩ : ∃ x, (rdEntry l r').2 = x := ⟨_, rfl⟩
        rw [hx, hr2] at HE HNext
        have hw : IntKind.i64.wrap ((k : Int) - 1) = ((k - 1 : Nat) : Int) := by rw [wrap_i64_small (by omega) (by omega)]; omega
        clear hx hr2
        go_wp2_with fail
        go_region_law (first
          | (obtain ⟨v', w2, hr, hm2, hfin⟩ := HD1.out.appendE x HLen.out; obtain ⟨Oz, hz, _, _⟩ := id hfin; obtain ⟨pa, cp, rfl, _, _⟩ := hz.ents.shape; have HFin := Lib.hid hfin; clear hz; have j30 : w2.cell? ⟨M, 30, none⟩ = some ev' := cell_of_row _ _ _ _ _ _ hm2; have z30 := frozen_row hm2 30; have HR := Lib.hid hr; clear hr hm2 hfin; refine step_append_run rfl (.tmp 63) (.tmp 66) 28 28 rfl _ _ rfl rfl _ w2 HR.out ?_)
          | (go_simp; go_at_call 79; refine HE.out.mono ?_; rintro y w1 ⟨rfl, q1, o1⟩; unfold entC; have HD1 := Lib.hid (HDd.out.call q1 o1); have HO1 := Lib.hid (HOd.out.trans (o1.sub (O' := O') (fun k hk => by rw [show k = R from hk]; exact HDd.out.oR)) HS.out); have j30 : w1.cell? ⟨M, 30, none⟩ = some ev' := cell_of_row _ _ _ _ _ _ HD1.out.msg; have j30b : ∀ cs, (w1.alloc (.cells cs 27)).cell? ⟨M, 30, none⟩ = some ev' := fun cs => (World.cell?_alloc_lt _ _ _ (HD1.out.low M HD1.out.oM)).trans j30; clear q1 o1))
        all_goals
          obtain ⟨Oz, hz, hs2, ho2⟩ := HFin.out
          simp only [List.length_append, List.length_cons, List.length_nil, Nat.zero_add] at hz ho2
          go_wp2
          go_roundw
          case rel => exact ⟨k - 1, _, r2, Oz, _, _, by omega, by go_num, hz, HS.out.trans hs2 HO1.out.size, HO1.out.trans ho2 HS.out, HNext.out⟩
          case measure => simp [intOf]; omega
      · have HB := Lib.hid hb
        obtain ⟨rfl, rfl⟩ := HLk.out.stop (.inr hb)
        clear hb
        have c2 : wr.cell? ⟨R, 2, none⟩ = some (.bool true) := by rw [← HB.out]; exact cell_of_row _ _ _ _ _ _ hd.rd.blk
        clear hd
        go_wp2
        go_end0
        exact ⟨rfl, O', ev', iv', HD.out, HS.out, HO.out⟩

theorem rdItem_pos (l : List UInt8) (r : Rd) : (rdItem l r).2.pos ≤ max (r.pos + 41) l.length := by
  unfold rdItem
  by_cases h1 : (rdNum l 1 r).1 = 1
  · simp only [h1, if_true]
    exact Nat.le_trans (rdEntry_pos l _) (Nat.le_max_right _ _)
  · by_cases h2 : (rdNum l 1 r).1 = 2
    · simp only [h1, h2, if_true, if_false]
      show r.pos + 1 + 8 + 8 + 8 + 8 + 8 ≤ _
      omega
    · simp only [h1, h2, if_false]
      show r.pos + 1 ≤ _
      omega

/-- The loop over the items. -/
def ISt (l : List UInt8) (mT : Msg) (rT : Rd) (n : Nat) (m : Msg) (r : Rd) : Prop :=
  { m with items := m.items ++ (rdMany (rdItem l) n r).1 } = mT ∧ (rdMany (rdItem l) n r).2 = rT ∧ m.items.length + n ≤ 600 ∧ r.pos + 41 * n ≤ 900000

theorem ISt.stop {l : List UInt8} {mT : Msg} {rT : Rd} {n : Nat} {m : Msg} {r : Rd} (h : ISt l mT rT n m r) (hs : n = 0 ∨ r.bad = true) : m = mT ∧ r = rT := by
  obtain ⟨h1, h2, _⟩ := h
  rw [many_stop _ _ _ hs] at h1 h2
  simp only [List.append_nil] at h1
  exact ⟨h1, h2⟩
theorem ISt.step {l : List UInt8} {mT : Msg} {rT : Rd} {n : Nat} {m : Msg} {r : Rd} (h : ISt l mT rT (n + 1) m r) (hb : r.bad = false) (hl : l.length ≤ 100000) : ISt l mT rT n { m with items := m.items ++ [(rdItem l r).1] } (rdItem l r).2 := by
  obtain ⟨h1, h2, h3, h4⟩ := h
  rw [many_step _ _ _ hb] at h1 h2
  have hp := rdItem_pos l r
  refine ⟨?_, h2, by simp; omega, by omega⟩
  rw [← h1]
  simp only [List.append_assoc, List.singleton_append]

set_option maxRecDepth 100000 in
set_option maxHeartbeats 8000000 in
theorem take_I (w : World) (O : Nat → Prop) (M R : Nat) (p : Option Addr) (cap : Nat) (l : List UInt8) (r : Rd) (m : Msg) (ev iv : Value) (h : DAt w O M R p cap l r m ev iv) (hp : r.pos ≤ 800000) (hm : m.items.length ≤ 300) :
    Calls Tryd.prog 54 #[.pointer (some ⟨R, 0, none⟩), .pointer (some ⟨M, 0, none⟩), .int .i32 73] w fun x w' => x = .returned (.tuple #[]) ∧ Tk O M R p cap l ({ m with items := m.items ++ (rdMany (rdItem l) 8 r).1 }, (rdMany (rdItem l) 8 r).2) w w' := by
  have H0 := Lib.hid h
  have hll := h.rd.len
  obtain ⟨mT, hmT⟩ : ∃ u, { m with items := m.items ++ (rdMany (rdItem l) 8 r).1 } = u := ⟨_, rfl⟩
  obtain ⟨rT, hrT⟩ : ∃ u, (rdMany (rdItem l) 8 r).2 = u := ⟨_, rfl⟩
  have hL : ISt l mT rT 8 m r := ⟨hmT, hrT, by omega, by omega⟩
  rw [hmT, hrT]
  have HL := Lib.hid hL
  clear hL hmT hrT h hp hm
  go_enter Tryd.func54, Tryd.ntmps54
  go_wp2
  go_loopw [8] (fun i wr => ∃ (k : Nat) (m' : Msg) (r' : Rd) (O' : Nat → Prop) (ev' iv' : Value), k ≤ 8 ∧ i = .int .i64 k ∧ DAt wr O' M R p cap l r' m' ev' iv' ∧ Sub O O' w ∧ Off O w wr ∧ ISt l mT rT (8 - k) m' r') (fun i _ => 8 - (intOf i).toNat)
  case atStart => exact ⟨0, m, r, O, ev, iv, by omega, rfl, H0.out, Sub.refl _ _, Off.refl _ _, HL.out⟩
  case round =>
    obtain ⟨k, m', r', O', ev', iv', hk, rfl, hd, hs, ho, hl⟩ := hrel
    have HD := Lib.hid hd
    have HS := Lib.hid hs
    have HO := Lib.hid ho
    have HLk := Lib.hid hl
    clear hs ho hl HL
    by_cases h0 : k = 8
    · subst h0
      obtain ⟨rfl, rfl⟩ := HLk.out.stop (.inl rfl)
      clear hd
      go_wp2
      go_end0
      exact ⟨rfl, O', ev', iv', HD.out, HS.out, HO.out⟩
    · have hpos : (k : Int) < 8 := by omega
      cases hb : r'.bad
      · have HB := Lib.hid hb
        clear hb
        have c2 : wr.cell? ⟨R, 2, none⟩ = some (.bool false) := by rw [← HB.out]; exact cell_of_row _ _ _ _ _ _ hd.rd.blk
        have c30 : wr.cell? ⟨M, 31, none⟩ = some iv' := cell_of_row _ _ _ _ _ _ hd.msg
        clear hd
        have HDd := Lib.hid (HD.out.quiet (below_drewN (Below.refl _ _) 1))
        have HOd := Lib.hid (HO.out.trans (Off.of_below (O := O') (below_drewN (Below.refl wr.heap.size wr) 1)) HS.out)
        have HE := Lib.hid (rdItem_any R p cap l r' (by have := HLk.out.2.2.2; omega) _ HDd.out.rd)
        have HNext := Lib.hid (ISt.step (n := 7 - k) (by rw [show 7 - k + 1 = 8 - k by omega]; exact HLk.out) HB.out (by omega))
        have HLen : Hid (m'.items.length ≤ 1000) := Nat.le_trans (Nat.le_of_add_right_le HLk.out.2.2.1) (by omega)
        obtain ⟨x, hx⟩ : ∃ x, (rdItem l r').1 = x := ⟨_, rfl⟩
        obtain ⟨r2, hr2⟩ : ∃ x, (rdItem l r').2 = x := ⟨_, rfl⟩
        rw [hx, hr2] at HE HNext
        have hw : IntKind.i64.wrap ((k : Int) + 1) = ((k + 1 : Nat) : Int) := by rw [wrap_i64_small (by omega) (by omega)]; omega
        clear hx hr2
        go_wp2_with fail
        go_region_law (first
          | (obtain ⟨v', w2, hr, hm2, hfin⟩ := HD1.out.appendI x HLen.out; obtain ⟨Oz, hz, _, _⟩ := id hfin; obtain ⟨pa, cp, rfl, _, _⟩ := hz.items.shape; have HFin := Lib.hid hfin; clear hz; have j30 : w2.cell? ⟨M, 31, none⟩ = some iv' := cell_of_row _ _ _ _ _ _ hm2; have z30 := frozen_row hm2 31; have HR := Lib.hid hr; clear hr hm2 hfin; refine step_append_run rfl (.tmp 87) (.tmp 90) 29 29 rfl _ _ rfl rfl _ w2 HR.out ?_)
          | (go_simp; go_at_call 81; refine HE.out.mono ?_; rintro y w1 ⟨rfl, q1, o1⟩; unfold itemC; have HD1 := Lib.hid (HDd.out.call q1 o1); have HO1 := Lib.hid (HOd.out.trans (o1.sub (O' := O') (fun k hk => by rw [show k = R from hk]; exact HDd.out.oR)) HS.out); have j30 : w1.cell? ⟨M, 31, none⟩ = some iv' := cell_of_row _ _ _ _ _ _ HD1.out.msg; have j30b : ∀ cs, (w1.alloc (.cells cs 68)).cell? ⟨M, 31, none⟩ = some iv' := fun cs => (World.cell?_alloc_lt _ _ _ (HD1.out.low M HD1.out.oM)).trans j30; clear q1 o1))
        all_goals
          obtain ⟨Oz, hz, hs2, ho2⟩ := HFin.out
          simp only [List.length_append, List.length_cons, List.length_nil, Nat.zero_add] at hz ho2
          go_wp2
          go_roundw
          case rel => exact ⟨k + 1, _, r2, Oz, _, _, by omega, by go_num, hz, HS.out.trans hs2 HO1.out.size, HO1.out.trans ho2 HS.out, by rw [show 8 - (k + 1) = 7 - k by omega]; exact HNext.out⟩
          case measure => simp [intOf]; omega
      · have HB := Lib.hid hb
        obtain ⟨rfl, rfl⟩ := HLk.out.stop (.inr hb)
        clear hb
        have c2 : wr.cell? ⟨R, 2, none⟩ = some (.bool true) := by rw [← HB.out]; exact cell_of_row _ _ _ _ _ _ hd.rd.blk
        clear hd
        go_wp2
        go_end0
        exact ⟨rfl, O', ev', iv', HD.out, HS.out, HO.out⟩

end Go.Proofs.YtmidfknlmjgjpaaDoor
