/- The walk of msg.Right: the loop. -/
import Derived.Test.YtmidfknlmjgjpaaDoorGH
import Derived.Test.YtmidfknlmjgjpaaDoorKRow
import Derived.Deep.Cut
import Derived.Deep.CutRange
namespace Go.Proofs.YtmidfknlmjgjpaaDoor
open Go.RowKit

theorem all_not {α : Type} {p : α → Bool} {l : List α} {k : Nat} {x : α} (h : l[k]? = some x) (hp : p x = false) : l.all p = false := list_false h hp

/-- The state of the loop. -/
def RLoop (m : Msg) (ev iv : Value) (w wA wr : World) (k : Nat) : Prop :=
  w.heap.size + 1 ≤ wA.heap.size ∧ MBox m ev iv w wr ∧ Below wA.heap.size wA wr ∧ wA.heap.size + 2 ≤ wr.heap.size ∧ wr.heap[wA.heap.size]? = some (.cells (msgC (wipes m ((fieldsOf m.kind).take k)) (wipesE ev ((fieldsOf m.kind).take k)) (wipesI iv ((fieldsOf m.kind).take k))) 31 (0, 0)) ∧
    wr.heap[wA.heap.size + 1]? = some (.stringIter (str (fieldsOf m.kind)) k) ∧ ((fieldsOf m.kind).take k).all (numFit m) = true

theorem RLoop.start {m : Msg} {ev iv : Value} {w wA : World} (h : MBox m ev iv w wA) : RLoop m ev iv w wA ((wA.alloc (.cells (msgC m ev iv) 31)).iter (str (fieldsOf m.kind)) 0) 0 := by
  have b1 : Below wA.heap.size wA (wA.alloc (.cells (msgC m ev iv) 31)) := (Below.refl _ _).alloc (Nat.le_refl _) _
  have b2 : Below wA.heap.size wA ((wA.alloc (.cells (msgC m ev iv) 31)).iter (str (fieldsOf m.kind)) 0) := b1.alloc (by simp) _
  refine ⟨h.size, h.later b2, b2, by simp [World.iter], ?_, iter_at2 _ _ _ _, rfl⟩
  have e := heap_alloc_new wA (.cells (msgC m ev iv) 31 (0, 0))
  have := Below.heap_alloc (wA.alloc (.cells (msgC m ev iv) 31)) (.stringIter (str (fieldsOf m.kind)) 0) wA.heap.size (by simp)
  exact this.trans e

/-- One round. -/
theorem RLoop.next {m : Msg} {ev iv : Value} {w wA wr w2 : World} {k : Nat} {c : UInt8} (h : RLoop m ev iv w wA wr k) (hc : (fieldsOf m.kind)[k]? = some c) (hf : numFit m c = true)
    (hb : w2.heap[wA.heap.size]? = some (.cells (msgC (wipeM (wipes m ((fieldsOf m.kind).take k)) c) (wipeE (wipesE ev ((fieldsOf m.kind).take k)) c) (wipeI (wipesI iv ((fieldsOf m.kind).take k)) c)) 31 (0, 0)))
    (hg : (setIter wr (wA.heap.size + 1) (str (fieldsOf m.kind)) (k + 1)).grownBy w2 (some wA.heap.size)) : RLoop m ev iv w wA w2 (k + 1) := by
  obtain ⟨hz, h1, h2, h3, h4, h5, h6⟩ := h
  have b1 : Below wA.heap.size wr (setIter wr (wA.heap.size + 1) (str (fieldsOf m.kind)) (k + 1)) := setIter_below _ _ _ _ (by omega)
  have b2 : Below wA.heap.size (setIter wr (wA.heap.size + 1) (str (fieldsOf m.kind)) (k + 1)) w2 := (Below.refl _ _).grown hg (by rw [setIter_size]; omega) (fun j hj => by simp only [Option.some.injEq] at hj; omega)
  have htk : (fieldsOf m.kind).take (k + 1) = (fieldsOf m.kind).take k ++ [c] := by rw [List.take_add_one, hc]; rfl
  refine ⟨hz, Below.trans h1 ((b1.trans b2).mono hz), h2.trans (b1.trans b2), ?_, ?_, ?_, ?_⟩
  · have := hg.size; rw [setIter_size] at this; omega
  · rw [htk, wipes_snoc, wipesE_snoc, wipesI_snoc]; exact hb
  · rw [hg.block (wA.heap.size + 1) (by rw [setIter_size]; omega) (by simp)]
    exact setIter_at _ _ h5
  · exact list_snoc hc hf h6

theorem RLoop.box {m : Msg} {ev iv : Value} {w wA wr : World} {k : Nat} (h : RLoop m ev iv w wA wr k) {j : Nat} {v : Value} (hv : (msgC m ev iv)[j]? = some v) : wr.cell? ⟨w.heap.size, j, none⟩ = some v := h.2.1.cell hv
theorem RLoop.boxN {m : Msg} {ev iv : Value} {w wA wr : World} {k : Nat} (h : RLoop m ev iv w wA wr k) (p : Nat) {j : Nat} {v : Value} (hv : (msgC m ev iv)[j]? = some v) : (setIter wr (wA.heap.size + 1) (str (fieldsOf m.kind)) p).cell? ⟨w.heap.size, j, none⟩ = some v := by
  have e := setIter_other wr (wA.heap.size + 1) (str (fieldsOf m.kind)) p (k := w.heap.size) (by have := h.1; omega)
  rw [World.cell?_of_block (w := wr) (a := ⟨w.heap.size, j, none⟩) e]
  exact h.box hv
theorem RLoop.rest {m : Msg} {ev iv : Value} {w wA wr : World} {k : Nat} (h : RLoop m ev iv w wA wr k) (p : Nat) : (setIter wr (wA.heap.size + 1) (str (fieldsOf m.kind)) p).heap[wA.heap.size]? = some (.cells (msgC (wipes m ((fieldsOf m.kind).take k)) (wipesE ev ((fieldsOf m.kind).take k)) (wipesI iv ((fieldsOf m.kind).take k))) 31 (0, 0)) := by
  rw [setIter_other _ _ _ _ (by omega)]
  exact h.2.2.2.2.1
theorem RLoop.iter {m : Msg} {ev iv : Value} {w wA wr : World} {k : Nat} (h : RLoop m ev iv w wA wr k) : wr.heap[wA.heap.size + 1]? = some (.stringIter (str (fieldsOf m.kind)) k) := h.2.2.2.2.2.1
theorem RLoop.fits {m : Msg} {ev iv : Value} {w wA wr : World} {k : Nat} (h : RLoop m ev iv w wA wr k) : ((fieldsOf m.kind).take k).all (numFit m) = true := h.2.2.2.2.2.2
theorem RLoop.below {m : Msg} {ev iv : Value} {w wA wr : World} {k : Nat} (h : RLoop m ev iv w wA wr k) : Below w.heap.size w wr := h.2.1.below
theorem RLoop.belowN {m : Msg} {ev iv : Value} {w wA wr : World} {k : Nat} (h : RLoop m ev iv w wA wr k) (p : Nat) : Below w.heap.size w (setIter wr (wA.heap.size + 1) (str (fieldsOf m.kind)) p) :=
  h.below.trans (setIter_below _ _ _ _ (by have := h.1; omega))

theorem msgC_one (m : Msg) (ea ia : Option Addr) (en ec xn ic : Nat) : (msgC m (.slice ea en ec) (.slice ia xn ic)).all (·.oneCell') = true := by
  simp [msgC, Value.oneCell']
theorem msg_info : (Tryd.prog.info? 31).map (·.size) = some 33 := by kernel_rfl

set_option maxRecDepth 100000 in
set_option maxHeartbeats 2000000 in
theorem right_main (m : Msg) (ea ia : Option Addr) (ec ic : Nat) (w : World) (ha : AllAt w) (hk1 : 1 ≤ m.kind) (hk2 : m.kind ≤ 16) (h : headOk m = true) (hb : m.body.size ≤ mostOf m.kind) (hE : (!(fieldsOf m.kind).contains 69 || m.entry.right) = true)
    (hw : m.wf) (hre : RowAt w ea m.entries.length 9 (entAt m.entries)) (hri : RowAt w ia m.items.length 15 (itemAt m.items)) :
    Calls Tryd.prog 21 #[.agg (msgC m (.slice ea m.entries.length ec) (.slice ia m.items.length ic))] w fun e w' => e = .returned (.bool (rightM m)) ∧ Below w.heap.size w w' := by
  have Hh := Lib.hid h
  have Hb := Lib.hid hb
  have HE0 := Lib.hid hE
  have HW := Lib.hid hw
  have HRE := Lib.hid hre
  have HRI := Lib.hid hri
  have HM0 : Hid (MBox m (.slice ea m.entries.length ec) (.slice ia m.items.length ic) w (w.alloc (.cells (msgC m (.slice ea m.entries.length ec) (.slice ia m.items.length ic)) 31))) := Below.refl _ _
  have HA := Lib.hid (ha.later ((Below.refl w.heap.size w).alloc (Nat.le_refl _) (.cells (msgC m (.slice ea m.entries.length ec) (.slice ia m.items.length ic)) 31)))
  obtain ⟨s0, s1, o1, f1, f2⟩ := headOk_true h
  have hc : (((m.kind == 15) = true ∧ m.body.size ≤ 320) ∨ ((m.kind == 15) = false ∧ m.body.size ≤ 200)) ∧ ((fieldsOf m.kind).contains 69 = false ∨ ((fieldsOf m.kind).contains 69 = true ∧ m.entry.right = true)) := by
    refine ⟨?_, ?_⟩
    · unfold mostOf at hb
      by_cases e : m.kind = 15
      · rw [if_pos e] at hb; exact .inl ⟨by simp [e], hb⟩
      · rw [if_neg e] at hb; exact .inr ⟨by simp [e], hb⟩
    · cases e : (fieldsOf m.kind).contains 69
      · exact .inl rfl
      · rw [e] at hE; exact .inr ⟨rfl, by simpa using hE⟩
  clear h hb hE hw hre hri ha
  have hes := HW.out.1.2
  obtain ⟨hc1, hc2⟩ := hc
  have hbx : (w.alloc (.cells (msgC m (.slice ea m.entries.length ec) (.slice ia m.items.length ic)) 31)).heap[w.heap.size]? = some (.cells (msgC m (.slice ea m.entries.length ec) (.slice ia m.items.length ic)) 31 (0, 0)) := heap_alloc_new w _
  have b0 : (w.alloc (.cells (msgC m (.slice ea m.entries.length ec) (.slice ia m.items.length ic)) 31)).cell? ⟨w.heap.size, 0, none⟩ = some (.int .i64 m.kind) := HM0.out.cell rfl
  have b1 : (w.alloc (.cells (msgC m (.slice ea m.entries.length ec) (.slice ia m.items.length ic)) 31)).cell? ⟨w.heap.size, 1, none⟩ = some (.int .i64 m.src) := HM0.out.cell rfl
  have b9 : (w.alloc (.cells (msgC m (.slice ea m.entries.length ec) (.slice ia m.items.length ic)) 31)).cell? ⟨w.heap.size, 9, none⟩ = some (.int .i64 m.operation) := HM0.out.cell rfl
  have b12 : (w.alloc (.cells (msgC m (.slice ea m.entries.length ec) (.slice ia m.items.length ic)) 31)).cell? ⟨w.heap.size, 12, none⟩ = some (.int .i64 m.check.op) := HM0.out.cell rfl
  have b13 : (w.alloc (.cells (msgC m (.slice ea m.entries.length ec) (.slice ia m.items.length ic)) 31)).cell? ⟨w.heap.size, 13, none⟩ = some (.int .i64 m.check.view) := HM0.out.cell rfl
  have b32 : (w.alloc (.cells (msgC m (.slice ea m.entries.length ec) (.slice ia m.items.length ic)) 31)).cell? ⟨w.heap.size, 32, none⟩ = some (.string m.body) := HM0.out.cell rfl
  have b21 : (w.alloc (.cells (msgC m (.slice ea m.entries.length ec) (.slice ia m.items.length ic)) 31)).cell? ⟨w.heap.size, 21, none⟩ = some (.int .i64 m.entry.view) := HM0.out.cell rfl
  have b22 : (w.alloc (.cells (msgC m (.slice ea m.entries.length ec) (.slice ia m.items.length ic)) 31)).cell? ⟨w.heap.size, 22, none⟩ = some (.int .i64 m.entry.op) := HM0.out.cell rfl
  have b23 : (w.alloc (.cells (msgC m (.slice ea m.entries.length ec) (.slice ia m.items.length ic)) 31)).cell? ⟨w.heap.size, 23, none⟩ = some (.int .i64 m.entry.under) := HM0.out.cell rfl
  have b24 : (w.alloc (.cells (msgC m (.slice ea m.entries.length ec) (.slice ia m.items.length ic)) 31)).cell? ⟨w.heap.size, 24, none⟩ = some (.int .u64 m.entry.parent) := HM0.out.cell rfl
  have b25 : (w.alloc (.cells (msgC m (.slice ea m.entries.length ec) (.slice ia m.items.length ic)) 31)).cell? ⟨w.heap.size, 25, none⟩ = some (.int .i64 m.entry.client) := HM0.out.cell rfl
  have b26 : (w.alloc (.cells (msgC m (.slice ea m.entries.length ec) (.slice ia m.items.length ic)) 31)).cell? ⟨w.heap.size, 26, none⟩ = some (.int .i64 m.entry.session) := HM0.out.cell rfl
  have b27 : (w.alloc (.cells (msgC m (.slice ea m.entries.length ec) (.slice ia m.items.length ic)) 31)).cell? ⟨w.heap.size, 27, none⟩ = some (.int .i64 m.entry.request) := HM0.out.cell rfl
  have b28 : (w.alloc (.cells (msgC m (.slice ea m.entries.length ec) (.slice ia m.items.length ic)) 31)).cell? ⟨w.heap.size, 28, none⟩ = some (.int .i64 m.entry.operation) := HM0.out.cell rfl
  have b29 : (w.alloc (.cells (msgC m (.slice ea m.entries.length ec) (.slice ia m.items.length ic)) 31)).cell? ⟨w.heap.size, 29, none⟩ = some (.string m.entry.body) := HM0.out.cell rfl
  rcases hc2 with hc2 | ⟨hc2, hc3⟩
  · have HE := Lib.hid hc2
    clear hc2 b21 b22 b23 b24 b25 b26 b27 b28 b29
    rcases hc1 with ⟨h15, hlen⟩ | ⟨h15, hlen⟩
    · go_enter Tryd.func21, Tryd.ntmps21
      go_upto_region 9 with (first | (go_at_call 31; refine (fields_yes _ hk1 hk2 _ HA.out).mono ?_; rintro x w1 ⟨rfl, rfl⟩) | (go_at_call 42; refine (may_any _ _).mono ?_; rintro x w1 ⟨rfl, rfl⟩) | (go_at_call 43; refine (Tryd.strings_ContainsRune_ascii _ 69 _ (by omega) (by omega)).mono ?_; rintro x w1 ⟨rfl, rfl⟩; rw [fields_E hk1 hk2, HE.out]))
      have hinfo : (Tryd.prog.info? 31).map (·.size) = some (msgC m (.slice ea m.entries.length ec) (.slice ia m.items.length ic)).size := msg_info
      have hlaw := fun (o : Oper) (ops : Array Oper) (rest : List Oper) (a : Act) (Q : Exit → Act → World → Prop) (hgd : o.guard = none) (x : Operand) (ho : o.op = .load 31 x) (hx : a.eval x = .pointer (some ⟨w.heap.size, 0, none⟩)) h => wpList_load_row (ops := ops) (rest := rest) (a := a) (Q := Q) hgd 31 x ho w.heap.size hx 31 _ (0, 0) _ hbx Tryd.underlying31 rfl hinfo h
      have HL := Lib.hid hlaw
      clear hlaw
      have hlS := fun (o : Oper) (ops : Array Oper) (rest : List Oper) (a : Act) (wA : World) (old : Array Value) (Q : Exit → Act → World → Prop) (hgd : o.guard = none) (x y : Operand) (ho : o.op = .store 31 x y) (g : Nat) (hx : a.eval x = .pointer (some ⟨g, 0, none⟩)) (hg : wA.heap.size = g) (hy : a.eval y = .agg (msgC m (.slice ea m.entries.length ec) (.slice ia m.items.length ic))) (hs : old.size = 33) h =>
        wpList_store_alloc (ops := ops) (rest := rest) (a := a) (w := wA) (Q := Q) hgd 31 x y ho 31 g hg old (msgC m (.slice ea m.entries.length ec) (.slice ia m.items.length ic)) hx hy hinfo hs (msgC_one _ _ _ _ _ _ _) h
      have HS := Lib.hid hlS
      clear hlS hinfo
      go_wp2_with (first | (refine HL.out ⟨some 65, _, _, _, _, _⟩ _ _ _ _ rfl _ rfl rfl ?_) | (refine HS.out ⟨none, _, _, _, _, _⟩ _ _ _ _ _ _ rfl _ _ rfl _ rfl (by simp) rfl rfl ?_))
      clear HS HL hbx b0 b1 b9 b12 b13 b32
      go_loopw [] (fun wr => ∃ k : Nat, k ≤ (fieldsOf m.kind).length ∧ RLoop m (.slice ea m.entries.length ec) (.slice ia m.items.length ic) w (w.alloc (.cells (msgC m (.slice ea m.entries.length ec) (.slice ia m.items.length ic)) 31)) wr k) (fun wr => (fieldsOf m.kind).length - wr.iterPos (w.heap.size + 2))
      case atStart => exact ⟨0, by omega, RLoop.start HM0.out⟩
      case round =>
        obtain ⟨k, hk, hL⟩ := hrel
        have hzA : (w.alloc (.cells (msgC m (.slice ea m.entries.length ec) (.slice ia m.items.length ic)) 31)).heap.size = w.heap.size + 1 := by simp
        have HI : Hid (wr.heap[w.heap.size + 2]? = some (.stringIter (str (fieldsOf m.kind)) k)) := by
          have := hL.iter
          rw [hzA] at this
          exact this
        have hsz : w.heap.size + 2 < wr.heap.size := (Array.getElem?_eq_some_iff.1 HI.out).1
        have hsz2 : w.heap.size + 1 < w.heap.size + 2 := by omega
        have hsz3 : w.heap.size < w.heap.size + 1 := by have := hL.1; rw [hzA] at this; omega
        have HLp := Lib.hid hL
        clear hL
        by_cases hlt : k < (fieldsOf m.kind).length
        · obtain ⟨c, hc⟩ : ∃ c, (fieldsOf m.kind)[k]? = some c := ⟨(fieldsOf m.kind)[k], List.getElem?_eq_getElem hlt⟩
          have hcm := fieldsOf_mem (List.mem_of_getElem? hc)
          have hn := fun ty => run_next_at (P := Tryd.prog) ty HI.out hc (fieldL_small hcm)
          have HN := Lib.hid (setIter_at (str (fieldsOf m.kind)) (k + 1) HI.out)
          have HR : Hid ((setIter wr (w.heap.size + 2) (str (fieldsOf m.kind)) (k + 1)).heap[w.heap.size + 1]? = some (.cells (msgC (wipes m ((fieldsOf m.kind).take k)) (wipesE (.slice ea m.entries.length ec) ((fieldsOf m.kind).take k)) (wipesI (.slice ia m.items.length ic) ((fieldsOf m.kind).take k))) 31 (0, 0))) := by
            have := HLp.out.rest (k + 1)
            rw [hzA] at this
            exact this
          have HS : Hid (((w.alloc (.cells (msgC m (.slice ea m.entries.length ec) (.slice ia m.items.length ic)) 31)).heap.size + 1) = w.heap.size + 2) := by show _ = _; rw [hzA]
          have Hc := Lib.hid hc
          have Hcm := Lib.hid hcm
          have HzA := Lib.hid hzA
          have HBn : Hid (Below w.heap.size w (setIter wr (w.heap.size + 2) (str (fieldsOf m.kind)) (k + 1))) := by
            have := HLp.out.belowN (k + 1)
            rw [HS.out] at this
            exact this
          rcases num_field (m := m) (ev := .slice ea m.entries.length ec) (iv := .slice ia m.items.length ic) hcm with ⟨o, x, ho, hx, hcell⟩ | ⟨ho, hx⟩
          · have hcell : (setIter wr (w.heap.size + 2) (str (fieldsOf m.kind)) (k + 1)).cell? ⟨w.heap.size, o, none⟩ = some (.int .i64 x) := by
              have := HLp.out.boxN (k + 1) hcell
              rw [HS.out] at this
              exact this
            have Ho := Lib.hid ho
            have Hx := Lib.hid hx
            clear hc hcm ho hx hzA
            cases hf : fitB x
            · have HF : Hid (rightM m = false) := rightM_num (all_not Hc.out (by rw [numFit, Hx.out]; exact hf))
              have Hf := Lib.hid hf
              clear hf
              go_wp2_with (first | (go_at_call 45; refine (number_any _ _ _).mono ?_; rintro e w' ⟨rfl, rfl⟩; rw [Ho.out]; simp only [Option.map_some]) | (go_at_call 42; refine (may_any _ _).mono ?_; rintro e w' ⟨rfl, rfl⟩; rw [Hf.out]))
              go_ret
              exact ⟨by rw [HF.out]; rfl, HBn.out⟩
            · have HF : Hid (numFit m c = true) := by show numFit m c = true; rw [numFit, Hx.out]; exact hf
              have Hf := Lib.hid hf
              clear hf
              go_wp2_with (first | (go_at_call 45; refine (number_any _ _ _).mono ?_; rintro e w' ⟨rfl, rfl⟩; rw [Ho.out]; simp only [Option.map_some]) | (go_at_call 42; refine (may_any _ _).mono ?_; rintro e w' ⟨rfl, rfl⟩; rw [Hf.out]) | (go_at_call 46; refine (wipe_any _ _ _ _ _ Hcm.out _ HR.out).mono ?_; rintro e w2 ⟨rfl, hwb, hwg⟩; have HWB := Lib.hid hwb; have HWG := Lib.hid hwg; clear hwb hwg))
              go_roundw
              case rel => exact ⟨k + 1, by omega, HLp.out.next Hc.out HF.out (by first | exact HWB.out | (rw [HzA.out]; exact HWB.out)) (by first | exact HWG.out | (rw [HS.out, HzA.out]; exact HWG.out))⟩
              case measure =>
                have := HWG.out.block (w.heap.size + 2) (by rw [setIter_size]; omega) (by simp)
                rw [HN.out] at this
                simp only [World.iterPos, this, HI.out]; omega
          · have HF : Hid (numFit m c = true) := by show numFit m c = true; rw [numFit, hx]
            have Ho := Lib.hid ho
            clear hc hcm ho hx hzA
            go_wp2_with (first | (go_at_call 45; refine (number_any _ _ _).mono ?_; rintro e w' ⟨rfl, rfl⟩; rw [Ho.out]; simp only [Option.map_none]) | (go_at_call 46; refine (wipe_any _ _ _ _ _ Hcm.out _ HR.out).mono ?_; rintro e w2 ⟨rfl, hwb, hwg⟩; have HWB := Lib.hid hwb; have HWG := Lib.hid hwg; clear hwb hwg))
            go_roundw
            case rel => exact ⟨k + 1, by omega, HLp.out.next Hc.out HF.out (by first | exact HWB.out | (rw [HzA.out]; exact HWB.out)) (by first | exact HWG.out | (rw [HS.out, HzA.out]; exact HWG.out))⟩
            case measure =>
              have := HWG.out.block (w.heap.size + 2) (by rw [setIter_size]; omega) (by simp)
              rw [HN.out] at this
              simp only [World.iterPos, this, HI.out]; omega
        · obtain rfl : k = (fieldsOf m.kind).length := by omega
          have hn := fun ty => run_next_done (P := Tryd.prog) ty HI.out (Nat.le_refl _)
          obtain ⟨ea', ec', hev⟩ := wipesE_slice m ea ec (fieldsOf m.kind)
          obtain ⟨ia', ic', hiv⟩ := wipesI_slice m ia ic (fieldsOf m.kind)
          have hR : wr.heap[w.heap.size + 1]? = some (.cells (msgC (wipes m (fieldsOf m.kind)) (.slice ea' (wipes m (fieldsOf m.kind)).entries.length ec') (.slice ia' (wipes m (fieldsOf m.kind)).items.length ic')) 31 (0, 0)) := by
            have := HLp.out.2.2.2.2.1
            rw [hzA, List.take_length, hev, hiv] at this
            exact this
          have hRM : wr.heap[w.heap.size]? = some (.cells (msgC m (.slice ea m.entries.length ec) (.slice ia m.items.length ic)) 31 (0, 0)) := by
            have := Below.block HLp.out.2.1 w.heap.size (by omega)
            rw [this]
            exact heap_alloc_new w _
          have HFi := Lib.hid (rightM_rest ⟨hk1, hk2⟩ Hh.out Hb.out HE0.out (by have := HLp.out.fits; rwa [List.take_length] at this))
          have HBo := Lib.hid HLp.out.below
          have hlR := fun (o : Oper) (ops : Array Oper) (rest : List Oper) (a : Act) (Q : Exit → Act → World → Prop) (hgd : o.guard = none) (x : Operand) (ho : o.op = .load 31 x) (hx : a.eval x = .pointer (some ⟨w.heap.size + 1, 0, none⟩)) h => wpList_load_row (P := Tryd.prog) (ops := ops) (rest := rest) (a := a) (Q := Q) hgd 31 x ho (w.heap.size + 1) hx 31 _ (0, 0) _ hR Tryd.underlying31 rfl msg_info h
          have HLR := Lib.hid hlR
          have hlM := fun (wx : World) (hbw : Below wr.heap.size wr wx) (o : Oper) (ops : Array Oper) (rest : List Oper) (a : Act) (Q : Exit → Act → World → Prop) (hgd : Region.wanted o (yielded ops a.tmps) = true) (x : Operand) (ho : o.op = .load 31 x) (hx : a.eval x = .pointer (some ⟨w.heap.size, 0, none⟩)) h => wpList_load_rowG (P := Tryd.prog) (ops := ops) (rest := rest) (a := a) (w := wx) (Q := Q) hgd 31 x ho w.heap.size hx 31 _ (0, 0) _ ((hbw.block w.heap.size (by omega)).trans hRM) Tryd.underlying31 rfl msg_info h
          have HLM := Lib.hid hlM
          clear hlR hlM hzA hev hiv
          cases he : emptyM (wipes m (fieldsOf m.kind))
          · have He := Lib.hid he
            clear he
            go_wp2_with (first | (refine HLR.out ⟨some _, _, _, _, _, _⟩ _ _ _ _ rfl _ rfl rfl ?_) | (go_at_call 47; refine (empty_any _ _ _ _ _ _).mono ?_; rintro x w2 ⟨rfl, hb2⟩; have HB2 := Lib.hid hb2; rw [He.out]))
            go_ret
            exact ⟨by rw [HFi.out, He.out]; rfl, HBo.out.trans (HB2.out.mono (by omega))⟩
          · have He := Lib.hid he
            clear he
            go_wp2_with (first | (refine HLR.out ⟨some _, _, _, _, _, _⟩ _ _ _ _ rfl _ rfl rfl ?_) | (go_at_call 47; refine (empty_any _ _ _ _ _ _).mono ?_; rintro x w2 ⟨rfl, hb2⟩; have HB2 := Lib.hid hb2; rw [He.out]) | (refine HLM.out _ HB2.out ⟨some _, _, _, _, _, _⟩ _ _ _ _ rfl _ rfl rfl ?_) | (go_at_call 48; refine (lists_any m _ _ _ _ _ (HRE.out.later (HBo.out.trans (HB2.out.mono (by omega)))) (HRI.out.later (HBo.out.trans (HB2.out.mono (by omega)))) HW.out.2.1 HW.out.2.2.1 HW.out.2.2.2.2.1 HW.out.2.2.2.2.2).mono ?_; rintro x w3 ⟨rfl, hb3⟩; have HB3 := Lib.hid hb3))
            go_ret
            exact ⟨by rw [HFi.out, He.out]; simp, (HBo.out.trans (HB2.out.mono (by omega))).trans (HB3.out.mono (by have := HBo.out.size; have := HB2.out.size; omega))⟩

    · go_enter Tryd.func21, Tryd.ntmps21
      go_upto_region 9 with (first | (go_at_call 31; refine (fields_yes _ hk1 hk2 _ HA.out).mono ?_; rintro x w1 ⟨rfl, rfl⟩) | (go_at_call 42; refine (may_any _ _).mono ?_; rintro x w1 ⟨rfl, rfl⟩) | (go_at_call 43; refine (Tryd.strings_ContainsRune_ascii _ 69 _ (by omega) (by omega)).mono ?_; rintro x w1 ⟨rfl, rfl⟩; rw [fields_E hk1 hk2, HE.out]))
      have hinfo : (Tryd.prog.info? 31).map (·.size) = some (msgC m (.slice ea m.entries.length ec) (.slice ia m.items.length ic)).size := msg_info
      have hlaw := fun (o : Oper) (ops : Array Oper) (rest : List Oper) (a : Act) (Q : Exit → Act → World → Prop) (hgd : o.guard = none) (x : Operand) (ho : o.op = .load 31 x) (hx : a.eval x = .pointer (some ⟨w.heap.size, 0, none⟩)) h => wpList_load_row (ops := ops) (rest := rest) (a := a) (Q := Q) hgd 31 x ho w.heap.size hx 31 _ (0, 0) _ hbx Tryd.underlying31 rfl hinfo h
      have HL := Lib.hid hlaw
      clear hlaw
      have hlS := fun (o : Oper) (ops : Array Oper) (rest : List Oper) (a : Act) (wA : World) (old : Array Value) (Q : Exit → Act → World → Prop) (hgd : o.guard = none) (x y : Operand) (ho : o.op = .store 31 x y) (g : Nat) (hx : a.eval x = .pointer (some ⟨g, 0, none⟩)) (hg : wA.heap.size = g) (hy : a.eval y = .agg (msgC m (.slice ea m.entries.length ec) (.slice ia m.items.length ic))) (hs : old.size = 33) h =>
        wpList_store_alloc (ops := ops) (rest := rest) (a := a) (w := wA) (Q := Q) hgd 31 x y ho 31 g hg old (msgC m (.slice ea m.entries.length ec) (.slice ia m.items.length ic)) hx hy hinfo hs (msgC_one _ _ _ _ _ _ _) h
      have HS := Lib.hid hlS
      clear hlS hinfo
      go_wp2_with (first | (refine HL.out ⟨some 65, _, _, _, _, _⟩ _ _ _ _ rfl _ rfl rfl ?_) | (refine HS.out ⟨none, _, _, _, _, _⟩ _ _ _ _ _ _ rfl _ _ rfl _ rfl (by simp) rfl rfl ?_))
      clear HS HL hbx b0 b1 b9 b12 b13 b32
      go_loopw [] (fun wr => ∃ k : Nat, k ≤ (fieldsOf m.kind).length ∧ RLoop m (.slice ea m.entries.length ec) (.slice ia m.items.length ic) w (w.alloc (.cells (msgC m (.slice ea m.entries.length ec) (.slice ia m.items.length ic)) 31)) wr k) (fun wr => (fieldsOf m.kind).length - wr.iterPos (w.heap.size + 2))
      case atStart => exact ⟨0, by omega, RLoop.start HM0.out⟩
      case round =>
        obtain ⟨k, hk, hL⟩ := hrel
        have hzA : (w.alloc (.cells (msgC m (.slice ea m.entries.length ec) (.slice ia m.items.length ic)) 31)).heap.size = w.heap.size + 1 := by simp
        have HI : Hid (wr.heap[w.heap.size + 2]? = some (.stringIter (str (fieldsOf m.kind)) k)) := by
          have := hL.iter
          rw [hzA] at this
          exact this
        have hsz : w.heap.size + 2 < wr.heap.size := (Array.getElem?_eq_some_iff.1 HI.out).1
        have hsz2 : w.heap.size + 1 < w.heap.size + 2 := by omega
        have hsz3 : w.heap.size < w.heap.size + 1 := by have := hL.1; rw [hzA] at this; omega
        have HLp := Lib.hid hL
        clear hL
        by_cases hlt : k < (fieldsOf m.kind).length
        · obtain ⟨c, hc⟩ : ∃ c, (fieldsOf m.kind)[k]? = some c := ⟨(fieldsOf m.kind)[k], List.getElem?_eq_getElem hlt⟩
          have hcm := fieldsOf_mem (List.mem_of_getElem? hc)
          have hn := fun ty => run_next_at (P := Tryd.prog) ty HI.out hc (fieldL_small hcm)
          have HN := Lib.hid (setIter_at (str (fieldsOf m.kind)) (k + 1) HI.out)
          have HR : Hid ((setIter wr (w.heap.size + 2) (str (fieldsOf m.kind)) (k + 1)).heap[w.heap.size + 1]? = some (.cells (msgC (wipes m ((fieldsOf m.kind).take k)) (wipesE (.slice ea m.entries.length ec) ((fieldsOf m.kind).take k)) (wipesI (.slice ia m.items.length ic) ((fieldsOf m.kind).take k))) 31 (0, 0))) := by
            have := HLp.out.rest (k + 1)
            rw [hzA] at this
            exact this
          have HS : Hid (((w.alloc (.cells (msgC m (.slice ea m.entries.length ec) (.slice ia m.items.length ic)) 31)).heap.size + 1) = w.heap.size + 2) := by show _ = _; rw [hzA]
          have Hc := Lib.hid hc
          have Hcm := Lib.hid hcm
          have HzA := Lib.hid hzA
          have HBn : Hid (Below w.heap.size w (setIter wr (w.heap.size + 2) (str (fieldsOf m.kind)) (k + 1))) := by
            have := HLp.out.belowN (k + 1)
            rw [HS.out] at this
            exact this
          rcases num_field (m := m) (ev := .slice ea m.entries.length ec) (iv := .slice ia m.items.length ic) hcm with ⟨o, x, ho, hx, hcell⟩ | ⟨ho, hx⟩
          · have hcell : (setIter wr (w.heap.size + 2) (str (fieldsOf m.kind)) (k + 1)).cell? ⟨w.heap.size, o, none⟩ = some (.int .i64 x) := by
              have := HLp.out.boxN (k + 1) hcell
              rw [HS.out] at this
              exact this
            have Ho := Lib.hid ho
            have Hx := Lib.hid hx
            clear hc hcm ho hx hzA
            cases hf : fitB x
            · have HF : Hid (rightM m = false) := rightM_num (all_not Hc.out (by rw [numFit, Hx.out]; exact hf))
              have Hf := Lib.hid hf
              clear hf
              go_wp2_with (first | (go_at_call 45; refine (number_any _ _ _).mono ?_; rintro e w' ⟨rfl, rfl⟩; rw [Ho.out]; simp only [Option.map_some]) | (go_at_call 42; refine (may_any _ _).mono ?_; rintro e w' ⟨rfl, rfl⟩; rw [Hf.out]))
              go_ret
              exact ⟨by rw [HF.out]; rfl, HBn.out⟩
            · have HF : Hid (numFit m c = true) := by show numFit m c = true; rw [numFit, Hx.out]; exact hf
              have Hf := Lib.hid hf
              clear hf
              go_wp2_with (first | (go_at_call 45; refine (number_any _ _ _).mono ?_; rintro e w' ⟨rfl, rfl⟩; rw [Ho.out]; simp only [Option.map_some]) | (go_at_call 42; refine (may_any _ _).mono ?_; rintro e w' ⟨rfl, rfl⟩; rw [Hf.out]) | (go_at_call 46; refine (wipe_any _ _ _ _ _ Hcm.out _ HR.out).mono ?_; rintro e w2 ⟨rfl, hwb, hwg⟩; have HWB := Lib.hid hwb; have HWG := Lib.hid hwg; clear hwb hwg))
              go_roundw
              case rel => exact ⟨k + 1, by omega, HLp.out.next Hc.out HF.out (by first | exact HWB.out | (rw [HzA.out]; exact HWB.out)) (by first | exact HWG.out | (rw [HS.out, HzA.out]; exact HWG.out))⟩
              case measure =>
                have := HWG.out.block (w.heap.size + 2) (by rw [setIter_size]; omega) (by simp)
                rw [HN.out] at this
                simp only [World.iterPos, this, HI.out]; omega
          · have HF : Hid (numFit m c = true) := by show numFit m c = true; rw [numFit, hx]
            have Ho := Lib.hid ho
            clear hc hcm ho hx hzA
            go_wp2_with (first | (go_at_call 45; refine (number_any _ _ _).mono ?_; rintro e w' ⟨rfl, rfl⟩; rw [Ho.out]; simp only [Option.map_none]) | (go_at_call 46; refine (wipe_any _ _ _ _ _ Hcm.out _ HR.out).mono ?_; rintro e w2 ⟨rfl, hwb, hwg⟩; have HWB := Lib.hid hwb; have HWG := Lib.hid hwg; clear hwb hwg))
            go_roundw
            case rel => exact ⟨k + 1, by omega, HLp.out.next Hc.out HF.out (by first | exact HWB.out | (rw [HzA.out]; exact HWB.out)) (by first | exact HWG.out | (rw [HS.out, HzA.out]; exact HWG.out))⟩
            case measure =>
              have := HWG.out.block (w.heap.size + 2) (by rw [setIter_size]; omega) (by simp)
              rw [HN.out] at this
              simp only [World.iterPos, this, HI.out]; omega
        · obtain rfl : k = (fieldsOf m.kind).length := by omega
          have hn := fun ty => run_next_done (P := Tryd.prog) ty HI.out (Nat.le_refl _)
          obtain ⟨ea', ec', hev⟩ := wipesE_slice m ea ec (fieldsOf m.kind)
          obtain ⟨ia', ic', hiv⟩ := wipesI_slice m ia ic (fieldsOf m.kind)
          have hR : wr.heap[w.heap.size + 1]? = some (.cells (msgC (wipes m (fieldsOf m.kind)) (.slice ea' (wipes m (fieldsOf m.kind)).entries.length ec') (.slice ia' (wipes m (fieldsOf m.kind)).items.length ic')) 31 (0, 0)) := by
            have := HLp.out.2.2.2.2.1
            rw [hzA, List.take_length, hev, hiv] at this
            exact this
          have hRM : wr.heap[w.heap.size]? = some (.cells (msgC m (.slice ea m.entries.length ec) (.slice ia m.items.length ic)) 31 (0, 0)) := by
            have := Below.block HLp.out.2.1 w.heap.size (by omega)
            rw [this]
            exact heap_alloc_new w _
          have HFi := Lib.hid (rightM_rest ⟨hk1, hk2⟩ Hh.out Hb.out HE0.out (by have := HLp.out.fits; rwa [List.take_length] at this))
          have HBo := Lib.hid HLp.out.below
          have hlR := fun (o : Oper) (ops : Array Oper) (rest : List Oper) (a : Act) (Q : Exit → Act → World → Prop) (hgd : o.guard = none) (x : Operand) (ho : o.op = .load 31 x) (hx : a.eval x = .pointer (some ⟨w.heap.size + 1, 0, none⟩)) h => wpList_load_row (P := Tryd.prog) (ops := ops) (rest := rest) (a := a) (Q := Q) hgd 31 x ho (w.heap.size + 1) hx 31 _ (0, 0) _ hR Tryd.underlying31 rfl msg_info h
          have HLR := Lib.hid hlR
          have hlM := fun (wx : World) (hbw : Below wr.heap.size wr wx) (o : Oper) (ops : Array Oper) (rest : List Oper) (a : Act) (Q : Exit → Act → World → Prop) (hgd : Region.wanted o (yielded ops a.tmps) = true) (x : Operand) (ho : o.op = .load 31 x) (hx : a.eval x = .pointer (some ⟨w.heap.size, 0, none⟩)) h => wpList_load_rowG (P := Tryd.prog) (ops := ops) (rest := rest) (a := a) (w := wx) (Q := Q) hgd 31 x ho w.heap.size hx 31 _ (0, 0) _ ((hbw.block w.heap.size (by omega)).trans hRM) Tryd.underlying31 rfl msg_info h
          have HLM := Lib.hid hlM
          clear hlR hlM hzA hev hiv
          cases he : emptyM (wipes m (fieldsOf m.kind))
          · have He := Lib.hid he
            clear he
            go_wp2_with (first | (refine HLR.out ⟨some _, _, _, _, _, _⟩ _ _ _ _ rfl _ rfl rfl ?_) | (go_at_call 47; refine (empty_any _ _ _ _ _ _).mono ?_; rintro x w2 ⟨rfl, hb2⟩; have HB2 := Lib.hid hb2; rw [He.out]))
            go_ret
            exact ⟨by rw [HFi.out, He.out]; rfl, HBo.out.trans (HB2.out.mono (by omega))⟩
          · have He := Lib.hid he
            clear he
            go_wp2_with (first | (refine HLR.out ⟨some _, _, _, _, _, _⟩ _ _ _ _ rfl _ rfl rfl ?_) | (go_at_call 47; refine (empty_any _ _ _ _ _ _).mono ?_; rintro x w2 ⟨rfl, hb2⟩; have HB2 := Lib.hid hb2; rw [He.out]) | (refine HLM.out _ HB2.out ⟨some _, _, _, _, _, _⟩ _ _ _ _ rfl _ rfl rfl ?_) | (go_at_call 48; refine (lists_any m _ _ _ _ _ (HRE.out.later (HBo.out.trans (HB2.out.mono (by omega)))) (HRI.out.later (HBo.out.trans (HB2.out.mono (by omega)))) HW.out.2.1 HW.out.2.2.1 HW.out.2.2.2.2.1 HW.out.2.2.2.2.2).mono ?_; rintro x w3 ⟨rfl, hb3⟩; have HB3 := Lib.hid hb3))
            go_ret
            exact ⟨by rw [HFi.out, He.out]; simp, (HBo.out.trans (HB2.out.mono (by omega))).trans (HB3.out.mono (by have := HBo.out.size; have := HB2.out.size; omega))⟩

  · have HE := Lib.hid hc2
    have HN := Lib.hid hc3
    have h15 := E_kind hk1 hk2 hc2
    clear hc2 hc3
    rcases hc1 with ⟨h15', hlen⟩ | ⟨_, hlen⟩
    · rw [h15] at h15'; exact absurd h15' (by decide)
    · go_enter Tryd.func21, Tryd.ntmps21
      go_upto_region 9 with (first | (go_at_call 31; refine (fields_yes _ hk1 hk2 _ HA.out).mono ?_; rintro x w1 ⟨rfl, rfl⟩) | (go_at_call 42; refine (may_any _ _).mono ?_; rintro x w1 ⟨rfl, rfl⟩) | (go_at_call 43; refine (Tryd.strings_ContainsRune_ascii _ 69 _ (by omega) (by omega)).mono ?_; rintro x w1 ⟨rfl, rfl⟩; rw [fields_E hk1 hk2, HE.out]) | (go_at_call 44; refine (entRight_any m.entry hes _).mono ?_; rintro x w1 ⟨rfl, hb1⟩; have HB1 := Lib.hid hb1; rw [HN.out]))
      have HM1 := Lib.hid (HM0.out.later HB1.out)
      have hbx1 : w1.heap[w.heap.size]? = some (.cells (msgC m (.slice ea m.entries.length ec) (.slice ia m.items.length ic)) 31 (0, 0)) := (HB1.out.block w.heap.size (by simp)).trans hbx
      have hinfo : (Tryd.prog.info? 31).map (·.size) = some (msgC m (.slice ea m.entries.length ec) (.slice ia m.items.length ic)).size := msg_info
      have hlaw := fun (o : Oper) (ops : Array Oper) (rest : List Oper) (a : Act) (Q : Exit → Act → World → Prop) (hgd : o.guard = none) (x : Operand) (ho : o.op = .load 31 x) (hx : a.eval x = .pointer (some ⟨w.heap.size, 0, none⟩)) h => wpList_load_row (ops := ops) (rest := rest) (a := a) (Q := Q) hgd 31 x ho w.heap.size hx 31 _ (0, 0) _ hbx1 Tryd.underlying31 rfl hinfo h
      have HL := Lib.hid hlaw
      clear hlaw
      have hlS := fun (o : Oper) (ops : Array Oper) (rest : List Oper) (a : Act) (wA : World) (old : Array Value) (Q : Exit → Act → World → Prop) (hgd : o.guard = none) (x y : Operand) (ho : o.op = .store 31 x y) (g : Nat) (hx : a.eval x = .pointer (some ⟨g, 0, none⟩)) (hg : wA.heap.size = g) (hy : a.eval y = .agg (msgC m (.slice ea m.entries.length ec) (.slice ia m.items.length ic))) (hs : old.size = 33) h =>
        wpList_store_alloc (ops := ops) (rest := rest) (a := a) (w := wA) (Q := Q) hgd 31 x y ho 31 g hg old (msgC m (.slice ea m.entries.length ec) (.slice ia m.items.length ic)) hx hy hinfo hs (msgC_one _ _ _ _ _ _ _) h
      have HS := Lib.hid hlS
      clear hlS hinfo
      go_wp2_with (first | (refine HL.out ⟨some 65, _, _, _, _, _⟩ _ _ _ _ rfl _ rfl rfl ?_) | (refine HS.out ⟨none, _, _, _, _, _⟩ _ _ _ _ _ _ rfl _ _ rfl _ rfl (by simp) rfl rfl ?_))
      clear HS HL hbx1 b0 b1 b9 b12 b13 b32
      go_loopw [] (fun wr => ∃ k : Nat, k ≤ (fieldsOf m.kind).length ∧ RLoop m (.slice ea m.entries.length ec) (.slice ia m.items.length ic) w w1 wr k) (fun wr => (fieldsOf m.kind).length - wr.iterPos (w1.heap.size + 1))
      case atStart => exact ⟨0, by omega, RLoop.start HM1.out⟩
      case round =>
        obtain ⟨k, hk, hL⟩ := hrel
        have hzA : w1.heap.size = w1.heap.size := by simp
        have HI : Hid (wr.heap[w1.heap.size + 1]? = some (.stringIter (str (fieldsOf m.kind)) k)) := by
          have := hL.iter
          rw [hzA] at this
          exact this
        have hsz : w1.heap.size + 1 < wr.heap.size := (Array.getElem?_eq_some_iff.1 HI.out).1
        have hsz2 : w1.heap.size < w1.heap.size + 1 := by omega
        have hsz3 : w.heap.size < w1.heap.size := by have := hL.1; rw [hzA] at this; omega
        have HLp := Lib.hid hL
        clear hL
        by_cases hlt : k < (fieldsOf m.kind).length
        · obtain ⟨c, hc⟩ : ∃ c, (fieldsOf m.kind)[k]? = some c := ⟨(fieldsOf m.kind)[k], List.getElem?_eq_getElem hlt⟩
          have hcm := fieldsOf_mem (List.mem_of_getElem? hc)
          have hn := fun ty => run_next_at (P := Tryd.prog) ty HI.out hc (fieldL_small hcm)
          have HN := Lib.hid (setIter_at (str (fieldsOf m.kind)) (k + 1) HI.out)
          have HR : Hid ((setIter wr (w1.heap.size + 1) (str (fieldsOf m.kind)) (k + 1)).heap[w1.heap.size]? = some (.cells (msgC (wipes m ((fieldsOf m.kind).take k)) (wipesE (.slice ea m.entries.length ec) ((fieldsOf m.kind).take k)) (wipesI (.slice ia m.items.length ic) ((fieldsOf m.kind).take k))) 31 (0, 0))) := by
            have := HLp.out.rest (k + 1)
            rw [hzA] at this
            exact this
          have HS : Hid ((w1.heap.size + 1) = w1.heap.size + 1) := by show _ = _; rw [hzA]
          have Hc := Lib.hid hc
          have Hcm := Lib.hid hcm
          have HzA := Lib.hid hzA
          have HBn : Hid (Below w.heap.size w (setIter wr (w1.heap.size + 1) (str (fieldsOf m.kind)) (k + 1))) := by
            have := HLp.out.belowN (k + 1)
            rw [HS.out] at this
            exact this
          rcases num_field (m := m) (ev := .slice ea m.entries.length ec) (iv := .slice ia m.items.length ic) hcm with ⟨o, x, ho, hx, hcell⟩ | ⟨ho, hx⟩
          · have hcell : (setIter wr (w1.heap.size + 1) (str (fieldsOf m.kind)) (k + 1)).cell? ⟨w.heap.size, o, none⟩ = some (.int .i64 x) := by
              have := HLp.out.boxN (k + 1) hcell
              rw [HS.out] at this
              exact this
            have Ho := Lib.hid ho
            have Hx := Lib.hid hx
            clear hc hcm ho hx hzA
            cases hf : fitB x
            · have HF : Hid (rightM m = false) := rightM_num (all_not Hc.out (by rw [numFit, Hx.out]; exact hf))
              have Hf := Lib.hid hf
              clear hf
              go_wp2_with (first | (go_at_call 45; refine (number_any _ _ _).mono ?_; rintro e w' ⟨rfl, rfl⟩; rw [Ho.out]; simp only [Option.map_some]) | (go_at_call 42; refine (may_any _ _).mono ?_; rintro e w' ⟨rfl, rfl⟩; rw [Hf.out]))
              go_ret
              exact ⟨by rw [HF.out]; rfl, HBn.out⟩
            · have HF : Hid (numFit m c = true) := by show numFit m c = true; rw [numFit, Hx.out]; exact hf
              have Hf := Lib.hid hf
              clear hf
              go_wp2_with (first | (go_at_call 45; refine (number_any _ _ _).mono ?_; rintro e w' ⟨rfl, rfl⟩; rw [Ho.out]; simp only [Option.map_some]) | (go_at_call 42; refine (may_any _ _).mono ?_; rintro e w' ⟨rfl, rfl⟩; rw [Hf.out]) | (go_at_call 46; refine (wipe_any _ _ _ _ _ Hcm.out _ HR.out).mono ?_; rintro e w2 ⟨rfl, hwb, hwg⟩; have HWB := Lib.hid hwb; have HWG := Lib.hid hwg; clear hwb hwg))
              go_roundw
              case rel => exact ⟨k + 1, by omega, HLp.out.next Hc.out HF.out (by first | exact HWB.out | (rw [HzA.out]; exact HWB.out)) (by first | exact HWG.out | (rw [HS.out, HzA.out]; exact HWG.out))⟩
              case measure =>
                have := HWG.out.block (w1.heap.size + 1) (by rw [setIter_size]; omega) (by simp)
                rw [HN.out] at this
                simp only [World.iterPos, this, HI.out]; omega
          · have HF : Hid (numFit m c = true) := by show numFit m c = true; rw [numFit, hx]
            have Ho := Lib.hid ho
            clear hc hcm ho hx hzA
            go_wp2_with (first | (go_at_call 45; refine (number_any _ _ _).mono ?_; rintro e w' ⟨rfl, rfl⟩; rw [Ho.out]; simp only [Option.map_none]) | (go_at_call 46; refine (wipe_any _ _ _ _ _ Hcm.out _ HR.out).mono ?_; rintro e w2 ⟨rfl, hwb, hwg⟩; have HWB := Lib.hid hwb; have HWG := Lib.hid hwg; clear hwb hwg))
            go_roundw
            case rel => exact ⟨k + 1, by omega, HLp.out.next Hc.out HF.out (by first | exact HWB.out | (rw [HzA.out]; exact HWB.out)) (by first | exact HWG.out | (rw [HS.out, HzA.out]; exact HWG.out))⟩
            case measure =>
              have := HWG.out.block (w1.heap.size + 1) (by rw [setIter_size]; omega) (by simp)
              rw [HN.out] at this
              simp only [World.iterPos, this, HI.out]; omega
        · obtain rfl : k = (fieldsOf m.kind).length := by omega
          have hn := fun ty => run_next_done (P := Tryd.prog) ty HI.out (Nat.le_refl _)
          obtain ⟨ea', ec', hev⟩ := wipesE_slice m ea ec (fieldsOf m.kind)
          obtain ⟨ia', ic', hiv⟩ := wipesI_slice m ia ic (fieldsOf m.kind)
          have hR : wr.heap[w1.heap.size]? = some (.cells (msgC (wipes m (fieldsOf m.kind)) (.slice ea' (wipes m (fieldsOf m.kind)).entries.length ec') (.slice ia' (wipes m (fieldsOf m.kind)).items.length ic')) 31 (0, 0)) := by
            have := HLp.out.2.2.2.2.1
            rw [hzA, List.take_length, hev, hiv] at this
            exact this
          have hRM : wr.heap[w.heap.size]? = some (.cells (msgC m (.slice ea m.entries.length ec) (.slice ia m.items.length ic)) 31 (0, 0)) := by
            have := Below.block HLp.out.2.1 w.heap.size (by omega)
            rw [this]
            exact heap_alloc_new w _
          have HFi := Lib.hid (rightM_rest ⟨hk1, hk2⟩ Hh.out Hb.out HE0.out (by have := HLp.out.fits; rwa [List.take_length] at this))
          have HBo := Lib.hid HLp.out.below
          have hlR := fun (o : Oper) (ops : Array Oper) (rest : List Oper) (a : Act) (Q : Exit → Act → World → Prop) (hgd : o.guard = none) (x : Operand) (ho : o.op = .load 31 x) (hx : a.eval x = .pointer (some ⟨w1.heap.size, 0, none⟩)) h => wpList_load_row (P := Tryd.prog) (ops := ops) (rest := rest) (a := a) (Q := Q) hgd 31 x ho (w1.heap.size) hx 31 _ (0, 0) _ hR Tryd.underlying31 rfl msg_info h
          have HLR := Lib.hid hlR
          have hlM := fun (wx : World) (hbw : Below wr.heap.size wr wx) (o : Oper) (ops : Array Oper) (rest : List Oper) (a : Act) (Q : Exit → Act → World → Prop) (hgd : Region.wanted o (yielded ops a.tmps) = true) (x : Operand) (ho : o.op = .load 31 x) (hx : a.eval x = .pointer (some ⟨w.heap.size, 0, none⟩)) h => wpList_load_rowG (P := Tryd.prog) (ops := ops) (rest := rest) (a := a) (w := wx) (Q := Q) hgd 31 x ho w.heap.size hx 31 _ (0, 0) _ ((hbw.block w.heap.size (by omega)).trans hRM) Tryd.underlying31 rfl msg_info h
          have HLM := Lib.hid hlM
          clear hlR hlM hzA hev hiv
          cases he : emptyM (wipes m (fieldsOf m.kind))
          · have He := Lib.hid he
            clear he
            go_wp2_with (first | (refine HLR.out ⟨some _, _, _, _, _, _⟩ _ _ _ _ rfl _ rfl rfl ?_) | (go_at_call 47; refine (empty_any _ _ _ _ _ _).mono ?_; rintro x w2 ⟨rfl, hb2⟩; have HB2 := Lib.hid hb2; rw [He.out]))
            go_ret
            exact ⟨by rw [HFi.out, He.out]; rfl, HBo.out.trans (HB2.out.mono (by omega))⟩
          · have He := Lib.hid he
            clear he
            go_wp2_with (first | (refine HLR.out ⟨some _, _, _, _, _, _⟩ _ _ _ _ rfl _ rfl rfl ?_) | (go_at_call 47; refine (empty_any _ _ _ _ _ _).mono ?_; rintro x w2 ⟨rfl, hb2⟩; have HB2 := Lib.hid hb2; rw [He.out]) | (refine HLM.out _ HB2.out ⟨some _, _, _, _, _, _⟩ _ _ _ _ rfl _ rfl rfl ?_) | (go_at_call 48; refine (lists_any m _ _ _ _ _ (HRE.out.later (HBo.out.trans (HB2.out.mono (by omega)))) (HRI.out.later (HBo.out.trans (HB2.out.mono (by omega)))) HW.out.2.1 HW.out.2.2.1 HW.out.2.2.2.2.1 HW.out.2.2.2.2.2).mono ?_; rintro x w3 ⟨rfl, hb3⟩; have HB3 := Lib.hid hb3))
            go_ret
            exact ⟨by rw [HFi.out, He.out]; simp, (HBo.out.trans (HB2.out.mono (by omega))).trans (HB3.out.mono (by have := HBo.out.size; have := HB2.out.size; omega))⟩


end Go.Proofs.YtmidfknlmjgjpaaDoor
