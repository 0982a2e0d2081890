/- The walk of Ask, where it may. (Written by gen_cl5.py.) -/
import Derived.Test.YtmidfknlmjgjpaaDoorCl4
namespace Go.Proofs.YtmidfknlmjgjpaaDoor
open Go.RowKit

/-- A whole block laid into the block that was made last, at one operation. -/
theorem wp_store_alloc {P : Program} {op : Oper} {a : Act} {w : World} {K : Act → World → Prop} {Q : Exit → Act → World → Prop} (ty : TypeId) (x y : Operand) (ho : op.op = .store ty x y)
    (t g : Nat) (hg : w.heap.size = g) (old cells : Array Value) (hx : a.eval x = .pointer (some ⟨g, 0, none⟩)) (hy : a.eval y = .agg cells)
    (hi : (P.info? ty).map (·.size) = some cells.size) (hs : old.size = cells.size) (h1 : cells.all (·.oneCell') = true)
    (h : K (a.put op.dst undef) (w.alloc (.cells cells t))) : Oper.wp P op a (w.alloc (.cells old t)) K Q := by
  subst hg
  unfold Oper.wp execOp
  simp only [ho, hx, hy, Instr.storeAt, Instr.sureAddr, Sem.run_bind, Sem.run_pure, Result.andThen_ok, run_storeVar_row _ w.heap.size t ty old cells (heap_alloc_new _ _) hi hs h1]
  rw [setRow_alloc]
  exact h

set_option maxRecDepth 100000 in
set_option maxHeartbeats 4000000 in
theorem ask_one (B b : Nat) (w : World) (c : Cl) (O : Nat → Prop) (ov tv : Value) (h : CAt B b w c O none ov tv) (body : ByteArray) (hb : body.size ≤ 200) (ha : AllAt w) (hc : c.ok) (hl : c.out.length ≤ 900000) (hg : c.gone = false) (hs : c.session = 0) :
    Calls Tryd.prog 16 #[.pointer (some ⟨b, 0, none⟩), .int .i64 1, .string body] w fun e w' => e = .returned (.int .i64 0) ∧ Moves B b O w (askDone c 1 body) w' := by
  obtain ⟨m, hm⟩ : ∃ m, m = askMsg c 1 body 0 := ⟨_, rfl⟩
  have hfit : m.fit := by rw [hm]; exact askMsg_fit c 1 body 0 (by simp only [maxLen]; omega)
  have hmr : askMsg c 1 body (askReq c 1) = m := by rw [hm]; rfl
  have hle : m.entries = [] := by rw [hm]; rfl
  have hli : m.items = [] := by rw [hm]; rfl
  have hmc : mvec m = #[.int .i64 1, .int .i64 c.id, .int .i64 0, .int .i64 0, .int .i64 0, .int .i64 0, .int .i64 c.id, .int .i64 0, .int .i64 0, .int .i64 1, .int .i64 0, .int .i64 0, .int .i64 0, .int .i64 0, .int .u64 0, .int .u64 0, .int .u64 0, .int .u64 0, .int .u64 0, .int .u64 0, .int .u64 0, .int .i64 0, .int .i64 0, .int .i64 0, .int .u64 0, .int .i64 0, .int .i64 0, .int .i64 0, .int .i64 0, .string ⟨#[]⟩, .slice none 0 0, .slice none 0 0, .string body] := by
    rw [hm, mvec, msgC, askMsg, hs]; rfl
  obtain ⟨s, hs1⟩ : ∃ s, m.enc.1 = s := ⟨_, rfl⟩
  obtain ⟨n, hn1⟩ : ∃ s, m.enc.2 = s := ⟨_, rfl⟩
  have g5 : w.cell? ⟨b, 5, none⟩ = some (.bool false) := by rw [← hg]; exact h.cell rfl
  have g6 : w.cell? ⟨b, 6, none⟩ = some (.pointer none) := h.cell rfl
  have g2 : w.cell? ⟨b, 2, none⟩ = some (.int .i64 0) := by rw [← hs]; exact h.cell rfl
  have hb0 : b < w.heap.size := (h.all b h.self).2
  have hdr : Below w.heap.size w w.drew := below_drewN (Below.refl _ _) 1
  have hB1 : Below w.heap.size w (w.drew.alloc (.cells (mvec m) 31)) := hdr.alloc (Nat.le_refl _) _
  have hSS : ∀ wx : World, Below w.heap.size w wx → wx.cell? ⟨b, 0, none⟩ = some (.int .i64 c.id) ∧ wx.cell? ⟨b, 2, none⟩ = some (.int .i64 0) := fun wx hx => ⟨by rw [hx.cell (show b < w.heap.size from hb0)]; exact h.cell rfl, by rw [hx.cell (show b < w.heap.size from hb0)]; exact g2⟩
  have e1 : m.entries.length = 0 := by rw [hle]; rfl
  have e2 : m.items.length = 0 := by rw [hli]; rfl
  have hE : ∀ wx, AllAt wx → Calls Tryd.prog 12 #[.agg (mvec m)] wx fun e w' => e = .returned (.tuple #[.string s, .int .i64 n]) ∧ Below wx.heap.size wx w' := fun wx hx => by
    have := encode_any m none none 0 0 wx hx hfit (by omega) (by omega) (by rw [e1]; exact row_none) (by rw [e2]; exact row_none)
    rw [e1, e2, hs1, hn1] at this
    exact this
  have HEn := Lib.hid hE
  have hlW := fun (o : Oper) (ops : Array Oper) (rest : List Oper) (a : Act) (Q : Exit → Act → World → Prop) (hgd : o.guard = none) (x : Operand) (ho : o.op = .load 31 x) (hx : a.eval x = .pointer (some ⟨w.heap.size, 0, none⟩)) h =>
    wpList_load_row (P := Tryd.prog) (w := w.drew.alloc (.cells (mvec m) 31)) (ops := ops) (rest := rest) (a := a) (Q := Q) hgd 31 x ho w.heap.size hx 31 (mvec m) (0, 0) _ (heap_alloc_new w.drew _) Tryd.underlying31 rfl msg_info h
  have HLW := Lib.hid hlW
  have HSS := Lib.hid hSS
  have HDr := Lib.hid hdr
  have HMc := Lib.hid hmc
  have HB1 := Lib.hid hB1
  have HA1 := Lib.hid (ha.later hB1)
  have HC1 := Lib.hid (h.later hB1)
  have HM := Lib.hid hm
  have HF := Lib.hid hfit
  have HLe := Lib.hid hle
  have HLi := Lib.hid hli
  have HS := Lib.hid hs1
  have HN := Lib.hid hn1
  have HMr := Lib.hid hmr
  have HOk := Lib.hid hc
  have HOl := Lib.hid hl
  have HSs := Lib.hid hs
  have HO : Hid (∀ k, O k → B ≤ k ∧ k < w.heap.size) := h.all
  have HBs : Hid (B ≤ w.heap.size) := h.base
  clear hm hfit hle hli hs1 hn1 hmr h hdr hB1 ha hc hl hg hs hSS hmc hE e1 e2 hlW
  go_enter Tryd.func16, Tryd.ntmps16
  go_upto_region 13 with fail
  refine wp_region_held_drew (S := fun w' => w'.cell? ⟨b, 0, none⟩ = some (.int .i64 c.id) ∧ w'.cell? ⟨b, 2, none⟩ = some (.int .i64 0)) (by kernel_rfl) (HSS.out _ HDr.out) ?_
  intro hSd
  refine wpAnyH_take (i := 0) (v := .pointer (some ⟨b, 0, none⟩)) rfl (by kernel_rfl) (by kernel_rfl) (by kernel_rfl) (fun _ _ _ h => h) (Or.inl ⟨by rfl, fun wx hSx => by (try dsimp only at hSx); go_simp⟩) hSd ?_
  simp only [Act.put]
  refine wpAnyH_take (i := 1) (v := .pointer (some ⟨b, 0, none⟩)) rfl (by kernel_rfl) (by kernel_rfl) (by kernel_rfl) (fun _ _ _ h => h) (Or.inl ⟨by rfl, fun wx hSx => by (try dsimp only at hSx); go_simp⟩) hSd ?_
  simp only [Act.put]
  refine wpAnyH_take (i := 2) (v := .pointer (some ⟨b, 0, none⟩)) rfl (by kernel_rfl) (by kernel_rfl) (by kernel_rfl) (fun _ _ _ h => h) (Or.inl ⟨by rfl, fun wx hSx => by (try dsimp only at hSx); go_simp⟩) hSd ?_
  simp only [Act.put]
  refine wpAnyH_take (i := 3) (v := .int .i64 c.id) rfl (by kernel_rfl) (by kernel_rfl) (by kernel_rfl) (fun _ _ _ h => h) (Or.inl ⟨by rfl, fun wx hSx => by (try dsimp only at hSx); go_simp⟩) hSd ?_
  simp only [Act.put]
  refine wpAnyH_take (i := 4) (v := .pointer (some ⟨b, 0, none⟩)) rfl (by kernel_rfl) (by kernel_rfl) (by kernel_rfl) (fun _ _ _ h => h) (Or.inl ⟨by rfl, fun wx hSx => by (try dsimp only at hSx); go_simp⟩) hSd ?_
  simp only [Act.put]
  refine wpAnyH_take (i := 5) (v := .pointer (some ⟨b, 0, none⟩)) rfl (by kernel_rfl) (by kernel_rfl) (by kernel_rfl) (fun _ _ _ h => h) (Or.inl ⟨by rfl, fun wx hSx => by (try dsimp only at hSx); go_simp⟩) hSd ?_
  simp only [Act.put]
  refine wpAnyH_take (i := 6) (v := .pointer (some ⟨b, 0, none⟩)) rfl (by kernel_rfl) (by kernel_rfl) (by kernel_rfl) (fun _ _ _ h => h) (Or.inl ⟨by rfl, fun wx hSx => by (try dsimp only at hSx); go_simp⟩) hSd ?_
  simp only [Act.put]
  refine wpAnyH_take (i := 7) (v := .int .i64 c.id) rfl (by kernel_rfl) (by kernel_rfl) (by kernel_rfl) (fun _ _ _ h => h) (Or.inl ⟨by rfl, fun wx hSx => by (try dsimp only at hSx); go_simp⟩) hSd ?_
  simp only [Act.put]
  refine wpAnyH_take (i := 8) (v := .pointer (some ⟨b, 0, none⟩)) rfl (by kernel_rfl) (by kernel_rfl) (by kernel_rfl) (fun _ _ _ h => h) (Or.inl ⟨by rfl, fun wx hSx => by (try dsimp only at hSx); go_simp⟩) hSd ?_
  simp only [Act.put]
  refine wpAnyH_take (i := 9) (v := .pointer (some ⟨b, 0, none⟩)) rfl (by kernel_rfl) (by kernel_rfl) (by kernel_rfl) (fun _ _ _ h => h) (Or.inl ⟨by rfl, fun wx hSx => by (try dsimp only at hSx); go_simp⟩) hSd ?_
  simp only [Act.put]
  refine wpAnyH_take (i := 10) (v := .pointer (some ⟨b, 2, none⟩)) rfl (by kernel_rfl) (by kernel_rfl) (by kernel_rfl) (fun _ _ _ h => h) (Or.inl ⟨by rfl, fun wx hSx => by (try dsimp only at hSx); go_simp⟩) hSd ?_
  simp only [Act.put]
  refine wpAnyH_take (i := 11) (v := .int .i64 0) rfl (by kernel_rfl) (by kernel_rfl) (by kernel_rfl) (fun _ _ _ h => h) (Or.inl ⟨by rfl, fun wx hSx => by (try dsimp only at hSx); go_simp⟩) hSd ?_
  simp only [Act.put]
  refine wpAnyH_take (i := 12) (v := .int .i64 1) rfl (by kernel_rfl) (by kernel_rfl) (by kernel_rfl) (fun _ _ _ h => h) (Or.inl ⟨by rfl, fun wx hSx => by (try dsimp only at hSx); go_simp⟩) hSd ?_
  simp only [Act.put]
  refine wpAnyH_take (i := 13) (v := .string body) rfl (by kernel_rfl) (by kernel_rfl) (by kernel_rfl) (fun _ _ _ h => h) (Or.inl ⟨by rfl, fun wx hSx => by (try dsimp only at hSx); go_simp⟩) hSd ?_
  simp only [Act.put]
  refine wpAnyH_take (i := 14) (v := .agg #[.int .i64 1, .int .i64 c.id, .int .i64 0, .int .i64 0, .int .i64 0, .int .i64 0, .int .i64 c.id, .int .i64 0, .int .i64 0, .int .i64 1, .int .i64 0, .int .i64 0, .int .i64 0, .int .i64 0, .int .u64 0, .int .u64 0, .int .u64 0, .int .u64 0, .int .u64 0, .int .u64 0, .int .u64 0, .int .i64 0, .int .i64 0, .int .i64 0, .int .u64 0, .int .i64 0, .int .i64 0, .int .i64 0, .int .i64 0, .string ⟨#[]⟩, .slice none 0 0, .slice none 0 0, .string body]) rfl (by kernel_rfl) (by kernel_rfl) (by kernel_rfl) (fun _ _ _ h => h) (Or.inl ⟨by rfl, fun wx hSx => by (try dsimp only at hSx); go_simp⟩) hSd ?_
  simp only [Act.put]
  refine wpAnyH_ready (rs := [15]) (by kernel_rfl) (by simp) (AllReadyH.cons rfl ?_ AllReadyH.nil)
  intro K1 hK1
  refine Eq.mpr (if_pos (by rfl)) ?_
  go_wp2_with fail
  refine hK1.out _ _ (HSS.out _ (((Below.refl _ _).alloc (Nat.le_refl _) _).drew)) (fun hSd2 => ?_)
  clear hSd
  refine wpAnyH_ready (rs := [16]) (by kernel_rfl) (by simp) (AllReadyH.cons rfl ?_ AllReadyH.nil)
  intro K2 hK2
  refine Eq.mpr (if_pos (by rfl)) ?_
  refine wp_store_alloc (w := w.drew) 31 _ _ rfl 31 w.heap.size rfl _ (mvec m) rfl (by rw [HMc.out]; rfl) msg_info rfl (msgC_one _ _ _ _ _ _ _) ?_
  refine hK2.out _ _ (HSS.out _ HB1.out) (fun hSd3 => ?_)
  clear hSd2
  refine wpAnyH_done (by kernel_rfl) ?_ _
  clear hSd3 hK1 hK2 g5 g6 g2
  go_wp2_with (first | (refine HLW.out ⟨some 67, _, _, _, _, _⟩ _ _ _ _ rfl _ rfl rfl ?_) | (go_at_call 12; refine (HEn.out _ HA1.out).mono ?_; rintro x w3 ⟨rfl, hb3⟩; have HC3 := Lib.hid (HC1.out.later hb3); have HB3 := Lib.hid (HB1.out.trans (hb3.mono HB1.out.size)); have HG3 : Hid (w3.heap[w.heap.size]? = some (.cells (mvec m) 31 (0, 0))) := (hb3.block _ (by simp)).trans (heap_alloc_new w.drew _); clear hb3; have k1 : w3.cell? ⟨b, 1, none⟩ = some (.int .i64 c.count) := HC3.out.cell rfl; have k4 : w3.cell? ⟨b, 4, none⟩ = some (.int .i64 c.view) := HC3.out.cell rfl; have k6 : w3.cell? ⟨b, 6, none⟩ = some (.pointer none) := HC3.out.cell rfl; have k7 : w3.cell? ⟨b, 7, none⟩ = some (.string c.data) := HC3.out.cell rfl; have k8 : w3.cell? ⟨b, 8, none⟩ = some (.int .i64 c.waited) := HC3.out.cell rfl; have z6 := HC3.out.frozen 6; have z7 := HC3.out.frozen 7; have z8 := HC3.out.frozen 8))
  have hng : ¬ O w.heap.size := fun h => by have := (HO.out _ h).2; omega
  have h4 := HC3.out.take w.heap.size m s HG3.out HBs.out hng
  have ho4 : Off (fun k => O k ∨ k = w.heap.size) w (((w3.setCell ⟨b, 7, none⟩ (.string s)).setCell ⟨b, 6, none⟩ (.pointer (some ⟨w.heap.size, 0, none⟩))).setCell ⟨b, 8, none⟩ (.int .i64 0)) :=
    (((Off.of_below HB3.out).trans (Off.set w3 7 _ (.inl HC3.out.self)) (Sub.refl _ _)).trans (Off.set _ 6 _ (.inl HC3.out.self)) (Sub.refl _ _)).trans (Off.set _ 8 _ (.inl HC3.out.self)) (Sub.refl _ _)
  obtain ⟨w4, hw4⟩ : ∃ w4, w4 = (((w3.setCell ⟨b, 7, none⟩ (.string s)).setCell ⟨b, 6, none⟩ (.pointer (some ⟨w.heap.size, 0, none⟩))).setCell ⟨b, 8, none⟩ (.int .i64 0)) := ⟨_, rfl⟩
  rw [← hw4] at h4 ho4 ⊢
  clear hw4 k1 k4 k6 k7 k8 z6 z7 z8 HC3 HG3 HB3 HC1 HB1 HA1 HLW HEn HMc HSS HDr
  have h5 := h4.later (below_drewN (Below.refl w4.heap.size w4) 1)
  have H5 := Lib.hid h5
  have HO4 := Lib.hid (ho4.trans (Off.of_below (O := fun k => O k ∨ k = w.heap.size) (below_drewN (Below.refl w4.heap.size w4) 1)) (Sub.refl _ _))
  have HNg := Lib.hid hng
  clear h4 h5 ho4 hng
  refine wp_region_held_drew (S := fun w' => w'.cell? ⟨b, 1, none⟩ = some (.int .i64 c.count) ∧ w'.cell? ⟨b, 4, none⟩ = some (.int .i64 c.view)) (by kernel_rfl) ⟨H5.out.cell rfl, H5.out.cell rfl⟩ ?_
  intro hSd
  refine wpAnyH_take (i := 0) (v := .pointer (some ⟨b, 0, none⟩)) rfl (by kernel_rfl) (by kernel_rfl) (by kernel_rfl) (fun _ _ _ h => h) (Or.inl ⟨by rfl, fun wx hSx => by (try dsimp only at hSx); go_simp⟩) hSd ?_
  simp only [Act.put]
  refine wpAnyH_take (i := 1) (v := .pointer (some ⟨b, 0, none⟩)) rfl (by kernel_rfl) (by kernel_rfl) (by kernel_rfl) (fun _ _ _ h => h) (Or.inl ⟨by rfl, fun wx hSx => by (try dsimp only at hSx); go_simp⟩) hSd ?_
  simp only [Act.put]
  refine wpAnyH_take (i := 2) (v := .pointer (some ⟨b, 0, none⟩)) rfl (by kernel_rfl) (by kernel_rfl) (by kernel_rfl) (fun _ _ _ h => h) (Or.inl ⟨by rfl, fun wx hSx => by (try dsimp only at hSx); go_simp⟩) hSd ?_
  simp only [Act.put]
  refine wpAnyH_take (i := 3) (v := .pointer (some ⟨b, 1, none⟩)) rfl (by kernel_rfl) (by kernel_rfl) (by kernel_rfl) (fun _ _ _ h => h) (Or.inl ⟨by rfl, fun wx hSx => by (try dsimp only at hSx); go_simp⟩) hSd ?_
  simp only [Act.put]
  refine wpAnyH_take (i := 4) (v := .int .i64 c.count) rfl (by kernel_rfl) (by kernel_rfl) (by kernel_rfl) (fun _ _ _ h => h) (Or.inl ⟨by rfl, fun wx hSx => by (try dsimp only at hSx); go_simp⟩) hSd ?_
  simp only [Act.put]
  refine wpAnyH_take (i := 5) (v := .pointer (some ⟨b, 0, none⟩)) rfl (by kernel_rfl) (by kernel_rfl) (by kernel_rfl) (fun _ _ _ h => h) (Or.inl ⟨by rfl, fun wx hSx => by (try dsimp only at hSx); go_simp⟩) hSd ?_
  simp only [Act.put]
  refine wpAnyH_take (i := 6) (v := .pointer (some ⟨b, 0, none⟩)) rfl (by kernel_rfl) (by kernel_rfl) (by kernel_rfl) (fun _ _ _ h => h) (Or.inl ⟨by rfl, fun wx hSx => by (try dsimp only at hSx); go_simp⟩) hSd ?_
  simp only [Act.put]
  refine wpAnyH_take (i := 7) (v := .pointer (some ⟨b, 4, none⟩)) rfl (by kernel_rfl) (by kernel_rfl) (by kernel_rfl) (fun _ _ _ h => h) (Or.inl ⟨by rfl, fun wx hSx => by (try dsimp only at hSx); go_simp⟩) hSd ?_
  simp only [Act.put]
  refine wpAnyH_take (i := 8) (v := .int .i64 c.view) rfl (by kernel_rfl) (by kernel_rfl) (by kernel_rfl) (fun _ _ _ h => h) (Or.inl ⟨by rfl, fun wx hSx => by (try dsimp only at hSx); go_simp⟩) hSd ?_
  simp only [Act.put]
  refine wpAnyH_ready (rs := [9]) (by kernel_rfl) (by simp) (AllReadyH.cons rfl ?_ AllReadyH.nil)
  intro K1 hK1
  refine Eq.mpr (if_pos (by rfl)) ?_
  go_wp2_with fail
  refine (primary_ok c.count c.view HOk.out.count HOk.out.view.1 HOk.out.view.2 _).mono ?_
  rintro x w5 ⟨rfl, rfl⟩
  refine hK1.out _ _ hSd (fun hSd2 => ?_)
  clear hSd2
  refine wpAnyH_ready (rs := [10]) (by kernel_rfl) (by simp) (AllReadyH.cons rfl ?_ AllReadyH.nil)
  intro K2 hK2
  refine Eq.mpr (if_pos (by rfl)) ?_
  go_wp2_with fail
  refine (send_ok B b _ _ _ _ _ _ H5.out (c.view % c.count + 1) (by have := HOl.out; show c.out.length ≤ 1000000; omega)).mono ?_
  rintro x w6 ⟨rfl, ov6, O6, h6, hs6, ho6⟩
  refine hK2.out _ _ ⟨h6.cell rfl, h6.cell rfl⟩ (fun hSd3 => ?_)
  refine wpAnyH_done (by kernel_rfl) ?_ _
  clear hSd hSd3
  have hfin : Hid (Moves B b O w (askDone c 1 body) w6) := by
    have e := HMr.out
    refine ⟨O6, ⟨some ⟨w.heap.size, 0, none⟩, ov6, tv, ?_⟩, ?_, ?_⟩
    · unfold askDone
      rw [e, HS.out]
      exact h6
    · intro k hk
      rcases hs6 k hk with (h | h) | h
      · exact .inl h
      · exact .inr (by omega)
      · exact .inr (Nat.le_trans HO4.out.size h)
    · have h7 := HO4.out.trans ho6 (Sub.refl _ _)
      exact ⟨h7.os, h7.tape, h7.output, h7.size, fun k hk hn => h7.block k hk (fun h => by rcases h with h | h; exact hn h; omega)⟩
  clear h6 hs6 ho6
  go_wp2
  go_ret
  exact ⟨rfl, hfin.out⟩

end Go.Proofs.YtmidfknlmjgjpaaDoor
