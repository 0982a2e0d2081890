/- The walk of entry.Unpack. The walk of entry.Unpack. -/
import Derived.Test.YtmidfknlmjgjpaaDoorKUnp
import Derived.Test.YtmidfknlmjgjpaaDoorKLists
import Derived.Test.YtmidfknlmjgjpaaDoorGT
import Derived.Test.YtmidfknlmjgjpaaDoorKRow2
namespace Go.Proofs.YtmidfknlmjgjpaaDoor
open Go.RowKit

def entOf (h : Head) (b : List UInt8) : Entry := { view := h.view, op := h.op, under := h.a, parent := h.parent, client := h.client, session := h.session, request := h.request, operation := h.operation, body := str b }
def Head.beq (a b : Head) : Bool := a.kind == b.kind && a.src == b.src && a.operation == b.operation && a.view == b.view && a.op == b.op && a.commit == b.commit && a.client == b.client && a.session == b.session && a.request == b.request && a.a == b.a && a.b == b.b && a.parent == b.parent
/-- What entry.Unpack answers. -/
def unpackE (s : List UInt8) : Option Entry := match unpackH s with
  | none => none
  | some (h, b) => if (entOf h b).head.beq h = true ∧ (entOf h b).right = true then some (entOf h b) else none
def unpERes (r : Option Entry) : Value := match r with
  | some e => .tuple #[.agg (entC e), .int .i64 0]
  | none => .tuple #[.agg (entC zeroEntry), .int .i64 4]

set_option maxRecDepth 100000 in
set_option maxHeartbeats 4000000 in
theorem unpackE_none (s : ByteArray) (hs : s.size ≤ maxLen) (hu : unpackH s.data.toList = none) (w : World) :
    Calls Tryd.prog 106 #[.string s] w fun e w' => e = .returned (unpERes (unpackE s.data.toList)) ∧ Below w.heap.size w w' := by
  have HU := Lib.hid (fun wx => unpack_any s hs wx)
  have e : unpackE s.data.toList = none := by rw [unpackE, hu]
  rw [e]
  have HH := Lib.hid hu
  clear hu e
  go_enter Tryd.func106, Tryd.ntmps106
  go_wp2_with (go_at_call 53; refine (HU.out _).mono ?_; rw [HH.out]; unfold unpRes headC zeroHead; rintro x w1 ⟨rfl, hb1⟩; have HB1 := Lib.hid hb1; clear hb1)
  have hr1 : w1.heap[w.heap.size]? = some (.cells #[.int .i64 0, .int .i64 0, .int .i64 0, .int .u64 0, .int .i64 0, .int .i64 0, .int .i64 0, .int .i64 0, .string ⟨#[]⟩] 27 (0, 0)) := (HB1.out.block w.heap.size (by simp)).trans (heap_alloc_new w _)
  have hlt : w.heap.size < w1.heap.size := (Array.getElem?_eq_some_iff.1 hr1).1
  have hbw : Below w.heap.size w w1 := ((Below.refl _ _).alloc (Nat.le_refl _) _).trans (HB1.out.mono (by simp))
  have HBw := Lib.hid hbw
  have HR1 := Lib.hid hr1
  have k0 : w1.cell? ⟨w.heap.size, 0, none⟩ = some (.int .i64 0) := cell_of_row _ _ _ _ _ _ hr1
  have z0 := frozen_of_row hr1 0
  have k1 : w1.cell? ⟨w.heap.size, 1, none⟩ = some (.int .i64 0) := cell_of_row _ _ _ _ _ _ hr1
  have z1 := frozen_of_row hr1 1
  have k2 : w1.cell? ⟨w.heap.size, 2, none⟩ = some (.int .i64 0) := cell_of_row _ _ _ _ _ _ hr1
  have z2 := frozen_of_row hr1 2
  have k3 : w1.cell? ⟨w.heap.size, 3, none⟩ = some (.int .u64 0) := cell_of_row _ _ _ _ _ _ hr1
  have z3 := frozen_of_row hr1 3
  have k4 : w1.cell? ⟨w.heap.size, 4, none⟩ = some (.int .i64 0) := cell_of_row _ _ _ _ _ _ hr1
  have z4 := frozen_of_row hr1 4
  have k5 : w1.cell? ⟨w.heap.size, 5, none⟩ = some (.int .i64 0) := cell_of_row _ _ _ _ _ _ hr1
  have z5 := frozen_of_row hr1 5
  have k6 : w1.cell? ⟨w.heap.size, 6, none⟩ = some (.int .i64 0) := cell_of_row _ _ _ _ _ _ hr1
  have z6 := frozen_of_row hr1 6
  have k7 : w1.cell? ⟨w.heap.size, 7, none⟩ = some (.int .i64 0) := cell_of_row _ _ _ _ _ _ hr1
  have z7 := frozen_of_row hr1 7
  have k8 : w1.cell? ⟨w.heap.size, 8, none⟩ = some (.string ⟨#[]⟩) := cell_of_row _ _ _ _ _ _ hr1
  have z8 := frozen_of_row hr1 8
  clear hr1 hbw
  go_region
  go_wp2
  clear k0 z0 k1 z1 k2 z2 k3 z3 k4 z4 k5 z5 k6 z6 k7 z7 k8 z8
  have hk := (set_block 8 (.string ⟨#[]⟩) (set_block 7 (.int .i64 0) (set_block 6 (.int .i64 0) (set_block 5 (.int .i64 0) (set_block 4 (.int .i64 0) (set_block 3 (.int .u64 0) (set_block 2 (.int .i64 0) (set_block 1 (.int .i64 0) (set_block 0 (.int .i64 0) HR1.out)))))))))
  simp only [List.setIfInBounds_toArray, List.set_cons_zero, List.set_cons_succ] at hk
  have hbz : Below w.heap.size w (((((((((w1.setCell ⟨w.heap.size, 0, none⟩ (.int .i64 0)).setCell ⟨w.heap.size, 1, none⟩ (.int .i64 0)).setCell ⟨w.heap.size, 2, none⟩ (.int .i64 0)).setCell ⟨w.heap.size, 3, none⟩ (.int .u64 0)).setCell ⟨w.heap.size, 4, none⟩ (.int .i64 0)).setCell ⟨w.heap.size, 5, none⟩ (.int .i64 0)).setCell ⟨w.heap.size, 6, none⟩ (.int .i64 0)).setCell ⟨w.heap.size, 7, none⟩ (.int .i64 0)).setCell ⟨w.heap.size, 8, none⟩ (.string ⟨#[]⟩)) := (((((((((HBw.out.setCell (Nat.le_refl _) _).setCell (Nat.le_refl _) _).setCell (Nat.le_refl _) _).setCell (Nat.le_refl _) _).setCell (Nat.le_refl _) _).setCell (Nat.le_refl _) _).setCell (Nat.le_refl _) _).setCell (Nat.le_refl _) _).setCell (Nat.le_refl _) _)
  generalize (((((((((w1.setCell ⟨w.heap.size, 0, none⟩ (.int .i64 0)).setCell ⟨w.heap.size, 1, none⟩ (.int .i64 0)).setCell ⟨w.heap.size, 2, none⟩ (.int .i64 0)).setCell ⟨w.heap.size, 3, none⟩ (.int .u64 0)).setCell ⟨w.heap.size, 4, none⟩ (.int .i64 0)).setCell ⟨w.heap.size, 5, none⟩ (.int .i64 0)).setCell ⟨w.heap.size, 6, none⟩ (.int .i64 0)).setCell ⟨w.heap.size, 7, none⟩ (.int .i64 0)).setCell ⟨w.heap.size, 8, none⟩ (.string ⟨#[]⟩)) = w7 at hk hbz ⊢
  have hlt7 : w.heap.size < w7.heap.size := (Array.getElem?_eq_some_iff.1 hk).1
  have hbu : Below w7.heap.size w7 ((w7.alloc (.cells #[.int .i64 0, .int .i64 0, .int .i64 0, .int .i64 0, .int .i64 0, .int .i64 0, .int .i64 0, .int .i64 0, .int .i64 0, .int .i64 0, .int .i64 0, .int .u64 0] 75)).alloc (.cells #[.int .i64 0, .int .i64 0, .int .i64 0, .int .u64 0, .int .i64 0, .int .i64 0, .int .i64 0, .int .i64 0, .string (str [])] 27)).drew := (((Below.refl _ _).alloc (Nat.le_refl _) _).alloc (by simp) _).drew
  have hk := (hbu.block _ hlt7).trans hk
  have hbz := hbz.trans (hbu.mono (Nat.le_of_lt hlt7))
  clear hbu
  generalize ((w7.alloc (.cells #[.int .i64 0, .int .i64 0, .int .i64 0, .int .i64 0, .int .i64 0, .int .i64 0, .int .i64 0, .int .i64 0, .int .i64 0, .int .i64 0, .int .i64 0, .int .u64 0] 75)).alloc (.cells #[.int .i64 0, .int .i64 0, .int .i64 0, .int .u64 0, .int .i64 0, .int .i64 0, .int .i64 0, .int .i64 0, .string (str [])] 27)).drew = w8 at hk hbz ⊢
  have e0 := cell_of_row w8 w.heap.size 0 _ _ _ hk
  have e1 := cell_of_row w8 w.heap.size 1 _ _ _ hk
  have e2 := cell_of_row w8 w.heap.size 2 _ _ _ hk
  have e3 := cell_of_row w8 w.heap.size 3 _ _ _ hk
  have e4 := cell_of_row w8 w.heap.size 4 _ _ _ hk
  have e5 := cell_of_row w8 w.heap.size 5 _ _ _ hk
  have e6 := cell_of_row w8 w.heap.size 6 _ _ _ hk
  have e7 := cell_of_row w8 w.heap.size 7 _ _ _ hk
  have e8 := cell_of_row w8 w.heap.size 8 _ _ _ hk
  clear hk
  exact bodyPost_ret (v := unpERes none) (by simp [results, Tryd.results106, go_sem, e0, e1, e2, e3, e4, e5, e6, e7, e8, unpERes, entC, zeroEntry]) rfl ⟨rfl, hbz⟩

set_option maxRecDepth 100000 in
set_option maxHeartbeats 4000000 in
theorem neq_head (x y : Head) (w : World) : (binOp .neq 75 (.agg (headC x)) (.agg (headC y))).run Tryd.prog w = .ok (.bool (!x.beq y)) w := by
  have hp : Tryd.prog.stoodInHeld 75 = false := by kernel_rfl
  have hS : Tryd.prog.underlying 75 = some (.struct (Tryd.prog.fieldsOf 75)) := by kernel_rfl
  have h : (Op.equalIn 10000 75 (.agg (headC x)) (.agg (headC y))).run Tryd.prog w = .ok (x.beq y) w := by
    rw [run_equalIn_struct w 9999 _ _ _ hS hp]
    simp only [Program.fieldsOf, Tryd.underlying75]
    obtain ⟨a, b, c, d, e, f, g, h, i, j, k, l⟩ := x
    obtain ⟨a', b', c', d', e', f', g', h', i', j', k', l'⟩ := y
    simp only [headC, Head.beq]
    go_simp
    by_cases h1 : a = a'
    · by_cases h2 : b = b'
      · by_cases h3 : c = c'
        · by_cases h4 : d = d'
          · by_cases h5 : e = e'
            · by_cases h6 : f = f'
              · by_cases h7 : g = g'
                · by_cases h8 : h = h'
                  · by_cases h9 : i = i'
                    · by_cases h10 : j = j'
                      · by_cases h11 : k = k'
                        · by_cases h12 : l = l' <;> simp [h1, h2, h3, h4, h5, h6, h7, h8, h9, h10, h11, h12]
                        · simp [h1, h2, h3, h4, h5, h6, h7, h8, h9, h10, h11]
                      · simp [h1, h2, h3, h4, h5, h6, h7, h8, h9, h10]
                    · simp [h1, h2, h3, h4, h5, h6, h7, h8, h9]
                  · simp [h1, h2, h3, h4, h5, h6, h7, h8]
                · simp [h1, h2, h3, h4, h5, h6, h7]
              · simp [h1, h2, h3, h4, h5, h6]
            · simp [h1, h2, h3, h4, h5]
          · simp [h1, h2, h3, h4]
        · simp [h1, h2, h3]
      · simp [h1, h2]
    · simp [h1]
  rw [run_neq_struct, h]; rfl

theorem ent_info : (Tryd.prog.info? 27).map (·.size) = some 9 := by kernel_rfl
theorem head_noguard : Tryd.prog.eqGuardType Tryd.prog.depth 75 = false := by kernel_rfl
theorem yieldsIf_neqAgg {P : Program} {ops : Array Oper} {S : World → Prop} {op : Oper} {a : Act} (hw : Region.wanted op (yielded ops a.tmps) = true) (t : TypeId) (x y : Operand) (yt : TypeId) (ho : op.op = .binOp .neq t x y yt)
    (xs ys : Array Value) (r : Value) (hx : a.eval x = .agg xs) (hy : a.eval y = .agg ys) (hm : P.eqGuardType P.depth t = false) (hg : ∀ w, (binOp .neq t (.agg xs) (.agg ys)).run P w = .ok r w) : YieldsIf P ops S op r a :=
  .inl ⟨hw, fun w hw' => by
    unfold execOp
    simp only [ho, hx, hy, Sem.run_bind, Sem.run_pure, Result.andThen_ok, run_eqGuard_agg (hm := hm), hg w]⟩

/-- What stands while the two calls are made. -/
def US (h : Head) (b : List UInt8) (w w1 wx : World) : Prop :=
  wx.heap[w1.heap.size]? = some (.cells (headC h) 75 (0, 0)) ∧ wx.heap[w1.heap.size + 1]? = some (.cells (entC (entOf h b)) 27 (0, 0)) ∧ wx.heap[w.heap.size]? = some (.cells (entC zeroEntry) 27 (0, 0)) ∧ w.heap.size < w1.heap.size ∧ Below w.heap.size w wx
theorem US.size {h : Head} {b : List UInt8} {w w1 wx : World} (g : US h b w w1 wx) : w1.heap.size + 2 ≤ wx.heap.size := (Array.getElem?_eq_some_iff.1 g.2.1).1
theorem US.later {h : Head} {b : List UInt8} {w w1 wx wy : World} (g : US h b w w1 wx) (hb : Below wx.heap.size wx wy) : US h b w w1 wy := by
  have := g.size
  obtain ⟨h1, h2, h3, h4, h5⟩ := g
  exact ⟨(hb.block _ (by omega)).trans h1, (hb.block _ (by omega)).trans h2, (hb.block _ (by omega)).trans h3, h4, h5.trans (hb.mono (by have := h4; omega))⟩

set_option maxRecDepth 100000 in
set_option maxHeartbeats 4000000 in
theorem unpackE_some (s : ByteArray) (hs : s.size ≤ maxLen) (h : Head) (b : List UInt8) (hu : unpackH s.data.toList = some (h, b)) (w : World) :
    Calls Tryd.prog 106 #[.string s] w fun e w' => e = .returned (unpERes (unpackE s.data.toList)) ∧ Below w.heap.size w w' := by
  have hbl : (entOf h b).body.size ≤ maxLen := by
    simp only [unpackH] at hu
    split at hu
    · rename_i hc
      simp only [Option.some.injEq, Prod.mk.injEq] at hu
      have e1 : b.length ≤ 3968 := by rw [← hu.2, List.length_drop]; exact hc.2.2.1
      show (str b).size ≤ _
      rw [str_size]; simp only [maxLen]; omega
    · simp at hu
  have HBl := Lib.hid hbl
  have e : unpackE s.data.toList = if (entOf h b).head.beq h = true ∧ (entOf h b).right = true then some (entOf h b) else none := by rw [unpackE, hu]
  obtain ⟨RE, hRE⟩ : ∃ r, r = unpackE s.data.toList := ⟨_, rfl⟩
  rw [← hRE]
  have HRE := Lib.hid (hRE.trans e)
  have HU := Lib.hid (fun wx => unpack_any s hs wx)
  have HH := Lib.hid hu
  clear hu e hbl hRE
  go_enter Tryd.func106, Tryd.ntmps106
  go_wp2_with (go_at_call 53; refine (HU.out _).mono ?_; rw [HH.out]; unfold unpRes headC; rintro x w1 ⟨rfl, hb1⟩; have HB1 := Lib.hid hb1; clear hb1)
  have hS : US h b w w1 ((w1.alloc (.cells #[.int .i64 h.kind, .int .i64 h.src, .int .i64 h.operation, .int .i64 h.view, .int .i64 h.op, .int .i64 h.commit, .int .i64 h.client, .int .i64 h.session, .int .i64 h.request, .int .i64 h.a, .int .i64 h.b, .int .u64 h.parent] 75)).alloc (.cells #[.int .i64 h.view, .int .i64 h.op, .int .i64 h.a, .int .u64 h.parent, .int .i64 h.client, .int .i64 h.session, .int .i64 h.request, .int .i64 h.operation, .string (str b)] 27)) := by
    have hr1 : w1.heap[w.heap.size]? = some (.cells (entC zeroEntry) 27 (0, 0)) := (HB1.out.block w.heap.size (by simp)).trans (heap_alloc_new w _)
    have hlt : w.heap.size < w1.heap.size := (Array.getElem?_eq_some_iff.1 hr1).1
    have hbw : Below w.heap.size w w1 := ((Below.refl _ _).alloc (Nat.le_refl _) _).trans (HB1.out.mono (by simp))
    refine ⟨?_, ?_, ?_, hlt, hbw.trans ((((Below.refl _ _).alloc (Nat.le_of_lt hlt) _)).alloc (by simp; omega) _)⟩
    · rw [heap_alloc_old _ _ (by simp)]; exact heap_alloc_new w1 _
    · have h1 := heap_alloc_new (w1.alloc (.cells (headC h) 75)) (.cells (entC (entOf h b)) 27)
      have e1 : (w1.alloc (.cells (headC h) 75)).heap.size = w1.heap.size + 1 := by simp
      rw [e1] at h1
      exact h1
    · rw [heap_alloc_old _ _ (by simp; omega), heap_alloc_old _ _ hlt]; exact hr1
  generalize ((w1.alloc (.cells #[.int .i64 h.kind, .int .i64 h.src, .int .i64 h.operation, .int .i64 h.view, .int .i64 h.op, .int .i64 h.commit, .int .i64 h.client, .int .i64 h.session, .int .i64 h.request, .int .i64 h.a, .int .i64 h.b, .int .u64 h.parent] 75)).alloc (.cells #[.int .i64 h.view, .int .i64 h.op, .int .i64 h.a, .int .u64 h.parent, .int .i64 h.client, .int .i64 h.session, .int .i64 h.request, .int .i64 h.operation, .string (str b)] 27)) = w2 at hS ⊢
  have HS := Lib.hid hS
  have HNeq := Lib.hid (fun wx => neq_head (entOf h b).head h wx)
  have hS1 : US h b w w1 w2.drew := hS.later (below_drewN (Below.refl _ _) 1)
  clear hS
  refine wp_region_held_drew (S := US h b w w1) (by kernel_rfl) hS1 ?_
  intro hSd
  refine wpAnyH_take (i := 0) (v := .int .i64 0) rfl (by kernel_rfl) (by kernel_rfl) (by kernel_rfl) (fun _ _ _ h => h) (Or.inl ⟨by rfl, fun wx hSx => by (try dsimp only at hSx); go_simp⟩) hSd ?_
  refine wpAnyH_take (i := 1) (v := .bool false) rfl (by kernel_rfl) (by kernel_rfl) (by kernel_rfl) (fun _ _ _ h => h) (Or.inl ⟨by rfl, fun wx hSx => by (try dsimp only at hSx); go_simp⟩) hSd ?_
  refine wpAnyH_take (i := 2) (v := .bool false) rfl (by kernel_rfl) (by kernel_rfl) (by kernel_rfl) (fun _ _ _ h => h) (Or.inl ⟨by rfl, fun wx hSx => by (try dsimp only at hSx); go_simp⟩) hSd ?_
  refine wpAnyH_take (i := 3) rfl (by kernel_rfl) (by kernel_rfl) (by kernel_rfl) (fun _ _ _ h => h) (yieldsIf_load_row (by rfl) 27 _ rfl (w1.heap.size + 1) rfl 27 _ (0, 0) _ (fun _ h => h.2.1) Tryd.underlying27 rfl ent_info) hSd ?_
  refine wpAnyH_take (i := 5) rfl (by kernel_rfl) (by kernel_rfl) (by kernel_rfl) (fun _ _ _ h => h) (yieldsIf_load_row (by rfl) 75 _ rfl (w1.heap.size) rfl 75 _ (0, 0) _ (fun _ h => h.1) Tryd.underlying75 rfl head_info) hSd ?_
  refine wpAnyH_ready (rs := [4]) (by kernel_rfl) (by simp) (AllReadyH.cons rfl ?_ AllReadyH.nil)
  intro K' hK'
  refine Eq.mpr (if_pos (by rfl)) ?_
  go_wp2_with fail
  refine (entHeader_any (entOf h b) _).mono ?_
  rintro x w3 ⟨rfl, hb3⟩
  have hS3 := (HS.out.later (below_drewN (Below.refl _ _) 1)).later hb3
  refine hK'.out _ _ hS3 (fun hSd2 => ?_)
  clear hSd hS1
  have HSd2 := Lib.hid hSd2
  cases hq : (entOf h b).head.beq h
  · have HQ := Lib.hid hq
    clear hq
    refine wpAnyH_take (i := 6) (v := .bool true) rfl (by kernel_rfl) (by kernel_rfl) (by kernel_rfl) (fun _ _ _ h => h) (yieldsIf_neqAgg (by rfl) 75 _ _ _ rfl _ _ _ rfl rfl head_noguard (fun wx => by rw [HNeq.out wx, HQ.out]; rfl)) hSd2 ?_
    refine wpAnyH_take (i := 7) (v := .bool true) rfl (by kernel_rfl) (by kernel_rfl) (by kernel_rfl) (fun _ _ _ h => h) (Or.inl ⟨by rfl, fun wx hSx => by (try dsimp only at hSx); go_simp⟩) hSd2 ?_
    refine wpAnyH_take (i := 8) (v := .bool true) rfl (by kernel_rfl) (by kernel_rfl) (by kernel_rfl) (fun _ _ _ h => h) (Or.inl ⟨by rfl, fun wx hSx => by (try dsimp only at hSx); go_simp⟩) hSd2 ?_
    refine wpAnyH_take (i := 9) (v := undef) rfl (by kernel_rfl) (by kernel_rfl) (by kernel_rfl) (fun _ _ _ h => h) (Or.inr ⟨by rfl, rfl⟩) hSd2 ?_
    refine wpAnyH_take (i := 10) (v := undef) rfl (by kernel_rfl) (by kernel_rfl) (by kernel_rfl) (fun _ _ _ h => h) (Or.inr ⟨by rfl, rfl⟩) hSd2 ?_
    refine wpAnyH_take (i := 11) (v := undef) rfl (by kernel_rfl) (by kernel_rfl) (by kernel_rfl) (fun _ _ _ h => h) (Or.inr ⟨by rfl, rfl⟩) hSd2 ?_
    refine wpAnyH_take (i := 12) (v := .bool true) rfl (by kernel_rfl) (by kernel_rfl) (by kernel_rfl) (fun _ _ _ h => h) (Or.inl ⟨by rfl, fun wx hSx => by (try dsimp only at hSx); go_simp⟩) hSd2 ?_
    refine wpAnyH_done (by kernel_rfl) ?_ _
    clear hS3 hSd2
    have hS4 := HSd2.out
    obtain ⟨r1, r2, r3, hlt, hbz⟩ := hS4
    have R2 := Lib.hid r2
    have R3 := Lib.hid r3
    have HBz := Lib.hid hbz
    clear r1 r2 r3 hbz
    go_wp2_with ((with_reducible show wpList _ _ _ (⟨none, .store 27 (.tmp 2) (.tmp 45), _, _, _, _⟩ :: _) _ _); refine wpList_store_row (op := ⟨none, .store 27 (.tmp 2) (.tmp 45), _, _, _, _⟩) rfl 27 _ _ rfl w.heap.size 27 (entC zeroEntry) (entC zeroEntry) rfl rfl R3.out ent_info rfl (ent_one _) ?_)
    have hg := setRow_heap w3 w.heap.size (entC zeroEntry) (entC zeroEntry) 27 (0, 0) R3.out
    refine bodyPost_ret (v := unpERes none) ?_ rfl ?_
    · exact results_row2 2 27 3 rfl w.heap.size rfl _ rfl (entC zeroEntry) 27 (0, 0) hg _ Tryd.underlying27 rfl ent_info
    · exact ⟨by rw [HRE.out, if_neg (fun hc => by have := hc.1; rw [HQ.out] at this; cases this)], HBz.out.trans (below_setRow _ _ _)⟩
  · have HQ := Lib.hid hq
    clear hq
    refine wpAnyH_take (i := 6) (v := .bool false) rfl (by kernel_rfl) (by kernel_rfl) (by kernel_rfl) (fun _ _ _ h => h) (yieldsIf_neqAgg (by rfl) 75 _ _ _ rfl _ _ _ rfl rfl head_noguard (fun wx => by rw [HNeq.out wx, HQ.out]; rfl)) hSd2 ?_
    refine wpAnyH_take (i := 7) (v := .bool false) rfl (by kernel_rfl) (by kernel_rfl) (by kernel_rfl) (fun _ _ _ h => h) (Or.inl ⟨by rfl, fun wx hSx => by (try dsimp only at hSx); go_simp⟩) hSd2 ?_
    refine wpAnyH_take (i := 8) (v := .bool false) rfl (by kernel_rfl) (by kernel_rfl) (by kernel_rfl) (fun _ _ _ h => h) (Or.inl ⟨by rfl, fun wx hSx => by (try dsimp only at hSx); go_simp⟩) hSd2 ?_
    refine wpAnyH_take (i := 9) rfl (by kernel_rfl) (by kernel_rfl) (by kernel_rfl) (fun _ _ _ h => h) (yieldsIf_load_row (by rfl) 27 _ rfl (w1.heap.size + 1) rfl 27 _ (0, 0) _ (fun _ h => h.2.1) Tryd.underlying27 rfl ent_info) hSd2 ?_
    refine wpAnyH_ready (rs := [10]) (by kernel_rfl) (by simp) (AllReadyH.cons rfl ?_ AllReadyH.nil)
    intro K2 hK2
    refine Eq.mpr (if_pos (by rfl)) ?_
    go_wp2_with fail
    refine (entRight_any (entOf h b) HBl.out _).mono ?_
    rintro x w4 ⟨rfl, hb4⟩
    refine hK2.out _ _ (HSd2.out.later hb4) (fun hSd3 => ?_)
    have HSd3 := Lib.hid hSd3
    clear hSd2 hS3
    cases hr : (entOf h b).right
    · have HR := Lib.hid hr
      clear hr
      refine wpAnyH_take (i := 11) (v := .bool true) rfl (by kernel_rfl) (by kernel_rfl) (by kernel_rfl) (fun _ _ _ h => h) (Or.inl ⟨by rfl, fun wx hSx => by (try dsimp only at hSx); go_simp⟩) hSd3 ?_
      refine wpAnyH_take (i := 12) (v := .bool true) rfl (by kernel_rfl) (by kernel_rfl) (by kernel_rfl) (fun _ _ _ h => h) (Or.inl ⟨by rfl, fun wx hSx => by (try dsimp only at hSx); go_simp⟩) hSd3 ?_
      refine wpAnyH_done (by kernel_rfl) ?_ _
      clear hSd3
      have hS4 := HSd3.out
      obtain ⟨r1, r2, r3, hlt, hbz⟩ := hS4
      have R2 := Lib.hid r2
      have R3 := Lib.hid r3
      have HBz := Lib.hid hbz
      clear r1 r2 r3 hbz
      go_wp2_with ((with_reducible show wpList _ _ _ (⟨none, .store 27 (.tmp 2) (.tmp 45), _, _, _, _⟩ :: _) _ _); refine wpList_store_row (op := ⟨none, .store 27 (.tmp 2) (.tmp 45), _, _, _, _⟩) rfl 27 _ _ rfl w.heap.size 27 (entC zeroEntry) (entC zeroEntry) rfl rfl R3.out ent_info rfl (ent_one _) ?_)
      have hg := setRow_heap w4 w.heap.size (entC zeroEntry) (entC zeroEntry) 27 (0, 0) R3.out
      refine bodyPost_ret (v := unpERes none) ?_ rfl ?_
      · exact results_row2 2 27 3 rfl w.heap.size rfl _ rfl (entC zeroEntry) 27 (0, 0) hg _ Tryd.underlying27 rfl ent_info
      · exact ⟨by rw [HRE.out, if_neg (fun hc => by have := hc.2; rw [HR.out] at this; cases this)], HBz.out.trans (below_setRow _ _ _)⟩
    · have HR := Lib.hid hr
      clear hr
      refine wpAnyH_take (i := 11) (v := .bool false) rfl (by kernel_rfl) (by kernel_rfl) (by kernel_rfl) (fun _ _ _ h => h) (Or.inl ⟨by rfl, fun wx hSx => by (try dsimp only at hSx); go_simp⟩) hSd3 ?_
      refine wpAnyH_take (i := 12) (v := .bool false) rfl (by kernel_rfl) (by kernel_rfl) (by kernel_rfl) (fun _ _ _ h => h) (Or.inl ⟨by rfl, fun wx hSx => by (try dsimp only at hSx); go_simp⟩) hSd3 ?_
      refine wpAnyH_done (by kernel_rfl) ?_ _
      clear hSd3
      have hS4 := HSd3.out
      obtain ⟨r1, r2, r3, hlt, hbz⟩ := hS4
      have R2 := Lib.hid r2
      have R3 := Lib.hid r3
      have HBz := Lib.hid hbz
      clear r1 r2 r3 hbz
      go_wp2_with (first | ((with_reducible show wpList _ _ _ (⟨some 46, .load 27 (.tmp 7), _, _, _, _⟩ :: _) _ _); refine wpList_load_row (o := ⟨some 46, .load 27 (.tmp 7), _, _, _, _⟩) rfl 27 _ rfl (w1.heap.size + 1) rfl 27 (entC (entOf h b)) (0, 0) _ R2.out Tryd.underlying27 rfl ent_info ?_) | ((with_reducible show wpList _ _ _ (⟨none, .store 27 (.tmp 2) (.tmp 46), _, _, _, _⟩ :: _) _ _); refine wpList_store_row (op := ⟨none, .store 27 (.tmp 2) (.tmp 46), _, _, _, _⟩) rfl 27 _ _ rfl w.heap.size 27 (entC zeroEntry) (entC (entOf h b)) rfl rfl R3.out ent_info rfl (ent_one _) ?_))
      have hg := setRow_heap w4 w.heap.size (entC zeroEntry) (entC (entOf h b)) 27 (0, 0) R3.out
      refine bodyPost_ret (v := unpERes (some (entOf h b))) ?_ rfl ?_
      · exact results_row2 2 27 3 rfl w.heap.size rfl _ rfl (entC (entOf h b)) 27 (0, 0) hg _ Tryd.underlying27 rfl ent_info
      · exact ⟨by rw [HRE.out, if_pos ⟨HQ.out, HR.out⟩], HBz.out.trans (below_setRow _ _ _)⟩

end Go.Proofs.YtmidfknlmjgjpaaDoor
