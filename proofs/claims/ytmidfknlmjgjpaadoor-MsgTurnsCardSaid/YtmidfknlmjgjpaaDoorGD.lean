/- The walks of package entry. The walks of package entry: MarkOf; of package slot: StubOf. -/
import Derived.Test.YtmidfknlmjgjpaaDoorGC
import Derived.Deep.RegionHeld3
import Derived.Deep.RegionWith
namespace Go.Proofs.YtmidfknlmjgjpaaDoor
open Go.RowKit

/-- An entry. -/
structure Entry where
  view : Int
  op : Int
  under : Int
  parent : Int
  client : Int
  session : Int
  request : Int
  operation : Int
  body : ByteArray

def entL (e : Entry) : List Value := [.int .i64 e.view, .int .i64 e.op, .int .i64 e.under, .int .u64 e.parent, .int .i64 e.client, .int .i64 e.session, .int .i64 e.request, .int .i64 e.operation, .string e.body]
def entC (e : Entry) : Array Value := #[.int .i64 e.view, .int .i64 e.op, .int .i64 e.under, .int .u64 e.parent, .int .i64 e.client, .int .i64 e.session, .int .i64 e.request, .int .i64 e.operation, .string e.body]

def Entry.head (e : Entry) : Head := { kind := 255, src := 0, operation := e.operation, view := e.view, op := e.op, commit := 0, client := e.client, session := e.session, request := e.request, a := e.under, b := 0, parent := e.parent }
def Entry.right (e : Entry) : Bool := e.head.right && decide (1 ≤ e.op) && decide (1 ≤ e.client) && decide (1 ≤ e.operation) && decide (e.under ≤ e.view) && decide (e.body.size ≤ 200)

set_option maxRecDepth 100000 in
set_option maxHeartbeats 1000000 in
theorem entHeader_any (e : Entry) (w : World) :
    Calls Tryd.prog 73 #[.agg (entC e)] w fun x w' => x = .returned (.agg (headC e.head)) ∧ Below w.heap.size w w' := by
  unfold entC
  go_enter Tryd.func73, Tryd.ntmps73
  go_wp2
  exact bodyPost_ret (v := .agg #[.int .i64 255, .int .i64 0, .int .i64 e.operation, .int .i64 e.view, .int .i64 e.op, .int .i64 0, .int .i64 e.client, .int .i64 e.session, .int .i64 e.request, .int .i64 e.under, .int .i64 0, .int .u64 e.parent]) (by simp [results, Tryd.results73, go_sem]) rfl ⟨rfl, ((Below.refl _ _).alloc (Nat.le_refl _) _).alloc (by simp) _⟩

set_option maxRecDepth 100000 in
set_option maxHeartbeats 1000000 in
theorem entRight_any (e : Entry) (hs : e.body.size ≤ maxLen) (w : World) :
    Calls Tryd.prog 44 #[.agg (entC e)] w fun x w' => x = .returned (.bool e.right) ∧ Below w.heap.size w w' := by
  have hs : e.body.size ≤ 9223372036854775807 := hs
  cases hr : e.head.right
  all_goals
    have Hr := Lib.hid hr
    clear hr
    unfold entC
    go_enter Tryd.func44, Tryd.ntmps44
    go_wp2_with fail
    refine (entHeader_any e _).mono ?_
    rintro x w1 ⟨rfl, hb1⟩
    go_wp2_with fail
    refine (headRight_any e.head _).mono ?_
    rintro x w2 ⟨rfl, hb2⟩
    rw [Hr.out]
    have hb := hb1.trans (hb2.mono hb1.size)
    clear hb1 hb2
    have HB := Lib.hid (below_box hb (by simp))
    have f0 : w2.cell? ⟨w.heap.size, 0, none⟩ = some (.int .i64 e.view) := by rw [hb.cell (by simp)]; simp
    have f1 : w2.cell? ⟨w.heap.size, 1, none⟩ = some (.int .i64 e.op) := by rw [hb.cell (by simp)]; simp
    have f2 : w2.cell? ⟨w.heap.size, 2, none⟩ = some (.int .i64 e.under) := by rw [hb.cell (by simp)]; simp
    have f4 : w2.cell? ⟨w.heap.size, 4, none⟩ = some (.int .i64 e.client) := by rw [hb.cell (by simp)]; simp
    have f7 : w2.cell? ⟨w.heap.size, 7, none⟩ = some (.int .i64 e.operation) := by rw [hb.cell (by simp)]; simp
    have f8 : w2.cell? ⟨w.heap.size, 8, none⟩ = some (.string e.body) := by rw [hb.cell (by simp)]; simp
    clear hb
    go_wp2
    all_goals go_ret
    all_goals refine ⟨?_, HB.out⟩
    all_goals have hr := Hr.out
    all_goals simp_all [Entry.right]
  all_goals omega

theorem ent_right {e : Entry} (h : e.right = true) : e.head.right = true ∧ 1 ≤ e.op ∧ 1 ≤ e.client ∧ 1 ≤ e.operation ∧ e.under ≤ e.view ∧ e.body.size ≤ 200 := by
  simp only [Entry.right, Bool.and_eq_true, decide_eq_true_eq] at h
  obtain ⟨⟨⟨⟨⟨h1, h2⟩, h3⟩, h4⟩, h5⟩, h6⟩ := h
  exact ⟨h1, h2, h3, h4, h5, h6⟩

theorem ent_cells {w w' : World} {N : Nat} {e : Entry} {B : Nat} (hb : Below B w.drew w') (hN : N < B)
    (g0 : w.cell? ⟨N, 0, none⟩ = some (.int .i64 e.view)) (g1 : w.cell? ⟨N, 1, none⟩ = some (.int .i64 e.op)) (g2 : w.cell? ⟨N, 2, none⟩ = some (.int .i64 e.under)) (g3 : w.cell? ⟨N, 3, none⟩ = some (.int .u64 e.parent))
    (g4 : w.cell? ⟨N, 4, none⟩ = some (.int .i64 e.client)) (g5 : w.cell? ⟨N, 5, none⟩ = some (.int .i64 e.session)) (g6 : w.cell? ⟨N, 6, none⟩ = some (.int .i64 e.request)) (g7 : w.cell? ⟨N, 7, none⟩ = some (.int .i64 e.operation)) (g8 : w.cell? ⟨N, 8, none⟩ = some (.string e.body)) :
    w'.cell? ⟨N, 0, none⟩ = some (.int .i64 e.view) ∧ w'.cell? ⟨N, 1, none⟩ = some (.int .i64 e.op) ∧ w'.cell? ⟨N, 2, none⟩ = some (.int .i64 e.under) ∧ w'.cell? ⟨N, 3, none⟩ = some (.int .u64 e.parent) ∧ w'.cell? ⟨N, 4, none⟩ = some (.int .i64 e.client) ∧ w'.cell? ⟨N, 5, none⟩ = some (.int .i64 e.session) ∧ w'.cell? ⟨N, 6, none⟩ = some (.int .i64 e.request) ∧ w'.cell? ⟨N, 7, none⟩ = some (.int .i64 e.operation) ∧ w'.cell? ⟨N, 8, none⟩ = some (.string e.body) := by
  have f : ∀ o, w'.cell? ⟨N, o, none⟩ = w.cell? ⟨N, o, none⟩ := fun o => by rw [hb.cell hN]; simp
  simp only [f]
  exact ⟨g0, g1, g2, g3, g4, g5, g6, g7, g8⟩

/-- An entry's bytes. -/
def Entry.bytes (e : Entry) : List UInt8 := e.head.pack e.body.data.toList

set_option maxRecDepth 100000 in
set_option maxHeartbeats 1000000 in
theorem entPack_form (e : Entry) (hs : e.body.size ≤ maxLen) (hr : e.right = false) (w : World) :
    Calls Tryd.prog 86 #[.agg (entC e)] w fun x w' => x = .returned (.tuple #[.string (str []), .int .i64 4]) ∧ Below w.heap.size w w' := by
  have Hr := Lib.hid hr
  clear hr
  unfold entC
  go_enter Tryd.func86, Tryd.ntmps86
  go_wp2_with (go_at_call 44; refine (entRight_any e hs _).mono ?_; rintro x w1 ⟨rfl, hb1⟩; rw [Hr.out])
  go_ret2
  exact ⟨rfl, below_box hb1 (by simp)⟩

set_option maxRecDepth 100000 in
set_option maxHeartbeats 1000000 in
theorem entPack_ok (e : Entry) (hr : e.right = true) (hp0 : 0 ≤ e.parent) (hp1 : e.parent < 18446744073709551616) (w : World) :
    Calls Tryd.prog 86 #[.agg (entC e)] w fun x w' => x = .returned (.tuple #[.string (str e.bytes), .int .i64 0]) ∧ Below w.heap.size w w' := by
  obtain ⟨r1, _, _, _, _, r6⟩ := ent_right hr
  have hs : e.body.size ≤ maxLen := by simp only [maxLen]; omega
  have R1 := Lib.hid r1
  have Hr := Lib.hid hr
  clear hr r1
  unfold entC
  go_enter Tryd.func86, Tryd.ntmps86
  go_wp2_with (go_at_call 44; refine (entRight_any e hs _).mono ?_; rintro x w1 ⟨rfl, hb1⟩; rw [Hr.out])
  have HB1 := Lib.hid hb1
  have f0 : ∀ j v, (entC e)[j]? = some v → w1.cell? ⟨w.heap.size, j, none⟩ = some v := by intro j v hv; rw [hb1.cell (by simp)]; simpa [entC] using hv
  have F0 := Lib.hid f0
  have hz := hb1.size
  simp only [World.size_alloc] at hz
  clear hb1 f0
  have g0 : w1.cell? ⟨w.heap.size, 0, none⟩ = some (.int .i64 e.view) := F0.out 0 _ rfl
  have g1 : w1.cell? ⟨w.heap.size, 1, none⟩ = some (.int .i64 e.op) := F0.out 1 _ rfl
  have g2 : w1.cell? ⟨w.heap.size, 2, none⟩ = some (.int .i64 e.under) := F0.out 2 _ rfl
  have g3 : w1.cell? ⟨w.heap.size, 3, none⟩ = some (.int .u64 e.parent) := F0.out 3 _ rfl
  have g4 : w1.cell? ⟨w.heap.size, 4, none⟩ = some (.int .i64 e.client) := F0.out 4 _ rfl
  have g5 : w1.cell? ⟨w.heap.size, 5, none⟩ = some (.int .i64 e.session) := F0.out 5 _ rfl
  have g6 : w1.cell? ⟨w.heap.size, 6, none⟩ = some (.int .i64 e.request) := F0.out 6 _ rfl
  have g7 : w1.cell? ⟨w.heap.size, 7, none⟩ = some (.int .i64 e.operation) := F0.out 7 _ rfl
  have g8 : w1.cell? ⟨w.heap.size, 8, none⟩ = some (.string e.body) := F0.out 8 _ rfl
  go_region_held3 (fun w' => w'.cell? ⟨w.heap.size, 0, none⟩ = some (.int .i64 e.view) ∧ w'.cell? ⟨w.heap.size, 1, none⟩ = some (.int .i64 e.op) ∧ w'.cell? ⟨w.heap.size, 2, none⟩ = some (.int .i64 e.under) ∧ w'.cell? ⟨w.heap.size, 3, none⟩ = some (.int .u64 e.parent) ∧ w'.cell? ⟨w.heap.size, 4, none⟩ = some (.int .i64 e.client) ∧ w'.cell? ⟨w.heap.size, 5, none⟩ = some (.int .i64 e.session) ∧ w'.cell? ⟨w.heap.size, 6, none⟩ = some (.int .i64 e.request) ∧ w'.cell? ⟨w.heap.size, 7, none⟩ = some (.int .i64 e.operation) ∧ w'.cell? ⟨w.heap.size, 8, none⟩ = some (.string e.body))
    (first | go_keep | (exact hS2) | (exact hS3))
    (first
      | (go_at_call 73; refine (entHeader_any e _).mono ?_; rintro x w2 ⟨rfl, hb2⟩; have hS2 := ent_cells hb2 (by simp; omega) g0 g1 g2 g3 g4 g5 g6 g7 g8)
      | (go_at_call 34; refine (pack_ok e.head e.body _ R1.out (by omega) hp0 hp1).mono ?_; rintro x w3 ⟨rfl, hb3⟩; have hS3 := ent_cells (hb2.trans (hb3.mono hb2.size)) (by simp; omega) g0 g1 g2 g3 g4 g5 g6 g7 g8))
  go_wp2
  go_ret2
  exact ⟨rfl, below_box (HB1.out.trans (((below_drewN (Below.refl _ _) 1).trans (hb2.trans (hb3.mono hb2.size))).mono (by simp; omega))) (by simp)⟩

theorem ent_bytes_length (e : Entry) : e.bytes.length = 128 + e.body.size := by rw [Entry.bytes, pack_length]; simp

/-- An entry's mark's sum. -/
def Entry.sum (e : Entry) : Nat := Pl.chain e.parent.toNat e.bytes

set_option maxRecDepth 100000 in
set_option maxHeartbeats 400000 in
theorem markOf_ok (e : Entry) (hr : e.right = true) (hp0 : 0 ≤ e.parent) (hp1 : e.parent < 18446744073709551616) (w : World) :
    Calls Tryd.prog 113 #[.agg (entC e)] w fun x w' => x = .returned (.agg #[.int .i64 e.op, .int .i64 e.view, .int .u64 (e.sum : Nat)]) ∧ Below w.heap.size w w' := by
  obtain ⟨P, hP⟩ : ∃ P : Nat, (P : Int) = e.parent := ⟨e.parent.toNat, by omega⟩
  have hsum : Pl.chain P (str e.bytes).data.toList = e.sum := by rw [Entry.sum, ← hP, Int.toNat_natCast]
  have Hsum := Lib.hid hsum
  have hbl : (str e.bytes).size ≤ maxLen := by
    obtain ⟨_, _, _, _, _, r6⟩ := ent_right hr
    rw [str_size, ent_bytes_length]; simp only [maxLen]; omega
  have Hr := Lib.hid hr
  have HP := Lib.hid hP
  have HPl := Lib.hid (show P < 18446744073709551616 by omega)
  have Hp1 := Lib.hid hp1
  clear hr hsum hP hp1
  unfold entC
  go_enter Tryd.func113, Tryd.ntmps113
  go_wp2_with (go_at_call 86; refine (entPack_ok e Hr.out hp0 Hp1.out _).mono ?_; rintro x w1 ⟨rfl, hb1⟩)
  have f0 : ∀ j v, (entC e)[j]? = some v → w1.cell? ⟨w.heap.size, j, none⟩ = some v := by intro j v hv; rw [hb1.cell (by simp; omega)]; simpa [entC] using hv
  have g0 : w1.cell? ⟨w.heap.size, 0, none⟩ = some (.int .i64 e.view) := f0 0 _ rfl
  have g1 : w1.cell? ⟨w.heap.size, 1, none⟩ = some (.int .i64 e.op) := f0 1 _ rfl
  have g3 : w1.cell? ⟨w.heap.size, 3, none⟩ = some (.int .u64 (P : Int)) := by rw [HP.out]; exact f0 3 _ rfl
  have r0 : w1.cell? ⟨w.heap.size + 1, 0, none⟩ = some (.int .i64 0) := by rw [hb1.cell (by simp)]; simp
  have r1 : w1.cell? ⟨w.heap.size + 1, 1, none⟩ = some (.int .i64 0) := by rw [hb1.cell (by simp)]; simp
  have r2 : w1.cell? ⟨w.heap.size + 1, 2, none⟩ = some (.int .u64 0) := by rw [hb1.cell (by simp)]; simp
  have z0 : w1.frozen? ⟨w.heap.size + 1, 0, none⟩ = false := by rw [hb1.frozen (by simp)]; simp
  have z1 : w1.frozen? ⟨w.heap.size + 1, 1, none⟩ = false := by rw [hb1.frozen (by simp)]; simp
  have z2 : w1.frozen? ⟨w.heap.size + 1, 2, none⟩ = false := by rw [hb1.frozen (by simp)]; simp
  clear f0
  go_region_held3 (fun w' => w'.cell? ⟨w.heap.size, 0, none⟩ = some (.int .i64 e.view) ∧ w'.cell? ⟨w.heap.size, 1, none⟩ = some (.int .i64 e.op) ∧ w'.cell? ⟨w.heap.size, 3, none⟩ = some (.int .u64 (P : Int)))
    (first | go_keep)
    (first
      | (go_at_call 118; refine (chain_any P HPl.out _ hbl _).mono ?_; rintro x w2 ⟨rfl, rfl⟩))
  go_wp2
  have hbb : Below w.heap.size w w1 := (((Below.refl _ _).alloc (Nat.le_refl _) _).alloc (by simp) _).trans (hb1.mono (by simp; omega))
  exact bodyPost_ret (v := .agg #[.int .i64 e.op, .int .i64 e.view, .int .u64 (e.sum : Nat)]) (by simp [results, Tryd.results113, go_sem, r0, r1, r2]; exact congrArg Nat.cast Hsum.out) rfl ⟨rfl, (((hbb.setCell (by simp) _).setCell (by simp) _).setCell (by simp) _).drew⟩

/-- A stub. -/
structure Stub where
  op : Int
  view : Int
  under : Int
  parent : Int
  sum : Int
def stubC (s : Stub) : Array Value := #[.int .i64 s.op, .int .i64 s.view, .int .i64 s.under, .int .u64 s.parent, .int .u64 s.sum]
def Entry.stub (e : Entry) : Stub := if e.right = true then { op := e.op, view := e.view, under := e.under, parent := e.parent, sum := (e.sum : Nat) } else { op := 0, view := 0, under := 0, parent := 0, sum := 0 }

set_option maxRecDepth 100000 in
set_option maxHeartbeats 400000 in
theorem stubOf_no (e : Entry) (hs : e.body.size ≤ maxLen) (hr : e.right = false) (w : World) :
    Calls Tryd.prog 102 #[.agg (entC e)] w fun x w' => x = .returned (.agg #[.int .i64 0, .int .i64 0, .int .i64 0, .int .u64 0, .int .u64 0]) ∧ Below w.heap.size w w' := by
  have Hr := Lib.hid hr
  clear hr
  unfold entC
  go_enter Tryd.func102, Tryd.ntmps102
  go_wp2_with fail
  refine (entRight_any e hs _).mono ?_
  rintro x w1 ⟨rfl, hb1⟩
  rw [Hr.out]
  have r0 : w1.cell? ⟨w.heap.size + 1, 0, none⟩ = some (.int .i64 0) := by rw [hb1.cell (by simp)]; simp
  have r1 : w1.cell? ⟨w.heap.size + 1, 1, none⟩ = some (.int .i64 0) := by rw [hb1.cell (by simp)]; simp
  have r2 : w1.cell? ⟨w.heap.size + 1, 2, none⟩ = some (.int .i64 0) := by rw [hb1.cell (by simp)]; simp
  have r3 : w1.cell? ⟨w.heap.size + 1, 3, none⟩ = some (.int .u64 0) := by rw [hb1.cell (by simp)]; simp
  have r4 : w1.cell? ⟨w.heap.size + 1, 4, none⟩ = some (.int .u64 0) := by rw [hb1.cell (by simp)]; simp
  have z0 : w1.frozen? ⟨w.heap.size + 1, 0, none⟩ = false := by rw [hb1.frozen (by simp)]; simp
  have z1 : w1.frozen? ⟨w.heap.size + 1, 1, none⟩ = false := by rw [hb1.frozen (by simp)]; simp
  have z2 : w1.frozen? ⟨w.heap.size + 1, 2, none⟩ = false := by rw [hb1.frozen (by simp)]; simp
  have z3 : w1.frozen? ⟨w.heap.size + 1, 3, none⟩ = false := by rw [hb1.frozen (by simp)]; simp
  have z4 : w1.frozen? ⟨w.heap.size + 1, 4, none⟩ = false := by rw [hb1.frozen (by simp)]; simp
  have hbb : Below w.heap.size w w1 := (((Below.refl _ _).alloc (Nat.le_refl _) _).alloc (by simp) _).trans (hb1.mono (by simp; omega))
  have Hbb := Lib.hid hbb
  clear hbb hb1
  go_wp2
  exact bodyPost_ret (v := .agg #[.int .i64 0, .int .i64 0, .int .i64 0, .int .u64 0, .int .u64 0]) (by simp [results, Tryd.results102, go_sem, r0, r1, r2, r3, r4]) rfl ⟨rfl, (((((Hbb.out.setCell (by simp) _).setCell (by simp) _).setCell (by simp) _).setCell (by simp) _).setCell (by simp) _)⟩

theorem field_mark (a b : Int) (c : Int) (w : World) : (Instr.field 24 (.agg #[.int .i64 a, .int .i64 b, .int .u64 c]) 2).run Tryd.prog w = .ok (.int .u64 c) w := by kernel_rfl

set_option maxRecDepth 100000 in
set_option maxHeartbeats 1000000 in
theorem stubOf_ok (e : Entry) (hr : e.right = true) (hp0 : 0 ≤ e.parent) (hp1 : e.parent < 18446744073709551616) (w : World) :
    Calls Tryd.prog 102 #[.agg (entC e)] w fun x w' => x = .returned (.agg #[.int .i64 e.op, .int .i64 e.view, .int .i64 e.under, .int .u64 e.parent, .int .u64 (e.sum : Nat)]) ∧ Below w.heap.size w w' := by
  have hs : e.body.size ≤ maxLen := by
    obtain ⟨_, _, _, _, _, r6⟩ := ent_right hr
    simp only [maxLen]; omega
  have Hr := Lib.hid hr
  have Hp1 := Lib.hid hp1
  clear hr hp1
  unfold entC
  go_enter Tryd.func102, Tryd.ntmps102
  go_wp2_with fail
  refine (entRight_any e hs _).mono ?_
  rintro x w1 ⟨rfl, hb1⟩
  rw [Hr.out]
  have r0 : w1.cell? ⟨w.heap.size + 1, 0, none⟩ = some (.int .i64 0) := by rw [hb1.cell (by simp)]; simp
  have r1 : w1.cell? ⟨w.heap.size + 1, 1, none⟩ = some (.int .i64 0) := by rw [hb1.cell (by simp)]; simp
  have r2 : w1.cell? ⟨w.heap.size + 1, 2, none⟩ = some (.int .i64 0) := by rw [hb1.cell (by simp)]; simp
  have r3 : w1.cell? ⟨w.heap.size + 1, 3, none⟩ = some (.int .u64 0) := by rw [hb1.cell (by simp)]; simp
  have r4 : w1.cell? ⟨w.heap.size + 1, 4, none⟩ = some (.int .u64 0) := by rw [hb1.cell (by simp)]; simp
  have z0 : w1.frozen? ⟨w.heap.size + 1, 0, none⟩ = false := by rw [hb1.frozen (by simp)]; simp
  have z1 : w1.frozen? ⟨w.heap.size + 1, 1, none⟩ = false := by rw [hb1.frozen (by simp)]; simp
  have z2 : w1.frozen? ⟨w.heap.size + 1, 2, none⟩ = false := by rw [hb1.frozen (by simp)]; simp
  have z3 : w1.frozen? ⟨w.heap.size + 1, 3, none⟩ = false := by rw [hb1.frozen (by simp)]; simp
  have z4 : w1.frozen? ⟨w.heap.size + 1, 4, none⟩ = false := by rw [hb1.frozen (by simp)]; simp
  have f0 : ∀ j v, (entC e)[j]? = some v → w1.cell? ⟨w.heap.size, j, none⟩ = some v := by intro j v hv; rw [hb1.cell (by simp; omega)]; simpa [entC] using hv
  have g0 : w1.cell? ⟨w.heap.size, 0, none⟩ = some (.int .i64 e.view) := f0 0 _ rfl
  have g1 : w1.cell? ⟨w.heap.size, 1, none⟩ = some (.int .i64 e.op) := f0 1 _ rfl
  have g2 : w1.cell? ⟨w.heap.size, 2, none⟩ = some (.int .i64 e.under) := f0 2 _ rfl
  have g3 : w1.cell? ⟨w.heap.size, 3, none⟩ = some (.int .u64 e.parent) := f0 3 _ rfl
  have g4 : w1.cell? ⟨w.heap.size, 4, none⟩ = some (.int .i64 e.client) := f0 4 _ rfl
  have g5 : w1.cell? ⟨w.heap.size, 5, none⟩ = some (.int .i64 e.session) := f0 5 _ rfl
  have g6 : w1.cell? ⟨w.heap.size, 6, none⟩ = some (.int .i64 e.request) := f0 6 _ rfl
  have g7 : w1.cell? ⟨w.heap.size, 7, none⟩ = some (.int .i64 e.operation) := f0 7 _ rfl
  have g8 : w1.cell? ⟨w.heap.size, 8, none⟩ = some (.string e.body) := f0 8 _ rfl
  have hz := hb1.size
  simp only [World.size_alloc] at hz
  have hbb : Below w.heap.size w w1 := (((Below.refl _ _).alloc (Nat.le_refl _) _).alloc (by simp) _).trans (hb1.mono (by simp; omega))
  have Hbb := Lib.hid hbb
  clear hbb hb1 f0
  have hfm := field_mark e.op e.view (e.sum : Nat)
  go_wp2_with fail
  go_region_held3 (fun w' => w'.cell? ⟨w.heap.size, 0, none⟩ = some (.int .i64 e.view) ∧ w'.cell? ⟨w.heap.size, 1, none⟩ = some (.int .i64 e.op) ∧ w'.cell? ⟨w.heap.size, 2, none⟩ = some (.int .i64 e.under) ∧ w'.cell? ⟨w.heap.size, 3, none⟩ = some (.int .u64 e.parent) ∧ w'.cell? ⟨w.heap.size, 4, none⟩ = some (.int .i64 e.client) ∧ w'.cell? ⟨w.heap.size, 5, none⟩ = some (.int .i64 e.session) ∧ w'.cell? ⟨w.heap.size, 6, none⟩ = some (.int .i64 e.request) ∧ w'.cell? ⟨w.heap.size, 7, none⟩ = some (.int .i64 e.operation) ∧ w'.cell? ⟨w.heap.size, 8, none⟩ = some (.string e.body))
    (first | go_keep | (exact hS2))
    (first
      | (go_at_call 113; refine (markOf_ok e Hr.out hp0 Hp1.out _).mono ?_; rintro x w2 ⟨rfl, hb2⟩; have hS2 := ent_cells hb2 (by simp; omega) g0 g1 g2 g3 g4 g5 g6 g7 g8; have q0 : w2.cell? ⟨w.heap.size + 1, 0, none⟩ = some (.int .i64 0) := (by rw [hb2.cell (by simp; omega)]; simpa using r0); have q1 : w2.cell? ⟨w.heap.size + 1, 1, none⟩ = some (.int .i64 0) := (by rw [hb2.cell (by simp; omega)]; simpa using r1); have q2 : w2.cell? ⟨w.heap.size + 1, 2, none⟩ = some (.int .i64 0) := (by rw [hb2.cell (by simp; omega)]; simpa using r2); have q3 : w2.cell? ⟨w.heap.size + 1, 3, none⟩ = some (.int .u64 0) := (by rw [hb2.cell (by simp; omega)]; simpa using r3); have q4 : w2.cell? ⟨w.heap.size + 1, 4, none⟩ = some (.int .u64 0) := (by rw [hb2.cell (by simp; omega)]; simpa using r4); have y0 : w2.frozen? ⟨w.heap.size + 1, 0, none⟩ = false := (by rw [hb2.frozen (by simp; omega)]; simpa using z0); have y1 : w2.frozen? ⟨w.heap.size + 1, 1, none⟩ = false := (by rw [hb2.frozen (by simp; omega)]; simpa using z1); have y2 : w2.frozen? ⟨w.heap.size + 1, 2, none⟩ = false := (by rw [hb2.frozen (by simp; omega)]; simpa using z2); have y3 : w2.frozen? ⟨w.heap.size + 1, 3, none⟩ = false := (by rw [hb2.frozen (by simp; omega)]; simpa using z3); have y4 : w2.frozen? ⟨w.heap.size + 1, 4, none⟩ = false := (by rw [hb2.frozen (by simp; omega)]; simpa using z4)))
  go_wp2
  have hb3 : Below w.heap.size w w2 := (below_drewN Hbb.out 1).trans (hb2.mono (by simp; omega))
  exact bodyPost_ret (v := .agg #[.int .i64 e.op, .int .i64 e.view, .int .i64 e.under, .int .u64 e.parent, .int .u64 (e.sum : Nat)]) (by simp [results, Tryd.results102, go_sem, q0, q1, q2, q3, q4]) rfl ⟨rfl, (((((hb3.setCell (by simp) _).setCell (by simp) _).setCell (by simp) _).setCell (by simp) _).setCell (by simp) _)⟩

theorem stubOf_any (e : Entry) (hs : e.body.size ≤ maxLen) (hp0 : 0 ≤ e.parent) (hp1 : e.parent < 18446744073709551616) (w : World) :
    Calls Tryd.prog 102 #[.agg (entC e)] w fun x w' => x = .returned (.agg (stubC e.stub)) ∧ Below w.heap.size w w' := by
  unfold Entry.stub
  by_cases hr : e.right = true
  · rw [if_pos hr]; exact stubOf_ok e hr hp0 hp1 w
  · rw [if_neg hr]; exact stubOf_no e hs (by simpa using hr) w

end Go.Proofs.YtmidfknlmjgjpaaDoor
