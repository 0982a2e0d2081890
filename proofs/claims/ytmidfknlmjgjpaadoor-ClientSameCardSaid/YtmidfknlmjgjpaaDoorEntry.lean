/- The walks of package entry. -/
import Derived.Test.YtmidfknlmjgjpaaDoorHead
import Derived.Deep.RegionHeld3
import Derived.Deep.RegionWith
namespace Go.Proofs.YtmidfknlmjgjpaaDoor
open Go.RowKit

/-- An entry. -/
structure Entry where
  view : Int
  op : Int
  under : Int
  parent : Int
  client : Int
  session : Int
  request : Int
  operation : Int
  body : ByteArray

def entL (e : Entry) : List Value := [.int .i64 e.view, .int .i64 e.op, .int .i64 e.under, .int .u64 e.parent, .int .i64 e.client, .int .i64 e.session, .int .i64 e.request, .int .i64 e.operation, .string e.body]
def entC (e : Entry) : Array Value := #[.int .i64 e.view, .int .i64 e.op, .int .i64 e.under, .int .u64 e.parent, .int .i64 e.client, .int .i64 e.session, .int .i64 e.request, .int .i64 e.operation, .string e.body]

def Entry.head (e : Entry) : Head := { kind := 255, src := 0, operation := e.operation, view := e.view, op := e.op, commit := 0, client := e.client, session := e.session, request := e.request, a := e.under, b := 0, parent := e.parent }
def Entry.right (e : Entry) : Bool := e.head.right && decide (1 ≤ e.op) && decide (1 ≤ e.client) && decide (1 ≤ e.operation) && decide (e.under ≤ e.view) && decide (e.body.size ≤ 200)

set_option maxRecDepth 100000 in
set_option maxHeartbeats 1000000 in
theorem entHeader_any (e : Entry) (w : World) :
    Calls Tryd.prog 73 #[.agg (entC e)] w fun x w' => x = .returned (.agg (headC e.head)) ∧ Below w.heap.size w w' := by
  unfold entC
  go_enter Tryd.func73, Tryd.ntmps73
  go_wp2
  exact bodyPost_ret (v := .agg #[.int .i64 255, .int .i64 0, .int .i64 e.operation, .int .i64 e.view, .int .i64 e.op, .int .i64 0, .int .i64 e.client, .int .i64 e.session, .int .i64 e.request, .int .i64 e.under, .int .i64 0, .int .u64 e.parent]) (by simp [results, Tryd.results73, go_sem]) rfl ⟨rfl, ((Below.refl _ _).alloc (Nat.le_refl _) _).alloc (by simp) _⟩

set_option maxRecDepth 100000 in
set_option maxHeartbeats 1000000 in
theorem entRight_any (e : Entry) (hs : e.body.size ≤ maxLen) (w : World) :
    Calls Tryd.prog 44 #[.agg (entC e)] w fun x w' => x = .returned (.bool e.right) ∧ Below w.heap.size w w' := by
  have hs : e.body.size ≤ 9223372036854775807 := hs
  cases hr : e.head.right
  all_goals
    have Hr := Lib.hid hr
    clear hr
    unfold entC
    go_enter Tryd.func44, Tryd.ntmps44
    go_wp2_with fail
    refine (entHeader_any e _).mono ?_
    rintro x w1 ⟨rfl, hb1⟩
    go_wp2_with fail
    refine (headRight_any e.head _).mono ?_
    rintro x w2 ⟨rfl, hb2⟩
    rw [Hr.out]
    have hb := hb1.trans (hb2.mono hb1.size)
    clear hb1 hb2
    have HB := Lib.hid (below_box hb (by simp))
    have f0 : w2.cell? ⟨w.heap.size, 0, none⟩ = some (.int .i64 e.view) := by rw [hb.cell (by simp)]; simp
    have f1 : w2.cell? ⟨w.heap.size, 1, none⟩ = some (.int .i64 e.op) := by rw [hb.cell (by simp)]; simp
    have f2 : w2.cell? ⟨w.heap.size, 2, none⟩ = some (.int .i64 e.under) := by rw [hb.cell (by simp)]; simp
    have f4 : w2.cell? ⟨w.heap.size, 4, none⟩ = some (.int .i64 e.client) := by rw [hb.cell (by simp)]; simp
    have f7 : w2.cell? ⟨w.heap.size, 7, none⟩ = some (.int .i64 e.operation) := by rw [hb.cell (by simp)]; simp
    have f8 : w2.cell? ⟨w.heap.size, 8, none⟩ = some (.string e.body) := by rw [hb.cell (by simp)]; simp
    clear hb
    go_wp2
    all_goals go_ret
    all_goals refine ⟨?_, HB.out⟩
    all_goals have hr := Hr.out
    all_goals simp_all [Entry.right]
  all_goals omega

theorem ent_right {e : Entry} (h : e.right = true) : e.head.right = true ∧ 1 ≤ e.op ∧ 1 ≤ e.client ∧ 1 ≤ e.operation ∧ e.under ≤ e.view ∧ e.body.size ≤ 200 := by
  simp only [Entry.right, Bool.and_eq_true, decide_eq_true_eq] at h
  obtain ⟨⟨⟨⟨⟨h1, h2⟩, h3⟩, h4⟩, h5⟩, h6⟩ := h
  exact ⟨h1, h2, h3, h4, h5, h6⟩

theorem ent_cells {w w' : World} {N : Nat} {e : Entry} {B : Nat} (hb : Below B w.drew w') (hN : N < B)
    (g0 : w.cell? ⟨N, 0, none⟩ = some (.int .i64 e.view)) (g1 : w.cell? ⟨N, 1, none⟩ = some (.int .i64 e.op)) (g2 : w.cell? ⟨N, 2, none⟩ = some (.int .i64 e.under)) (g3 : w.cell? ⟨N, 3, none⟩ = some (.int .u64 e.parent))
    (g4 : w.cell? ⟨N, 4, none⟩ = some (.int .i64 e.client)) (g5 : w.cell? ⟨N, 5, none⟩ = some (.int .i64 e.session)) (g6 : w.cell? ⟨N, 6, none⟩ = some (.int .i64 e.request)) (g7 : w.cell? ⟨N, 7, none⟩ = some (.int .i64 e.operation)) (g8 : w.cell? ⟨N, 8, none⟩ = some (.string e.body)) :
    w'.cell? ⟨N, 0, none⟩ = some (.int .i64 e.view) ∧ w'.cell? ⟨N, 1, none⟩ = some (.int .i64 e.op) ∧ w'.cell? ⟨N, 2, none⟩ = some (.int .i64 e.under) ∧ w'.cell? ⟨N, 3, none⟩ = some (.int .u64 e.parent) ∧ w'.cell? ⟨N, 4, none⟩ = some (.int .i64 e.client) ∧ w'.cell? ⟨N, 5, none⟩ = some (.int .i64 e.session) ∧ w'.cell? ⟨N, 6, none⟩ = some (.int .i64 e.request) ∧ w'.cell? ⟨N, 7, none⟩ = some (.int .i64 e.operation) ∧ w'.cell? ⟨N, 8, none⟩ = some (.string e.body) := by
  have f : ∀ o, w'.cell? ⟨N, o, none⟩ = w.cell? ⟨N, o, none⟩ := fun o => by rw [hb.cell hN]; simp
  simp only [f]
  exact ⟨g0, g1, g2, g3, g4, g5, g6, g7, g8⟩

/-- An entry's bytes. -/
def Entry.bytes (e : Entry) : List UInt8 := e.head.pack e.body.data.toList

set_option maxRecDepth 100000 in
set_option maxHeartbeats 1000000 in
theorem entPack_form (e : Entry) (hs : e.body.size ≤ maxLen) (hr : e.right = false) (w : World) :
    Calls Tryd.prog 86 #[.agg (entC e)] w fun x w' => x = .returned (.tuple #[.string (str []), .int .i64 4]) ∧ Below w.heap.size w w' := by
  have Hr := Lib.hid hr
  clear hr
  unfold entC
  go_enter Tryd.func86, Tryd.ntmps86
  go_wp2_with (go_at_call 44; refine (entRight_any e hs _).mono ?_; rintro x w1 ⟨rfl, hb1⟩; rw [Hr.out])
  go_ret2
  exact ⟨rfl, below_box hb1 (by simp)⟩

set_option maxRecDepth 100000 in
set_option maxHeartbeats 1000000 in
theorem entPack_ok (e : Entry) (hr : e.right = true) (hp0 : 0 ≤ e.parent) (hp1 : e.parent < 18446744073709551616) (w : World) :
    Calls Tryd.prog 86 #[.agg (entC e)] w fun x w' => x = .returned (.tuple #[.string (str e.bytes), .int .i64 0]) ∧ Below w.heap.size w w' := by
  obtain ⟨r1, _, _, _, _, r6⟩ := ent_right hr
  have hs : e.body.size ≤ maxLen := by simp only [maxLen]; omega
  have R1 := Lib.hid r1
  have Hr := Lib.hid hr
  clear hr r1
  unfold entC
  go_enter Tryd.func86, Tryd.ntmps86
  go_wp2_with (go_at_call 44; refine (entRight_any e hs _).mono ?_; rintro x w1 ⟨rfl, hb1⟩; rw [Hr.out])
  have HB1 := Lib.hid hb1
  have f0 : ∀ j v, (entC e)[j]? = some v → w1.cell? ⟨w.heap.size, j, none⟩ = some v := by intro j v hv; rw [hb1.cell (by simp)]; simpa [entC] using hv
  have F0 := Lib.hid f0
  have hz := hb1.size
  simp only [World.size_alloc] at hz
  clear hb1 f0
  have g0 : w1.cell? ⟨w.heap.size, 0, none⟩ = some (.int .i64 e.view) := F0.out 0 _ rfl
  have g1 : w1.cell? ⟨w.heap.size, 1, none⟩ = some (.int .i64 e.op) := F0.out 1 _ rfl
  have g2 : w1.cell? ⟨w.heap.size, 2, none⟩ = some (.int .i64 e.under) := F0.out 2 _ rfl
  have g3 : w1.cell? ⟨w.heap.size, 3, none⟩ = some (.int .u64 e.parent) := F0.out 3 _ rfl
  have g4 : w1.cell? ⟨w.heap.size, 4, none⟩ = some (.int .i64 e.client) := F0.out 4 _ rfl
  have g5 : w1.cell? ⟨w.heap.size, 5, none⟩ = some (.int .i64 e.session) := F0.out 5 _ rfl
  have g6 : w1.cell? ⟨w.heap.size, 6, none⟩ = some (.int .i64 e.request) := F0.out 6 _ rfl
  have g7 : w1.cell? ⟨w.heap.size, 7, none⟩ = some (.int .i64 e.operation) := F0.out 7 _ rfl
  have g8 : w1.cell? ⟨w.heap.size, 8, none⟩ = some (.string e.body) := F0.out 8 _ rfl
  go_region_held3 (fun w' => w'.cell? ⟨w.heap.size, 0, none⟩ = some (.int .i64 e.view) ∧ w'.cell? ⟨w.heap.size, 1, none⟩ = some (.int .i64 e.op) ∧ w'.cell? ⟨w.heap.size, 2, none⟩ = some (.int .i64 e.under) ∧ w'.cell? ⟨w.heap.size, 3, none⟩ = some (.int .u64 e.parent) ∧ w'.cell? ⟨w.heap.size, 4, none⟩ = some (.int .i64 e.client) ∧ w'.cell? ⟨w.heap.size, 5, none⟩ = some (.int .i64 e.session) ∧ w'.cell? ⟨w.heap.size, 6, none⟩ = some (.int .i64 e.request) ∧ w'.cell? ⟨w.heap.size, 7, none⟩ = some (.int .i64 e.operation) ∧ w'.cell? ⟨w.heap.size, 8, none⟩ = some (.string e.body))
    (first | go_keep | (exact hS2) | (exact hS3))
    (first
      | (go_at_call 73; refine (entHeader_any e _).mono ?_; rintro x w2 ⟨rfl, hb2⟩; have hS2 := ent_cells hb2 (by simp; omega) g0 g1 g2 g3 g4 g5 g6 g7 g8)
      | (go_at_call 34; refine (pack_ok e.head e.body _ R1.out (by omega) hp0 hp1).mono ?_; rintro x w3 ⟨rfl, hb3⟩; have hS3 := ent_cells (hb2.trans (hb3.mono hb2.size)) (by simp; omega) g0 g1 g2 g3 g4 g5 g6 g7 g8))
  go_wp2
  go_ret2
  exact ⟨rfl, below_box (HB1.out.trans (((below_drewN (Below.refl _ _) 1).trans (hb2.trans (hb3.mono hb2.size))).mono (by simp; omega))) (by simp)⟩

theorem ent_bytes_length (e : Entry) : e.bytes.length = 128 + e.body.size := by rw [Entry.bytes, pack_length]; simp

/-- An entry's mark's sum. -/
def Entry.sum (e : Entry) : Nat := Pl.chain e.parent.toNat e.bytes

end Go.Proofs.YtmidfknlmjgjpaaDoor
