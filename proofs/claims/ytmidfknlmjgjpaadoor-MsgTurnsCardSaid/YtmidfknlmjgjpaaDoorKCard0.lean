/- What all rows of this seat share: the table of the fields, the way back of the arguments. -/
import Derived.Test.YtmidfknlmjgjpaaDoorGF
import Derived.Test.YtmidfknlmjgjpaaDoorRows
import Derived.ProofKit
import Derived.LaidMore
import Derived.OpenShut
import Derived.Stop.Joined
namespace Go.Proofs.YtmidfknlmjgjpaaDoor
open Go.ChangeShapes Go.WideShapes Go.ChangeAt Go.RowKit

theorem own : ownKnob Tryd.prog.godebug = none := by kernel_rfl
theorem laidOut : laidOutB Tryd.prog = true := by kernel_rfl

/-- What the condition says of the table. -/
theorem allAt_of_laid {W : World} (h : laidMetH Tryd.prog [("comptor/msg.all", Rows.laid_comptor_msg_all)] W) : AllAt W := by
  rw [MakeChecks.laidMetH_plain _ _ _ (by kernel_rfl)] at h
  obtain ⟨ps, ⟨g0, t0, cs0, f0, p0, q0, hg0, ht0, hv0, hd0, _⟩, _, _⟩ := h
  obtain rfl := Option.some.inj ((show Tryd.prog.globalNamed "comptor/msg.all" = some 0 by kernel_rfl).symm.trans hg0)
  obtain rfl := Option.some.inj ((show (Tryd.prog.globals[0]?).map (·.type) = some 101 by kernel_rfl).symm.trans ht0)
  obtain ⟨xs, m1, _, hx, _, hn, hel⟩ := DataW.trod_array Tryd.underlying101 hd0
  have c9 : Tryd.prog.cellsOf 9 = 1 := by kernel_rfl
  simp only [c9, Nat.mul_one, Prod.mk.injEq] at hel hx
  have hx1 : xs.map (·.1) = allL.map fun l => .lit (.string l) := by
    have := hx.1
    rw [Rows.laid_comptor_msg_all] at this
    exact (DataW.agg.inj this).symm
  intro i l hl
  have hi : i < 16 := (List.getElem?_eq_some_iff.1 hl).1
  have h1 := hel i hi
  rw [List.getElem?_eq_getElem (by omega)] at h1
  obtain ⟨s, e1, e2, _⟩ := DataW.trod_string Tryd.underlying9 h1
  have h2 : (xs.map (·.1))[i]? = some (.lit (.string s.data.toList)) := by rw [List.getElem?_map, List.getElem?_eq_getElem (by omega), e2]; rfl
  rw [hx1, List.getElem?_map, hl] at h2
  have h3 : l = s.data.toList := by simpa using h2
  rw [World.var?_cell hg0 hv0 i, h3]
  have h4 : (cs0.toList.drop i)[0]? = some (.string s) := by
    have h5 : ((cs0.toList.drop i).take 1)[0]? = some (.string s) := by rw [e1]; rfl
    rw [List.getElem?_take] at h5
    simpa using h5
  rw [List.getElem?_drop, Array.getElem?_toList] at h4
  simpa using h4

theorem door_met (os : Os) (args : Array Value) : laidMetH Tryd.prog [("comptor/msg.all", Rows.laid_comptor_msg_all)] ((World.doorLaid Tryd.prog 400 os).forCall (fun _ _ => 0) ⟨#[], args, []⟩).memory :=
  laidMetH_of_parts3 (fuel := 8) (laidMet_of_run' 8 (by kernel_rfl) (by kernel_rfl)) (by kernel_rfl) (by kernel_rfl)

section
variable {H : Type} {enc : TypeId × Value → H}

/-- The arguments read as they did, where nothing of what was there has turned. -/
theorem trodAll_below {P : Program} (hlo : laidOutB P = true) {W W' : World} (hb : Below W.heap.size W W') : ∀ {ts : List TypeId} {vs : List Value} {ds : List (DataW H)} {ps : List MemPlace}, (ts.all fun t => P.readableRec t && decide (t < P.types.size)) = true →
    DataW.TrodAll enc P W 0 (fun _ => true) true ts vs ds ps → (∀ x ∈ ps, x.block < W.heap.size) → DataW.TrodAll enc P W' 0 (fun b => decide (b < W.heap.size)) true ts vs ds ps := by
  intro ts
  induction ts with
  | nil =>
    intro vs ds ps _ h _
    cases vs <;> cases ds <;> first | exact h | exact h.elim
  | cons t ts ih =>
    intro vs ds ps hc h hl
    cases vs with
    | nil => exact h.elim
    | cons v vs =>
      cases ds with
      | nil => exact h.elim
      | cons d ds =>
        obtain ⟨p, q, h1, h2, rfl⟩ := h
        simp only [List.all_cons, Bool.and_eq_true, decide_eq_true_eq] at hc
        exact ⟨p, q, Below.trod hlo hc.1.1 hc.1.2 h1 hb (fun x hx => hl x (List.mem_append_left _ hx)), ih (by simpa using hc.2) h2 (fun x hx => hl x (List.mem_append_right _ hx)), rfl⟩

/-- A law's row: true is returned, nothing of what was there has turned. -/
theorem law_post {f : Func} {s : ChangeSpec} {W W' : World} {args : Array Value} {ds gs : List (DataW H)} {before : List MemPlace} (hW : DataW.Whole enc Tryd.prog f.params.toList s.vars false W args.toList ds gs before)
    (hv : s.vars = []) (hr : f.resultTypes = #[4]) (hs : (s.fn H ds).results = [.lit (.bool true)]) (ha : (s.fn H ds).args = ds) (hz : (s.fn H ds).vars = [])
    (hc : (f.params.toList.all fun t => Tryd.prog.readableRec t && decide (t < Tryd.prog.types.size)) = true) (hb : Below W.heap.size W W') : s.post enc Tryd.prog f false true false false W args (.bool true) W' := by
  have hlt := hW.lt
  have hW' := hW
  obtain ⟨p, q, hA, hV, rfl, _, _⟩ := hW
  rw [hv] at hV
  obtain ⟨rfl, rfl⟩ := trodVars_none hV
  refine ⟨ds, [], _, [], p, [], hW', ?_, ?_, ?_, hb.frame _, fun h => by cases h⟩
  · rw [hr, List.append_nil, hs]
    exact trodAll_mk1 (shut_bool Tryd.underlying4 _)
  · rw [List.append_nil, ha]
    exact trodAll_below laidOut hb hc hA (fun x hx => by simpa using hlt x (List.mem_append_left _ hx))
  · rw [List.append_nil, hz, hv]
    exact rfl
end

end Go.Proofs.YtmidfknlmjgjpaaDoor
