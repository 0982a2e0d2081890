/- ClientSame: whatever the id, the group, the body and the ticks, the law returns true: a client that waits asks the same again, byte by byte, of all replicas. The package's table of fields is as its text lays it. -/
import Derived.Test.YtmidfknlmjgjpaaDoorCl8
import Derived.Test.YtmidfknlmjgjpaaDoorCard0
import Derived.Test.YtmidfknlmjgjpaaDoorCards
import Derived.Test.YtmidfknlmjgjpaaDoorTie
import Derived.SevenTiedAt
namespace Go.Proofs.YtmidfknlmjgjpaaDoor
open Go.ChangeShapes Go.WideShapes Go.ChangeAt Go.RowKit

set_option maxRecDepth 100000 in
theorem clientSame_lifted (os : Os) (started : os.Started) (H : Type) (enc : TypeId × Value → H) :
    ReturnsInHanded {} Tryd.checked os 4 .any (fun w args => (Rows.clientSameSpec.pre enc Tryd.prog Tryd.f4 [] false w args ∧ laidMetH Tryd.prog [("comptor/msg.all", Rows.laid_comptor_msg_all)] w) ∧ sizedMet enc Tryd.prog Tryd.f4 (OpenSpec.ofChange Rows.clientSameSpec) false w args)
      (Rows.clientSameSpec.post enc Tryd.prog Tryd.f4 false true false false) := by
  refine returnsInHanded_of_change_and (C := Tryd.checked) (X := fun w _ => laidMetH Tryd.prog [("comptor/msg.all", Rows.laid_comptor_msg_all)] w) (fun _ _ _ hh h => h.of_heap hh) own started (by kernel_rfl) Tryd.func4
    (ChangeSpec.witness_shaped (enc := enc) (C := Tryd.checked) (os := os) (X := fun w _ => laidMetH Tryd.prog [("comptor/msg.all", Rows.laid_comptor_msg_all)] w) false (World.doorLaid Tryd.prog 400 os) #[.int .i64 0, .int .i64 0, .string ⟨#[]⟩, .int .i64 0] 8 rfl (World.shaped_of_RefB (by kernel_rfl) (by kernel_rfl)) (by kernel_rfl) (by kernel_rfl) (by kernel_rfl) (door_met os _)) ?_
  intro W base args ds gs before hval0 hW _ _ hL _
  have hval : ∀ (j : Nat) t v, Tryd.f4.params[j]? = some t → args[j]? = some v → Value.okWide Tryd.prog W .any base t v := hval0
  have hW' := hW
  obtain ⟨p, q, hA0, hV, rfl, _, _⟩ := hW
  have hA : DataW.TrodAll enc Tryd.prog W 0 (fun _ => true) true Tryd.f4.params.toList args.toList ds p := hA0
  rw [Tryd.params4] at hA hval
  obtain ⟨v0, v1, v2, v3, d0, d1, d2, d3, p0, p1, p2, p3, rfl, rfl, rfl, h0, h1, h2, h3⟩ := trodAll_four hA
  obtain ⟨rfl, rfl⟩ := trodVars_none hV
  clear hA0 hval0
  obtain ⟨id, rfl, rfl, rfl, _⟩ := open_int Tryd.underlying3 (hval 0 _ v0 rfl rfl) h0
  obtain ⟨count, rfl, rfl, rfl, _⟩ := open_int Tryd.underlying3 (hval 1 _ v1 rfl rfl) h1
  obtain ⟨body, rfl, rfl, rfl, hb0⟩ := Go.ChangeMaps.open_string Tryd.underlying9 (hval 2 _ v2 rfl rfl) h2
  obtain ⟨ticks, rfl, rfl, rfl, ht0⟩ := open_int Tryd.underlying3 (hval 3 _ v3 rfl rfl) h3
  refine (clientSame_any id count body ticks W (allAt_of_laid hL) hb0 (bounds_i64 ht0)).mono fun e W' ⟨he, hb⟩ => ?_
  subst he
  exact ⟨_, rfl, law_post hW' rfl (by kernel_rfl) rfl rfl rfl (by kernel_rfl) hb⟩

theorem clientSame_row : Rows.ClientSameSaid :=
  OpenClaim.holds_of_wide 4 Tryd.f4 rfl rfl rfl rfl rfl rfl rfl ⟨rfl, rfl, rfl, rfl, rfl⟩ rfl rfl rfl rfl rfl (by kernel_rfl) Tryd.func4 (by kernel_rfl)
    (of_decide_eq_true (by kernel_rfl)) (by unfold Func.isWrapper; first | (rw [if_pos (by decide +kernel)]; kernel_rfl) | (rw [if_neg (by decide +kernel)]; exact ⟨rfl, rfl⟩))
    (fun os started H enc _ => clientSame_lifted os started H enc)

theorem clientSame_holds : Rows.ClientSameCardSaid :=
  Claim7.holds_tied_plain_at .later [] [.data] true (true, "4ac8b772635e3103539d69f168fabc30d40781914b92fe2d7ef84a125697b80d") false
    clientSame_row (fun _ h => by cases h) (by kernel_rfl) (fun _ h => by cases h) clientSame_row_tie rfl ⟨rfl, rfl⟩ (by kernel_rfl) rfl
    (fun f fn hf hfn => by
      obtain rfl : f = 4 := Option.some.inj ((show Tryd.prog.funcNamed "comptor/comptorlaw22.ClientSame" = some 4 by kernel_rfl).symm.trans hf) |>.symm
      obtain rfl : fn = Tryd.f4 := (Option.some.inj (Tryd.func4.symm.trans hfn)).symm
      exact ⟨by kernel_rfl, fun j t ht => by
        rw [Tryd.params4] at ht
        have hm : t ∈ [3, 9, 3] := by simpa using Array.mem_of_getElem? ht
        have hall : ([3, 9, 3].all fun u => !Tryd.prog.wantsStandIn u) = true := by kernel_rfl
        exact (show Tryd.prog.wantsStandIn t = false by simpa using List.all_eq_true.1 hall t hm)⟩)
    (by kernel_rfl)
#print axioms clientSame_holds
end Go.Proofs.YtmidfknlmjgjpaaDoor
