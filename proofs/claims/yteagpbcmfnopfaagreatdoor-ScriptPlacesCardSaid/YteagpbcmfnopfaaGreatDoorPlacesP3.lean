/- For every ahead and which, archipelagolaw27.ScriptPlaces returns true and leaves its arguments as they were; the package-level tables are as the program's text lays them (tied). No other condition. -/
import Derived.Test.YteagpbcmfnopfaaGreatDoorPlacesP2
import Derived.Test.YteagpbcmfnopfaaGreatDoorTie
import Derived.Test.YteagpbcmfnopfaaGreatDoorCards
import Derived.SevenTiedAt
namespace Go.Proofs.YteagpbcmfnopfaaGreatDoor
open Go.ChangeShapes Go.WideShapes Go.ChangeAt Go.RowKit

theorem places_row : Rows.ScriptPlacesSaid :=
  OpenClaim.holds_of_wide 6 Tryz.f6 rfl rfl rfl rfl rfl rfl rfl ⟨rfl, rfl, rfl, rfl, rfl⟩ rfl rfl rfl rfl rfl places_named Tryz.func6 places_closed
    places_inst places_wrap
    (fun os started H enc _ => places_lifted os started H enc)

set_option maxHeartbeats 0 in
theorem places_card : Rows.ScriptPlacesCardSaid :=
  Claim7.holds_tied_plain_at .later [] [.data, .data, .data] true (true, Rows.scriptPlacesCard.stood.harness.2) false
    places_row (fun _ h => by cases h) (by as_aux_lemma => kernel_rfl) (fun _ h => by cases h) scriptPlaces_row_tie rfl ⟨rfl, rfl⟩ (by as_aux_lemma => kernel_rfl) rfl
    (fun f fn hf hfn => by
      obtain rfl : f = 6 := Option.some.inj ((show Tryz.prog.funcNamed "archipelago/archipelagolaw27.ScriptPlaces" = some 6 by as_aux_lemma => kernel_rfl).symm.trans hf) |>.symm
      obtain rfl : fn = Tryz.f6 := (Option.some.inj (Tryz.func6.symm.trans hfn)).symm
      exact ⟨(by as_aux_lemma => kernel_rfl), fun j t ht => by
        rw [Tryz.params6] at ht
        have hm : t ∈ [5, 5] := by simpa using Array.mem_of_getElem? ht
        have hall : ([5, 5].all fun u => !Tryz.prog.wantsStandIn u) = true := by as_aux_lemma => kernel_rfl
        exact (show Tryz.prog.wantsStandIn t = false by simpa using List.all_eq_true.1 hall t hm)⟩)
    (by as_aux_lemma => kernel_rfl)

#print axioms places_card

end Go.Proofs.YteagpbcmfnopfaaGreatDoor
