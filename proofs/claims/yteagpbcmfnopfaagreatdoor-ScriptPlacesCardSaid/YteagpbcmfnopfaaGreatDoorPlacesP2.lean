/- For every ahead and which, archipelagolaw27.ScriptPlaces returns true and leaves its arguments as they were; the package-level tables are as the program's text lays them. No other condition. This file says so as the given row. -/
import Derived.Test.YteagpbcmfnopfaaGreatDoorPlacesP1
namespace Go.Proofs.YteagpbcmfnopfaaGreatDoor
open Go.ChangeShapes Go.WideShapes Go.ChangeAt Go.RowKit

theorem places_inst : Tryz.f6.isInstance Tryz.prog Rows.scriptPlacesRow.origin Rows.scriptPlacesRow.targs := of_decide_eq_true (by kernel_rfl)

theorem places_wrap : Tryz.f6.isWrapper Tryz.prog Rows.scriptPlacesRow.wrapper Rows.scriptPlacesRow.mainSum := by
  unfold Func.isWrapper; first | (rw [if_pos (by decide +kernel)]; kernel_rfl) | (rw [if_neg (by decide +kernel)]; exact ⟨rfl, rfl⟩)

theorem places_named : Tryz.prog.funcNamed Rows.scriptPlacesRow.func = some 6 := by kernel_rfl

theorem and_mk {a b : Bool} (ha : a = true) (hb : b = true) : (a && b) = true := by rw [ha, hb]; rfl

set_option maxHeartbeats 0 in
theorem places_closed : joinedFacts Tryz.prog 6 Tryz.f6 Rows.scriptPlacesSpec Rows.scriptPlacesRow = true := by
  unfold joinedFacts
  repeat' (with_reducible apply and_mk)
  all_goals (as_aux_lemma => kernel_rfl)

end Go.Proofs.YteagpbcmfnopfaaGreatDoor
