/- The listed tables, out of a row's condition; a world with new blocks alone answers to the row's frame. -/
import Derived.Test.YteagpbcmfnopfaaGreatDoorRows
import Derived.Test.YteagpbcmfnopfaaGreatDoorBase
import Derived.Test.YteagpbcmfnopfaaGreatDoorStr
import Derived.ProofKit
import Derived.LaidMore
import Derived.OpenShut
import Derived.Stop.Joined
import Derived.Lib.LaidTab
namespace Go.Proofs.YteagpbcmfnopfaaGreatDoor
open Go.ChangeShapes Go.WideShapes Go.ChangeAt Go.RowKit

theorem laid_own : ownKnob Tryz.prog.godebug = none := by kernel_rfl

def laidL : List (String × DataW Unit) := [("math/bits.deBruijn32tab", Rows.laid_math_bits_deBruijn32tab), ("math/bits.deBruijn64tab", Rows.laid_math_bits_deBruijn64tab), ("internal/strconv.uint64pow10", Rows.laid_internal_strconv_uint64pow10)]

theorem laidMet_tail {P : Program} {a : String × DataW Unit} {l : List (String × DataW Unit)} {w : World} (h : laidMet P (a :: l) w) : laidMet P l w := by
  obtain ⟨ps, ⟨g, t, cs, fuel, p, q, _, _, _, _, hq, rfl⟩, hn, hc⟩ := h
  exact ⟨q, hq, (List.nodup_append.1 hn).2.1, fun b off hm => hc b off (List.mem_append_right _ hm)⟩

theorem door_met (os : Os) (args : Array Value) : laidMetH Tryz.prog laidL ((World.doorLaid Tryz.prog 400 os).forCall (fun _ _ => 0) ⟨#[], args, []⟩).memory :=
  laidMetH_of_parts3 (fuel := 70) (laidMet_of_run' 70 (by kernel_rfl) (by kernel_rfl)) (by kernel_rfl) (by kernel_rfl)

theorem powTab_of {w : World} (h : laidMetH Tryz.prog laidL w) : PowTab w := by
  rw [MakeChecks.laidMetH_plain _ _ _ (by kernel_rfl)] at h
  exact Lib.tabIs_of_head (zs := Lib.pow10Tab) (rest := []) pow_global (by kernel_rfl) Tryz.underlying211 Tryz.underlying28 (by kernel_rfl) (by kernel_rfl) (laidMet_tail (laidMet_tail h))

end Go.Proofs.YteagpbcmfnopfaaGreatDoor
