/- The closed facts of the row of ProofCompares, each for itself: no condition. -/
import Derived.Test.YtbfagojdbebikaaGreatDoorJoinedOf
set_option linter.unusedVariables false
namespace Go.Proofs.YtbfagojdbebikaaGreatDoor
open Go
theorem cmpFact0 : rowFact0 Tryz.pinned.checked.prog 5 Tryz.f5 Rows.proofComparesSpec Rows.proofComparesRow = true := by kernel_rfl
theorem cmpFact1 : rowFact1 Tryz.pinned.checked.prog 5 Tryz.f5 Rows.proofComparesSpec Rows.proofComparesRow = true := by kernel_rfl
theorem cmpFact2 : rowFact2 Tryz.pinned.checked.prog 5 Tryz.f5 Rows.proofComparesSpec Rows.proofComparesRow = true := by kernel_rfl
theorem cmpFact3 : rowFact3 Tryz.pinned.checked.prog 5 Tryz.f5 Rows.proofComparesSpec Rows.proofComparesRow = true := by kernel_rfl
theorem cmpFact4 : rowFact4 Tryz.pinned.checked.prog 5 Tryz.f5 Rows.proofComparesSpec Rows.proofComparesRow = true := by kernel_rfl
theorem cmpFact5 : rowFact5 Tryz.pinned.checked.prog 5 Tryz.f5 Rows.proofComparesSpec Rows.proofComparesRow = true := by kernel_rfl
theorem cmpFact6 : rowFact6 Tryz.pinned.checked.prog 5 Tryz.f5 Rows.proofComparesSpec Rows.proofComparesRow = true := by kernel_rfl
theorem cmpFact7 : rowFact7 Tryz.pinned.checked.prog 5 Tryz.f5 Rows.proofComparesSpec Rows.proofComparesRow = true := by kernel_rfl
theorem cmpFact8 : rowFact8 Tryz.pinned.checked.prog 5 Tryz.f5 Rows.proofComparesSpec Rows.proofComparesRow = true := by kernel_rfl
theorem cmpFact9 : rowFact9 Tryz.pinned.checked.prog 5 Tryz.f5 Rows.proofComparesSpec Rows.proofComparesRow = true := by kernel_rfl
theorem cmpFact10 : rowFact10 Tryz.pinned.checked.prog 5 Tryz.f5 Rows.proofComparesSpec Rows.proofComparesRow = true := by kernel_rfl
end Go.Proofs.YtbfagojdbebikaaGreatDoor
