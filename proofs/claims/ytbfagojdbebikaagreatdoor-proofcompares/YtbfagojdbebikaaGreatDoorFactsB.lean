/- The closed facts of the row of ProofCompares, each for itself: no condition. -/
import Derived.Test.YtbfagojdbebikaaGreatDoorJoinedOf
set_option linter.unusedVariables false
namespace Go.Proofs.YtbfagojdbebikaaGreatDoor
open Go
theorem cmpFact11 : rowFact11 Tryz.pinned.checked.prog 5 Tryz.f5 Rows.proofComparesSpec Rows.proofComparesRow = true := by kernel_rfl
theorem cmpFact12 : rowFact12 Tryz.pinned.checked.prog 5 Tryz.f5 Rows.proofComparesSpec Rows.proofComparesRow = true := by kernel_rfl
theorem cmpFact13 : rowFact13 Tryz.pinned.checked.prog 5 Tryz.f5 Rows.proofComparesSpec Rows.proofComparesRow = true := by kernel_rfl
theorem cmpFact14 : rowFact14 Tryz.pinned.checked.prog 5 Tryz.f5 Rows.proofComparesSpec Rows.proofComparesRow = true := by kernel_rfl
theorem cmpFact15 : rowFact15 Tryz.pinned.checked.prog 5 Tryz.f5 Rows.proofComparesSpec Rows.proofComparesRow = true := by kernel_rfl
theorem cmpFact16 : rowFact16 Tryz.pinned.checked.prog 5 Tryz.f5 Rows.proofComparesSpec Rows.proofComparesRow = true := by kernel_rfl
theorem cmpFact17 : rowFact17 Tryz.pinned.checked.prog 5 Tryz.f5 Rows.proofComparesSpec Rows.proofComparesRow = true := by kernel_rfl
theorem cmpFact18 : rowFact18 Tryz.pinned.checked.prog 5 Tryz.f5 Rows.proofComparesSpec Rows.proofComparesRow = true := by kernel_rfl
theorem cmpFact19 : rowFact19 Tryz.pinned.checked.prog 5 Tryz.f5 Rows.proofComparesSpec Rows.proofComparesRow = true := by kernel_rfl
theorem cmpFact20 : rowFact20 Tryz.pinned.checked.prog 5 Tryz.f5 Rows.proofComparesSpec Rows.proofComparesRow = true := by kernel_rfl
theorem cmpFact21 : rowFact21 Tryz.pinned.checked.prog 5 Tryz.f5 Rows.proofComparesSpec Rows.proofComparesRow = true := by kernel_rfl
theorem cmpFact22 : rowFact22 Tryz.pinned.checked.prog 5 Tryz.f5 Rows.proofComparesSpec Rows.proofComparesRow = true := by kernel_rfl
theorem cmpFact23 : rowFact23 Tryz.pinned.checked.prog 5 Tryz.f5 Rows.proofComparesSpec Rows.proofComparesRow = true := by kernel_rfl
theorem cmpFact24 : rowFact24 Tryz.pinned.checked.prog 5 Tryz.f5 Rows.proofComparesSpec Rows.proofComparesRow = true := by kernel_rfl
theorem cmpFact25 : rowFact25 Tryz.pinned.checked.prog 5 Tryz.f5 Rows.proofComparesSpec Rows.proofComparesRow = true := by kernel_rfl
theorem cmpFact26 : rowFact26 Tryz.pinned.checked.prog 5 Tryz.f5 Rows.proofComparesSpec Rows.proofComparesRow = true := by kernel_rfl
theorem cmpFact27 : rowFact27 Tryz.pinned.checked.prog 5 Tryz.f5 Rows.proofComparesSpec Rows.proofComparesRow = true := by kernel_rfl
theorem cmpFact28 : rowFact28 Tryz.pinned.checked.prog 5 Tryz.f5 Rows.proofComparesSpec Rows.proofComparesRow = true := by kernel_rfl
theorem cmpFact29 : rowFact29 Tryz.pinned.checked.prog 5 Tryz.f5 Rows.proofComparesSpec Rows.proofComparesRow = true := by kernel_rfl
theorem cmpFact30 : rowFact30 Tryz.pinned.checked.prog 5 Tryz.f5 Rows.proofComparesSpec Rows.proofComparesRow = true := by kernel_rfl
theorem cmpFact31 : rowFact31 Tryz.pinned.checked.prog 5 Tryz.f5 Rows.proofComparesSpec Rows.proofComparesRow = true := by kernel_rfl
end Go.Proofs.YtbfagojdbebikaaGreatDoor
