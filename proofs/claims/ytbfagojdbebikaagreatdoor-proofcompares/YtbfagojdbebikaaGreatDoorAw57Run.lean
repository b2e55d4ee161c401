/- awake() of layer 57 answers true: by the evaluator, in the kernel. -/
import Derived.Test.YtbfagojdbebikaaGreatDoorAw57
namespace Go.Proofs.YtbfagojdbebikaaGreatDoor
open Go Go.Vex Go.RowKit

def isTrue : Option Out → Bool
  | some (.val (.bool true) _) => true
  | _ => false
theorem isTrue_spec {o : Option Out} (h : isTrue o = true) : ∃ st, o = some (.val (.bool true) st) := by
  unfold isTrue at h
  split at h
  · exact ⟨_, rfl⟩
  · cases h

theorem awake_run : isTrue (run Tryz.prog X 8 3000 (.call 6 []) (St.start 8)) = true := by kernel_rfl

theorem awake_goes : ∃ st, Goes Tryz.prog X 8 (.call 6 []) (St.start 8) (.val (.bool true) st) := by
  obtain ⟨st, h⟩ := isTrue_spec awake_run
  exact ⟨st, 3000, h⟩

theorem awake_calls {w : World} (hG : 8 ≤ w.heap.size) : Calls Tryz.prog 6 #[] w fun e w' => e = .returned (.bool true) ∧ Below w.heap.size w w' := by
  obtain ⟨st, h⟩ := awake_goes
  exact h.closed fit hG
#print axioms awake_calls
end Go.Proofs.YtbfagojdbebikaaGreatDoor
