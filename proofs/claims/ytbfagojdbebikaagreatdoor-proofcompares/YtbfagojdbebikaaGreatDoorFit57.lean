/- The seat's facts with awake's answer known. -/
import Derived.Test.YtbfagojdbebikaaGreatDoorAw57Run
namespace Go.Proofs.YtbfagojdbebikaaGreatDoor
open Go Go.Vex Go.RowKit

theorem fitk : Fit Tryz.prog Xk 8 := by
  refine ⟨fit.mixed, fit.name, fun f x hx hno args w => ?_, fun f b hx => ?_⟩
  · unfold Xk at hx
    split at hx
    · exact absurd (Option.some.inj hx).symm (hno true)
    · exact fit.ext f x hx hno args w
  · unfold Xk at hx
    split at hx
    · rename_i hf
      obtain rfl := Nat.eq_of_beq_eq_true hf
      obtain rfl : true = b := by simpa using hx
      exact ⟨⟨_, Tryz.func6, rfl⟩, fun w hG => awake_calls hG⟩
    · exact fit.known f b hx
end Go.Proofs.YtbfagojdbebikaaGreatDoor
