/- ProofCompares: the row and its card: for all claims Same returns the result of the reference. No condition. -/
import Derived.Test.YtbfagojdbebikaaGreatDoorCards
import Derived.Test.YtbfagojdbebikaaGreatDoorTie
import Derived.SevenTiedAt
import Derived.Test.YtbfagojdbebikaaGreatDoorFactsA
import Derived.Test.YtbfagojdbebikaaGreatDoorFactsB
import Derived.Test.YtbfagojdbebikaaGreatDoorRowCmp
namespace Go.Proofs.YtbfagojdbebikaaGreatDoor
open Go
theorem cmp_named : Tryz.pinned.checked.prog.funcNamed Rows.proofComparesRow.func = some 5 := by kernel_rfl
theorem cmp_joined : joinedFacts Tryz.pinned.checked.prog 5 Tryz.f5 Rows.proofComparesSpec Rows.proofComparesRow = true := joinedFacts_of cmpFact0 cmpFact1 cmpFact2 cmpFact3 cmpFact4 cmpFact5 cmpFact6 cmpFact7 cmpFact8 cmpFact9 cmpFact10 cmpFact11 cmpFact12 cmpFact13 cmpFact14 cmpFact15 cmpFact16 cmpFact17 cmpFact18 cmpFact19 cmpFact20 cmpFact21 cmpFact22 cmpFact23 cmpFact24 cmpFact25 cmpFact26 cmpFact27 cmpFact28 cmpFact29 cmpFact30 cmpFact31
theorem cmp_inst : Tryz.f5.isInstance Tryz.pinned.checked.prog Rows.proofComparesRow.origin Rows.proofComparesRow.targs := of_decide_eq_true (by kernel_rfl)
theorem cmp_wrap : Tryz.f5.isWrapper Tryz.pinned.checked.prog Rows.proofComparesRow.wrapper Rows.proofComparesRow.mainSum := by unfold Func.isWrapper; first | (rw [if_pos (by decide +kernel)]; kernel_rfl) | (rw [if_neg (by decide +kernel)]; exact ⟨rfl, rfl⟩)
theorem proofCompares_holds : Rows.ProofComparesSaid :=
  OpenClaim.holds_of_wide 5 Tryz.f5 rfl rfl rfl rfl rfl rfl rfl ⟨rfl, rfl, rfl, rfl, rfl⟩ rfl rfl rfl rfl rfl cmp_named Tryz.func5 cmp_joined cmp_inst cmp_wrap
    (fun os started H enc _ => lifted os started H enc)
theorem cmp_wf : Rows.proofComparesRow.wfByText (OpenSpec.ofChange Rows.proofComparesSpec) = true := by kernel_rfl
theorem cmp_main : Tryz.pinned.checked.prog.mainIs = some (true, "60a5e962dc1f4fe988dfa79233aeaec293cdf6c72b3c81a3b4c5b5b5e29320ef".toList) := by kernel_rfl
theorem cmp_looks : true = Tryz.pinned.checked.prog.looks [] := by kernel_rfl
theorem cmp_goes : false = Rows.proofComparesRow.goesBy Tryz.pinned.checked.prog := by kernel_rfl
theorem cmp_stand : ([40, 40].all fun u => !Tryz.pinned.checked.prog.wantsStandIn u) = true := by kernel_rfl
theorem proofCompares_card : Rows.ProofComparesCardSaid :=
  Claim7.holds_tied_plain_at .later [] [.data, .data, .data, .data, .sentinel, .sentinel, .pinned] true (true, "60a5e962dc1f4fe988dfa79233aeaec293cdf6c72b3c81a3b4c5b5b5e29320ef") true
    proofCompares_holds (fun _ h => by cases h) cmp_wf (fun _ h => by cases h) proofCompares_row_tie rfl ⟨rfl, rfl⟩ cmp_main rfl
    (fun f fn hf hfn => by
      obtain rfl : (5 : FuncId) = f := Option.some.inj (cmp_named.symm.trans hf)
      obtain rfl : Tryz.f5 = fn := Option.some.inj (Tryz.func5.symm.trans hfn)
      exact ⟨cmp_looks, fun j t ht => by
        rw [Tryz.params5] at ht
        have hm : t ∈ [40, 40] := by simpa using Array.mem_of_getElem? ht
        simpa using List.all_eq_true.1 cmp_stand t hm⟩)
    cmp_goes
#print axioms proofCompares_card
end Go.Proofs.YtbfagojdbebikaaGreatDoor
