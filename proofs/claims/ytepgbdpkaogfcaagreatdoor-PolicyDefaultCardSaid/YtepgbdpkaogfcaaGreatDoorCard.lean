/-
  The tied card of the law PolicyDefault: for every input it returns true, the listed variables tied to the program's text. Conditions: those of the given card.
-/
import Derived.Test.YtepgbdpkaogfcaaGreatDoorProofs
import Derived.Test.YtepgbdpkaogfcaaGreatDoorCards
import Derived.Test.YtepgbdpkaogfcaaGreatDoorTie
import Derived.SevenTiedAt
namespace Go.Proofs.YtepgbdpkaogfcaaGreatDoor
open Go
set_option maxRecDepth 100000 in
/-- The tied card of the law 'PolicyDefault': for every input the law's function returns true; the input reads behind the call as before. -/
theorem policyDefaultCard_holds : Rows.PolicyDefaultCardSaid :=
  Claim7.holds_tied_plain_at .later [] [.data, .data, .data, .data, .sentinel, .sentinel, .pinned] true (true, "0afc65f63206dd4aed3377504df0a8609cd37985294abcca6e8e947a9a73f876") true
    PolicyDefaultRow.proved (fun _ h => by cases h) (by kernel_rfl) (fun _ h => by cases h) policyDefault_row_tie rfl ⟨rfl, rfl⟩ (by kernel_rfl) rfl
    (fun f fn hf hfn => by
      obtain rfl : f = 3 := Option.some.inj ((show Tryz.prog.funcNamed "bolting/boltinglaw16.PolicyDefault" = some 3 by kernel_rfl).symm.trans hf) |>.symm
      obtain rfl : fn = Tryz.f3 := (Option.some.inj (Tryz.func3.symm.trans hfn)).symm
      exact ⟨by kernel_rfl, fun j t ht => by
        rw [Tryz.params3] at ht
        have hm : t ∈ [3, 3] := by simpa using Array.mem_of_getElem? ht
        have hall : ([3, 3].all fun u => !Tryz.prog.wantsStandIn u) = true := by kernel_rfl
        exact (show Tryz.prog.wantsStandIn t = false by simpa using List.all_eq_true.1 hall t hm)⟩)
    (by kernel_rfl)
#print axioms policyDefaultCard_holds
end Go.Proofs.YtepgbdpkaogfcaaGreatDoor

