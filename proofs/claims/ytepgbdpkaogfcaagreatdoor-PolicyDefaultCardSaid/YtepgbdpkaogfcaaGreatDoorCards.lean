/-
  DERIVED. GIVEN WITH THE SEED: THE CARDS: each row of YtepgbdpkaogfcaaGreatDoorRows.lean that lists a variable, with what it lists TIED to the program's text (the seventh form; the later family's looks); each row that meets fmt, with fmt's text TOLD by the authors' own Lean function (tested against real Go, not proved from fmt's source: count such statements apart). THE CARD IS WHAT COUNTS. Prove the row's statement (the work); the ties are given (YtepgbdpkaogfcaaGreatDoorTie.lean); close each card by the builder's one call (the guide's Derived/Test/ToyasCard.lean, 'card_holds'). Laid BY PROGRAM, IN A SANDBOX (cutbox-door.mjs). By AI agents, Wed Nov 11 2026. No macro, syntax, notation, axiom, sorry.
-/
import Derived.Test.YtepgbdpkaogfcaaGreatDoorRows
import GoSem.ClaimSeven
namespace Go.Proofs.YtepgbdpkaogfcaaGreatDoor
namespace Rows

/-- THE TIED CARD OF 'boltinglaw16.PolicyDefault'. -/
def policyDefaultCard : Claim7 := { stood := { row := policyDefaultRow, standIns := [], harness := (true, "0afc65f63206dd4aed3377504df0a8609cd37985294abcca6e8e947a9a73f876"), looks := true }, kinds := [], alts := [], laidByText := true, laidKinds := [.data, .data, .data, .data, .sentinel, .sentinel, .pinned], laidTests := true, laidLooks := .later }
def PolicyDefaultCardSaid : Prop := Claim7.holds Tryz.pinned (.plain (OpenSpec.ofChange policyDefaultSpec)) policyDefaultCard

/-- THE SECOND FORM's CARD OF 'boltinglaw16.PolicyDefault'. -/
def policyDefaultUptoCard : Claim7 := { stood := { row := policyDefaultUptoRow, standIns := [], harness := (true, "0afc65f63206dd4aed3377504df0a8609cd37985294abcca6e8e947a9a73f876"), looks := true }, kinds := [], alts := [], laidByText := true, laidKinds := [.data, .data, .data, .data, .sentinel, .sentinel, .pinned], laidTests := true, laidLooks := .later }
def PolicyDefaultUptoCardSaid : Prop := Claim7.holds Tryz.pinned (.plain (OpenSpec.upto policyDefaultSpec)) policyDefaultUptoCard
end Rows
end Go.Proofs.YtepgbdpkaogfcaaGreatDoor
