/-
  DERIVED. GIVEN WITH THE SEED: THE CARDS: each row of YtbgojgoejlhgeaaDoorRows.lean that lists a variable, with what it lists TIED to the program's text (the seventh form; the later family's looks); each row that meets fmt, with fmt's text TOLD by the authors' own Lean function (tested against real Go, not proved from fmt's source: count such statements apart). THE CARD IS WHAT COUNTS. Prove the row's statement (the work); the ties are given (YtbgojgoejlhgeaaDoorTie.lean); close each card by the builder's one call (the guide's Derived/Test/ToyasCard.lean, 'card_holds'). Laid BY PROGRAM, IN A SANDBOX (cutbox-door.mjs). By AI agents, Wed Nov 11 2026. No macro, syntax, notation, axiom, sorry.
-/
import Derived.Test.YtbgojgoejlhgeaaDoorRows
import GoSem.ClaimSeven
namespace Go.Proofs.YtbgojgoejlhgeaaDoor
namespace Rows

/-- THE TIED CARD OF 'mandolinelaw37.FenceDecides'. -/
def fenceDecidesCard : Claim7 := { stood := { row := fenceDecidesRow, standIns := [], harness := (true, "49cc295e8d65a6d9fc5beed9507abad97324f4035985940278a07496dc874373"), looks := false }, kinds := [], alts := [], laidByText := true, laidKinds := [.data, .data, .data, .data], laidTests := true, laidLooks := .later }
def FenceDecidesCardSaid : Prop := Claim7.holds Tryd.pinned (.plain (OpenSpec.ofChange fenceDecidesSpec)) fenceDecidesCard

/-- THE TIED CARD OF 'mandolinelaw37.FenceSure'. -/
def fenceSureCard : Claim7 := { stood := { row := fenceSureRow, standIns := [], harness := (true, "49cc295e8d65a6d9fc5beed9507abad97324f4035985940278a07496dc874373"), looks := false }, kinds := [], alts := [], laidByText := true, laidKinds := [.data, .data, .data, .data], laidTests := true, laidLooks := .later }
def FenceSureCardSaid : Prop := Claim7.holds Tryd.pinned (.plain (OpenSpec.ofChange fenceSureSpec)) fenceSureCard

/-- THE TIED CARD OF 'mandolinelaw37.FenceTexts'. -/
def fenceTextsCard : Claim7 := { stood := { row := fenceTextsRow, standIns := [], harness := (true, "49cc295e8d65a6d9fc5beed9507abad97324f4035985940278a07496dc874373"), looks := false }, kinds := [], alts := [], laidByText := true, laidKinds := [.data, .data, .data, .data], laidTests := true, laidLooks := .later }
def FenceTextsCardSaid : Prop := Claim7.holds Tryd.pinned (.plain (OpenSpec.ofChange fenceTextsSpec)) fenceTextsCard

/-- THE TIED CARD OF 'mandolinelaw37.FenceTurns'. -/
def fenceTurnsCard : Claim7 := { stood := { row := fenceTurnsRow, standIns := [], harness := (true, "49cc295e8d65a6d9fc5beed9507abad97324f4035985940278a07496dc874373"), looks := false }, kinds := [], alts := [], laidByText := true, laidKinds := [.data, .data, .data, .data], laidTests := true, laidLooks := .later }
def FenceTurnsCardSaid : Prop := Claim7.holds Tryd.pinned (.plain (OpenSpec.ofChange fenceTurnsSpec)) fenceTurnsCard

/-- THE TIED CARD OF 'mandolinelaw37.FenceApart'. -/
def fenceApartCard : Claim7 := { stood := { row := fenceApartRow, standIns := [], harness := (true, "49cc295e8d65a6d9fc5beed9507abad97324f4035985940278a07496dc874373"), looks := false }, kinds := [], alts := [], laidByText := true, laidKinds := [.data, .data, .data, .data], laidTests := true, laidLooks := .later }
def FenceApartCardSaid : Prop := Claim7.holds Tryd.pinned (.plain (OpenSpec.ofChange fenceApartSpec)) fenceApartCard

/-- THE TIED CARD OF 'mandolinelaw37.FenceLost'. -/
def fenceLostCard : Claim7 := { stood := { row := fenceLostRow, standIns := [], harness := (true, "49cc295e8d65a6d9fc5beed9507abad97324f4035985940278a07496dc874373"), looks := false }, kinds := [], alts := [], laidByText := true, laidKinds := [.data, .data, .data, .data], laidTests := true, laidLooks := .later }
def FenceLostCardSaid : Prop := Claim7.holds Tryd.pinned (.plain (OpenSpec.ofChange fenceLostSpec)) fenceLostCard

/-- THE TIED CARD OF 'mandolinelaw37.FenceGoes'. -/
def fenceGoesCard : Claim7 := { stood := { row := fenceGoesRow, standIns := [], harness := (true, "49cc295e8d65a6d9fc5beed9507abad97324f4035985940278a07496dc874373"), looks := false }, kinds := [], alts := [], laidByText := true, laidKinds := [.data, .data, .data, .data], laidTests := true, laidLooks := .later }
def FenceGoesCardSaid : Prop := Claim7.holds Tryd.pinned (.plain (OpenSpec.ofChange fenceGoesSpec)) fenceGoesCard

/-- THE TIED CARD OF 'mandolinelaw37.FenceEnds'. -/
def fenceEndsCard : Claim7 := { stood := { row := fenceEndsRow, standIns := [], harness := (true, "49cc295e8d65a6d9fc5beed9507abad97324f4035985940278a07496dc874373"), looks := false }, kinds := [], alts := [], laidByText := true, laidKinds := [.data, .data, .data, .data], laidTests := true, laidLooks := .later }
def FenceEndsCardSaid : Prop := Claim7.holds Tryd.pinned (.plain (OpenSpec.ofChange fenceEndsSpec)) fenceEndsCard

/-- THE SECOND FORM's CARD OF 'mandolinelaw37.FenceDecides'. -/
def fenceDecidesUptoCard : Claim7 := { stood := { row := fenceDecidesUptoRow, standIns := [], harness := (true, "49cc295e8d65a6d9fc5beed9507abad97324f4035985940278a07496dc874373"), looks := false }, kinds := [], alts := [], laidByText := true, laidKinds := [.data, .data, .data, .data], laidTests := true, laidLooks := .later }
def FenceDecidesUptoCardSaid : Prop := Claim7.holds Tryd.pinned (.plain (OpenSpec.upto fenceDecidesSpec)) fenceDecidesUptoCard

/-- THE SECOND FORM's CARD OF 'mandolinelaw37.FenceSure'. -/
def fenceSureUptoCard : Claim7 := { stood := { row := fenceSureUptoRow, standIns := [], harness := (true, "49cc295e8d65a6d9fc5beed9507abad97324f4035985940278a07496dc874373"), looks := false }, kinds := [], alts := [], laidByText := true, laidKinds := [.data, .data, .data, .data], laidTests := true, laidLooks := .later }
def FenceSureUptoCardSaid : Prop := Claim7.holds Tryd.pinned (.plain (OpenSpec.upto fenceSureSpec)) fenceSureUptoCard

/-- THE SECOND FORM's CARD OF 'mandolinelaw37.FenceTexts'. -/
def fenceTextsUptoCard : Claim7 := { stood := { row := fenceTextsUptoRow, standIns := [], harness := (true, "49cc295e8d65a6d9fc5beed9507abad97324f4035985940278a07496dc874373"), looks := false }, kinds := [], alts := [], laidByText := true, laidKinds := [.data, .data, .data, .data], laidTests := true, laidLooks := .later }
def FenceTextsUptoCardSaid : Prop := Claim7.holds Tryd.pinned (.plain (OpenSpec.upto fenceTextsSpec)) fenceTextsUptoCard

/-- THE SECOND FORM's CARD OF 'mandolinelaw37.FenceTurns'. -/
def fenceTurnsUptoCard : Claim7 := { stood := { row := fenceTurnsUptoRow, standIns := [], harness := (true, "49cc295e8d65a6d9fc5beed9507abad97324f4035985940278a07496dc874373"), looks := false }, kinds := [], alts := [], laidByText := true, laidKinds := [.data, .data, .data, .data], laidTests := true, laidLooks := .later }
def FenceTurnsUptoCardSaid : Prop := Claim7.holds Tryd.pinned (.plain (OpenSpec.upto fenceTurnsSpec)) fenceTurnsUptoCard

/-- THE SECOND FORM's CARD OF 'mandolinelaw37.FenceApart'. -/
def fenceApartUptoCard : Claim7 := { stood := { row := fenceApartUptoRow, standIns := [], harness := (true, "49cc295e8d65a6d9fc5beed9507abad97324f4035985940278a07496dc874373"), looks := false }, kinds := [], alts := [], laidByText := true, laidKinds := [.data, .data, .data, .data], laidTests := true, laidLooks := .later }
def FenceApartUptoCardSaid : Prop := Claim7.holds Tryd.pinned (.plain (OpenSpec.upto fenceApartSpec)) fenceApartUptoCard

/-- THE SECOND FORM's CARD OF 'mandolinelaw37.FenceLost'. -/
def fenceLostUptoCard : Claim7 := { stood := { row := fenceLostUptoRow, standIns := [], harness := (true, "49cc295e8d65a6d9fc5beed9507abad97324f4035985940278a07496dc874373"), looks := false }, kinds := [], alts := [], laidByText := true, laidKinds := [.data, .data, .data, .data], laidTests := true, laidLooks := .later }
def FenceLostUptoCardSaid : Prop := Claim7.holds Tryd.pinned (.plain (OpenSpec.upto fenceLostSpec)) fenceLostUptoCard

/-- THE SECOND FORM's CARD OF 'mandolinelaw37.FenceGoes'. -/
def fenceGoesUptoCard : Claim7 := { stood := { row := fenceGoesUptoRow, standIns := [], harness := (true, "49cc295e8d65a6d9fc5beed9507abad97324f4035985940278a07496dc874373"), looks := false }, kinds := [], alts := [], laidByText := true, laidKinds := [.data, .data, .data, .data], laidTests := true, laidLooks := .later }
def FenceGoesUptoCardSaid : Prop := Claim7.holds Tryd.pinned (.plain (OpenSpec.upto fenceGoesSpec)) fenceGoesUptoCard

/-- THE SECOND FORM's CARD OF 'mandolinelaw37.FenceEnds'. -/
def fenceEndsUptoCard : Claim7 := { stood := { row := fenceEndsUptoRow, standIns := [], harness := (true, "49cc295e8d65a6d9fc5beed9507abad97324f4035985940278a07496dc874373"), looks := false }, kinds := [], alts := [], laidByText := true, laidKinds := [.data, .data, .data, .data], laidTests := true, laidLooks := .later }
def FenceEndsUptoCardSaid : Prop := Claim7.holds Tryd.pinned (.plain (OpenSpec.upto fenceEndsSpec)) fenceEndsUptoCard
end Rows
end Go.Proofs.YtbgojgoejlhgeaaDoor
