/-
  DERIVED. GIVEN WITH THE SEED: THE CARDS: each row of YtcdfjnnkocmeeaaGreatDoorRows.lean that lists a variable, with what it lists TIED to the program's text (the seventh form; the later family's looks); each row that meets fmt, with fmt's text TOLD by the authors' own Lean function (tested against real Go, not proved from fmt's source: count such statements apart). THE CARD IS WHAT COUNTS. Prove the row's statement (the work); the ties are given (YtcdfjnnkocmeeaaGreatDoorTie.lean); close each card by the builder's one call (the guide's Derived/Test/ToyasCard.lean, 'card_holds'). Laid BY PROGRAM, IN A SANDBOX (cutbox-door.mjs). By AI agents, Wed Nov 11 2026. No macro, syntax, notation, axiom, sorry.
-/
import Derived.Test.YtcdfjnnkocmeeaaGreatDoorRows
import GoSem.ClaimSeven
namespace Go.Proofs.YtcdfjnnkocmeeaaGreatDoor
namespace Rows

/-- THE TIED CARD OF 'wagonpoollaw31.LedgerMatchesReference'. -/
def ledgerMatchesReferenceCard : Claim7 := { stood := { row := ledgerMatchesReferenceRow, standIns := [], harness := (true, "c5ae1993df0d2decc64736e1dee3a6b2f23da6ab4862483b6b3aa6f22d82153b"), looks := true }, kinds := [], alts := [], laidByText := true, laidKinds := [.data, .data, .data, .data], laidTests := true, laidLooks := .later }
def LedgerMatchesReferenceCardSaid : Prop := Claim7.holds Tryz.pinned (.plain (OpenSpec.ofChange ledgerMatchesReferenceSpec)) ledgerMatchesReferenceCard

/-- THE TIED CARD OF 'wagonpoollaw31.LedgerAdds'. -/
def ledgerAddsCard : Claim7 := { stood := { row := ledgerAddsRow, standIns := [], harness := (true, "c5ae1993df0d2decc64736e1dee3a6b2f23da6ab4862483b6b3aa6f22d82153b"), looks := true }, kinds := [], alts := [], laidByText := true, laidKinds := [.data, .data, .data, .data], laidTests := true, laidLooks := .later }
def LedgerAddsCardSaid : Prop := Claim7.holds Tryz.pinned (.plain (OpenSpec.ofChange ledgerAddsSpec)) ledgerAddsCard

/-- THE TIED CARD OF 'wagonpoollaw31.LedgerMonths'. -/
def ledgerMonthsCard : Claim7 := { stood := { row := ledgerMonthsRow, standIns := [], harness := (true, "c5ae1993df0d2decc64736e1dee3a6b2f23da6ab4862483b6b3aa6f22d82153b"), looks := true }, kinds := [], alts := [], laidByText := true, laidKinds := [.data, .data, .data, .data], laidTests := true, laidLooks := .later }
def LedgerMonthsCardSaid : Prop := Claim7.holds Tryz.pinned (.plain (OpenSpec.ofChange ledgerMonthsSpec)) ledgerMonthsCard

/-- THE TIED CARD OF 'wagonpoollaw31.LedgerZero'. -/
def ledgerZeroCard : Claim7 := { stood := { row := ledgerZeroRow, standIns := [], harness := (true, "c5ae1993df0d2decc64736e1dee3a6b2f23da6ab4862483b6b3aa6f22d82153b"), looks := true }, kinds := [], alts := [], laidByText := true, laidKinds := [.data, .data, .data, .data], laidTests := true, laidLooks := .later }
def LedgerZeroCardSaid : Prop := Claim7.holds Tryz.pinned (.plain (OpenSpec.ofChange ledgerZeroSpec)) ledgerZeroCard

/-- THE TIED CARD OF 'wagonpoollaw31.LedgerBills'. -/
def ledgerBillsCard : Claim7 := { stood := { row := ledgerBillsRow, standIns := [], harness := (true, "c5ae1993df0d2decc64736e1dee3a6b2f23da6ab4862483b6b3aa6f22d82153b"), looks := true }, kinds := [], alts := [], laidByText := true, laidKinds := [.data, .data, .data, .data], laidTests := true, laidLooks := .later }
def LedgerBillsCardSaid : Prop := Claim7.holds Tryz.pinned (.plain (OpenSpec.ofChange ledgerBillsSpec)) ledgerBillsCard

/-- THE SECOND FORM's CARD OF 'wagonpoollaw31.LedgerBills'. -/
def ledgerBillsUptoCard : Claim7 := { stood := { row := ledgerBillsUptoRow, standIns := [], harness := (true, "c5ae1993df0d2decc64736e1dee3a6b2f23da6ab4862483b6b3aa6f22d82153b"), looks := true }, kinds := [], alts := [], laidByText := true, laidKinds := [.data, .data, .data, .data], laidTests := true, laidLooks := .later }
def LedgerBillsUptoCardSaid : Prop := Claim7.holds Tryz.pinned (.plain (OpenSpec.upto ledgerBillsSpec)) ledgerBillsUptoCard
end Rows
end Go.Proofs.YtcdfjnnkocmeeaaGreatDoor
