/-
  DERIVED. GIVEN WITH THE SEED: THE CARDS: each row of YtgmhldapndhoeaaDoorRows.lean that lists a variable, with what it lists TIED to the program's text (the seventh form; the later family's looks); each row that meets fmt, with fmt's text TOLD by the authors' own Lean function (tested against real Go, not proved from fmt's source: count such statements apart). THE CARD IS WHAT COUNTS. Prove the row's statement (the work); the ties are given (YtgmhldapndhoeaaDoorTie.lean); close each card by the builder's one call (the guide's Derived/Test/ToyasCard.lean, 'card_holds'). Laid BY PROGRAM, IN A SANDBOX (cutbox-door.mjs). By AI agents, Wed Nov 11 2026. No macro, syntax, notation, axiom, sorry.
-/
import Derived.Test.YtgmhldapndhoeaaDoorRows
import GoSem.ClaimSeven
namespace Go.Proofs.YtgmhldapndhoeaaDoor
namespace Rows

/-- THE TIED CARD OF 'trellislaw01.NatDigits'. -/
def natDigitsCard : Claim7 := { stood := { row := natDigitsRow, standIns := [], harness := (true, "4b8bce16f750af70fbd0bce07c0c1cca9f39cd377e43ea9ded30b74ce820faa4"), looks := false }, kinds := [], alts := [], laidByText := true, laidKinds := [.data], laidTests := true, laidLooks := .later }
def NatDigitsCardSaid : Prop := Claim7.holds Tryd.pinned (.plain (OpenSpec.ofChange natDigitsSpec)) natDigitsCard

/-- THE TIED CARD OF 'trellislaw01.NatHalves'. -/
def natHalvesCard : Claim7 := { stood := { row := natHalvesRow, standIns := [], harness := (true, "4b8bce16f750af70fbd0bce07c0c1cca9f39cd377e43ea9ded30b74ce820faa4"), looks := false }, kinds := [], alts := [], laidByText := true, laidKinds := [.data], laidTests := true, laidLooks := .later }
def NatHalvesCardSaid : Prop := Claim7.holds Tryd.pinned (.plain (OpenSpec.ofChange natHalvesSpec)) natHalvesCard

/-- THE TIED CARD OF 'trellislaw01.NatAll'. -/
def natAllCard : Claim7 := { stood := { row := natAllRow, standIns := [], harness := (true, "4b8bce16f750af70fbd0bce07c0c1cca9f39cd377e43ea9ded30b74ce820faa4"), looks := false }, kinds := [], alts := [], laidByText := true, laidKinds := [.data], laidTests := true, laidLooks := .later }
def NatAllCardSaid : Prop := Claim7.holds Tryd.pinned (.plain (OpenSpec.ofChange natAllSpec)) natAllCard

/-- THE TIED CARD OF 'trellislaw01.NatKeeps'. -/
def natKeepsCard : Claim7 := { stood := { row := natKeepsRow, standIns := [], harness := (true, "4b8bce16f750af70fbd0bce07c0c1cca9f39cd377e43ea9ded30b74ce820faa4"), looks := false }, kinds := [], alts := [], laidByText := true, laidKinds := [.data], laidTests := true, laidLooks := .later }
def NatKeepsCardSaid : Prop := Claim7.holds Tryd.pinned (.plain (OpenSpec.ofChange natKeepsSpec)) natKeepsCard

/-- THE TIED CARD OF 'trellislaw02.MulnatOrder'. -/
def mulnatOrderCard : Claim7 := { stood := { row := mulnatOrderRow, standIns := [], harness := (true, "4b8bce16f750af70fbd0bce07c0c1cca9f39cd377e43ea9ded30b74ce820faa4"), looks := false }, kinds := [], alts := [], laidByText := true, laidKinds := [.data], laidTests := true, laidLooks := .later }
def MulnatOrderCardSaid : Prop := Claim7.holds Tryd.pinned (.plain (OpenSpec.ofChange mulnatOrderSpec)) mulnatOrderCard

/-- THE SECOND FORM's CARD OF 'trellislaw01.NatDigits'. -/
def natDigitsUptoCard : Claim7 := { stood := { row := natDigitsUptoRow, standIns := [], harness := (true, "4b8bce16f750af70fbd0bce07c0c1cca9f39cd377e43ea9ded30b74ce820faa4"), looks := false }, kinds := [], alts := [], laidByText := true, laidKinds := [.data], laidTests := true, laidLooks := .later }
def NatDigitsUptoCardSaid : Prop := Claim7.holds Tryd.pinned (.plain (OpenSpec.upto natDigitsSpec)) natDigitsUptoCard

/-- THE SECOND FORM's CARD OF 'trellislaw01.NatHalves'. -/
def natHalvesUptoCard : Claim7 := { stood := { row := natHalvesUptoRow, standIns := [], harness := (true, "4b8bce16f750af70fbd0bce07c0c1cca9f39cd377e43ea9ded30b74ce820faa4"), looks := false }, kinds := [], alts := [], laidByText := true, laidKinds := [.data], laidTests := true, laidLooks := .later }
def NatHalvesUptoCardSaid : Prop := Claim7.holds Tryd.pinned (.plain (OpenSpec.upto natHalvesSpec)) natHalvesUptoCard

/-- THE SECOND FORM's CARD OF 'trellislaw01.NatAll'. -/
def natAllUptoCard : Claim7 := { stood := { row := natAllUptoRow, standIns := [], harness := (true, "4b8bce16f750af70fbd0bce07c0c1cca9f39cd377e43ea9ded30b74ce820faa4"), looks := false }, kinds := [], alts := [], laidByText := true, laidKinds := [.data], laidTests := true, laidLooks := .later }
def NatAllUptoCardSaid : Prop := Claim7.holds Tryd.pinned (.plain (OpenSpec.upto natAllSpec)) natAllUptoCard

/-- THE SECOND FORM's CARD OF 'trellislaw01.NatKeeps'. -/
def natKeepsUptoCard : Claim7 := { stood := { row := natKeepsUptoRow, standIns := [], harness := (true, "4b8bce16f750af70fbd0bce07c0c1cca9f39cd377e43ea9ded30b74ce820faa4"), looks := false }, kinds := [], alts := [], laidByText := true, laidKinds := [.data], laidTests := true, laidLooks := .later }
def NatKeepsUptoCardSaid : Prop := Claim7.holds Tryd.pinned (.plain (OpenSpec.upto natKeepsSpec)) natKeepsUptoCard

/-- THE SECOND FORM's CARD OF 'trellislaw02.MulnatOrder'. -/
def mulnatOrderUptoCard : Claim7 := { stood := { row := mulnatOrderUptoRow, standIns := [], harness := (true, "4b8bce16f750af70fbd0bce07c0c1cca9f39cd377e43ea9ded30b74ce820faa4"), looks := false }, kinds := [], alts := [], laidByText := true, laidKinds := [.data], laidTests := true, laidLooks := .later }
def MulnatOrderUptoCardSaid : Prop := Claim7.holds Tryd.pinned (.plain (OpenSpec.upto mulnatOrderSpec)) mulnatOrderUptoCard
end Rows
end Go.Proofs.YtgmhldapndhoeaaDoor
