/-
  DERIVED. GIVEN WITH THE SEED: THE CARDS: each row of YtojffibjjicddaaDoorRows.lean that lists a variable, with what it lists TIED to the program's text (the seventh form; the later family's looks); each row that meets fmt, with fmt's text TOLD by the authors' own Lean function (tested against real Go, not proved from fmt's source: count such statements apart). THE CARD IS WHAT COUNTS. Prove the row's statement (the work); the ties are given (YtojffibjjicddaaDoorTie.lean); close each card by the builder's one call (the guide's Derived/Test/ToyasCard.lean, 'card_holds'). Laid BY PROGRAM, IN A SANDBOX (cutbox-door.mjs). By AI agents, Wed Nov 11 2026. No macro, syntax, notation, axiom, sorry.
-/
import Derived.Test.YtojffibjjicddaaDoorRows
import GoSem.ClaimSeven
namespace Go.Proofs.YtojffibjjicddaaDoor
namespace Rows

/-- THE TIED CARD OF 'shutterlaw19.FrameBack'. -/
def frameBackCard : Claim7 := { stood := { row := frameBackRow, standIns := [], harness := (true, "8578ed6f3e2391d0691ae65353dbbac71b7554ac60ff5f0a4e038973ca83894c"), looks := true }, kinds := [], alts := [], laidByText := true, laidKinds := [.handle], laidTests := true, laidLooks := .later }
def FrameBackCardSaid : Prop := Claim7.holds Tryd.pinned (.plain (OpenSpec.ofChange frameBackSpec)) frameBackCard

/-- THE TIED CARD OF 'shutterlaw19.FrameForged'. -/
def frameForgedCard : Claim7 := { stood := { row := frameForgedRow, standIns := [], harness := (true, "8578ed6f3e2391d0691ae65353dbbac71b7554ac60ff5f0a4e038973ca83894c"), looks := true }, kinds := [], alts := [], laidByText := true, laidKinds := [.handle], laidTests := true, laidLooks := .later }
def FrameForgedCardSaid : Prop := Claim7.holds Tryd.pinned (.plain (OpenSpec.ofChange frameForgedSpec)) frameForgedCard

/-- THE TIED CARD OF 'shutterlaw19.FrameKeeps'. -/
def frameKeepsCard : Claim7 := { stood := { row := frameKeepsRow, standIns := [], harness := (true, "8578ed6f3e2391d0691ae65353dbbac71b7554ac60ff5f0a4e038973ca83894c"), looks := true }, kinds := [], alts := [], laidByText := true, laidKinds := [.handle], laidTests := true, laidLooks := .later }
def FrameKeepsCardSaid : Prop := Claim7.holds Tryd.pinned (.plain (OpenSpec.ofChange frameKeepsSpec)) frameKeepsCard

/-- THE TIED CARD OF 'shutterlaw19.FrameApart'. -/
def frameApartCard : Claim7 := { stood := { row := frameApartRow, standIns := [], harness := (true, "8578ed6f3e2391d0691ae65353dbbac71b7554ac60ff5f0a4e038973ca83894c"), looks := true }, kinds := [], alts := [], laidByText := true, laidKinds := [.handle], laidTests := true, laidLooks := .later }
def FrameApartCardSaid : Prop := Claim7.holds Tryd.pinned (.plain (OpenSpec.ofChange frameApartSpec)) frameApartCard

/-- THE TIED CARD OF 'shutterlaw21.RoamNewest'. -/
def roamNewestCard : Claim7 := { stood := { row := roamNewestRow, standIns := [], harness := (true, "8578ed6f3e2391d0691ae65353dbbac71b7554ac60ff5f0a4e038973ca83894c"), looks := true }, kinds := [], alts := [], laidByText := true, laidKinds := [.handle], laidTests := true, laidLooks := .later }
def RoamNewestCardSaid : Prop := Claim7.holds Tryd.pinned (.plain (OpenSpec.ofChange roamNewestSpec)) roamNewestCard

/-- THE TIED CARD OF 'shutterlaw21.RoamKeeps'. -/
def roamKeepsCard : Claim7 := { stood := { row := roamKeepsRow, standIns := [], harness := (true, "8578ed6f3e2391d0691ae65353dbbac71b7554ac60ff5f0a4e038973ca83894c"), looks := true }, kinds := [], alts := [], laidByText := true, laidKinds := [.handle], laidTests := true, laidLooks := .later }
def RoamKeepsCardSaid : Prop := Claim7.holds Tryd.pinned (.plain (OpenSpec.ofChange roamKeepsSpec)) roamKeepsCard

/-- THE TIED CARD OF 'shutterlaw21.RoamAgain'. -/
def roamAgainCard : Claim7 := { stood := { row := roamAgainRow, standIns := [], harness := (true, "8578ed6f3e2391d0691ae65353dbbac71b7554ac60ff5f0a4e038973ca83894c"), looks := true }, kinds := [], alts := [], laidByText := true, laidKinds := [.handle], laidTests := true, laidLooks := .later }
def RoamAgainCardSaid : Prop := Claim7.holds Tryd.pinned (.plain (OpenSpec.ofChange roamAgainSpec)) roamAgainCard

/-- THE SECOND FORM's CARD OF 'shutterlaw19.FrameBack'. -/
def frameBackUptoCard : Claim7 := { stood := { row := frameBackUptoRow, standIns := [], harness := (true, "8578ed6f3e2391d0691ae65353dbbac71b7554ac60ff5f0a4e038973ca83894c"), looks := true }, kinds := [], alts := [], laidByText := true, laidKinds := [.handle], laidTests := true, laidLooks := .later }
def FrameBackUptoCardSaid : Prop := Claim7.holds Tryd.pinned (.plain (OpenSpec.upto frameBackSpec)) frameBackUptoCard

/-- THE SECOND FORM's CARD OF 'shutterlaw19.FrameForged'. -/
def frameForgedUptoCard : Claim7 := { stood := { row := frameForgedUptoRow, standIns := [], harness := (true, "8578ed6f3e2391d0691ae65353dbbac71b7554ac60ff5f0a4e038973ca83894c"), looks := true }, kinds := [], alts := [], laidByText := true, laidKinds := [.handle], laidTests := true, laidLooks := .later }
def FrameForgedUptoCardSaid : Prop := Claim7.holds Tryd.pinned (.plain (OpenSpec.upto frameForgedSpec)) frameForgedUptoCard

/-- THE SECOND FORM's CARD OF 'shutterlaw19.FrameKeeps'. -/
def frameKeepsUptoCard : Claim7 := { stood := { row := frameKeepsUptoRow, standIns := [], harness := (true, "8578ed6f3e2391d0691ae65353dbbac71b7554ac60ff5f0a4e038973ca83894c"), looks := true }, kinds := [], alts := [], laidByText := true, laidKinds := [.handle], laidTests := true, laidLooks := .later }
def FrameKeepsUptoCardSaid : Prop := Claim7.holds Tryd.pinned (.plain (OpenSpec.upto frameKeepsSpec)) frameKeepsUptoCard

/-- THE SECOND FORM's CARD OF 'shutterlaw19.FrameApart'. -/
def frameApartUptoCard : Claim7 := { stood := { row := frameApartUptoRow, standIns := [], harness := (true, "8578ed6f3e2391d0691ae65353dbbac71b7554ac60ff5f0a4e038973ca83894c"), looks := true }, kinds := [], alts := [], laidByText := true, laidKinds := [.handle], laidTests := true, laidLooks := .later }
def FrameApartUptoCardSaid : Prop := Claim7.holds Tryd.pinned (.plain (OpenSpec.upto frameApartSpec)) frameApartUptoCard

/-- THE SECOND FORM's CARD OF 'shutterlaw21.RoamNewest'. -/
def roamNewestUptoCard : Claim7 := { stood := { row := roamNewestUptoRow, standIns := [], harness := (true, "8578ed6f3e2391d0691ae65353dbbac71b7554ac60ff5f0a4e038973ca83894c"), looks := true }, kinds := [], alts := [], laidByText := true, laidKinds := [.handle], laidTests := true, laidLooks := .later }
def RoamNewestUptoCardSaid : Prop := Claim7.holds Tryd.pinned (.plain (OpenSpec.upto roamNewestSpec)) roamNewestUptoCard

/-- THE SECOND FORM's CARD OF 'shutterlaw21.RoamKeeps'. -/
def roamKeepsUptoCard : Claim7 := { stood := { row := roamKeepsUptoRow, standIns := [], harness := (true, "8578ed6f3e2391d0691ae65353dbbac71b7554ac60ff5f0a4e038973ca83894c"), looks := true }, kinds := [], alts := [], laidByText := true, laidKinds := [.handle], laidTests := true, laidLooks := .later }
def RoamKeepsUptoCardSaid : Prop := Claim7.holds Tryd.pinned (.plain (OpenSpec.upto roamKeepsSpec)) roamKeepsUptoCard

/-- THE SECOND FORM's CARD OF 'shutterlaw21.RoamAgain'. -/
def roamAgainUptoCard : Claim7 := { stood := { row := roamAgainUptoRow, standIns := [], harness := (true, "8578ed6f3e2391d0691ae65353dbbac71b7554ac60ff5f0a4e038973ca83894c"), looks := true }, kinds := [], alts := [], laidByText := true, laidKinds := [.handle], laidTests := true, laidLooks := .later }
def RoamAgainUptoCardSaid : Prop := Claim7.holds Tryd.pinned (.plain (OpenSpec.upto roamAgainSpec)) roamAgainUptoCard
end Rows
end Go.Proofs.YtojffibjjicddaaDoor
