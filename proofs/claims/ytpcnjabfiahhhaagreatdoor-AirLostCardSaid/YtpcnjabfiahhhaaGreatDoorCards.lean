/-
  DERIVED. GIVEN WITH THE SEED: THE CARDS: each row of YtpcnjabfiahhhaaGreatDoorRows.lean that lists a variable, with what it lists TIED to the program's text (the seventh form; the later family's looks); each row that meets fmt, with fmt's text TOLD by the authors' own Lean function (tested against real Go, not proved from fmt's source: count such statements apart). THE CARD IS WHAT COUNTS. Prove the row's statement (the work); the ties are given (YtpcnjabfiahhhaaGreatDoorTie.lean); close each card by the builder's one call (the guide's Derived/Test/ToyasCard.lean, 'card_holds'). Laid BY PROGRAM, IN A SANDBOX (cutbox-door.mjs). By AI agents, Wed Nov 11 2026. No macro, syntax, notation, axiom, sorry.
-/
import Derived.Test.YtpcnjabfiahhhaaGreatDoorRows
import GoSem.ClaimSeven
namespace Go.Proofs.YtpcnjabfiahhhaaGreatDoor
namespace Rows

/-- THE TIED CARD OF 'drumlinelaw17.SpeakSync'. -/
def speakSyncCard : Claim7 := { stood := { row := speakSyncRow, standIns := [], harness := (true, "7fa93c515e3bef65e823615c6cdaf83fa2fd5bb252ab25be6c905e2ba6bb0bf2"), looks := true }, kinds := [], alts := [], laidByText := true, laidKinds := [.handle, .sentinel], laidTests := true, laidLooks := .later }
def SpeakSyncCardSaid : Prop := Claim7.holds Tryz.pinned (.plain (OpenSpec.ofChange speakSyncSpec)) speakSyncCard

/-- THE TIED CARD OF 'drumlinelaw17.SpeakHeard'. -/
def speakHeardCard : Claim7 := { stood := { row := speakHeardRow, standIns := [], harness := (true, "7fa93c515e3bef65e823615c6cdaf83fa2fd5bb252ab25be6c905e2ba6bb0bf2"), looks := true }, kinds := [], alts := [], laidByText := true, laidKinds := [.handle, .sentinel], laidTests := true, laidLooks := .later }
def SpeakHeardCardSaid : Prop := Claim7.holds Tryz.pinned (.plain (OpenSpec.ofChange speakHeardSpec)) speakHeardCard

/-- THE TIED CARD OF 'drumlinelaw17.SpeakMessages'. -/
def speakMessagesCard : Claim7 := { stood := { row := speakMessagesRow, standIns := [], harness := (true, "7fa93c515e3bef65e823615c6cdaf83fa2fd5bb252ab25be6c905e2ba6bb0bf2"), looks := true }, kinds := [], alts := [], laidByText := true, laidKinds := [.handle, .sentinel], laidTests := true, laidLooks := .later }
def SpeakMessagesCardSaid : Prop := Claim7.holds Tryz.pinned (.plain (OpenSpec.ofChange speakMessagesSpec)) speakMessagesCard

/-- THE TIED CARD OF 'drumlinelaw17.SpeakOffers'. -/
def speakOffersCard : Claim7 := { stood := { row := speakOffersRow, standIns := [], harness := (true, "7fa93c515e3bef65e823615c6cdaf83fa2fd5bb252ab25be6c905e2ba6bb0bf2"), looks := true }, kinds := [], alts := [], laidByText := true, laidKinds := [.handle, .sentinel], laidTests := true, laidLooks := .later }
def SpeakOffersCardSaid : Prop := Claim7.holds Tryz.pinned (.plain (OpenSpec.ofChange speakOffersSpec)) speakOffersCard

/-- THE TIED CARD OF 'drumlinelaw17.SpeakPort'. -/
def speakPortCard : Claim7 := { stood := { row := speakPortRow, standIns := [], harness := (true, "7fa93c515e3bef65e823615c6cdaf83fa2fd5bb252ab25be6c905e2ba6bb0bf2"), looks := true }, kinds := [], alts := [], laidByText := true, laidKinds := [.handle, .sentinel], laidTests := true, laidLooks := .later }
def SpeakPortCardSaid : Prop := Claim7.holds Tryz.pinned (.plain (OpenSpec.ofChange speakPortSpec)) speakPortCard

/-- THE TIED CARD OF 'drumlinelaw17.SpeakAlign'. -/
def speakAlignCard : Claim7 := { stood := { row := speakAlignRow, standIns := [], harness := (true, "7fa93c515e3bef65e823615c6cdaf83fa2fd5bb252ab25be6c905e2ba6bb0bf2"), looks := true }, kinds := [], alts := [], laidByText := true, laidKinds := [.handle, .sentinel], laidTests := true, laidLooks := .later }
def SpeakAlignCardSaid : Prop := Claim7.holds Tryz.pinned (.plain (OpenSpec.ofChange speakAlignSpec)) speakAlignCard

/-- THE TIED CARD OF 'drumlinelaw11.AirRaw'. -/
def airRawCard : Claim7 := { stood := { row := airRawRow, standIns := [], harness := (true, "7fa93c515e3bef65e823615c6cdaf83fa2fd5bb252ab25be6c905e2ba6bb0bf2"), looks := true }, kinds := [], alts := [], laidByText := true, laidKinds := [.handle, .sentinel], laidTests := true, laidLooks := .later }
def AirRawCardSaid : Prop := Claim7.holds Tryz.pinned (.plain (OpenSpec.ofChange airRawSpec)) airRawCard

/-- THE TIED CARD OF 'drumlinelaw11.AirHeard'. -/
def airHeardCard : Claim7 := { stood := { row := airHeardRow, standIns := [], harness := (true, "7fa93c515e3bef65e823615c6cdaf83fa2fd5bb252ab25be6c905e2ba6bb0bf2"), looks := true }, kinds := [], alts := [], laidByText := true, laidKinds := [.handle, .sentinel], laidTests := true, laidLooks := .later }
def AirHeardCardSaid : Prop := Claim7.holds Tryz.pinned (.plain (OpenSpec.ofChange airHeardSpec)) airHeardCard

/-- THE TIED CARD OF 'drumlinelaw11.AirOrder'. -/
def airOrderCard : Claim7 := { stood := { row := airOrderRow, standIns := [], harness := (true, "7fa93c515e3bef65e823615c6cdaf83fa2fd5bb252ab25be6c905e2ba6bb0bf2"), looks := true }, kinds := [], alts := [], laidByText := true, laidKinds := [.handle, .sentinel], laidTests := true, laidLooks := .later }
def AirOrderCardSaid : Prop := Claim7.holds Tryz.pinned (.plain (OpenSpec.ofChange airOrderSpec)) airOrderCard

/-- THE TIED CARD OF 'drumlinelaw11.AirLost'. -/
def airLostCard : Claim7 := { stood := { row := airLostRow, standIns := [], harness := (true, "7fa93c515e3bef65e823615c6cdaf83fa2fd5bb252ab25be6c905e2ba6bb0bf2"), looks := true }, kinds := [], alts := [], laidByText := true, laidKinds := [.handle, .sentinel], laidTests := true, laidLooks := .later }
def AirLostCardSaid : Prop := Claim7.holds Tryz.pinned (.plain (OpenSpec.ofChange airLostSpec)) airLostCard

/-- THE TIED CARD OF 'drumlinelaw11.AirFits'. -/
def airFitsCard : Claim7 := { stood := { row := airFitsRow, standIns := [], harness := (true, "7fa93c515e3bef65e823615c6cdaf83fa2fd5bb252ab25be6c905e2ba6bb0bf2"), looks := true }, kinds := [], alts := [], laidByText := true, laidKinds := [.handle, .sentinel], laidTests := true, laidLooks := .later }
def AirFitsCardSaid : Prop := Claim7.holds Tryz.pinned (.plain (OpenSpec.ofChange airFitsSpec)) airFitsCard

/-- THE SECOND FORM's CARD OF 'drumlinelaw17.SpeakSync'. -/
def speakSyncUptoCard : Claim7 := { stood := { row := speakSyncUptoRow, standIns := [], harness := (true, "7fa93c515e3bef65e823615c6cdaf83fa2fd5bb252ab25be6c905e2ba6bb0bf2"), looks := true }, kinds := [], alts := [], laidByText := true, laidKinds := [.handle, .sentinel], laidTests := true, laidLooks := .later }
def SpeakSyncUptoCardSaid : Prop := Claim7.holds Tryz.pinned (.plain (OpenSpec.upto speakSyncSpec)) speakSyncUptoCard

/-- THE SECOND FORM's CARD OF 'drumlinelaw17.SpeakHeard'. -/
def speakHeardUptoCard : Claim7 := { stood := { row := speakHeardUptoRow, standIns := [], harness := (true, "7fa93c515e3bef65e823615c6cdaf83fa2fd5bb252ab25be6c905e2ba6bb0bf2"), looks := true }, kinds := [], alts := [], laidByText := true, laidKinds := [.handle, .sentinel], laidTests := true, laidLooks := .later }
def SpeakHeardUptoCardSaid : Prop := Claim7.holds Tryz.pinned (.plain (OpenSpec.upto speakHeardSpec)) speakHeardUptoCard

/-- THE SECOND FORM's CARD OF 'drumlinelaw17.SpeakMessages'. -/
def speakMessagesUptoCard : Claim7 := { stood := { row := speakMessagesUptoRow, standIns := [], harness := (true, "7fa93c515e3bef65e823615c6cdaf83fa2fd5bb252ab25be6c905e2ba6bb0bf2"), looks := true }, kinds := [], alts := [], laidByText := true, laidKinds := [.handle, .sentinel], laidTests := true, laidLooks := .later }
def SpeakMessagesUptoCardSaid : Prop := Claim7.holds Tryz.pinned (.plain (OpenSpec.upto speakMessagesSpec)) speakMessagesUptoCard

/-- THE SECOND FORM's CARD OF 'drumlinelaw17.SpeakOffers'. -/
def speakOffersUptoCard : Claim7 := { stood := { row := speakOffersUptoRow, standIns := [], harness := (true, "7fa93c515e3bef65e823615c6cdaf83fa2fd5bb252ab25be6c905e2ba6bb0bf2"), looks := true }, kinds := [], alts := [], laidByText := true, laidKinds := [.handle, .sentinel], laidTests := true, laidLooks := .later }
def SpeakOffersUptoCardSaid : Prop := Claim7.holds Tryz.pinned (.plain (OpenSpec.upto speakOffersSpec)) speakOffersUptoCard

/-- THE SECOND FORM's CARD OF 'drumlinelaw17.SpeakPort'. -/
def speakPortUptoCard : Claim7 := { stood := { row := speakPortUptoRow, standIns := [], harness := (true, "7fa93c515e3bef65e823615c6cdaf83fa2fd5bb252ab25be6c905e2ba6bb0bf2"), looks := true }, kinds := [], alts := [], laidByText := true, laidKinds := [.handle, .sentinel], laidTests := true, laidLooks := .later }
def SpeakPortUptoCardSaid : Prop := Claim7.holds Tryz.pinned (.plain (OpenSpec.upto speakPortSpec)) speakPortUptoCard

/-- THE SECOND FORM's CARD OF 'drumlinelaw17.SpeakAlign'. -/
def speakAlignUptoCard : Claim7 := { stood := { row := speakAlignUptoRow, standIns := [], harness := (true, "7fa93c515e3bef65e823615c6cdaf83fa2fd5bb252ab25be6c905e2ba6bb0bf2"), looks := true }, kinds := [], alts := [], laidByText := true, laidKinds := [.handle, .sentinel], laidTests := true, laidLooks := .later }
def SpeakAlignUptoCardSaid : Prop := Claim7.holds Tryz.pinned (.plain (OpenSpec.upto speakAlignSpec)) speakAlignUptoCard

/-- THE SECOND FORM's CARD OF 'drumlinelaw11.AirRaw'. -/
def airRawUptoCard : Claim7 := { stood := { row := airRawUptoRow, standIns := [], harness := (true, "7fa93c515e3bef65e823615c6cdaf83fa2fd5bb252ab25be6c905e2ba6bb0bf2"), looks := true }, kinds := [], alts := [], laidByText := true, laidKinds := [.handle, .sentinel], laidTests := true, laidLooks := .later }
def AirRawUptoCardSaid : Prop := Claim7.holds Tryz.pinned (.plain (OpenSpec.upto airRawSpec)) airRawUptoCard

/-- THE SECOND FORM's CARD OF 'drumlinelaw11.AirHeard'. -/
def airHeardUptoCard : Claim7 := { stood := { row := airHeardUptoRow, standIns := [], harness := (true, "7fa93c515e3bef65e823615c6cdaf83fa2fd5bb252ab25be6c905e2ba6bb0bf2"), looks := true }, kinds := [], alts := [], laidByText := true, laidKinds := [.handle, .sentinel], laidTests := true, laidLooks := .later }
def AirHeardUptoCardSaid : Prop := Claim7.holds Tryz.pinned (.plain (OpenSpec.upto airHeardSpec)) airHeardUptoCard

/-- THE SECOND FORM's CARD OF 'drumlinelaw11.AirOrder'. -/
def airOrderUptoCard : Claim7 := { stood := { row := airOrderUptoRow, standIns := [], harness := (true, "7fa93c515e3bef65e823615c6cdaf83fa2fd5bb252ab25be6c905e2ba6bb0bf2"), looks := true }, kinds := [], alts := [], laidByText := true, laidKinds := [.handle, .sentinel], laidTests := true, laidLooks := .later }
def AirOrderUptoCardSaid : Prop := Claim7.holds Tryz.pinned (.plain (OpenSpec.upto airOrderSpec)) airOrderUptoCard

/-- THE SECOND FORM's CARD OF 'drumlinelaw11.AirLost'. -/
def airLostUptoCard : Claim7 := { stood := { row := airLostUptoRow, standIns := [], harness := (true, "7fa93c515e3bef65e823615c6cdaf83fa2fd5bb252ab25be6c905e2ba6bb0bf2"), looks := true }, kinds := [], alts := [], laidByText := true, laidKinds := [.handle, .sentinel], laidTests := true, laidLooks := .later }
def AirLostUptoCardSaid : Prop := Claim7.holds Tryz.pinned (.plain (OpenSpec.upto airLostSpec)) airLostUptoCard

/-- THE SECOND FORM's CARD OF 'drumlinelaw11.AirFits'. -/
def airFitsUptoCard : Claim7 := { stood := { row := airFitsUptoRow, standIns := [], harness := (true, "7fa93c515e3bef65e823615c6cdaf83fa2fd5bb252ab25be6c905e2ba6bb0bf2"), looks := true }, kinds := [], alts := [], laidByText := true, laidKinds := [.handle, .sentinel], laidTests := true, laidLooks := .later }
def AirFitsUptoCardSaid : Prop := Claim7.holds Tryz.pinned (.plain (OpenSpec.upto airFitsSpec)) airFitsUptoCard
end Rows
end Go.Proofs.YtpcnjabfiahhhaaGreatDoor
