/-
  DERIVED. GIVEN WITH THE SEED: THE CARDS: each row of YtnakmganodkliaaDoorRows.lean that lists a variable, with what it lists TIED to the program's text (the seventh form; the later family's looks); each row that meets fmt, with fmt's text TOLD by the authors' own Lean function (tested against real Go, not proved from fmt's source: count such statements apart). THE CARD IS WHAT COUNTS. Prove the row's statement (the work); the ties are given (YtnakmganodkliaaDoorTie.lean); close each card by the builder's one call (the guide's Derived/Test/ToyasCard.lean, 'card_holds'). Laid BY PROGRAM, IN A SANDBOX (cutbox-door.mjs). By AI agents, Wed Nov 11 2026. No macro, syntax, notation, axiom, sorry.
-/
import Derived.Test.YtnakmganodkliaaDoorRows
import GoSem.ClaimSeven
namespace Go.Proofs.YtnakmganodkliaaDoor
namespace Rows

/-- THE TIED CARD OF 'rebuslaw04.MaskEach'. -/
def maskEachCard : Claim7 := { stood := { row := maskEachRow, standIns := [], harness := (true, "156570c0938ef06fe48c979f9f8d7de248cc5e527ed7344f03e9433a9067221d"), looks := false }, kinds := [], alts := [], laidByText := true, laidKinds := [.data], laidTests := true, laidLooks := .later }
def MaskEachCardSaid : Prop := Claim7.holds Tryd.pinned (.plain (OpenSpec.ofChange maskEachSpec)) maskEachCard

/-- THE TIED CARD OF 'rebuslaw04.MaskBack'. -/
def maskBackCard : Claim7 := { stood := { row := maskBackRow, standIns := [], harness := (true, "156570c0938ef06fe48c979f9f8d7de248cc5e527ed7344f03e9433a9067221d"), looks := false }, kinds := [], alts := [], laidByText := true, laidKinds := [.data], laidTests := true, laidLooks := .later }
def MaskBackCardSaid : Prop := Claim7.holds Tryd.pinned (.plain (OpenSpec.ofChange maskBackSpec)) maskBackCard

/-- THE TIED CARD OF 'rebuslaw04.MaskSubs'. -/
def maskSubsCard : Claim7 := { stood := { row := maskSubsRow, standIns := [], harness := (true, "156570c0938ef06fe48c979f9f8d7de248cc5e527ed7344f03e9433a9067221d"), looks := false }, kinds := [], alts := [], laidByText := true, laidKinds := [.data], laidTests := true, laidLooks := .later }
def MaskSubsCardSaid : Prop := Claim7.holds Tryd.pinned (.plain (OpenSpec.ofChange maskSubsSpec)) maskSubsCard

/-- THE TIED CARD OF 'rebuslaw04.MaskExact'. -/
def maskExactCard : Claim7 := { stood := { row := maskExactRow, standIns := [], harness := (true, "156570c0938ef06fe48c979f9f8d7de248cc5e527ed7344f03e9433a9067221d"), looks := false }, kinds := [], alts := [], laidByText := true, laidKinds := [.data], laidTests := true, laidLooks := .later }
def MaskExactCardSaid : Prop := Claim7.holds Tryd.pinned (.plain (OpenSpec.ofChange maskExactSpec)) maskExactCard

/-- THE TIED CARD OF 'rebuslaw07.SlotsRuns'. -/
def slotsRunsCard : Claim7 := { stood := { row := slotsRunsRow, standIns := [], harness := (true, "156570c0938ef06fe48c979f9f8d7de248cc5e527ed7344f03e9433a9067221d"), looks := false }, kinds := [], alts := [], laidByText := true, laidKinds := [.data, .data, .data], laidTests := true, laidLooks := .later }
def SlotsRunsCardSaid : Prop := Claim7.holds Tryd.pinned (.plain (OpenSpec.ofChange slotsRunsSpec)) slotsRunsCard

/-- THE TIED CARD OF 'rebuslaw07.SlotsLists'. -/
def slotsListsCard : Claim7 := { stood := { row := slotsListsRow, standIns := [], harness := (true, "156570c0938ef06fe48c979f9f8d7de248cc5e527ed7344f03e9433a9067221d"), looks := false }, kinds := [], alts := [], laidByText := true, laidKinds := [.data, .data, .data], laidTests := true, laidLooks := .later }
def SlotsListsCardSaid : Prop := Claim7.holds Tryd.pinned (.plain (OpenSpec.ofChange slotsListsSpec)) slotsListsCard

/-- THE TIED CARD OF 'rebuslaw07.SlotsSeats'. -/
def slotsSeatsCard : Claim7 := { stood := { row := slotsSeatsRow, standIns := [], harness := (true, "156570c0938ef06fe48c979f9f8d7de248cc5e527ed7344f03e9433a9067221d"), looks := false }, kinds := [], alts := [], laidByText := true, laidKinds := [.data, .data, .data], laidTests := true, laidLooks := .later }
def SlotsSeatsCardSaid : Prop := Claim7.holds Tryd.pinned (.plain (OpenSpec.ofChange slotsSeatsSpec)) slotsSeatsCard

/-- THE TIED CARD OF 'rebuslaw07.SlotsAsks'. -/
def slotsAsksCard : Claim7 := { stood := { row := slotsAsksRow, standIns := [], harness := (true, "156570c0938ef06fe48c979f9f8d7de248cc5e527ed7344f03e9433a9067221d"), looks := false }, kinds := [], alts := [], laidByText := true, laidKinds := [.data, .data, .data], laidTests := true, laidLooks := .later }
def SlotsAsksCardSaid : Prop := Claim7.holds Tryd.pinned (.plain (OpenSpec.ofChange slotsAsksSpec)) slotsAsksCard

/-- THE TIED CARD OF 'rebuslaw07.SlotsTurned'. -/
def slotsTurnedCard : Claim7 := { stood := { row := slotsTurnedRow, standIns := [], harness := (true, "156570c0938ef06fe48c979f9f8d7de248cc5e527ed7344f03e9433a9067221d"), looks := false }, kinds := [], alts := [], laidByText := true, laidKinds := [.data, .data, .data], laidTests := true, laidLooks := .later }
def SlotsTurnedCardSaid : Prop := Claim7.holds Tryd.pinned (.plain (OpenSpec.ofChange slotsTurnedSpec)) slotsTurnedCard

/-- THE TIED CARD OF 'rebuslaw15.RefuteChecks'. -/
def refuteChecksCard : Claim7 := { stood := { row := refuteChecksRow, standIns := [], harness := (true, "156570c0938ef06fe48c979f9f8d7de248cc5e527ed7344f03e9433a9067221d"), looks := false }, kinds := [], alts := [], laidByText := true, laidKinds := [.data], laidTests := true, laidLooks := .later }
def RefuteChecksCardSaid : Prop := Claim7.holds Tryd.pinned (.plain (OpenSpec.ofChange refuteChecksSpec)) refuteChecksCard

/-- THE TIED CARD OF 'rebuslaw15.RefuteProves'. -/
def refuteProvesCard : Claim7 := { stood := { row := refuteProvesRow, standIns := [], harness := (true, "156570c0938ef06fe48c979f9f8d7de248cc5e527ed7344f03e9433a9067221d"), looks := false }, kinds := [], alts := [], laidByText := true, laidKinds := [.data], laidTests := true, laidLooks := .later }
def RefuteProvesCardSaid : Prop := Claim7.holds Tryd.pinned (.plain (OpenSpec.ofChange refuteProvesSpec)) refuteProvesCard

/-- THE TIED CARD OF 'rebuslaw15.RefuteSteps'. -/
def refuteStepsCard : Claim7 := { stood := { row := refuteStepsRow, standIns := [], harness := (true, "156570c0938ef06fe48c979f9f8d7de248cc5e527ed7344f03e9433a9067221d"), looks := false }, kinds := [], alts := [], laidByText := true, laidKinds := [.data], laidTests := true, laidLooks := .later }
def RefuteStepsCardSaid : Prop := Claim7.holds Tryd.pinned (.plain (OpenSpec.ofChange refuteStepsSpec)) refuteStepsCard

/-- THE TIED CARD OF 'rebuslaw15.RefuteMore'. -/
def refuteMoreCard : Claim7 := { stood := { row := refuteMoreRow, standIns := [], harness := (true, "156570c0938ef06fe48c979f9f8d7de248cc5e527ed7344f03e9433a9067221d"), looks := false }, kinds := [], alts := [], laidByText := true, laidKinds := [.data], laidTests := true, laidLooks := .later }
def RefuteMoreCardSaid : Prop := Claim7.holds Tryd.pinned (.plain (OpenSpec.ofChange refuteMoreSpec)) refuteMoreCard

/-- THE TIED CARD OF 'rebuslaw14.FillOnly'. -/
def fillOnlyCard : Claim7 := { stood := { row := fillOnlyRow, standIns := [], harness := (true, "156570c0938ef06fe48c979f9f8d7de248cc5e527ed7344f03e9433a9067221d"), looks := false }, kinds := [], alts := [], laidByText := true, laidKinds := [.data], laidTests := true, laidLooks := .later }
def FillOnlyCardSaid : Prop := Claim7.holds Tryd.pinned (.plain (OpenSpec.ofChange fillOnlySpec)) fillOnlyCard

/-- THE TIED CARD OF 'rebuslaw14.FillTrue'. -/
def fillTrueCard : Claim7 := { stood := { row := fillTrueRow, standIns := [], harness := (true, "156570c0938ef06fe48c979f9f8d7de248cc5e527ed7344f03e9433a9067221d"), looks := false }, kinds := [], alts := [], laidByText := true, laidKinds := [.data], laidTests := true, laidLooks := .later }
def FillTrueCardSaid : Prop := Claim7.holds Tryd.pinned (.plain (OpenSpec.ofChange fillTrueSpec)) fillTrueCard

/-- THE TIED CARD OF 'rebuslaw15.RefuteSound'. -/
def refuteSoundCard : Claim7 := { stood := { row := refuteSoundRow, standIns := [], harness := (true, "156570c0938ef06fe48c979f9f8d7de248cc5e527ed7344f03e9433a9067221d"), looks := false }, kinds := [], alts := [], laidByText := true, laidKinds := [.data], laidTests := true, laidLooks := .later }
def RefuteSoundCardSaid : Prop := Claim7.holds Tryd.pinned (.plain (OpenSpec.ofChange refuteSoundSpec)) refuteSoundCard

/-- THE TIED CARD OF 'rebuslaw14.FillNumbers'. -/
def fillNumbersCard : Claim7 := { stood := { row := fillNumbersRow, standIns := [], harness := (true, "156570c0938ef06fe48c979f9f8d7de248cc5e527ed7344f03e9433a9067221d"), looks := false }, kinds := [], alts := [], laidByText := true, laidKinds := [.data], laidTests := true, laidLooks := .later }
def FillNumbersCardSaid : Prop := Claim7.holds Tryd.pinned (.plain (OpenSpec.ofChange fillNumbersSpec)) fillNumbersCard

/-- THE SECOND FORM's CARD OF 'rebuslaw04.MaskEach'. -/
def maskEachUptoCard : Claim7 := { stood := { row := maskEachUptoRow, standIns := [], harness := (true, "156570c0938ef06fe48c979f9f8d7de248cc5e527ed7344f03e9433a9067221d"), looks := false }, kinds := [], alts := [], laidByText := true, laidKinds := [.data], laidTests := true, laidLooks := .later }
def MaskEachUptoCardSaid : Prop := Claim7.holds Tryd.pinned (.plain (OpenSpec.upto maskEachSpec)) maskEachUptoCard

/-- THE SECOND FORM's CARD OF 'rebuslaw04.MaskBack'. -/
def maskBackUptoCard : Claim7 := { stood := { row := maskBackUptoRow, standIns := [], harness := (true, "156570c0938ef06fe48c979f9f8d7de248cc5e527ed7344f03e9433a9067221d"), looks := false }, kinds := [], alts := [], laidByText := true, laidKinds := [.data], laidTests := true, laidLooks := .later }
def MaskBackUptoCardSaid : Prop := Claim7.holds Tryd.pinned (.plain (OpenSpec.upto maskBackSpec)) maskBackUptoCard

/-- THE SECOND FORM's CARD OF 'rebuslaw04.MaskSubs'. -/
def maskSubsUptoCard : Claim7 := { stood := { row := maskSubsUptoRow, standIns := [], harness := (true, "156570c0938ef06fe48c979f9f8d7de248cc5e527ed7344f03e9433a9067221d"), looks := false }, kinds := [], alts := [], laidByText := true, laidKinds := [.data], laidTests := true, laidLooks := .later }
def MaskSubsUptoCardSaid : Prop := Claim7.holds Tryd.pinned (.plain (OpenSpec.upto maskSubsSpec)) maskSubsUptoCard

/-- THE SECOND FORM's CARD OF 'rebuslaw04.MaskExact'. -/
def maskExactUptoCard : Claim7 := { stood := { row := maskExactUptoRow, standIns := [], harness := (true, "156570c0938ef06fe48c979f9f8d7de248cc5e527ed7344f03e9433a9067221d"), looks := false }, kinds := [], alts := [], laidByText := true, laidKinds := [.data], laidTests := true, laidLooks := .later }
def MaskExactUptoCardSaid : Prop := Claim7.holds Tryd.pinned (.plain (OpenSpec.upto maskExactSpec)) maskExactUptoCard

/-- THE SECOND FORM's CARD OF 'rebuslaw07.SlotsRuns'. -/
def slotsRunsUptoCard : Claim7 := { stood := { row := slotsRunsUptoRow, standIns := [], harness := (true, "156570c0938ef06fe48c979f9f8d7de248cc5e527ed7344f03e9433a9067221d"), looks := false }, kinds := [], alts := [], laidByText := true, laidKinds := [.data, .data, .data], laidTests := true, laidLooks := .later }
def SlotsRunsUptoCardSaid : Prop := Claim7.holds Tryd.pinned (.plain (OpenSpec.upto slotsRunsSpec)) slotsRunsUptoCard

/-- THE SECOND FORM's CARD OF 'rebuslaw07.SlotsLists'. -/
def slotsListsUptoCard : Claim7 := { stood := { row := slotsListsUptoRow, standIns := [], harness := (true, "156570c0938ef06fe48c979f9f8d7de248cc5e527ed7344f03e9433a9067221d"), looks := false }, kinds := [], alts := [], laidByText := true, laidKinds := [.data, .data, .data], laidTests := true, laidLooks := .later }
def SlotsListsUptoCardSaid : Prop := Claim7.holds Tryd.pinned (.plain (OpenSpec.upto slotsListsSpec)) slotsListsUptoCard

/-- THE SECOND FORM's CARD OF 'rebuslaw07.SlotsSeats'. -/
def slotsSeatsUptoCard : Claim7 := { stood := { row := slotsSeatsUptoRow, standIns := [], harness := (true, "156570c0938ef06fe48c979f9f8d7de248cc5e527ed7344f03e9433a9067221d"), looks := false }, kinds := [], alts := [], laidByText := true, laidKinds := [.data, .data, .data], laidTests := true, laidLooks := .later }
def SlotsSeatsUptoCardSaid : Prop := Claim7.holds Tryd.pinned (.plain (OpenSpec.upto slotsSeatsSpec)) slotsSeatsUptoCard

/-- THE SECOND FORM's CARD OF 'rebuslaw07.SlotsAsks'. -/
def slotsAsksUptoCard : Claim7 := { stood := { row := slotsAsksUptoRow, standIns := [], harness := (true, "156570c0938ef06fe48c979f9f8d7de248cc5e527ed7344f03e9433a9067221d"), looks := false }, kinds := [], alts := [], laidByText := true, laidKinds := [.data, .data, .data], laidTests := true, laidLooks := .later }
def SlotsAsksUptoCardSaid : Prop := Claim7.holds Tryd.pinned (.plain (OpenSpec.upto slotsAsksSpec)) slotsAsksUptoCard

/-- THE SECOND FORM's CARD OF 'rebuslaw07.SlotsTurned'. -/
def slotsTurnedUptoCard : Claim7 := { stood := { row := slotsTurnedUptoRow, standIns := [], harness := (true, "156570c0938ef06fe48c979f9f8d7de248cc5e527ed7344f03e9433a9067221d"), looks := false }, kinds := [], alts := [], laidByText := true, laidKinds := [.data, .data, .data], laidTests := true, laidLooks := .later }
def SlotsTurnedUptoCardSaid : Prop := Claim7.holds Tryd.pinned (.plain (OpenSpec.upto slotsTurnedSpec)) slotsTurnedUptoCard

/-- THE SECOND FORM's CARD OF 'rebuslaw15.RefuteChecks'. -/
def refuteChecksUptoCard : Claim7 := { stood := { row := refuteChecksUptoRow, standIns := [], harness := (true, "156570c0938ef06fe48c979f9f8d7de248cc5e527ed7344f03e9433a9067221d"), looks := false }, kinds := [], alts := [], laidByText := true, laidKinds := [.data], laidTests := true, laidLooks := .later }
def RefuteChecksUptoCardSaid : Prop := Claim7.holds Tryd.pinned (.plain (OpenSpec.upto refuteChecksSpec)) refuteChecksUptoCard

/-- THE SECOND FORM's CARD OF 'rebuslaw15.RefuteProves'. -/
def refuteProvesUptoCard : Claim7 := { stood := { row := refuteProvesUptoRow, standIns := [], harness := (true, "156570c0938ef06fe48c979f9f8d7de248cc5e527ed7344f03e9433a9067221d"), looks := false }, kinds := [], alts := [], laidByText := true, laidKinds := [.data], laidTests := true, laidLooks := .later }
def RefuteProvesUptoCardSaid : Prop := Claim7.holds Tryd.pinned (.plain (OpenSpec.upto refuteProvesSpec)) refuteProvesUptoCard

/-- THE SECOND FORM's CARD OF 'rebuslaw15.RefuteSteps'. -/
def refuteStepsUptoCard : Claim7 := { stood := { row := refuteStepsUptoRow, standIns := [], harness := (true, "156570c0938ef06fe48c979f9f8d7de248cc5e527ed7344f03e9433a9067221d"), looks := false }, kinds := [], alts := [], laidByText := true, laidKinds := [.data], laidTests := true, laidLooks := .later }
def RefuteStepsUptoCardSaid : Prop := Claim7.holds Tryd.pinned (.plain (OpenSpec.upto refuteStepsSpec)) refuteStepsUptoCard

/-- THE SECOND FORM's CARD OF 'rebuslaw15.RefuteMore'. -/
def refuteMoreUptoCard : Claim7 := { stood := { row := refuteMoreUptoRow, standIns := [], harness := (true, "156570c0938ef06fe48c979f9f8d7de248cc5e527ed7344f03e9433a9067221d"), looks := false }, kinds := [], alts := [], laidByText := true, laidKinds := [.data], laidTests := true, laidLooks := .later }
def RefuteMoreUptoCardSaid : Prop := Claim7.holds Tryd.pinned (.plain (OpenSpec.upto refuteMoreSpec)) refuteMoreUptoCard

/-- THE SECOND FORM's CARD OF 'rebuslaw14.FillOnly'. -/
def fillOnlyUptoCard : Claim7 := { stood := { row := fillOnlyUptoRow, standIns := [], harness := (true, "156570c0938ef06fe48c979f9f8d7de248cc5e527ed7344f03e9433a9067221d"), looks := false }, kinds := [], alts := [], laidByText := true, laidKinds := [.data], laidTests := true, laidLooks := .later }
def FillOnlyUptoCardSaid : Prop := Claim7.holds Tryd.pinned (.plain (OpenSpec.upto fillOnlySpec)) fillOnlyUptoCard

/-- THE SECOND FORM's CARD OF 'rebuslaw14.FillTrue'. -/
def fillTrueUptoCard : Claim7 := { stood := { row := fillTrueUptoRow, standIns := [], harness := (true, "156570c0938ef06fe48c979f9f8d7de248cc5e527ed7344f03e9433a9067221d"), looks := false }, kinds := [], alts := [], laidByText := true, laidKinds := [.data], laidTests := true, laidLooks := .later }
def FillTrueUptoCardSaid : Prop := Claim7.holds Tryd.pinned (.plain (OpenSpec.upto fillTrueSpec)) fillTrueUptoCard

/-- THE SECOND FORM's CARD OF 'rebuslaw15.RefuteSound'. -/
def refuteSoundUptoCard : Claim7 := { stood := { row := refuteSoundUptoRow, standIns := [], harness := (true, "156570c0938ef06fe48c979f9f8d7de248cc5e527ed7344f03e9433a9067221d"), looks := false }, kinds := [], alts := [], laidByText := true, laidKinds := [.data], laidTests := true, laidLooks := .later }
def RefuteSoundUptoCardSaid : Prop := Claim7.holds Tryd.pinned (.plain (OpenSpec.upto refuteSoundSpec)) refuteSoundUptoCard

/-- THE SECOND FORM's CARD OF 'rebuslaw14.FillNumbers'. -/
def fillNumbersUptoCard : Claim7 := { stood := { row := fillNumbersUptoRow, standIns := [], harness := (true, "156570c0938ef06fe48c979f9f8d7de248cc5e527ed7344f03e9433a9067221d"), looks := false }, kinds := [], alts := [], laidByText := true, laidKinds := [.data], laidTests := true, laidLooks := .later }
def FillNumbersUptoCardSaid : Prop := Claim7.holds Tryd.pinned (.plain (OpenSpec.upto fillNumbersSpec)) fillNumbersUptoCard
end Rows
end Go.Proofs.YtnakmganodkliaaDoor
