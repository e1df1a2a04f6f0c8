/-
  DERIVED. GIVEN WITH THE SEED: THE CARDS: each row of YtpoaakdljpdkfaaDoorRows.lean that lists a variable, with what it lists TIED to the program's text (the seventh form; the later family's looks); each row that meets fmt, with fmt's text TOLD by the authors' own Lean function (tested against real Go, not proved from fmt's source: count such statements apart). THE CARD IS WHAT COUNTS. Prove the row's statement (the work); the ties are given (YtpoaakdljpdkfaaDoorTie.lean); close each card by the builder's one call (the guide's Derived/Test/ToyasCard.lean, 'card_holds'). Laid BY PROGRAM, IN A SANDBOX (cutbox-door.mjs). By AI agents, Wed Nov 11 2026. No macro, syntax, notation, axiom, sorry.
-/
import Derived.Test.YtpoaakdljpdkfaaDoorRows
import GoSem.ClaimSeven
namespace Go.Proofs.YtpoaakdljpdkfaaDoor
namespace Rows

/-- THE TIED CARD OF 'almagestlaw10.GrowRight'. -/
def growRightCard : Claim7 := { stood := { row := growRightRow, standIns := [], harness := (true, "2b3d87e1305c664949f63319e3d895bfad230abd91466623801a0826b3b84297"), looks := false }, kinds := [], alts := [], laidByText := true, laidKinds := [.data], laidTests := true, laidLooks := .later }
def GrowRightCardSaid : Prop := Claim7.holds Tryd.pinned (.plain (OpenSpec.ofChange growRightSpec)) growRightCard

/-- THE TIED CARD OF 'almagestlaw10.GrowChain'. -/
def growChainCard : Claim7 := { stood := { row := growChainRow, standIns := [], harness := (true, "2b3d87e1305c664949f63319e3d895bfad230abd91466623801a0826b3b84297"), looks := false }, kinds := [], alts := [], laidByText := true, laidKinds := [.data], laidTests := true, laidLooks := .later }
def GrowChainCardSaid : Prop := Claim7.holds Tryd.pinned (.plain (OpenSpec.ofChange growChainSpec)) growChainCard

/-- THE TIED CARD OF 'almagestlaw10.GrowHistory'. -/
def growHistoryCard : Claim7 := { stood := { row := growHistoryRow, standIns := [], harness := (true, "2b3d87e1305c664949f63319e3d895bfad230abd91466623801a0826b3b84297"), looks := false }, kinds := [], alts := [], laidByText := true, laidKinds := [.data, .data], laidTests := true, laidLooks := .later }
def GrowHistoryCardSaid : Prop := Claim7.holds Tryd.pinned (.plain (OpenSpec.ofChange growHistorySpec)) growHistoryCard

/-- THE TIED CARD OF 'almagestlaw11.LinkOne'. -/
def linkOneCard : Claim7 := { stood := { row := linkOneRow, standIns := [], harness := (true, "2b3d87e1305c664949f63319e3d895bfad230abd91466623801a0826b3b84297"), looks := false }, kinds := [], alts := [], laidByText := true, laidKinds := [.data], laidTests := true, laidLooks := .later }
def LinkOneCardSaid : Prop := Claim7.holds Tryd.pinned (.plain (OpenSpec.ofChange linkOneSpec)) linkOneCard

/-- THE TIED CARD OF 'almagestlaw13.ChooseOne'. -/
def chooseOneCard : Claim7 := { stood := { row := chooseOneRow, standIns := [], harness := (true, "2b3d87e1305c664949f63319e3d895bfad230abd91466623801a0826b3b84297"), looks := false }, kinds := [], alts := [], laidByText := true, laidKinds := [.data], laidTests := true, laidLooks := .later }
def ChooseOneCardSaid : Prop := Claim7.holds Tryd.pinned (.plain (OpenSpec.ofChange chooseOneSpec)) chooseOneCard

/-- THE TIED CARD OF 'almagestlaw13.ChooseLast'. -/
def chooseLastCard : Claim7 := { stood := { row := chooseLastRow, standIns := [], harness := (true, "2b3d87e1305c664949f63319e3d895bfad230abd91466623801a0826b3b84297"), looks := false }, kinds := [], alts := [], laidByText := true, laidKinds := [.data], laidTests := true, laidLooks := .later }
def ChooseLastCardSaid : Prop := Claim7.holds Tryd.pinned (.plain (OpenSpec.ofChange chooseLastSpec)) chooseLastCard

/-- THE TIED CARD OF 'almagestlaw13.ChooseNear'. -/
def chooseNearCard : Claim7 := { stood := { row := chooseNearRow, standIns := [], harness := (true, "2b3d87e1305c664949f63319e3d895bfad230abd91466623801a0826b3b84297"), looks := false }, kinds := [], alts := [], laidByText := true, laidKinds := [.data], laidTests := true, laidLooks := .later }
def ChooseNearCardSaid : Prop := Claim7.holds Tryd.pinned (.plain (OpenSpec.ofChange chooseNearSpec)) chooseNearCard

/-- THE TIED CARD OF 'almagestlaw19.StoreDoes'. -/
def storeDoesCard : Claim7 := { stood := { row := storeDoesRow, standIns := [], harness := (true, "2b3d87e1305c664949f63319e3d895bfad230abd91466623801a0826b3b84297"), looks := false }, kinds := [], alts := [], laidByText := true, laidKinds := [.data, .data], laidTests := true, laidLooks := .later }
def StoreDoesCardSaid : Prop := Claim7.holds Tryd.pinned (.plain (OpenSpec.ofChange storeDoesSpec)) storeDoesCard

/-- THE TIED CARD OF 'almagestlaw19.StoreKeeps'. -/
def storeKeepsCard : Claim7 := { stood := { row := storeKeepsRow, standIns := [], harness := (true, "2b3d87e1305c664949f63319e3d895bfad230abd91466623801a0826b3b84297"), looks := false }, kinds := [], alts := [], laidByText := true, laidKinds := [.data], laidTests := true, laidLooks := .later }
def StoreKeepsCardSaid : Prop := Claim7.holds Tryd.pinned (.plain (OpenSpec.ofChange storeKeepsSpec)) storeKeepsCard

/-- THE TIED CARD OF 'almagestlaw19.StoreOrder'. -/
def storeOrderCard : Claim7 := { stood := { row := storeOrderRow, standIns := [], harness := (true, "2b3d87e1305c664949f63319e3d895bfad230abd91466623801a0826b3b84297"), looks := false }, kinds := [], alts := [], laidByText := true, laidKinds := [.data], laidTests := true, laidLooks := .later }
def StoreOrderCardSaid : Prop := Claim7.holds Tryd.pinned (.plain (OpenSpec.ofChange storeOrderSpec)) storeOrderCard

/-- THE SECOND FORM's CARD OF 'almagestlaw10.GrowRight'. -/
def growRightUptoCard : Claim7 := { stood := { row := growRightUptoRow, standIns := [], harness := (true, "2b3d87e1305c664949f63319e3d895bfad230abd91466623801a0826b3b84297"), looks := false }, kinds := [], alts := [], laidByText := true, laidKinds := [.data], laidTests := true, laidLooks := .later }
def GrowRightUptoCardSaid : Prop := Claim7.holds Tryd.pinned (.plain (OpenSpec.upto growRightSpec)) growRightUptoCard

/-- THE SECOND FORM's CARD OF 'almagestlaw10.GrowChain'. -/
def growChainUptoCard : Claim7 := { stood := { row := growChainUptoRow, standIns := [], harness := (true, "2b3d87e1305c664949f63319e3d895bfad230abd91466623801a0826b3b84297"), looks := false }, kinds := [], alts := [], laidByText := true, laidKinds := [.data], laidTests := true, laidLooks := .later }
def GrowChainUptoCardSaid : Prop := Claim7.holds Tryd.pinned (.plain (OpenSpec.upto growChainSpec)) growChainUptoCard

/-- THE SECOND FORM's CARD OF 'almagestlaw10.GrowHistory'. -/
def growHistoryUptoCard : Claim7 := { stood := { row := growHistoryUptoRow, standIns := [], harness := (true, "2b3d87e1305c664949f63319e3d895bfad230abd91466623801a0826b3b84297"), looks := false }, kinds := [], alts := [], laidByText := true, laidKinds := [.data, .data], laidTests := true, laidLooks := .later }
def GrowHistoryUptoCardSaid : Prop := Claim7.holds Tryd.pinned (.plain (OpenSpec.upto growHistorySpec)) growHistoryUptoCard

/-- THE SECOND FORM's CARD OF 'almagestlaw11.LinkOne'. -/
def linkOneUptoCard : Claim7 := { stood := { row := linkOneUptoRow, standIns := [], harness := (true, "2b3d87e1305c664949f63319e3d895bfad230abd91466623801a0826b3b84297"), looks := false }, kinds := [], alts := [], laidByText := true, laidKinds := [.data], laidTests := true, laidLooks := .later }
def LinkOneUptoCardSaid : Prop := Claim7.holds Tryd.pinned (.plain (OpenSpec.upto linkOneSpec)) linkOneUptoCard

/-- THE SECOND FORM's CARD OF 'almagestlaw13.ChooseOne'. -/
def chooseOneUptoCard : Claim7 := { stood := { row := chooseOneUptoRow, standIns := [], harness := (true, "2b3d87e1305c664949f63319e3d895bfad230abd91466623801a0826b3b84297"), looks := false }, kinds := [], alts := [], laidByText := true, laidKinds := [.data], laidTests := true, laidLooks := .later }
def ChooseOneUptoCardSaid : Prop := Claim7.holds Tryd.pinned (.plain (OpenSpec.upto chooseOneSpec)) chooseOneUptoCard

/-- THE SECOND FORM's CARD OF 'almagestlaw13.ChooseLast'. -/
def chooseLastUptoCard : Claim7 := { stood := { row := chooseLastUptoRow, standIns := [], harness := (true, "2b3d87e1305c664949f63319e3d895bfad230abd91466623801a0826b3b84297"), looks := false }, kinds := [], alts := [], laidByText := true, laidKinds := [.data], laidTests := true, laidLooks := .later }
def ChooseLastUptoCardSaid : Prop := Claim7.holds Tryd.pinned (.plain (OpenSpec.upto chooseLastSpec)) chooseLastUptoCard

/-- THE SECOND FORM's CARD OF 'almagestlaw13.ChooseNear'. -/
def chooseNearUptoCard : Claim7 := { stood := { row := chooseNearUptoRow, standIns := [], harness := (true, "2b3d87e1305c664949f63319e3d895bfad230abd91466623801a0826b3b84297"), looks := false }, kinds := [], alts := [], laidByText := true, laidKinds := [.data], laidTests := true, laidLooks := .later }
def ChooseNearUptoCardSaid : Prop := Claim7.holds Tryd.pinned (.plain (OpenSpec.upto chooseNearSpec)) chooseNearUptoCard

/-- THE SECOND FORM's CARD OF 'almagestlaw19.StoreDoes'. -/
def storeDoesUptoCard : Claim7 := { stood := { row := storeDoesUptoRow, standIns := [], harness := (true, "2b3d87e1305c664949f63319e3d895bfad230abd91466623801a0826b3b84297"), looks := false }, kinds := [], alts := [], laidByText := true, laidKinds := [.data, .data], laidTests := true, laidLooks := .later }
def StoreDoesUptoCardSaid : Prop := Claim7.holds Tryd.pinned (.plain (OpenSpec.upto storeDoesSpec)) storeDoesUptoCard

/-- THE SECOND FORM's CARD OF 'almagestlaw19.StoreKeeps'. -/
def storeKeepsUptoCard : Claim7 := { stood := { row := storeKeepsUptoRow, standIns := [], harness := (true, "2b3d87e1305c664949f63319e3d895bfad230abd91466623801a0826b3b84297"), looks := false }, kinds := [], alts := [], laidByText := true, laidKinds := [.data], laidTests := true, laidLooks := .later }
def StoreKeepsUptoCardSaid : Prop := Claim7.holds Tryd.pinned (.plain (OpenSpec.upto storeKeepsSpec)) storeKeepsUptoCard

/-- THE SECOND FORM's CARD OF 'almagestlaw19.StoreOrder'. -/
def storeOrderUptoCard : Claim7 := { stood := { row := storeOrderUptoRow, standIns := [], harness := (true, "2b3d87e1305c664949f63319e3d895bfad230abd91466623801a0826b3b84297"), looks := false }, kinds := [], alts := [], laidByText := true, laidKinds := [.data], laidTests := true, laidLooks := .later }
def StoreOrderUptoCardSaid : Prop := Claim7.holds Tryd.pinned (.plain (OpenSpec.upto storeOrderSpec)) storeOrderUptoCard
end Rows
end Go.Proofs.YtpoaakdljpdkfaaDoor
