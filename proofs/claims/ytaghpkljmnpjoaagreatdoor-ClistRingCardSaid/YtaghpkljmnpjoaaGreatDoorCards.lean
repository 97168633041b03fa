/-
  DERIVED. GIVEN WITH THE SEED: THE CARDS: each row of YtaghpkljmnpjoaaGreatDoorRows.lean that lists a variable, with what it lists TIED to the program's text (the seventh form; the later family's looks); each row that meets fmt, with fmt's text TOLD by the authors' own Lean function (tested against real Go, not proved from fmt's source: count such statements apart). THE CARD IS WHAT COUNTS. Prove the row's statement (the work); the ties are given (YtaghpkljmnpjoaaGreatDoorTie.lean); close each card by the builder's one call (the guide's Derived/Test/ToyasCard.lean, 'card_holds'). Laid BY PROGRAM, IN A SANDBOX (cutbox-door.mjs). By AI agents, Wed Nov 11 2026. No macro, syntax, notation, axiom, sorry.
-/
import Derived.Test.YtaghpkljmnpjoaaGreatDoorRows
import GoSem.ClaimSeven
namespace Go.Proofs.YtaghpkljmnpjoaaGreatDoor
namespace Rows

/-- THE TIED CARD OF 'pentimentolaw22.ChashFaults'. -/
def chashFaultsCard : Claim7 := { stood := { row := chashFaultsRow, standIns := [], harness := (true, "ce6066c89d5f74bbfd58645bc2def736d058c09d18bc62badb94e13c3fdd493d"), looks := true }, kinds := [], alts := [], laidByText := true, laidKinds := [.data, .data, .data, .sentinel, .sentinel], laidTests := true, laidLooks := .later }
def ChashFaultsCardSaid : Prop := Claim7.holds Tryz.pinned (.plain (OpenSpec.ofChange chashFaultsSpec)) chashFaultsCard

/-- THE TIED CARD OF 'pentimentolaw23.ClistRing'. -/
def clistRingCard : Claim7 := { stood := { row := clistRingRow, standIns := [], harness := (true, "ce6066c89d5f74bbfd58645bc2def736d058c09d18bc62badb94e13c3fdd493d"), looks := true }, kinds := [], alts := [], laidByText := true, laidKinds := [.data, .data, .data, .sentinel, .sentinel], laidTests := true, laidLooks := .later }
def ClistRingCardSaid : Prop := Claim7.holds Tryz.pinned (.plain (OpenSpec.ofChange clistRingSpec)) clistRingCard

/-- THE TIED CARD OF 'pentimentolaw23.ClistNames'. -/
def clistNamesCard : Claim7 := { stood := { row := clistNamesRow, standIns := [], harness := (true, "ce6066c89d5f74bbfd58645bc2def736d058c09d18bc62badb94e13c3fdd493d"), looks := true }, kinds := [], alts := [], laidByText := true, laidKinds := [.data, .data, .data, .sentinel, .sentinel], laidTests := true, laidLooks := .later }
def ClistNamesCardSaid : Prop := Claim7.holds Tryz.pinned (.plain (OpenSpec.ofChange clistNamesSpec)) clistNamesCard

/-- THE TIED CARD OF 'pentimentolaw23.ClistFaults'. -/
def clistFaultsCard : Claim7 := { stood := { row := clistFaultsRow, standIns := [], harness := (true, "ce6066c89d5f74bbfd58645bc2def736d058c09d18bc62badb94e13c3fdd493d"), looks := true }, kinds := [], alts := [], laidByText := true, laidKinds := [.data, .data, .data, .sentinel, .sentinel], laidTests := true, laidLooks := .later }
def ClistFaultsCardSaid : Prop := Claim7.holds Tryz.pinned (.plain (OpenSpec.ofChange clistFaultsSpec)) clistFaultsCard

/-- THE TIED CARD OF 'pentimentolaw21.CstrFaults'. -/
def cstrFaultsCard : Claim7 := { stood := { row := cstrFaultsRow, standIns := [], harness := (true, "ce6066c89d5f74bbfd58645bc2def736d058c09d18bc62badb94e13c3fdd493d"), looks := true }, kinds := [], alts := [], laidByText := true, laidKinds := [.data, .data, .data, .sentinel, .sentinel], laidTests := true, laidLooks := .later }
def CstrFaultsCardSaid : Prop := Claim7.holds Tryz.pinned (.plain (OpenSpec.ofChange cstrFaultsSpec)) cstrFaultsCard

/-- THE TIED CARD OF 'pentimentolaw26.CkeyBack'. -/
def ckeyBackCard : Claim7 := { stood := { row := ckeyBackRow, standIns := [], harness := (true, "ce6066c89d5f74bbfd58645bc2def736d058c09d18bc62badb94e13c3fdd493d"), looks := true }, kinds := [], alts := [], laidByText := true, laidKinds := [.data, .data, .data, .sentinel, .sentinel], laidTests := true, laidLooks := .later }
def CkeyBackCardSaid : Prop := Claim7.holds Tryz.pinned (.plain (OpenSpec.ofChange ckeyBackSpec)) ckeyBackCard

/-- THE TIED CARD OF 'pentimentolaw26.CkeySorts'. -/
def ckeySortsCard : Claim7 := { stood := { row := ckeySortsRow, standIns := [], harness := (true, "ce6066c89d5f74bbfd58645bc2def736d058c09d18bc62badb94e13c3fdd493d"), looks := true }, kinds := [], alts := [], laidByText := true, laidKinds := [.data, .data, .data, .sentinel, .sentinel], laidTests := true, laidLooks := .later }
def CkeySortsCardSaid : Prop := Claim7.holds Tryz.pinned (.plain (OpenSpec.ofChange ckeySortsSpec)) ckeySortsCard

/-- THE TIED CARD OF 'pentimentolaw26.CkeyNames'. -/
def ckeyNamesCard : Claim7 := { stood := { row := ckeyNamesRow, standIns := [], harness := (true, "ce6066c89d5f74bbfd58645bc2def736d058c09d18bc62badb94e13c3fdd493d"), looks := true }, kinds := [], alts := [], laidByText := true, laidKinds := [.data, .data, .data, .sentinel, .sentinel], laidTests := true, laidLooks := .later }
def CkeyNamesCardSaid : Prop := Claim7.holds Tryz.pinned (.plain (OpenSpec.ofChange ckeyNamesSpec)) ckeyNamesCard

/-- THE TIED CARD OF 'pentimentolaw26.CkeyFaults'. -/
def ckeyFaultsCard : Claim7 := { stood := { row := ckeyFaultsRow, standIns := [], harness := (true, "ce6066c89d5f74bbfd58645bc2def736d058c09d18bc62badb94e13c3fdd493d"), looks := true }, kinds := [], alts := [], laidByText := true, laidKinds := [.data, .data, .data, .sentinel, .sentinel], laidTests := true, laidLooks := .later }
def CkeyFaultsCardSaid : Prop := Claim7.holds Tryz.pinned (.plain (OpenSpec.ofChange ckeyFaultsSpec)) ckeyFaultsCard

/-- THE TIED CARD OF 'pentimentolaw25.CzsetRanks'. -/
def czsetRanksCard : Claim7 := { stood := { row := czsetRanksRow, standIns := [], harness := (true, "ce6066c89d5f74bbfd58645bc2def736d058c09d18bc62badb94e13c3fdd493d"), looks := true }, kinds := [], alts := [], laidByText := true, laidKinds := [.data, .data, .data, .sentinel, .sentinel], laidTests := true, laidLooks := .later }
def CzsetRanksCardSaid : Prop := Claim7.holds Tryz.pinned (.plain (OpenSpec.ofChange czsetRanksSpec)) czsetRanksCard

/-- THE TIED CARD OF 'pentimentolaw25.CzsetNames'. -/
def czsetNamesCard : Claim7 := { stood := { row := czsetNamesRow, standIns := [], harness := (true, "ce6066c89d5f74bbfd58645bc2def736d058c09d18bc62badb94e13c3fdd493d"), looks := true }, kinds := [], alts := [], laidByText := true, laidKinds := [.data, .data, .data, .sentinel, .sentinel], laidTests := true, laidLooks := .later }
def CzsetNamesCardSaid : Prop := Claim7.holds Tryz.pinned (.plain (OpenSpec.ofChange czsetNamesSpec)) czsetNamesCard

/-- THE TIED CARD OF 'pentimentolaw25.CzsetFaults'. -/
def czsetFaultsCard : Claim7 := { stood := { row := czsetFaultsRow, standIns := [], harness := (true, "ce6066c89d5f74bbfd58645bc2def736d058c09d18bc62badb94e13c3fdd493d"), looks := true }, kinds := [], alts := [], laidByText := true, laidKinds := [.data, .data, .data, .sentinel, .sentinel], laidTests := true, laidLooks := .later }
def CzsetFaultsCardSaid : Prop := Claim7.holds Tryz.pinned (.plain (OpenSpec.ofChange czsetFaultsSpec)) czsetFaultsCard

/-- THE SECOND FORM's CARD OF 'pentimentolaw22.ChashFaults'. -/
def chashFaultsUptoCard : Claim7 := { stood := { row := chashFaultsUptoRow, standIns := [], harness := (true, "ce6066c89d5f74bbfd58645bc2def736d058c09d18bc62badb94e13c3fdd493d"), looks := true }, kinds := [], alts := [], laidByText := true, laidKinds := [.data, .data, .data, .sentinel, .sentinel], laidTests := true, laidLooks := .later }
def ChashFaultsUptoCardSaid : Prop := Claim7.holds Tryz.pinned (.plain (OpenSpec.upto chashFaultsSpec)) chashFaultsUptoCard

/-- THE SECOND FORM's CARD OF 'pentimentolaw23.ClistRing'. -/
def clistRingUptoCard : Claim7 := { stood := { row := clistRingUptoRow, standIns := [], harness := (true, "ce6066c89d5f74bbfd58645bc2def736d058c09d18bc62badb94e13c3fdd493d"), looks := true }, kinds := [], alts := [], laidByText := true, laidKinds := [.data, .data, .data, .sentinel, .sentinel], laidTests := true, laidLooks := .later }
def ClistRingUptoCardSaid : Prop := Claim7.holds Tryz.pinned (.plain (OpenSpec.upto clistRingSpec)) clistRingUptoCard

/-- THE SECOND FORM's CARD OF 'pentimentolaw23.ClistNames'. -/
def clistNamesUptoCard : Claim7 := { stood := { row := clistNamesUptoRow, standIns := [], harness := (true, "ce6066c89d5f74bbfd58645bc2def736d058c09d18bc62badb94e13c3fdd493d"), looks := true }, kinds := [], alts := [], laidByText := true, laidKinds := [.data, .data, .data, .sentinel, .sentinel], laidTests := true, laidLooks := .later }
def ClistNamesUptoCardSaid : Prop := Claim7.holds Tryz.pinned (.plain (OpenSpec.upto clistNamesSpec)) clistNamesUptoCard

/-- THE SECOND FORM's CARD OF 'pentimentolaw23.ClistFaults'. -/
def clistFaultsUptoCard : Claim7 := { stood := { row := clistFaultsUptoRow, standIns := [], harness := (true, "ce6066c89d5f74bbfd58645bc2def736d058c09d18bc62badb94e13c3fdd493d"), looks := true }, kinds := [], alts := [], laidByText := true, laidKinds := [.data, .data, .data, .sentinel, .sentinel], laidTests := true, laidLooks := .later }
def ClistFaultsUptoCardSaid : Prop := Claim7.holds Tryz.pinned (.plain (OpenSpec.upto clistFaultsSpec)) clistFaultsUptoCard

/-- THE SECOND FORM's CARD OF 'pentimentolaw21.CstrFaults'. -/
def cstrFaultsUptoCard : Claim7 := { stood := { row := cstrFaultsUptoRow, standIns := [], harness := (true, "ce6066c89d5f74bbfd58645bc2def736d058c09d18bc62badb94e13c3fdd493d"), looks := true }, kinds := [], alts := [], laidByText := true, laidKinds := [.data, .data, .data, .sentinel, .sentinel], laidTests := true, laidLooks := .later }
def CstrFaultsUptoCardSaid : Prop := Claim7.holds Tryz.pinned (.plain (OpenSpec.upto cstrFaultsSpec)) cstrFaultsUptoCard

/-- THE SECOND FORM's CARD OF 'pentimentolaw26.CkeyBack'. -/
def ckeyBackUptoCard : Claim7 := { stood := { row := ckeyBackUptoRow, standIns := [], harness := (true, "ce6066c89d5f74bbfd58645bc2def736d058c09d18bc62badb94e13c3fdd493d"), looks := true }, kinds := [], alts := [], laidByText := true, laidKinds := [.data, .data, .data, .sentinel, .sentinel], laidTests := true, laidLooks := .later }
def CkeyBackUptoCardSaid : Prop := Claim7.holds Tryz.pinned (.plain (OpenSpec.upto ckeyBackSpec)) ckeyBackUptoCard

/-- THE SECOND FORM's CARD OF 'pentimentolaw26.CkeySorts'. -/
def ckeySortsUptoCard : Claim7 := { stood := { row := ckeySortsUptoRow, standIns := [], harness := (true, "ce6066c89d5f74bbfd58645bc2def736d058c09d18bc62badb94e13c3fdd493d"), looks := true }, kinds := [], alts := [], laidByText := true, laidKinds := [.data, .data, .data, .sentinel, .sentinel], laidTests := true, laidLooks := .later }
def CkeySortsUptoCardSaid : Prop := Claim7.holds Tryz.pinned (.plain (OpenSpec.upto ckeySortsSpec)) ckeySortsUptoCard

/-- THE SECOND FORM's CARD OF 'pentimentolaw26.CkeyNames'. -/
def ckeyNamesUptoCard : Claim7 := { stood := { row := ckeyNamesUptoRow, standIns := [], harness := (true, "ce6066c89d5f74bbfd58645bc2def736d058c09d18bc62badb94e13c3fdd493d"), looks := true }, kinds := [], alts := [], laidByText := true, laidKinds := [.data, .data, .data, .sentinel, .sentinel], laidTests := true, laidLooks := .later }
def CkeyNamesUptoCardSaid : Prop := Claim7.holds Tryz.pinned (.plain (OpenSpec.upto ckeyNamesSpec)) ckeyNamesUptoCard

/-- THE SECOND FORM's CARD OF 'pentimentolaw26.CkeyFaults'. -/
def ckeyFaultsUptoCard : Claim7 := { stood := { row := ckeyFaultsUptoRow, standIns := [], harness := (true, "ce6066c89d5f74bbfd58645bc2def736d058c09d18bc62badb94e13c3fdd493d"), looks := true }, kinds := [], alts := [], laidByText := true, laidKinds := [.data, .data, .data, .sentinel, .sentinel], laidTests := true, laidLooks := .later }
def CkeyFaultsUptoCardSaid : Prop := Claim7.holds Tryz.pinned (.plain (OpenSpec.upto ckeyFaultsSpec)) ckeyFaultsUptoCard

/-- THE SECOND FORM's CARD OF 'pentimentolaw25.CzsetRanks'. -/
def czsetRanksUptoCard : Claim7 := { stood := { row := czsetRanksUptoRow, standIns := [], harness := (true, "ce6066c89d5f74bbfd58645bc2def736d058c09d18bc62badb94e13c3fdd493d"), looks := true }, kinds := [], alts := [], laidByText := true, laidKinds := [.data, .data, .data, .sentinel, .sentinel], laidTests := true, laidLooks := .later }
def CzsetRanksUptoCardSaid : Prop := Claim7.holds Tryz.pinned (.plain (OpenSpec.upto czsetRanksSpec)) czsetRanksUptoCard

/-- THE SECOND FORM's CARD OF 'pentimentolaw25.CzsetNames'. -/
def czsetNamesUptoCard : Claim7 := { stood := { row := czsetNamesUptoRow, standIns := [], harness := (true, "ce6066c89d5f74bbfd58645bc2def736d058c09d18bc62badb94e13c3fdd493d"), looks := true }, kinds := [], alts := [], laidByText := true, laidKinds := [.data, .data, .data, .sentinel, .sentinel], laidTests := true, laidLooks := .later }
def CzsetNamesUptoCardSaid : Prop := Claim7.holds Tryz.pinned (.plain (OpenSpec.upto czsetNamesSpec)) czsetNamesUptoCard

/-- THE SECOND FORM's CARD OF 'pentimentolaw25.CzsetFaults'. -/
def czsetFaultsUptoCard : Claim7 := { stood := { row := czsetFaultsUptoRow, standIns := [], harness := (true, "ce6066c89d5f74bbfd58645bc2def736d058c09d18bc62badb94e13c3fdd493d"), looks := true }, kinds := [], alts := [], laidByText := true, laidKinds := [.data, .data, .data, .sentinel, .sentinel], laidTests := true, laidLooks := .later }
def CzsetFaultsUptoCardSaid : Prop := Claim7.holds Tryz.pinned (.plain (OpenSpec.upto czsetFaultsSpec)) czsetFaultsUptoCard
end Rows
end Go.Proofs.YtaghpkljmnpjoaaGreatDoor
