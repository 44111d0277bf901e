/-
  DERIVED. GIVEN WITH THE SEED: THE CARDS: each row of YtbojmpbccibmaaaGreatDoorRows.lean that lists a variable, with what it lists TIED to the program's text (the seventh form; the later family's looks); each row that meets fmt, with fmt's text TOLD by the authors' own Lean function (tested against real Go, not proved from fmt's source: count such statements apart). THE CARD IS WHAT COUNTS. Prove the row's statement (the work); the ties are given (YtbojmpbccibmaaaGreatDoorTie.lean); close each card by the builder's one call (the guide's Derived/Test/ToyasCard.lean, 'card_holds'). Laid BY PROGRAM, IN A SANDBOX (cutbox-door.mjs). By AI agents, Wed Nov 11 2026. No macro, syntax, notation, axiom, sorry.
-/
import Derived.Test.YtbojmpbccibmaaaGreatDoorRows
import GoSem.ClaimSeven
namespace Go.Proofs.YtbojmpbccibmaaaGreatDoor
namespace Rows

/-- THE TIED CARD OF 'redactorlaw12.EreTimes'. -/
def ereTimesCard : Claim7 := { stood := { row := ereTimesRow, standIns := [], harness := (true, "4abce3a9bdb57820c76161c8dcebc967efd848b5b5cc4f5ece47076d583a6699"), looks := true }, kinds := [], alts := [], laidByText := true, laidKinds := [.data, .data, .data, .data, .pinned], laidTests := true, laidLooks := .later }
def EreTimesCardSaid : Prop := Claim7.holds Tryz.pinned (.plain (OpenSpec.ofChange ereTimesSpec)) ereTimesCard

/-- THE TIED CARD OF 'redactorlaw12.EreSigns'. -/
def ereSignsCard : Claim7 := { stood := { row := ereSignsRow, standIns := [], harness := (true, "4abce3a9bdb57820c76161c8dcebc967efd848b5b5cc4f5ece47076d583a6699"), looks := true }, kinds := [], alts := [], laidByText := true, laidKinds := [.data, .data, .data, .data, .pinned], laidTests := true, laidLooks := .later }
def EreSignsCardSaid : Prop := Claim7.holds Tryz.pinned (.plain (OpenSpec.ofChange ereSignsSpec)) ereSignsCard

/-- THE TIED CARD OF 'redactorlaw12.EreRight'. -/
def ereRightCard : Claim7 := { stood := { row := ereRightRow, standIns := [], harness := (true, "4abce3a9bdb57820c76161c8dcebc967efd848b5b5cc4f5ece47076d583a6699"), looks := true }, kinds := [], alts := [], laidByText := true, laidKinds := [.data, .data, .data, .data, .pinned], laidTests := true, laidLooks := .later }
def EreRightCardSaid : Prop := Claim7.holds Tryz.pinned (.plain (OpenSpec.ofChange ereRightSpec)) ereRightCard

/-- THE TIED CARD OF 'redactorlaw12.ErePlain'. -/
def erePlainCard : Claim7 := { stood := { row := erePlainRow, standIns := [], harness := (true, "4abce3a9bdb57820c76161c8dcebc967efd848b5b5cc4f5ece47076d583a6699"), looks := true }, kinds := [], alts := [], laidByText := true, laidKinds := [.data, .data, .data, .data, .pinned], laidTests := true, laidLooks := .later }
def ErePlainCardSaid : Prop := Claim7.holds Tryz.pinned (.plain (OpenSpec.ofChange erePlainSpec)) erePlainCard

/-- THE TIED CARD OF 'redactorlaw12.EreLong'. -/
def ereLongCard : Claim7 := { stood := { row := ereLongRow, standIns := [], harness := (true, "4abce3a9bdb57820c76161c8dcebc967efd848b5b5cc4f5ece47076d583a6699"), looks := true }, kinds := [], alts := [], laidByText := true, laidKinds := [.data, .data, .data, .data, .pinned], laidTests := true, laidLooks := .later }
def EreLongCardSaid : Prop := Claim7.holds Tryz.pinned (.plain (OpenSpec.ofChange ereLongSpec)) ereLongCard

/-- THE TIED CARD OF 'redactorlaw11.BreStars'. -/
def breStarsCard : Claim7 := { stood := { row := breStarsRow, standIns := [], harness := (true, "4abce3a9bdb57820c76161c8dcebc967efd848b5b5cc4f5ece47076d583a6699"), looks := true }, kinds := [], alts := [], laidByText := true, laidKinds := [.data, .data, .data, .data, .pinned], laidTests := true, laidLooks := .later }
def BreStarsCardSaid : Prop := Claim7.holds Tryz.pinned (.plain (OpenSpec.ofChange breStarsSpec)) breStarsCard

/-- THE TIED CARD OF 'redactorlaw11.BreRefs'. -/
def breRefsCard : Claim7 := { stood := { row := breRefsRow, standIns := [], harness := (true, "4abce3a9bdb57820c76161c8dcebc967efd848b5b5cc4f5ece47076d583a6699"), looks := true }, kinds := [], alts := [], laidByText := true, laidKinds := [.data, .data, .data, .data, .pinned], laidTests := true, laidLooks := .later }
def BreRefsCardSaid : Prop := Claim7.holds Tryz.pinned (.plain (OpenSpec.ofChange breRefsSpec)) breRefsCard

/-- THE TIED CARD OF 'redactorlaw11.BreRight'. -/
def breRightCard : Claim7 := { stood := { row := breRightRow, standIns := [], harness := (true, "4abce3a9bdb57820c76161c8dcebc967efd848b5b5cc4f5ece47076d583a6699"), looks := true }, kinds := [], alts := [], laidByText := true, laidKinds := [.data, .data, .data, .data, .pinned], laidTests := true, laidLooks := .later }
def BreRightCardSaid : Prop := Claim7.holds Tryz.pinned (.plain (OpenSpec.ofChange breRightSpec)) breRightCard

/-- THE TIED CARD OF 'redactorlaw11.BrePlain'. -/
def brePlainCard : Claim7 := { stood := { row := brePlainRow, standIns := [], harness := (true, "4abce3a9bdb57820c76161c8dcebc967efd848b5b5cc4f5ece47076d583a6699"), looks := true }, kinds := [], alts := [], laidByText := true, laidKinds := [.data, .data, .data, .data, .pinned], laidTests := true, laidLooks := .later }
def BrePlainCardSaid : Prop := Claim7.holds Tryz.pinned (.plain (OpenSpec.ofChange brePlainSpec)) brePlainCard

/-- THE TIED CARD OF 'redactorlaw11.BreLong'. -/
def breLongCard : Claim7 := { stood := { row := breLongRow, standIns := [], harness := (true, "4abce3a9bdb57820c76161c8dcebc967efd848b5b5cc4f5ece47076d583a6699"), looks := true }, kinds := [], alts := [], laidByText := true, laidKinds := [.data, .data, .data, .data, .pinned], laidTests := true, laidLooks := .later }
def BreLongCardSaid : Prop := Claim7.holds Tryz.pinned (.plain (OpenSpec.ofChange breLongSpec)) breLongCard

/-- THE TIED CARD OF 'redactorlaw15.ScriptAddrs'. -/
def scriptAddrsCard : Claim7 := { stood := { row := scriptAddrsRow, standIns := [], harness := (true, "4abce3a9bdb57820c76161c8dcebc967efd848b5b5cc4f5ece47076d583a6699"), looks := true }, kinds := [], alts := [], laidByText := true, laidKinds := [.data, .data, .data, .data, .pinned], laidTests := true, laidLooks := .later }
def ScriptAddrsCardSaid : Prop := Claim7.holds Tryz.pinned (.plain (OpenSpec.ofChange scriptAddrsSpec)) scriptAddrsCard

/-- THE TIED CARD OF 'redactorlaw15.ScriptFlags'. -/
def scriptFlagsCard : Claim7 := { stood := { row := scriptFlagsRow, standIns := [], harness := (true, "4abce3a9bdb57820c76161c8dcebc967efd848b5b5cc4f5ece47076d583a6699"), looks := true }, kinds := [], alts := [], laidByText := true, laidKinds := [.data, .data, .data, .data, .pinned], laidTests := true, laidLooks := .later }
def ScriptFlagsCardSaid : Prop := Claim7.holds Tryz.pinned (.plain (OpenSpec.ofChange scriptFlagsSpec)) scriptFlagsCard

/-- THE TIED CARD OF 'redactorlaw15.ScriptPlaces'. -/
def scriptPlacesCard : Claim7 := { stood := { row := scriptPlacesRow, standIns := [], harness := (true, "4abce3a9bdb57820c76161c8dcebc967efd848b5b5cc4f5ece47076d583a6699"), looks := true }, kinds := [], alts := [], laidByText := true, laidKinds := [.data, .data, .data, .data, .pinned], laidTests := true, laidLooks := .later }
def ScriptPlacesCardSaid : Prop := Claim7.holds Tryz.pinned (.plain (OpenSpec.ofChange scriptPlacesSpec)) scriptPlacesCard

/-- THE TIED CARD OF 'redactorlaw15.ScriptBlank'. -/
def scriptBlankCard : Claim7 := { stood := { row := scriptBlankRow, standIns := [], harness := (true, "4abce3a9bdb57820c76161c8dcebc967efd848b5b5cc4f5ece47076d583a6699"), looks := true }, kinds := [], alts := [], laidByText := true, laidKinds := [.data, .data, .data, .data, .pinned], laidTests := true, laidLooks := .later }
def ScriptBlankCardSaid : Prop := Claim7.holds Tryz.pinned (.plain (OpenSpec.ofChange scriptBlankSpec)) scriptBlankCard

/-- THE TIED CARD OF 'redactorlaw15.ScriptMany'. -/
def scriptManyCard : Claim7 := { stood := { row := scriptManyRow, standIns := [], harness := (true, "4abce3a9bdb57820c76161c8dcebc967efd848b5b5cc4f5ece47076d583a6699"), looks := true }, kinds := [], alts := [], laidByText := true, laidKinds := [.data, .data, .data, .data, .pinned], laidTests := true, laidLooks := .later }
def ScriptManyCardSaid : Prop := Claim7.holds Tryz.pinned (.plain (OpenSpec.ofChange scriptManySpec)) scriptManyCard

/-- THE SECOND FORM's CARD OF 'redactorlaw12.EreTimes'. -/
def ereTimesUptoCard : Claim7 := { stood := { row := ereTimesUptoRow, standIns := [], harness := (true, "4abce3a9bdb57820c76161c8dcebc967efd848b5b5cc4f5ece47076d583a6699"), looks := true }, kinds := [], alts := [], laidByText := true, laidKinds := [.data, .data, .data, .data, .pinned], laidTests := true, laidLooks := .later }
def EreTimesUptoCardSaid : Prop := Claim7.holds Tryz.pinned (.plain (OpenSpec.upto ereTimesSpec)) ereTimesUptoCard

/-- THE SECOND FORM's CARD OF 'redactorlaw12.EreSigns'. -/
def ereSignsUptoCard : Claim7 := { stood := { row := ereSignsUptoRow, standIns := [], harness := (true, "4abce3a9bdb57820c76161c8dcebc967efd848b5b5cc4f5ece47076d583a6699"), looks := true }, kinds := [], alts := [], laidByText := true, laidKinds := [.data, .data, .data, .data, .pinned], laidTests := true, laidLooks := .later }
def EreSignsUptoCardSaid : Prop := Claim7.holds Tryz.pinned (.plain (OpenSpec.upto ereSignsSpec)) ereSignsUptoCard

/-- THE SECOND FORM's CARD OF 'redactorlaw12.EreRight'. -/
def ereRightUptoCard : Claim7 := { stood := { row := ereRightUptoRow, standIns := [], harness := (true, "4abce3a9bdb57820c76161c8dcebc967efd848b5b5cc4f5ece47076d583a6699"), looks := true }, kinds := [], alts := [], laidByText := true, laidKinds := [.data, .data, .data, .data, .pinned], laidTests := true, laidLooks := .later }
def EreRightUptoCardSaid : Prop := Claim7.holds Tryz.pinned (.plain (OpenSpec.upto ereRightSpec)) ereRightUptoCard

/-- THE SECOND FORM's CARD OF 'redactorlaw12.ErePlain'. -/
def erePlainUptoCard : Claim7 := { stood := { row := erePlainUptoRow, standIns := [], harness := (true, "4abce3a9bdb57820c76161c8dcebc967efd848b5b5cc4f5ece47076d583a6699"), looks := true }, kinds := [], alts := [], laidByText := true, laidKinds := [.data, .data, .data, .data, .pinned], laidTests := true, laidLooks := .later }
def ErePlainUptoCardSaid : Prop := Claim7.holds Tryz.pinned (.plain (OpenSpec.upto erePlainSpec)) erePlainUptoCard

/-- THE SECOND FORM's CARD OF 'redactorlaw12.EreLong'. -/
def ereLongUptoCard : Claim7 := { stood := { row := ereLongUptoRow, standIns := [], harness := (true, "4abce3a9bdb57820c76161c8dcebc967efd848b5b5cc4f5ece47076d583a6699"), looks := true }, kinds := [], alts := [], laidByText := true, laidKinds := [.data, .data, .data, .data, .pinned], laidTests := true, laidLooks := .later }
def EreLongUptoCardSaid : Prop := Claim7.holds Tryz.pinned (.plain (OpenSpec.upto ereLongSpec)) ereLongUptoCard

/-- THE SECOND FORM's CARD OF 'redactorlaw11.BreStars'. -/
def breStarsUptoCard : Claim7 := { stood := { row := breStarsUptoRow, standIns := [], harness := (true, "4abce3a9bdb57820c76161c8dcebc967efd848b5b5cc4f5ece47076d583a6699"), looks := true }, kinds := [], alts := [], laidByText := true, laidKinds := [.data, .data, .data, .data, .pinned], laidTests := true, laidLooks := .later }
def BreStarsUptoCardSaid : Prop := Claim7.holds Tryz.pinned (.plain (OpenSpec.upto breStarsSpec)) breStarsUptoCard

/-- THE SECOND FORM's CARD OF 'redactorlaw11.BreRefs'. -/
def breRefsUptoCard : Claim7 := { stood := { row := breRefsUptoRow, standIns := [], harness := (true, "4abce3a9bdb57820c76161c8dcebc967efd848b5b5cc4f5ece47076d583a6699"), looks := true }, kinds := [], alts := [], laidByText := true, laidKinds := [.data, .data, .data, .data, .pinned], laidTests := true, laidLooks := .later }
def BreRefsUptoCardSaid : Prop := Claim7.holds Tryz.pinned (.plain (OpenSpec.upto breRefsSpec)) breRefsUptoCard

/-- THE SECOND FORM's CARD OF 'redactorlaw11.BreRight'. -/
def breRightUptoCard : Claim7 := { stood := { row := breRightUptoRow, standIns := [], harness := (true, "4abce3a9bdb57820c76161c8dcebc967efd848b5b5cc4f5ece47076d583a6699"), looks := true }, kinds := [], alts := [], laidByText := true, laidKinds := [.data, .data, .data, .data, .pinned], laidTests := true, laidLooks := .later }
def BreRightUptoCardSaid : Prop := Claim7.holds Tryz.pinned (.plain (OpenSpec.upto breRightSpec)) breRightUptoCard

/-- THE SECOND FORM's CARD OF 'redactorlaw11.BrePlain'. -/
def brePlainUptoCard : Claim7 := { stood := { row := brePlainUptoRow, standIns := [], harness := (true, "4abce3a9bdb57820c76161c8dcebc967efd848b5b5cc4f5ece47076d583a6699"), looks := true }, kinds := [], alts := [], laidByText := true, laidKinds := [.data, .data, .data, .data, .pinned], laidTests := true, laidLooks := .later }
def BrePlainUptoCardSaid : Prop := Claim7.holds Tryz.pinned (.plain (OpenSpec.upto brePlainSpec)) brePlainUptoCard

/-- THE SECOND FORM's CARD OF 'redactorlaw11.BreLong'. -/
def breLongUptoCard : Claim7 := { stood := { row := breLongUptoRow, standIns := [], harness := (true, "4abce3a9bdb57820c76161c8dcebc967efd848b5b5cc4f5ece47076d583a6699"), looks := true }, kinds := [], alts := [], laidByText := true, laidKinds := [.data, .data, .data, .data, .pinned], laidTests := true, laidLooks := .later }
def BreLongUptoCardSaid : Prop := Claim7.holds Tryz.pinned (.plain (OpenSpec.upto breLongSpec)) breLongUptoCard

/-- THE SECOND FORM's CARD OF 'redactorlaw15.ScriptAddrs'. -/
def scriptAddrsUptoCard : Claim7 := { stood := { row := scriptAddrsUptoRow, standIns := [], harness := (true, "4abce3a9bdb57820c76161c8dcebc967efd848b5b5cc4f5ece47076d583a6699"), looks := true }, kinds := [], alts := [], laidByText := true, laidKinds := [.data, .data, .data, .data, .pinned], laidTests := true, laidLooks := .later }
def ScriptAddrsUptoCardSaid : Prop := Claim7.holds Tryz.pinned (.plain (OpenSpec.upto scriptAddrsSpec)) scriptAddrsUptoCard

/-- THE SECOND FORM's CARD OF 'redactorlaw15.ScriptFlags'. -/
def scriptFlagsUptoCard : Claim7 := { stood := { row := scriptFlagsUptoRow, standIns := [], harness := (true, "4abce3a9bdb57820c76161c8dcebc967efd848b5b5cc4f5ece47076d583a6699"), looks := true }, kinds := [], alts := [], laidByText := true, laidKinds := [.data, .data, .data, .data, .pinned], laidTests := true, laidLooks := .later }
def ScriptFlagsUptoCardSaid : Prop := Claim7.holds Tryz.pinned (.plain (OpenSpec.upto scriptFlagsSpec)) scriptFlagsUptoCard

/-- THE SECOND FORM's CARD OF 'redactorlaw15.ScriptPlaces'. -/
def scriptPlacesUptoCard : Claim7 := { stood := { row := scriptPlacesUptoRow, standIns := [], harness := (true, "4abce3a9bdb57820c76161c8dcebc967efd848b5b5cc4f5ece47076d583a6699"), looks := true }, kinds := [], alts := [], laidByText := true, laidKinds := [.data, .data, .data, .data, .pinned], laidTests := true, laidLooks := .later }
def ScriptPlacesUptoCardSaid : Prop := Claim7.holds Tryz.pinned (.plain (OpenSpec.upto scriptPlacesSpec)) scriptPlacesUptoCard

/-- THE SECOND FORM's CARD OF 'redactorlaw15.ScriptBlank'. -/
def scriptBlankUptoCard : Claim7 := { stood := { row := scriptBlankUptoRow, standIns := [], harness := (true, "4abce3a9bdb57820c76161c8dcebc967efd848b5b5cc4f5ece47076d583a6699"), looks := true }, kinds := [], alts := [], laidByText := true, laidKinds := [.data, .data, .data, .data, .pinned], laidTests := true, laidLooks := .later }
def ScriptBlankUptoCardSaid : Prop := Claim7.holds Tryz.pinned (.plain (OpenSpec.upto scriptBlankSpec)) scriptBlankUptoCard

/-- THE SECOND FORM's CARD OF 'redactorlaw15.ScriptMany'. -/
def scriptManyUptoCard : Claim7 := { stood := { row := scriptManyUptoRow, standIns := [], harness := (true, "4abce3a9bdb57820c76161c8dcebc967efd848b5b5cc4f5ece47076d583a6699"), looks := true }, kinds := [], alts := [], laidByText := true, laidKinds := [.data, .data, .data, .data, .pinned], laidTests := true, laidLooks := .later }
def ScriptManyUptoCardSaid : Prop := Claim7.holds Tryz.pinned (.plain (OpenSpec.upto scriptManySpec)) scriptManyUptoCard
end Rows
end Go.Proofs.YtbojmpbccibmaaaGreatDoor
