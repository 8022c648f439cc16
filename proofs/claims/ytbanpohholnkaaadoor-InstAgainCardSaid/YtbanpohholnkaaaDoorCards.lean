/-
  DERIVED. GIVEN WITH THE SEED: THE CARDS: each row of YtbanpohholnkaaaDoorRows.lean that lists a variable, with what it lists TIED to the program's text (the seventh form; the later family's looks); each row that meets fmt, with fmt's text TOLD by the authors' own Lean function (tested against real Go, not proved from fmt's source: count such statements apart). THE CARD IS WHAT COUNTS. Prove the row's statement (the work); the ties are given (YtbanpohholnkaaaDoorTie.lean); close each card by the builder's one call (the guide's Derived/Test/ToyasCard.lean, 'card_holds'). Laid BY PROGRAM, IN A SANDBOX (cutbox-door.mjs). By AI agents, Wed Nov 11 2026. No macro, syntax, notation, axiom, sorry.
-/
import Derived.Test.YtbanpohholnkaaaDoorRows
import GoSem.ClaimSeven
namespace Go.Proofs.YtbanpohholnkaaaDoor
namespace Rows

/-- THE TIED CARD OF 'graduslaw06.RelStatic'. -/
def relStaticCard : Claim7 := { stood := { row := relStaticRow, standIns := [], harness := (true, "7dac18c081fea2b87ef40116842461b5f32f0e232fd05a552b575771d2895104"), looks := false }, kinds := [], alts := [], laidByText := true, laidKinds := [.listed, .data], laidTests := true, laidLooks := .later }
def RelStaticCardSaid : Prop := Claim7.holds Tryd.pinned (.plain (OpenSpec.ofChange relStaticSpec)) relStaticCard

/-- THE TIED CARD OF 'graduslaw06.RelLoose'. -/
def relLooseCard : Claim7 := { stood := { row := relLooseRow, standIns := [], harness := (true, "7dac18c081fea2b87ef40116842461b5f32f0e232fd05a552b575771d2895104"), looks := false }, kinds := [], alts := [], laidByText := true, laidKinds := [.listed, .data], laidTests := true, laidLooks := .later }
def RelLooseCardSaid : Prop := Claim7.holds Tryd.pinned (.plain (OpenSpec.ofChange relLooseSpec)) relLooseCard

/-- THE TIED CARD OF 'graduslaw06.RelFuns'. -/
def relFunsCard : Claim7 := { stood := { row := relFunsRow, standIns := [], harness := (true, "7dac18c081fea2b87ef40116842461b5f32f0e232fd05a552b575771d2895104"), looks := false }, kinds := [], alts := [], laidByText := true, laidKinds := [.listed, .data], laidTests := true, laidLooks := .later }
def RelFunsCardSaid : Prop := Claim7.holds Tryd.pinned (.plain (OpenSpec.ofChange relFunsSpec)) relFunsCard

/-- THE TIED CARD OF 'graduslaw06.RelUnions'. -/
def relUnionsCard : Claim7 := { stood := { row := relUnionsRow, standIns := [], harness := (true, "7dac18c081fea2b87ef40116842461b5f32f0e232fd05a552b575771d2895104"), looks := false }, kinds := [], alts := [], laidByText := true, laidKinds := [.listed, .data], laidTests := true, laidLooks := .later }
def RelUnionsCardSaid : Prop := Claim7.holds Tryd.pinned (.plain (OpenSpec.ofChange relUnionsSpec)) relUnionsCard

/-- THE TIED CARD OF 'graduslaw06.RelAny'. -/
def relAnyCard : Claim7 := { stood := { row := relAnyRow, standIns := [], harness := (true, "7dac18c081fea2b87ef40116842461b5f32f0e232fd05a552b575771d2895104"), looks := false }, kinds := [], alts := [], laidByText := true, laidKinds := [.listed, .data], laidTests := true, laidLooks := .later }
def RelAnyCardSaid : Prop := Claim7.holds Tryd.pinned (.plain (OpenSpec.ofChange relAnySpec)) relAnyCard

/-- THE TIED CARD OF 'graduslaw08.InstResolves'. -/
def instResolvesCard : Claim7 := { stood := { row := instResolvesRow, standIns := [], harness := (true, "7dac18c081fea2b87ef40116842461b5f32f0e232fd05a552b575771d2895104"), looks := false }, kinds := [], alts := [], laidByText := true, laidKinds := [.listed, .data], laidTests := true, laidLooks := .later }
def InstResolvesCardSaid : Prop := Claim7.holds Tryd.pinned (.plain (OpenSpec.ofChange instResolvesSpec)) instResolvesCard

/-- THE TIED CARD OF 'graduslaw08.InstOne'. -/
def instOneCard : Claim7 := { stood := { row := instOneRow, standIns := [], harness := (true, "7dac18c081fea2b87ef40116842461b5f32f0e232fd05a552b575771d2895104"), looks := false }, kinds := [], alts := [], laidByText := true, laidKinds := [.listed, .data], laidTests := true, laidLooks := .later }
def InstOneCardSaid : Prop := Claim7.holds Tryd.pinned (.plain (OpenSpec.ofChange instOneSpec)) instOneCard

/-- THE TIED CARD OF 'graduslaw06.RelJoinsBoth'. -/
def relJoinsBothCard : Claim7 := { stood := { row := relJoinsBothRow, standIns := [], harness := (true, "7dac18c081fea2b87ef40116842461b5f32f0e232fd05a552b575771d2895104"), looks := false }, kinds := [], alts := [], laidByText := true, laidKinds := [.listed, .data], laidTests := true, laidLooks := .later }
def RelJoinsBothCardSaid : Prop := Claim7.holds Tryd.pinned (.plain (OpenSpec.ofChange relJoinsBothSpec)) relJoinsBothCard

/-- THE TIED CARD OF 'graduslaw08.InstAgain'. -/
def instAgainCard : Claim7 := { stood := { row := instAgainRow, standIns := [], harness := (true, "7dac18c081fea2b87ef40116842461b5f32f0e232fd05a552b575771d2895104"), looks := false }, kinds := [], alts := [], laidByText := true, laidKinds := [.listed, .data], laidTests := true, laidLooks := .later }
def InstAgainCardSaid : Prop := Claim7.holds Tryd.pinned (.plain (OpenSpec.ofChange instAgainSpec)) instAgainCard

/-- THE SECOND FORM's CARD OF 'graduslaw06.RelStatic'. -/
def relStaticUptoCard : Claim7 := { stood := { row := relStaticUptoRow, standIns := [], harness := (true, "7dac18c081fea2b87ef40116842461b5f32f0e232fd05a552b575771d2895104"), looks := false }, kinds := [], alts := [], laidByText := true, laidKinds := [.listed, .data], laidTests := true, laidLooks := .later }
def RelStaticUptoCardSaid : Prop := Claim7.holds Tryd.pinned (.plain (OpenSpec.upto relStaticSpec)) relStaticUptoCard

/-- THE SECOND FORM's CARD OF 'graduslaw06.RelLoose'. -/
def relLooseUptoCard : Claim7 := { stood := { row := relLooseUptoRow, standIns := [], harness := (true, "7dac18c081fea2b87ef40116842461b5f32f0e232fd05a552b575771d2895104"), looks := false }, kinds := [], alts := [], laidByText := true, laidKinds := [.listed, .data], laidTests := true, laidLooks := .later }
def RelLooseUptoCardSaid : Prop := Claim7.holds Tryd.pinned (.plain (OpenSpec.upto relLooseSpec)) relLooseUptoCard

/-- THE SECOND FORM's CARD OF 'graduslaw06.RelFuns'. -/
def relFunsUptoCard : Claim7 := { stood := { row := relFunsUptoRow, standIns := [], harness := (true, "7dac18c081fea2b87ef40116842461b5f32f0e232fd05a552b575771d2895104"), looks := false }, kinds := [], alts := [], laidByText := true, laidKinds := [.listed, .data], laidTests := true, laidLooks := .later }
def RelFunsUptoCardSaid : Prop := Claim7.holds Tryd.pinned (.plain (OpenSpec.upto relFunsSpec)) relFunsUptoCard

/-- THE SECOND FORM's CARD OF 'graduslaw06.RelUnions'. -/
def relUnionsUptoCard : Claim7 := { stood := { row := relUnionsUptoRow, standIns := [], harness := (true, "7dac18c081fea2b87ef40116842461b5f32f0e232fd05a552b575771d2895104"), looks := false }, kinds := [], alts := [], laidByText := true, laidKinds := [.listed, .data], laidTests := true, laidLooks := .later }
def RelUnionsUptoCardSaid : Prop := Claim7.holds Tryd.pinned (.plain (OpenSpec.upto relUnionsSpec)) relUnionsUptoCard

/-- THE SECOND FORM's CARD OF 'graduslaw06.RelAny'. -/
def relAnyUptoCard : Claim7 := { stood := { row := relAnyUptoRow, standIns := [], harness := (true, "7dac18c081fea2b87ef40116842461b5f32f0e232fd05a552b575771d2895104"), looks := false }, kinds := [], alts := [], laidByText := true, laidKinds := [.listed, .data], laidTests := true, laidLooks := .later }
def RelAnyUptoCardSaid : Prop := Claim7.holds Tryd.pinned (.plain (OpenSpec.upto relAnySpec)) relAnyUptoCard

/-- THE SECOND FORM's CARD OF 'graduslaw08.InstResolves'. -/
def instResolvesUptoCard : Claim7 := { stood := { row := instResolvesUptoRow, standIns := [], harness := (true, "7dac18c081fea2b87ef40116842461b5f32f0e232fd05a552b575771d2895104"), looks := false }, kinds := [], alts := [], laidByText := true, laidKinds := [.listed, .data], laidTests := true, laidLooks := .later }
def InstResolvesUptoCardSaid : Prop := Claim7.holds Tryd.pinned (.plain (OpenSpec.upto instResolvesSpec)) instResolvesUptoCard

/-- THE SECOND FORM's CARD OF 'graduslaw08.InstOne'. -/
def instOneUptoCard : Claim7 := { stood := { row := instOneUptoRow, standIns := [], harness := (true, "7dac18c081fea2b87ef40116842461b5f32f0e232fd05a552b575771d2895104"), looks := false }, kinds := [], alts := [], laidByText := true, laidKinds := [.listed, .data], laidTests := true, laidLooks := .later }
def InstOneUptoCardSaid : Prop := Claim7.holds Tryd.pinned (.plain (OpenSpec.upto instOneSpec)) instOneUptoCard

/-- THE SECOND FORM's CARD OF 'graduslaw06.RelJoinsBoth'. -/
def relJoinsBothUptoCard : Claim7 := { stood := { row := relJoinsBothUptoRow, standIns := [], harness := (true, "7dac18c081fea2b87ef40116842461b5f32f0e232fd05a552b575771d2895104"), looks := false }, kinds := [], alts := [], laidByText := true, laidKinds := [.listed, .data], laidTests := true, laidLooks := .later }
def RelJoinsBothUptoCardSaid : Prop := Claim7.holds Tryd.pinned (.plain (OpenSpec.upto relJoinsBothSpec)) relJoinsBothUptoCard

/-- THE SECOND FORM's CARD OF 'graduslaw08.InstAgain'. -/
def instAgainUptoCard : Claim7 := { stood := { row := instAgainUptoRow, standIns := [], harness := (true, "7dac18c081fea2b87ef40116842461b5f32f0e232fd05a552b575771d2895104"), looks := false }, kinds := [], alts := [], laidByText := true, laidKinds := [.listed, .data], laidTests := true, laidLooks := .later }
def InstAgainUptoCardSaid : Prop := Claim7.holds Tryd.pinned (.plain (OpenSpec.upto instAgainSpec)) instAgainUptoCard
end Rows
end Go.Proofs.YtbanpohholnkaaaDoor
