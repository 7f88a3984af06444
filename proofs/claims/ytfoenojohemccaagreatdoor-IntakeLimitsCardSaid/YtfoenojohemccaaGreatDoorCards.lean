/-
  DERIVED. GIVEN WITH THE SEED: THE CARDS: each row of YtfoenojohemccaaGreatDoorRows.lean that lists a variable, with what it lists TIED to the program's text (the seventh form; the later family's looks); each row that meets fmt, with fmt's text TOLD by the authors' own Lean function (tested against real Go, not proved from fmt's source: count such statements apart). THE CARD IS WHAT COUNTS. Prove the row's statement (the work); the ties are given (YtfoenojohemccaaGreatDoorTie.lean); close each card by the builder's one call (the guide's Derived/Test/ToyasCard.lean, 'card_holds'). Laid BY PROGRAM, IN A SANDBOX (cutbox-door.mjs). By AI agents, Wed Nov 11 2026. No macro, syntax, notation, axiom, sorry.
-/
import Derived.Test.YtfoenojohemccaaGreatDoorRows
import GoSem.ClaimSeven
namespace Go.Proofs.YtfoenojohemccaaGreatDoor
namespace Rows

/-- THE TIED CARD OF 'viatorlaw27.IntakeLimits'. -/
def intakeLimitsCard : Claim7 := { stood := { row := intakeLimitsRow, standIns := [], harness := (true, "1fd1df1541d3da922b75c974531ed1a22143a73b6529da7701b1530b70482c24"), looks := true }, kinds := [], alts := [], laidByText := true, laidKinds := [.data, .pinned], laidTests := true, laidLooks := .later }
def IntakeLimitsCardSaid : Prop := Claim7.holds Tryz.pinned (.plain (OpenSpec.ofChange intakeLimitsSpec)) intakeLimitsCard

/-- THE TIED CARD OF 'viatorlaw27.IntakeCompletes'. -/
def intakeCompletesCard : Claim7 := { stood := { row := intakeCompletesRow, standIns := [], harness := (true, "1fd1df1541d3da922b75c974531ed1a22143a73b6529da7701b1530b70482c24"), looks := true }, kinds := [], alts := [], laidByText := true, laidKinds := [.data, .pinned], laidTests := true, laidLooks := .later }
def IntakeCompletesCardSaid : Prop := Claim7.holds Tryz.pinned (.plain (OpenSpec.ofChange intakeCompletesSpec)) intakeCompletesCard

/-- THE TIED CARD OF 'viatorlaw27.IntakeAdds'. -/
def intakeAddsCard : Claim7 := { stood := { row := intakeAddsRow, standIns := [], harness := (true, "1fd1df1541d3da922b75c974531ed1a22143a73b6529da7701b1530b70482c24"), looks := true }, kinds := [], alts := [], laidByText := true, laidKinds := [.data, .pinned], laidTests := true, laidLooks := .later }
def IntakeAddsCardSaid : Prop := Claim7.holds Tryz.pinned (.plain (OpenSpec.ofChange intakeAddsSpec)) intakeAddsCard

/-- THE TIED CARD OF 'viatorlaw27.IntakeTimes'. -/
def intakeTimesCard : Claim7 := { stood := { row := intakeTimesRow, standIns := [], harness := (true, "1fd1df1541d3da922b75c974531ed1a22143a73b6529da7701b1530b70482c24"), looks := true }, kinds := [], alts := [], laidByText := true, laidKinds := [.data, .pinned], laidTests := true, laidLooks := .later }
def IntakeTimesCardSaid : Prop := Claim7.holds Tryz.pinned (.plain (OpenSpec.ofChange intakeTimesSpec)) intakeTimesCard

/-- THE TIED CARD OF 'viatorlaw27.IntakeLate'. -/
def intakeLateCard : Claim7 := { stood := { row := intakeLateRow, standIns := [], harness := (true, "1fd1df1541d3da922b75c974531ed1a22143a73b6529da7701b1530b70482c24"), looks := true }, kinds := [], alts := [], laidByText := true, laidKinds := [.data, .pinned], laidTests := true, laidLooks := .later }
def IntakeLateCardSaid : Prop := Claim7.holds Tryz.pinned (.plain (OpenSpec.ofChange intakeLateSpec)) intakeLateCard

/-- THE TIED CARD OF 'viatorlaw27.IntakeGrows'. -/
def intakeGrowsCard : Claim7 := { stood := { row := intakeGrowsRow, standIns := [], harness := (true, "1fd1df1541d3da922b75c974531ed1a22143a73b6529da7701b1530b70482c24"), looks := true }, kinds := [], alts := [], laidByText := true, laidKinds := [.data, .pinned], laidTests := true, laidLooks := .later }
def IntakeGrowsCardSaid : Prop := Claim7.holds Tryz.pinned (.plain (OpenSpec.ofChange intakeGrowsSpec)) intakeGrowsCard

/-- THE TIED CARD OF 'viatorlaw27.IntakeFrontiers'. -/
def intakeFrontiersCard : Claim7 := { stood := { row := intakeFrontiersRow, standIns := [], harness := (true, "1fd1df1541d3da922b75c974531ed1a22143a73b6529da7701b1530b70482c24"), looks := true }, kinds := [], alts := [], laidByText := true, laidKinds := [.data, .pinned], laidTests := true, laidLooks := .later }
def IntakeFrontiersCardSaid : Prop := Claim7.holds Tryz.pinned (.plain (OpenSpec.ofChange intakeFrontiersSpec)) intakeFrontiersCard

/-- THE TIED CARD OF 'viatorlaw27.IntakeOrderless'. -/
def intakeOrderlessCard : Claim7 := { stood := { row := intakeOrderlessRow, standIns := [], harness := (true, "1fd1df1541d3da922b75c974531ed1a22143a73b6529da7701b1530b70482c24"), looks := true }, kinds := [], alts := [], laidByText := true, laidKinds := [.data, .pinned], laidTests := true, laidLooks := .later }
def IntakeOrderlessCardSaid : Prop := Claim7.holds Tryz.pinned (.plain (OpenSpec.ofChange intakeOrderlessSpec)) intakeOrderlessCard

/-- THE TIED CARD OF 'viatorlaw27.IntakeNil'. -/
def intakeNilCard : Claim7 := { stood := { row := intakeNilRow, standIns := [], harness := (true, "1fd1df1541d3da922b75c974531ed1a22143a73b6529da7701b1530b70482c24"), looks := true }, kinds := [], alts := [], laidByText := true, laidKinds := [.data, .pinned], laidTests := true, laidLooks := .later }
def IntakeNilCardSaid : Prop := Claim7.holds Tryz.pinned (.plain (OpenSpec.ofChange intakeNilSpec)) intakeNilCard

/-- THE TIED CARD OF 'viatorlaw27.IntakeMerges'. -/
def intakeMergesCard : Claim7 := { stood := { row := intakeMergesRow, standIns := [], harness := (true, "1fd1df1541d3da922b75c974531ed1a22143a73b6529da7701b1530b70482c24"), looks := true }, kinds := [], alts := [], laidByText := true, laidKinds := [.data, .pinned], laidTests := true, laidLooks := .later }
def IntakeMergesCardSaid : Prop := Claim7.holds Tryz.pinned (.plain (OpenSpec.ofChange intakeMergesSpec)) intakeMergesCard

/-- THE SECOND FORM's CARD OF 'viatorlaw27.IntakeLimits'. -/
def intakeLimitsUptoCard : Claim7 := { stood := { row := intakeLimitsUptoRow, standIns := [], harness := (true, "1fd1df1541d3da922b75c974531ed1a22143a73b6529da7701b1530b70482c24"), looks := true }, kinds := [], alts := [], laidByText := true, laidKinds := [.data, .pinned], laidTests := true, laidLooks := .later }
def IntakeLimitsUptoCardSaid : Prop := Claim7.holds Tryz.pinned (.plain (OpenSpec.upto intakeLimitsSpec)) intakeLimitsUptoCard

/-- THE SECOND FORM's CARD OF 'viatorlaw27.IntakeCompletes'. -/
def intakeCompletesUptoCard : Claim7 := { stood := { row := intakeCompletesUptoRow, standIns := [], harness := (true, "1fd1df1541d3da922b75c974531ed1a22143a73b6529da7701b1530b70482c24"), looks := true }, kinds := [], alts := [], laidByText := true, laidKinds := [.data, .pinned], laidTests := true, laidLooks := .later }
def IntakeCompletesUptoCardSaid : Prop := Claim7.holds Tryz.pinned (.plain (OpenSpec.upto intakeCompletesSpec)) intakeCompletesUptoCard

/-- THE SECOND FORM's CARD OF 'viatorlaw27.IntakeAdds'. -/
def intakeAddsUptoCard : Claim7 := { stood := { row := intakeAddsUptoRow, standIns := [], harness := (true, "1fd1df1541d3da922b75c974531ed1a22143a73b6529da7701b1530b70482c24"), looks := true }, kinds := [], alts := [], laidByText := true, laidKinds := [.data, .pinned], laidTests := true, laidLooks := .later }
def IntakeAddsUptoCardSaid : Prop := Claim7.holds Tryz.pinned (.plain (OpenSpec.upto intakeAddsSpec)) intakeAddsUptoCard

/-- THE SECOND FORM's CARD OF 'viatorlaw27.IntakeTimes'. -/
def intakeTimesUptoCard : Claim7 := { stood := { row := intakeTimesUptoRow, standIns := [], harness := (true, "1fd1df1541d3da922b75c974531ed1a22143a73b6529da7701b1530b70482c24"), looks := true }, kinds := [], alts := [], laidByText := true, laidKinds := [.data, .pinned], laidTests := true, laidLooks := .later }
def IntakeTimesUptoCardSaid : Prop := Claim7.holds Tryz.pinned (.plain (OpenSpec.upto intakeTimesSpec)) intakeTimesUptoCard

/-- THE SECOND FORM's CARD OF 'viatorlaw27.IntakeLate'. -/
def intakeLateUptoCard : Claim7 := { stood := { row := intakeLateUptoRow, standIns := [], harness := (true, "1fd1df1541d3da922b75c974531ed1a22143a73b6529da7701b1530b70482c24"), looks := true }, kinds := [], alts := [], laidByText := true, laidKinds := [.data, .pinned], laidTests := true, laidLooks := .later }
def IntakeLateUptoCardSaid : Prop := Claim7.holds Tryz.pinned (.plain (OpenSpec.upto intakeLateSpec)) intakeLateUptoCard

/-- THE SECOND FORM's CARD OF 'viatorlaw27.IntakeGrows'. -/
def intakeGrowsUptoCard : Claim7 := { stood := { row := intakeGrowsUptoRow, standIns := [], harness := (true, "1fd1df1541d3da922b75c974531ed1a22143a73b6529da7701b1530b70482c24"), looks := true }, kinds := [], alts := [], laidByText := true, laidKinds := [.data, .pinned], laidTests := true, laidLooks := .later }
def IntakeGrowsUptoCardSaid : Prop := Claim7.holds Tryz.pinned (.plain (OpenSpec.upto intakeGrowsSpec)) intakeGrowsUptoCard

/-- THE SECOND FORM's CARD OF 'viatorlaw27.IntakeFrontiers'. -/
def intakeFrontiersUptoCard : Claim7 := { stood := { row := intakeFrontiersUptoRow, standIns := [], harness := (true, "1fd1df1541d3da922b75c974531ed1a22143a73b6529da7701b1530b70482c24"), looks := true }, kinds := [], alts := [], laidByText := true, laidKinds := [.data, .pinned], laidTests := true, laidLooks := .later }
def IntakeFrontiersUptoCardSaid : Prop := Claim7.holds Tryz.pinned (.plain (OpenSpec.upto intakeFrontiersSpec)) intakeFrontiersUptoCard

/-- THE SECOND FORM's CARD OF 'viatorlaw27.IntakeOrderless'. -/
def intakeOrderlessUptoCard : Claim7 := { stood := { row := intakeOrderlessUptoRow, standIns := [], harness := (true, "1fd1df1541d3da922b75c974531ed1a22143a73b6529da7701b1530b70482c24"), looks := true }, kinds := [], alts := [], laidByText := true, laidKinds := [.data, .pinned], laidTests := true, laidLooks := .later }
def IntakeOrderlessUptoCardSaid : Prop := Claim7.holds Tryz.pinned (.plain (OpenSpec.upto intakeOrderlessSpec)) intakeOrderlessUptoCard

/-- THE SECOND FORM's CARD OF 'viatorlaw27.IntakeNil'. -/
def intakeNilUptoCard : Claim7 := { stood := { row := intakeNilUptoRow, standIns := [], harness := (true, "1fd1df1541d3da922b75c974531ed1a22143a73b6529da7701b1530b70482c24"), looks := true }, kinds := [], alts := [], laidByText := true, laidKinds := [.data, .pinned], laidTests := true, laidLooks := .later }
def IntakeNilUptoCardSaid : Prop := Claim7.holds Tryz.pinned (.plain (OpenSpec.upto intakeNilSpec)) intakeNilUptoCard

/-- THE SECOND FORM's CARD OF 'viatorlaw27.IntakeMerges'. -/
def intakeMergesUptoCard : Claim7 := { stood := { row := intakeMergesUptoRow, standIns := [], harness := (true, "1fd1df1541d3da922b75c974531ed1a22143a73b6529da7701b1530b70482c24"), looks := true }, kinds := [], alts := [], laidByText := true, laidKinds := [.data, .pinned], laidTests := true, laidLooks := .later }
def IntakeMergesUptoCardSaid : Prop := Claim7.holds Tryz.pinned (.plain (OpenSpec.upto intakeMergesSpec)) intakeMergesUptoCard
end Rows
end Go.Proofs.YtfoenojohemccaaGreatDoor
