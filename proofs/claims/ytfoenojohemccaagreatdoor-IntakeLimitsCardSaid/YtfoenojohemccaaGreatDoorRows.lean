/-
  NARROWER THAN 'FOR EVERY INPUT', by the rows' own cells (each row's printed sentence says how): IntakeLimits: laid · IntakeCompletes: laid · IntakeAdds: laid · IntakeTimes: laid · IntakeLate: laid · IntakeGrows: laid · IntakeFrontiers: laid · IntakeOrderless: laid · IntakeNil: laid · IntakeMerges: laid.
  DERIVED. THE GIVEN ROWS OF THIS SEAT. 10 by the template 'for every input the law returns true; each argument reads behind the call as it read before'; 0 by the template 'total and deterministic' (their statements: YtfoenojohemccaaGreatDoorTotals.lean).
  GIVEN WITH THE SEED: the statements are not yours to turn. If you find one false, say at which input.
  Laid BY PROGRAM, IN A SANDBOX (cutbox-rows.mjs): the forced cells as the released guide's own fill.sh prints them over the translation 12fd015e5ce3c34d… (all of the seat's roots in one cut). By AI agents, Wed Nov 11 2026. No macro, syntax, notation, axiom, sorry.
-/
import Derived.Test.YtfoenojohemccaaGreatDoorChecked
import GoSem.PinnedTables
import GoSem.Claim
import GoSem.ClaimJoined
import GoSem.ClaimMapViews
import Derived.JoinedTies
import Derived.KernelRfl
namespace Go.Proofs.YtfoenojohemccaaGreatDoor
/- THE CELL 'sum', in the pinned program and in every row, IS THE sha256 OF THE DUMP (.gsa) THAT YtfoenojohemccaaGreatDoorProg.lean LOADS. Nothing in Lean hashes anything: it is a label: what it is worth is what the hold of that sum in a sandbox is worth. -/
noncomputable def Tryz.pinned : Pinned := { name := "ytfoenojohemccaagreatdoor", sum := "12fd015e5ce3c34da9e0ac2075d698901f0ec251b348eec962e0bb8b020a37d1", checked := Tryz.checked }
namespace Rows
def none {H : Type} : Left H := { results := [], args := [] }

/- WHAT THE LISTED PACKAGE-LEVEL VARIABLES READ AS WHEN THE CALL BEGINS. Each datum BY PROGRAM (the guide's laid-datum.mjs) off the statement by which the dump's own 'gosem.cut.vars' lays the variable. In a bare row this is a premise. The card (YtfoenojohemccaaGreatDoorCards.lean) ties it to the program's text. -/
def laid_unicode_utf8_acceptRanges {H : Type} : DataW H := .agg [.agg [.lit (.int .u8 128), .lit (.int .u8 191)], .agg [.lit (.int .u8 160), .lit (.int .u8 191)], .agg [.lit (.int .u8 128), .lit (.int .u8 159)], .agg [.lit (.int .u8 144), .lit (.int .u8 191)], .agg [.lit (.int .u8 128), .lit (.int .u8 143)], .agg [.lit (.int .u8 0), .lit (.int .u8 0)], .agg [.lit (.int .u8 0), .lit (.int .u8 0)], .agg [.lit (.int .u8 0), .lit (.int .u8 0)], .agg [.lit (.int .u8 0), .lit (.int .u8 0)], .agg [.lit (.int .u8 0), .lit (.int .u8 0)], .agg [.lit (.int .u8 0), .lit (.int .u8 0)], .agg [.lit (.int .u8 0), .lit (.int .u8 0)], .agg [.lit (.int .u8 0), .lit (.int .u8 0)], .agg [.lit (.int .u8 0), .lit (.int .u8 0)], .agg [.lit (.int .u8 0), .lit (.int .u8 0)], .agg [.lit (.int .u8 0), .lit (.int .u8 0)]]
/-- One of Go's own tables, pinned by name: the form's constant. -/
def laid_unicode_utf8_first : DataW Unit := Go.Pinned.utf8First

/-- 'viatorlaw27.IntakeLimits': WHATEVER THE INPUT: true; the input reads as it did. -/
def intakeLimitsSpec : ChangeSpec := { name := "intakeLimits", fn := fun _ => fun
  | [d1, d2] => { results := [.lit (.bool true)], args := [d1, d2] }
  | _ => none }
def intakeLimitsRow : OpenClaim := { program := "ytfoenojohemccaagreatdoor", sum := "12fd015e5ce3c34da9e0ac2075d698901f0ec251b348eec962e0bb8b020a37d1", func := "viator/viatorlaw27.IntakeLimits", spec := "intakeLimits", inPlace := ["internal/bytealg.abigen_runtime_cmpstring", "internal/bytealg.IndexByteString", "internal/bytealg.IndexString", "math/bits.Add64"], unfollowed := true, recurses := true, named := ["unicode/utf8.first", "unicode/utf8.acceptRanges", "internal/bytealg.MaxLen"], plainKeys := false, apart := false, laid := [("unicode/utf8.acceptRanges", laid_unicode_utf8_acceptRanges), ("unicode/utf8.first", laid_unicode_utf8_first)] }
def IntakeLimitsSaid : Prop := intakeLimitsRow.holds Tryz.pinned (OpenSpec.ofChange intakeLimitsSpec)

/-- ITS FALSE NEIGHBOUR: 'it returns false'. Refute it at one input. -/
def intakeLimitsWrong : ChangeSpec := { name := "intakeLimits", fn := fun _ => fun
  | [d1, d2] => { results := [.lit (.bool false)], args := [d1, d2] }
  | _ => none }
def IntakeLimitsWrongFalsely : Prop := intakeLimitsRow.holds Tryz.pinned (OpenSpec.ofChange intakeLimitsWrong)

/-- 'viatorlaw27.IntakeCompletes': WHATEVER THE INPUT: true; the input reads as it did. -/
def intakeCompletesSpec : ChangeSpec := { name := "intakeCompletes", fn := fun _ => fun
  | [d1, d2] => { results := [.lit (.bool true)], args := [d1, d2] }
  | _ => none }
def intakeCompletesRow : OpenClaim := { program := "ytfoenojohemccaagreatdoor", sum := "12fd015e5ce3c34da9e0ac2075d698901f0ec251b348eec962e0bb8b020a37d1", func := "viator/viatorlaw27.IntakeCompletes", spec := "intakeCompletes", inPlace := ["internal/bytealg.abigen_runtime_cmpstring", "internal/bytealg.IndexByteString", "internal/bytealg.IndexString", "math/bits.Add64"], unfollowed := true, recurses := true, named := ["unicode/utf8.first", "unicode/utf8.acceptRanges", "internal/bytealg.MaxLen"], plainKeys := false, apart := false, laid := [("unicode/utf8.acceptRanges", laid_unicode_utf8_acceptRanges), ("unicode/utf8.first", laid_unicode_utf8_first)] }
def IntakeCompletesSaid : Prop := intakeCompletesRow.holds Tryz.pinned (OpenSpec.ofChange intakeCompletesSpec)

/-- ITS FALSE NEIGHBOUR: 'it returns false'. Refute it at one input. -/
def intakeCompletesWrong : ChangeSpec := { name := "intakeCompletes", fn := fun _ => fun
  | [d1, d2] => { results := [.lit (.bool false)], args := [d1, d2] }
  | _ => none }
def IntakeCompletesWrongFalsely : Prop := intakeCompletesRow.holds Tryz.pinned (OpenSpec.ofChange intakeCompletesWrong)

/-- 'viatorlaw27.IntakeAdds': WHATEVER THE INPUT: true; the input reads as it did. -/
def intakeAddsSpec : ChangeSpec := { name := "intakeAdds", fn := fun _ => fun
  | [d] => { results := [.lit (.bool true)], args := [d] }
  | _ => none }
def intakeAddsRow : OpenClaim := { program := "ytfoenojohemccaagreatdoor", sum := "12fd015e5ce3c34da9e0ac2075d698901f0ec251b348eec962e0bb8b020a37d1", func := "viator/viatorlaw27.IntakeAdds", spec := "intakeAdds", inPlace := ["internal/bytealg.abigen_runtime_cmpstring", "internal/bytealg.IndexByteString", "internal/bytealg.IndexString", "math/bits.Add64"], unfollowed := true, recurses := true, named := ["unicode/utf8.first", "unicode/utf8.acceptRanges", "internal/bytealg.MaxLen"], plainKeys := false, apart := false, laid := [("unicode/utf8.acceptRanges", laid_unicode_utf8_acceptRanges), ("unicode/utf8.first", laid_unicode_utf8_first)] }
def IntakeAddsSaid : Prop := intakeAddsRow.holds Tryz.pinned (OpenSpec.ofChange intakeAddsSpec)

/-- ITS FALSE NEIGHBOUR: 'it returns false'. Refute it at one input. -/
def intakeAddsWrong : ChangeSpec := { name := "intakeAdds", fn := fun _ => fun
  | [d] => { results := [.lit (.bool false)], args := [d] }
  | _ => none }
def IntakeAddsWrongFalsely : Prop := intakeAddsRow.holds Tryz.pinned (OpenSpec.ofChange intakeAddsWrong)

/-- 'viatorlaw27.IntakeTimes': WHATEVER THE INPUT: true; the input reads as it did. -/
def intakeTimesSpec : ChangeSpec := { name := "intakeTimes", fn := fun _ => fun
  | [d1, d2] => { results := [.lit (.bool true)], args := [d1, d2] }
  | _ => none }
def intakeTimesRow : OpenClaim := { program := "ytfoenojohemccaagreatdoor", sum := "12fd015e5ce3c34da9e0ac2075d698901f0ec251b348eec962e0bb8b020a37d1", func := "viator/viatorlaw27.IntakeTimes", spec := "intakeTimes", inPlace := ["internal/bytealg.abigen_runtime_cmpstring", "internal/bytealg.IndexByteString", "internal/bytealg.IndexString", "math/bits.Add64"], unfollowed := true, recurses := true, named := ["unicode/utf8.first", "unicode/utf8.acceptRanges", "internal/bytealg.MaxLen"], plainKeys := false, apart := false, laid := [("unicode/utf8.acceptRanges", laid_unicode_utf8_acceptRanges), ("unicode/utf8.first", laid_unicode_utf8_first)] }
def IntakeTimesSaid : Prop := intakeTimesRow.holds Tryz.pinned (OpenSpec.ofChange intakeTimesSpec)

/-- ITS FALSE NEIGHBOUR: 'it returns false'. Refute it at one input. -/
def intakeTimesWrong : ChangeSpec := { name := "intakeTimes", fn := fun _ => fun
  | [d1, d2] => { results := [.lit (.bool false)], args := [d1, d2] }
  | _ => none }
def IntakeTimesWrongFalsely : Prop := intakeTimesRow.holds Tryz.pinned (OpenSpec.ofChange intakeTimesWrong)

/-- 'viatorlaw27.IntakeLate': WHATEVER THE INPUT: true; the input reads as it did. -/
def intakeLateSpec : ChangeSpec := { name := "intakeLate", fn := fun _ => fun
  | [d1, d2] => { results := [.lit (.bool true)], args := [d1, d2] }
  | _ => none }
def intakeLateRow : OpenClaim := { program := "ytfoenojohemccaagreatdoor", sum := "12fd015e5ce3c34da9e0ac2075d698901f0ec251b348eec962e0bb8b020a37d1", func := "viator/viatorlaw27.IntakeLate", spec := "intakeLate", inPlace := ["internal/bytealg.abigen_runtime_cmpstring", "internal/bytealg.IndexByteString", "internal/bytealg.IndexString", "math/bits.Add64"], unfollowed := true, recurses := true, named := ["unicode/utf8.first", "unicode/utf8.acceptRanges", "internal/bytealg.MaxLen"], plainKeys := false, apart := false, laid := [("unicode/utf8.acceptRanges", laid_unicode_utf8_acceptRanges), ("unicode/utf8.first", laid_unicode_utf8_first)] }
def IntakeLateSaid : Prop := intakeLateRow.holds Tryz.pinned (OpenSpec.ofChange intakeLateSpec)

/-- ITS FALSE NEIGHBOUR: 'it returns false'. Refute it at one input. -/
def intakeLateWrong : ChangeSpec := { name := "intakeLate", fn := fun _ => fun
  | [d1, d2] => { results := [.lit (.bool false)], args := [d1, d2] }
  | _ => none }
def IntakeLateWrongFalsely : Prop := intakeLateRow.holds Tryz.pinned (OpenSpec.ofChange intakeLateWrong)

/-- 'viatorlaw27.IntakeGrows': WHATEVER THE INPUT: true; the input reads as it did. -/
def intakeGrowsSpec : ChangeSpec := { name := "intakeGrows", fn := fun _ => fun
  | [d1, d2] => { results := [.lit (.bool true)], args := [d1, d2] }
  | _ => none }
def intakeGrowsRow : OpenClaim := { program := "ytfoenojohemccaagreatdoor", sum := "12fd015e5ce3c34da9e0ac2075d698901f0ec251b348eec962e0bb8b020a37d1", func := "viator/viatorlaw27.IntakeGrows", spec := "intakeGrows", inPlace := ["internal/bytealg.abigen_runtime_cmpstring", "internal/bytealg.IndexByteString", "internal/bytealg.IndexString", "math/bits.Add64", "maps.clone"], unfollowed := true, recurses := true, named := ["unicode/utf8.first", "unicode/utf8.acceptRanges", "internal/bytealg.MaxLen"], plainKeys := false, apart := false, laid := [("unicode/utf8.acceptRanges", laid_unicode_utf8_acceptRanges), ("unicode/utf8.first", laid_unicode_utf8_first)] }
def IntakeGrowsSaid : Prop := intakeGrowsRow.holds Tryz.pinned (OpenSpec.ofChange intakeGrowsSpec)

/-- ITS FALSE NEIGHBOUR: 'it returns false'. Refute it at one input. -/
def intakeGrowsWrong : ChangeSpec := { name := "intakeGrows", fn := fun _ => fun
  | [d1, d2] => { results := [.lit (.bool false)], args := [d1, d2] }
  | _ => none }
def IntakeGrowsWrongFalsely : Prop := intakeGrowsRow.holds Tryz.pinned (OpenSpec.ofChange intakeGrowsWrong)

/-- 'viatorlaw27.IntakeFrontiers': WHATEVER THE INPUT: true; the input reads as it did. -/
def intakeFrontiersSpec : ChangeSpec := { name := "intakeFrontiers", fn := fun _ => fun
  | [d1, d2] => { results := [.lit (.bool true)], args := [d1, d2] }
  | _ => none }
def intakeFrontiersRow : OpenClaim := { program := "ytfoenojohemccaagreatdoor", sum := "12fd015e5ce3c34da9e0ac2075d698901f0ec251b348eec962e0bb8b020a37d1", func := "viator/viatorlaw27.IntakeFrontiers", spec := "intakeFrontiers", inPlace := ["internal/bytealg.abigen_runtime_cmpstring", "internal/bytealg.IndexByteString", "internal/bytealg.IndexString", "math/bits.Add64"], unfollowed := true, recurses := true, named := ["unicode/utf8.first", "unicode/utf8.acceptRanges", "internal/bytealg.MaxLen"], plainKeys := false, apart := false, laid := [("unicode/utf8.acceptRanges", laid_unicode_utf8_acceptRanges), ("unicode/utf8.first", laid_unicode_utf8_first)] }
def IntakeFrontiersSaid : Prop := intakeFrontiersRow.holds Tryz.pinned (OpenSpec.ofChange intakeFrontiersSpec)

/-- ITS FALSE NEIGHBOUR: 'it returns false'. Refute it at one input. -/
def intakeFrontiersWrong : ChangeSpec := { name := "intakeFrontiers", fn := fun _ => fun
  | [d1, d2] => { results := [.lit (.bool false)], args := [d1, d2] }
  | _ => none }
def IntakeFrontiersWrongFalsely : Prop := intakeFrontiersRow.holds Tryz.pinned (OpenSpec.ofChange intakeFrontiersWrong)

/-- 'viatorlaw27.IntakeOrderless': WHATEVER THE INPUT: true; the input reads as it did. -/
def intakeOrderlessSpec : ChangeSpec := { name := "intakeOrderless", fn := fun _ => fun
  | [d1, d2, d3] => { results := [.lit (.bool true)], args := [d1, d2, d3] }
  | _ => none }
def intakeOrderlessRow : OpenClaim := { program := "ytfoenojohemccaagreatdoor", sum := "12fd015e5ce3c34da9e0ac2075d698901f0ec251b348eec962e0bb8b020a37d1", func := "viator/viatorlaw27.IntakeOrderless", spec := "intakeOrderless", inPlace := ["internal/bytealg.abigen_runtime_cmpstring", "internal/bytealg.IndexByteString", "internal/bytealg.IndexString", "math/bits.Add64"], unfollowed := true, recurses := true, named := ["unicode/utf8.first", "unicode/utf8.acceptRanges", "internal/bytealg.MaxLen"], plainKeys := false, apart := false, laid := [("unicode/utf8.acceptRanges", laid_unicode_utf8_acceptRanges), ("unicode/utf8.first", laid_unicode_utf8_first)] }
def IntakeOrderlessSaid : Prop := intakeOrderlessRow.holds Tryz.pinned (OpenSpec.ofChange intakeOrderlessSpec)

/-- ITS FALSE NEIGHBOUR: 'it returns false'. Refute it at one input. -/
def intakeOrderlessWrong : ChangeSpec := { name := "intakeOrderless", fn := fun _ => fun
  | [d1, d2, d3] => { results := [.lit (.bool false)], args := [d1, d2, d3] }
  | _ => none }
def IntakeOrderlessWrongFalsely : Prop := intakeOrderlessRow.holds Tryz.pinned (OpenSpec.ofChange intakeOrderlessWrong)

/-- 'viatorlaw27.IntakeNil': WHATEVER THE INPUT: true; the input reads as it did. -/
def intakeNilSpec : ChangeSpec := { name := "intakeNil", fn := fun _ => fun
  | [d1, d2, d3] => { results := [.lit (.bool true)], args := [d1, d2, d3] }
  | _ => none }
def intakeNilRow : OpenClaim := { program := "ytfoenojohemccaagreatdoor", sum := "12fd015e5ce3c34da9e0ac2075d698901f0ec251b348eec962e0bb8b020a37d1", func := "viator/viatorlaw27.IntakeNil", spec := "intakeNil", inPlace := ["internal/bytealg.abigen_runtime_cmpstring", "internal/bytealg.IndexByteString", "internal/bytealg.IndexString", "math/bits.Add64", "maps.clone"], unfollowed := true, recurses := true, named := ["unicode/utf8.first", "unicode/utf8.acceptRanges", "internal/bytealg.MaxLen"], plainKeys := false, apart := false, laid := [("unicode/utf8.acceptRanges", laid_unicode_utf8_acceptRanges), ("unicode/utf8.first", laid_unicode_utf8_first)] }
def IntakeNilSaid : Prop := intakeNilRow.holds Tryz.pinned (OpenSpec.ofChange intakeNilSpec)

/-- ITS FALSE NEIGHBOUR: 'it returns false'. Refute it at one input. -/
def intakeNilWrong : ChangeSpec := { name := "intakeNil", fn := fun _ => fun
  | [d1, d2, d3] => { results := [.lit (.bool false)], args := [d1, d2, d3] }
  | _ => none }
def IntakeNilWrongFalsely : Prop := intakeNilRow.holds Tryz.pinned (OpenSpec.ofChange intakeNilWrong)

/-- 'viatorlaw27.IntakeMerges': WHATEVER THE INPUT: true; the input reads as it did. -/
def intakeMergesSpec : ChangeSpec := { name := "intakeMerges", fn := fun _ => fun
  | [d1, d2] => { results := [.lit (.bool true)], args := [d1, d2] }
  | _ => none }
def intakeMergesRow : OpenClaim := { program := "ytfoenojohemccaagreatdoor", sum := "12fd015e5ce3c34da9e0ac2075d698901f0ec251b348eec962e0bb8b020a37d1", func := "viator/viatorlaw27.IntakeMerges", spec := "intakeMerges", inPlace := ["internal/bytealg.abigen_runtime_cmpstring", "internal/bytealg.IndexByteString", "internal/bytealg.IndexString", "math/bits.Add64", "maps.clone"], unfollowed := true, recurses := true, named := ["unicode/utf8.first", "unicode/utf8.acceptRanges", "internal/bytealg.MaxLen"], plainKeys := false, apart := false, laid := [("unicode/utf8.acceptRanges", laid_unicode_utf8_acceptRanges), ("unicode/utf8.first", laid_unicode_utf8_first)] }
def IntakeMergesSaid : Prop := intakeMergesRow.holds Tryz.pinned (OpenSpec.ofChange intakeMergesSpec)

/-- ITS FALSE NEIGHBOUR: 'it returns false'. Refute it at one input. -/
def intakeMergesWrong : ChangeSpec := { name := "intakeMerges", fn := fun _ => fun
  | [d1, d2] => { results := [.lit (.bool false)], args := [d1, d2] }
  | _ => none }
def IntakeMergesWrongFalsely : Prop := intakeMergesRow.holds Tryz.pinned (OpenSpec.ofChange intakeMergesWrong)

/- THE SECOND FORM. 'bulk': how many values and letters a reading holds, each counted each time it is reached (what is shared counts as often as it is met; a slice's spare places count too). A statement '..UptoSaid' is the law's where the arguments, and the package variables that the reading takes, are together of bulk at most 1048576: NARROWER than '..Said'. Prove '..Said' where nothing that the law and all that it calls make is longer than what came in: it says more and counts as full. Else prove '..UptoSaid'. A law counts once. -/
mutual
def uptoBulk {H : Type} : DataW H → Nat
  | .lit (.string bytes) => bytes.length + 1
  | .lit _ => 1
  | .nil => 1
  | .ptr d => uptoBulk d + 1
  | .slice elems spare => uptoBulkAll elems + uptoBulkAll spare + 1
  | .agg parts => uptoBulkAll parts + 1
  | .iface _ d => uptoBulk d + 1
  | .map entries => uptoBulkEntries entries + 1
  | .held _ => 1
def uptoBulkAll {H : Type} : List (DataW H) → Nat
  | [] => 0
  | d :: r => uptoBulk d + uptoBulkAll r
def uptoBulkEntries {H : Type} : List (Lit × DataW H) → Nat
  | [] => 0
  | x :: r => uptoBulkEntry x + uptoBulkEntries r
def uptoBulkEntry {H : Type} : Lit × DataW H → Nat
  | (.string bytes, d) => bytes.length + uptoBulk d + 1
  | (_, d) => uptoBulk d + 1
 end
def uptoSmall : (H : Type) → List (DataW H) → Bool := fun _ ds => decide (uptoBulkAll ds ≤ 1048576)
def OpenSpec.upto (s : _root_.Go.ChangeSpec) : _root_.Go.OpenSpec := { _root_.Go.OpenSpec.ofChange s with cond := some uptoSmall }

/-- 'viatorlaw27.IntakeLimits', WHERE WHAT IT READS IS OF BULK AT MOST 1048576: true; the input reads as it did. -/
def intakeLimitsUptoRow : OpenClaim := { program := "ytfoenojohemccaagreatdoor", sum := "12fd015e5ce3c34da9e0ac2075d698901f0ec251b348eec962e0bb8b020a37d1", func := "viator/viatorlaw27.IntakeLimits", spec := "intakeLimits", inPlace := ["internal/bytealg.abigen_runtime_cmpstring", "internal/bytealg.IndexByteString", "internal/bytealg.IndexString", "math/bits.Add64"], unfollowed := true, recurses := true, named := ["unicode/utf8.first", "unicode/utf8.acceptRanges", "internal/bytealg.MaxLen"], plainKeys := false, apart := false, laid := [("unicode/utf8.acceptRanges", laid_unicode_utf8_acceptRanges), ("unicode/utf8.first", laid_unicode_utf8_first)], narrowed := true }
def IntakeLimitsUptoSaid : Prop := intakeLimitsUptoRow.holds Tryz.pinned (OpenSpec.upto intakeLimitsSpec)

/-- 'viatorlaw27.IntakeCompletes', WHERE WHAT IT READS IS OF BULK AT MOST 1048576: true; the input reads as it did. -/
def intakeCompletesUptoRow : OpenClaim := { program := "ytfoenojohemccaagreatdoor", sum := "12fd015e5ce3c34da9e0ac2075d698901f0ec251b348eec962e0bb8b020a37d1", func := "viator/viatorlaw27.IntakeCompletes", spec := "intakeCompletes", inPlace := ["internal/bytealg.abigen_runtime_cmpstring", "internal/bytealg.IndexByteString", "internal/bytealg.IndexString", "math/bits.Add64"], unfollowed := true, recurses := true, named := ["unicode/utf8.first", "unicode/utf8.acceptRanges", "internal/bytealg.MaxLen"], plainKeys := false, apart := false, laid := [("unicode/utf8.acceptRanges", laid_unicode_utf8_acceptRanges), ("unicode/utf8.first", laid_unicode_utf8_first)], narrowed := true }
def IntakeCompletesUptoSaid : Prop := intakeCompletesUptoRow.holds Tryz.pinned (OpenSpec.upto intakeCompletesSpec)

/-- 'viatorlaw27.IntakeAdds', WHERE WHAT IT READS IS OF BULK AT MOST 1048576: true; the input reads as it did. -/
def intakeAddsUptoRow : OpenClaim := { program := "ytfoenojohemccaagreatdoor", sum := "12fd015e5ce3c34da9e0ac2075d698901f0ec251b348eec962e0bb8b020a37d1", func := "viator/viatorlaw27.IntakeAdds", spec := "intakeAdds", inPlace := ["internal/bytealg.abigen_runtime_cmpstring", "internal/bytealg.IndexByteString", "internal/bytealg.IndexString", "math/bits.Add64"], unfollowed := true, recurses := true, named := ["unicode/utf8.first", "unicode/utf8.acceptRanges", "internal/bytealg.MaxLen"], plainKeys := false, apart := false, laid := [("unicode/utf8.acceptRanges", laid_unicode_utf8_acceptRanges), ("unicode/utf8.first", laid_unicode_utf8_first)], narrowed := true }
def IntakeAddsUptoSaid : Prop := intakeAddsUptoRow.holds Tryz.pinned (OpenSpec.upto intakeAddsSpec)

/-- 'viatorlaw27.IntakeTimes', WHERE WHAT IT READS IS OF BULK AT MOST 1048576: true; the input reads as it did. -/
def intakeTimesUptoRow : OpenClaim := { program := "ytfoenojohemccaagreatdoor", sum := "12fd015e5ce3c34da9e0ac2075d698901f0ec251b348eec962e0bb8b020a37d1", func := "viator/viatorlaw27.IntakeTimes", spec := "intakeTimes", inPlace := ["internal/bytealg.abigen_runtime_cmpstring", "internal/bytealg.IndexByteString", "internal/bytealg.IndexString", "math/bits.Add64"], unfollowed := true, recurses := true, named := ["unicode/utf8.first", "unicode/utf8.acceptRanges", "internal/bytealg.MaxLen"], plainKeys := false, apart := false, laid := [("unicode/utf8.acceptRanges", laid_unicode_utf8_acceptRanges), ("unicode/utf8.first", laid_unicode_utf8_first)], narrowed := true }
def IntakeTimesUptoSaid : Prop := intakeTimesUptoRow.holds Tryz.pinned (OpenSpec.upto intakeTimesSpec)

/-- 'viatorlaw27.IntakeLate', WHERE WHAT IT READS IS OF BULK AT MOST 1048576: true; the input reads as it did. -/
def intakeLateUptoRow : OpenClaim := { program := "ytfoenojohemccaagreatdoor", sum := "12fd015e5ce3c34da9e0ac2075d698901f0ec251b348eec962e0bb8b020a37d1", func := "viator/viatorlaw27.IntakeLate", spec := "intakeLate", inPlace := ["internal/bytealg.abigen_runtime_cmpstring", "internal/bytealg.IndexByteString", "internal/bytealg.IndexString", "math/bits.Add64"], unfollowed := true, recurses := true, named := ["unicode/utf8.first", "unicode/utf8.acceptRanges", "internal/bytealg.MaxLen"], plainKeys := false, apart := false, laid := [("unicode/utf8.acceptRanges", laid_unicode_utf8_acceptRanges), ("unicode/utf8.first", laid_unicode_utf8_first)], narrowed := true }
def IntakeLateUptoSaid : Prop := intakeLateUptoRow.holds Tryz.pinned (OpenSpec.upto intakeLateSpec)

/-- 'viatorlaw27.IntakeGrows', WHERE WHAT IT READS IS OF BULK AT MOST 1048576: true; the input reads as it did. -/
def intakeGrowsUptoRow : OpenClaim := { program := "ytfoenojohemccaagreatdoor", sum := "12fd015e5ce3c34da9e0ac2075d698901f0ec251b348eec962e0bb8b020a37d1", func := "viator/viatorlaw27.IntakeGrows", spec := "intakeGrows", inPlace := ["internal/bytealg.abigen_runtime_cmpstring", "internal/bytealg.IndexByteString", "internal/bytealg.IndexString", "math/bits.Add64", "maps.clone"], unfollowed := true, recurses := true, named := ["unicode/utf8.first", "unicode/utf8.acceptRanges", "internal/bytealg.MaxLen"], plainKeys := false, apart := false, laid := [("unicode/utf8.acceptRanges", laid_unicode_utf8_acceptRanges), ("unicode/utf8.first", laid_unicode_utf8_first)], narrowed := true }
def IntakeGrowsUptoSaid : Prop := intakeGrowsUptoRow.holds Tryz.pinned (OpenSpec.upto intakeGrowsSpec)

/-- 'viatorlaw27.IntakeFrontiers', WHERE WHAT IT READS IS OF BULK AT MOST 1048576: true; the input reads as it did. -/
def intakeFrontiersUptoRow : OpenClaim := { program := "ytfoenojohemccaagreatdoor", sum := "12fd015e5ce3c34da9e0ac2075d698901f0ec251b348eec962e0bb8b020a37d1", func := "viator/viatorlaw27.IntakeFrontiers", spec := "intakeFrontiers", inPlace := ["internal/bytealg.abigen_runtime_cmpstring", "internal/bytealg.IndexByteString", "internal/bytealg.IndexString", "math/bits.Add64"], unfollowed := true, recurses := true, named := ["unicode/utf8.first", "unicode/utf8.acceptRanges", "internal/bytealg.MaxLen"], plainKeys := false, apart := false, laid := [("unicode/utf8.acceptRanges", laid_unicode_utf8_acceptRanges), ("unicode/utf8.first", laid_unicode_utf8_first)], narrowed := true }
def IntakeFrontiersUptoSaid : Prop := intakeFrontiersUptoRow.holds Tryz.pinned (OpenSpec.upto intakeFrontiersSpec)

/-- 'viatorlaw27.IntakeOrderless', WHERE WHAT IT READS IS OF BULK AT MOST 1048576: true; the input reads as it did. -/
def intakeOrderlessUptoRow : OpenClaim := { program := "ytfoenojohemccaagreatdoor", sum := "12fd015e5ce3c34da9e0ac2075d698901f0ec251b348eec962e0bb8b020a37d1", func := "viator/viatorlaw27.IntakeOrderless", spec := "intakeOrderless", inPlace := ["internal/bytealg.abigen_runtime_cmpstring", "internal/bytealg.IndexByteString", "internal/bytealg.IndexString", "math/bits.Add64"], unfollowed := true, recurses := true, named := ["unicode/utf8.first", "unicode/utf8.acceptRanges", "internal/bytealg.MaxLen"], plainKeys := false, apart := false, laid := [("unicode/utf8.acceptRanges", laid_unicode_utf8_acceptRanges), ("unicode/utf8.first", laid_unicode_utf8_first)], narrowed := true }
def IntakeOrderlessUptoSaid : Prop := intakeOrderlessUptoRow.holds Tryz.pinned (OpenSpec.upto intakeOrderlessSpec)

/-- 'viatorlaw27.IntakeNil', WHERE WHAT IT READS IS OF BULK AT MOST 1048576: true; the input reads as it did. -/
def intakeNilUptoRow : OpenClaim := { program := "ytfoenojohemccaagreatdoor", sum := "12fd015e5ce3c34da9e0ac2075d698901f0ec251b348eec962e0bb8b020a37d1", func := "viator/viatorlaw27.IntakeNil", spec := "intakeNil", inPlace := ["internal/bytealg.abigen_runtime_cmpstring", "internal/bytealg.IndexByteString", "internal/bytealg.IndexString", "math/bits.Add64", "maps.clone"], unfollowed := true, recurses := true, named := ["unicode/utf8.first", "unicode/utf8.acceptRanges", "internal/bytealg.MaxLen"], plainKeys := false, apart := false, laid := [("unicode/utf8.acceptRanges", laid_unicode_utf8_acceptRanges), ("unicode/utf8.first", laid_unicode_utf8_first)], narrowed := true }
def IntakeNilUptoSaid : Prop := intakeNilUptoRow.holds Tryz.pinned (OpenSpec.upto intakeNilSpec)

/-- 'viatorlaw27.IntakeMerges', WHERE WHAT IT READS IS OF BULK AT MOST 1048576: true; the input reads as it did. -/
def intakeMergesUptoRow : OpenClaim := { program := "ytfoenojohemccaagreatdoor", sum := "12fd015e5ce3c34da9e0ac2075d698901f0ec251b348eec962e0bb8b020a37d1", func := "viator/viatorlaw27.IntakeMerges", spec := "intakeMerges", inPlace := ["internal/bytealg.abigen_runtime_cmpstring", "internal/bytealg.IndexByteString", "internal/bytealg.IndexString", "math/bits.Add64", "maps.clone"], unfollowed := true, recurses := true, named := ["unicode/utf8.first", "unicode/utf8.acceptRanges", "internal/bytealg.MaxLen"], plainKeys := false, apart := false, laid := [("unicode/utf8.acceptRanges", laid_unicode_utf8_acceptRanges), ("unicode/utf8.first", laid_unicode_utf8_first)], narrowed := true }
def IntakeMergesUptoSaid : Prop := intakeMergesUptoRow.holds Tryz.pinned (OpenSpec.upto intakeMergesSpec)

end Rows
end Go.Proofs.YtfoenojohemccaaGreatDoor
