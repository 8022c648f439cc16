/-
  NARROWER THAN 'FOR EVERY INPUT', by the rows' own cells (each row's printed sentence says how): RelStatic: loops, laid · RelLoose: loops, laid · RelFuns: loops, laid · RelUnions: loops, laid · RelAny: loops, laid · InstResolves: loops, laid · InstOne: loops, laid · RelJoinsBoth: loops, laid · InstAgain: loops, laid.
  DERIVED. THE GIVEN ROWS OF THIS SEAT. 9 by the template 'for every input the law returns true; each argument reads behind the call as it read before'; 0 by the template 'total and deterministic' (their statements: YtbanpohholnkaaaDoorTotals.lean).
  GIVEN WITH THE SEED: the statements are not yours to turn. If you find one false, say at which input.
  Laid BY PROGRAM, IN A SANDBOX (cutbox-rows.mjs): the forced cells as the released guide's own fill.sh prints them over the translation 23b2db30dd7a47a2… (all of the seat's roots in one cut). By AI agents, Wed Nov 11 2026. No macro, syntax, notation, axiom, sorry.
-/
import Derived.Test.YtbanpohholnkaaaDoorChecked
import GoSem.Claim
import GoSem.ClaimJoined
import GoSem.ClaimMapViews
import Derived.JoinedTies
import Derived.KernelRfl
namespace Go.Proofs.YtbanpohholnkaaaDoor
/- THE CELL 'sum', in the pinned program and in every row, IS THE sha256 OF THE DUMP (.gsa) THAT YtbanpohholnkaaaDoorProg.lean LOADS. Nothing in Lean hashes anything: it is a label: what it is worth is what the hold of that sum in a sandbox is worth. -/
noncomputable def Tryd.pinned : Pinned := { name := "ytbanpohholnkaaadoor", sum := "23b2db30dd7a47a2c4aa6965778eaad48094e2bd9e2657bf0a3e3aed4f2c6bf4", checked := Tryd.checked }
namespace Rows
def none {H : Type} : Left H := { results := [], args := [] }

/- WHAT THE LISTED PACKAGE-LEVEL VARIABLES READ AS WHEN THE CALL BEGINS. Each datum BY PROGRAM (the guide's laid-datum.mjs) off the statement by which the dump's own 'gosem.cut.vars' lays the variable. In a bare row this is a premise. The card (YtbanpohholnkaaaDoorCards.lean) ties it to the program's text. -/
def laid_unicode_White_Space {H : Type} : DataW H := .ptr (.agg [.slice [.agg [.lit (.int .u16 9), .lit (.int .u16 13), .lit (.int .u16 1)], .agg [.lit (.int .u16 32), .lit (.int .u16 133), .lit (.int .u16 101)], .agg [.lit (.int .u16 160), .lit (.int .u16 5760), .lit (.int .u16 5600)], .agg [.lit (.int .u16 8192), .lit (.int .u16 8202), .lit (.int .u16 1)], .agg [.lit (.int .u16 8232), .lit (.int .u16 8233), .lit (.int .u16 1)], .agg [.lit (.int .u16 8239), .lit (.int .u16 8287), .lit (.int .u16 48)], .agg [.lit (.int .u16 12288), .lit (.int .u16 12288), .lit (.int .u16 1)]] [], .nil, .lit (.int .i64 2)])
def laid_strings_asciiSpace {H : Type} : DataW H := .agg [.lit (.int .u8 0), .lit (.int .u8 0), .lit (.int .u8 0), .lit (.int .u8 0), .lit (.int .u8 0), .lit (.int .u8 0), .lit (.int .u8 0), .lit (.int .u8 0), .lit (.int .u8 0), .lit (.int .u8 1), .lit (.int .u8 1), .lit (.int .u8 1), .lit (.int .u8 1), .lit (.int .u8 1), .lit (.int .u8 0), .lit (.int .u8 0), .lit (.int .u8 0), .lit (.int .u8 0), .lit (.int .u8 0), .lit (.int .u8 0), .lit (.int .u8 0), .lit (.int .u8 0), .lit (.int .u8 0), .lit (.int .u8 0), .lit (.int .u8 0), .lit (.int .u8 0), .lit (.int .u8 0), .lit (.int .u8 0), .lit (.int .u8 0), .lit (.int .u8 0), .lit (.int .u8 0), .lit (.int .u8 0), .lit (.int .u8 1), .lit (.int .u8 0), .lit (.int .u8 0), .lit (.int .u8 0), .lit (.int .u8 0), .lit (.int .u8 0), .lit (.int .u8 0), .lit (.int .u8 0), .lit (.int .u8 0), .lit (.int .u8 0), .lit (.int .u8 0), .lit (.int .u8 0), .lit (.int .u8 0), .lit (.int .u8 0), .lit (.int .u8 0), .lit (.int .u8 0), .lit (.int .u8 0), .lit (.int .u8 0), .lit (.int .u8 0), .lit (.int .u8 0), .lit (.int .u8 0), .lit (.int .u8 0), .lit (.int .u8 0), .lit (.int .u8 0), .lit (.int .u8 0), .lit (.int .u8 0), .lit (.int .u8 0), .lit (.int .u8 0), .lit (.int .u8 0), .lit (.int .u8 0), .lit (.int .u8 0), .lit (.int .u8 0), .lit (.int .u8 0), .lit (.int .u8 0), .lit (.int .u8 0), .lit (.int .u8 0), .lit (.int .u8 0), .lit (.int .u8 0), .lit (.int .u8 0), .lit (.int .u8 0), .lit (.int .u8 0), .lit (.int .u8 0), .lit (.int .u8 0), .lit (.int .u8 0), .lit (.int .u8 0), .lit (.int .u8 0), .lit (.int .u8 0), .lit (.int .u8 0), .lit (.int .u8 0), .lit (.int .u8 0), .lit (.int .u8 0), .lit (.int .u8 0), .lit (.int .u8 0), .lit (.int .u8 0), .lit (.int .u8 0), .lit (.int .u8 0), .lit (.int .u8 0), .lit (.int .u8 0), .lit (.int .u8 0), .lit (.int .u8 0), .lit (.int .u8 0), .lit (.int .u8 0), .lit (.int .u8 0), .lit (.int .u8 0), .lit (.int .u8 0), .lit (.int .u8 0), .lit (.int .u8 0), .lit (.int .u8 0), .lit (.int .u8 0), .lit (.int .u8 0), .lit (.int .u8 0), .lit (.int .u8 0), .lit (.int .u8 0), .lit (.int .u8 0), .lit (.int .u8 0), .lit (.int .u8 0), .lit (.int .u8 0), .lit (.int .u8 0), .lit (.int .u8 0), .lit (.int .u8 0), .lit (.int .u8 0), .lit (.int .u8 0), .lit (.int .u8 0), .lit (.int .u8 0), .lit (.int .u8 0), .lit (.int .u8 0), .lit (.int .u8 0), .lit (.int .u8 0), .lit (.int .u8 0), .lit (.int .u8 0), .lit (.int .u8 0), .lit (.int .u8 0), .lit (.int .u8 0), .lit (.int .u8 0), .lit (.int .u8 0), .lit (.int .u8 0), .lit (.int .u8 0), .lit (.int .u8 0), .lit (.int .u8 0), .lit (.int .u8 0), .lit (.int .u8 0), .lit (.int .u8 0), .lit (.int .u8 0), .lit (.int .u8 0), .lit (.int .u8 0), .lit (.int .u8 0), .lit (.int .u8 0), .lit (.int .u8 0), .lit (.int .u8 0), .lit (.int .u8 0), .lit (.int .u8 0), .lit (.int .u8 0), .lit (.int .u8 0), .lit (.int .u8 0), .lit (.int .u8 0), .lit (.int .u8 0), .lit (.int .u8 0), .lit (.int .u8 0), .lit (.int .u8 0), .lit (.int .u8 0), .lit (.int .u8 0), .lit (.int .u8 0), .lit (.int .u8 0), .lit (.int .u8 0), .lit (.int .u8 0), .lit (.int .u8 0), .lit (.int .u8 0), .lit (.int .u8 0), .lit (.int .u8 0), .lit (.int .u8 0), .lit (.int .u8 0), .lit (.int .u8 0), .lit (.int .u8 0), .lit (.int .u8 0), .lit (.int .u8 0), .lit (.int .u8 0), .lit (.int .u8 0), .lit (.int .u8 0), .lit (.int .u8 0), .lit (.int .u8 0), .lit (.int .u8 0), .lit (.int .u8 0), .lit (.int .u8 0), .lit (.int .u8 0), .lit (.int .u8 0), .lit (.int .u8 0), .lit (.int .u8 0), .lit (.int .u8 0), .lit (.int .u8 0), .lit (.int .u8 0), .lit (.int .u8 0), .lit (.int .u8 0), .lit (.int .u8 0), .lit (.int .u8 0), .lit (.int .u8 0), .lit (.int .u8 0), .lit (.int .u8 0), .lit (.int .u8 0), .lit (.int .u8 0), .lit (.int .u8 0), .lit (.int .u8 0), .lit (.int .u8 0), .lit (.int .u8 0), .lit (.int .u8 0), .lit (.int .u8 0), .lit (.int .u8 0), .lit (.int .u8 0), .lit (.int .u8 0), .lit (.int .u8 0), .lit (.int .u8 0), .lit (.int .u8 0), .lit (.int .u8 0), .lit (.int .u8 0), .lit (.int .u8 0), .lit (.int .u8 0), .lit (.int .u8 0), .lit (.int .u8 0), .lit (.int .u8 0), .lit (.int .u8 0), .lit (.int .u8 0), .lit (.int .u8 0), .lit (.int .u8 0), .lit (.int .u8 0), .lit (.int .u8 0), .lit (.int .u8 0), .lit (.int .u8 0), .lit (.int .u8 0), .lit (.int .u8 0), .lit (.int .u8 0), .lit (.int .u8 0), .lit (.int .u8 0), .lit (.int .u8 0), .lit (.int .u8 0), .lit (.int .u8 0), .lit (.int .u8 0), .lit (.int .u8 0), .lit (.int .u8 0), .lit (.int .u8 0), .lit (.int .u8 0), .lit (.int .u8 0), .lit (.int .u8 0), .lit (.int .u8 0), .lit (.int .u8 0), .lit (.int .u8 0), .lit (.int .u8 0), .lit (.int .u8 0), .lit (.int .u8 0), .lit (.int .u8 0), .lit (.int .u8 0), .lit (.int .u8 0), .lit (.int .u8 0), .lit (.int .u8 0), .lit (.int .u8 0), .lit (.int .u8 0), .lit (.int .u8 0), .lit (.int .u8 0), .lit (.int .u8 0), .lit (.int .u8 0), .lit (.int .u8 0), .lit (.int .u8 0), .lit (.int .u8 0), .lit (.int .u8 0), .lit (.int .u8 0), .lit (.int .u8 0)]

/-- 'graduslaw06.RelStatic': WHATEVER THE INPUT: true; the input reads as it did. -/
def relStaticSpec : ChangeSpec := { name := "relStatic", fn := fun _ => fun
  | [d1, d2] => { results := [.lit (.bool true)], args := [d1, d2] }
  | _ => none }
def relStaticRow : OpenClaim := { program := "ytbanpohholnkaaadoor", sum := "23b2db30dd7a47a2c4aa6965778eaad48094e2bd9e2657bf0a3e3aed4f2c6bf4", func := "gradus/graduslaw06.RelStatic", spec := "relStatic", unfollowed := true, recurses := true, named := ["strings.asciiSpace", "unicode.White_Space"], loops := true, plainKeys := false, apart := false, laid := [("unicode.White_Space", laid_unicode_White_Space), ("strings.asciiSpace", laid_strings_asciiSpace)] }
def RelStaticSaid : Prop := relStaticRow.holds Tryd.pinned (OpenSpec.ofChange relStaticSpec)

/-- ITS FALSE NEIGHBOUR: 'it returns false'. Refute it at one input. -/
def relStaticWrong : ChangeSpec := { name := "relStatic", fn := fun _ => fun
  | [d1, d2] => { results := [.lit (.bool false)], args := [d1, d2] }
  | _ => none }
def RelStaticWrongFalsely : Prop := relStaticRow.holds Tryd.pinned (OpenSpec.ofChange relStaticWrong)

/-- 'graduslaw06.RelLoose': WHATEVER THE INPUT: true; the input reads as it did. -/
def relLooseSpec : ChangeSpec := { name := "relLoose", fn := fun _ => fun
  | [d1, d2] => { results := [.lit (.bool true)], args := [d1, d2] }
  | _ => none }
def relLooseRow : OpenClaim := { program := "ytbanpohholnkaaadoor", sum := "23b2db30dd7a47a2c4aa6965778eaad48094e2bd9e2657bf0a3e3aed4f2c6bf4", func := "gradus/graduslaw06.RelLoose", spec := "relLoose", unfollowed := true, recurses := true, named := ["strings.asciiSpace", "unicode.White_Space"], loops := true, plainKeys := false, apart := false, laid := [("unicode.White_Space", laid_unicode_White_Space), ("strings.asciiSpace", laid_strings_asciiSpace)] }
def RelLooseSaid : Prop := relLooseRow.holds Tryd.pinned (OpenSpec.ofChange relLooseSpec)

/-- ITS FALSE NEIGHBOUR: 'it returns false'. Refute it at one input. -/
def relLooseWrong : ChangeSpec := { name := "relLoose", fn := fun _ => fun
  | [d1, d2] => { results := [.lit (.bool false)], args := [d1, d2] }
  | _ => none }
def RelLooseWrongFalsely : Prop := relLooseRow.holds Tryd.pinned (OpenSpec.ofChange relLooseWrong)

/-- 'graduslaw06.RelFuns': WHATEVER THE INPUT: true; the input reads as it did. -/
def relFunsSpec : ChangeSpec := { name := "relFuns", fn := fun _ => fun
  | [d1, d2, d3, d4] => { results := [.lit (.bool true)], args := [d1, d2, d3, d4] }
  | _ => none }
def relFunsRow : OpenClaim := { program := "ytbanpohholnkaaadoor", sum := "23b2db30dd7a47a2c4aa6965778eaad48094e2bd9e2657bf0a3e3aed4f2c6bf4", func := "gradus/graduslaw06.RelFuns", spec := "relFuns", unfollowed := true, recurses := true, named := ["strings.asciiSpace", "unicode.White_Space"], loops := true, plainKeys := false, apart := false, laid := [("unicode.White_Space", laid_unicode_White_Space), ("strings.asciiSpace", laid_strings_asciiSpace)] }
def RelFunsSaid : Prop := relFunsRow.holds Tryd.pinned (OpenSpec.ofChange relFunsSpec)

/-- ITS FALSE NEIGHBOUR: 'it returns false'. Refute it at one input. -/
def relFunsWrong : ChangeSpec := { name := "relFuns", fn := fun _ => fun
  | [d1, d2, d3, d4] => { results := [.lit (.bool false)], args := [d1, d2, d3, d4] }
  | _ => none }
def RelFunsWrongFalsely : Prop := relFunsRow.holds Tryd.pinned (OpenSpec.ofChange relFunsWrong)

/-- 'graduslaw06.RelUnions': WHATEVER THE INPUT: true; the input reads as it did. -/
def relUnionsSpec : ChangeSpec := { name := "relUnions", fn := fun _ => fun
  | [d1, d2] => { results := [.lit (.bool true)], args := [d1, d2] }
  | _ => none }
def relUnionsRow : OpenClaim := { program := "ytbanpohholnkaaadoor", sum := "23b2db30dd7a47a2c4aa6965778eaad48094e2bd9e2657bf0a3e3aed4f2c6bf4", func := "gradus/graduslaw06.RelUnions", spec := "relUnions", unfollowed := true, recurses := true, named := ["strings.asciiSpace", "unicode.White_Space"], loops := true, plainKeys := false, apart := false, laid := [("unicode.White_Space", laid_unicode_White_Space), ("strings.asciiSpace", laid_strings_asciiSpace)] }
def RelUnionsSaid : Prop := relUnionsRow.holds Tryd.pinned (OpenSpec.ofChange relUnionsSpec)

/-- ITS FALSE NEIGHBOUR: 'it returns false'. Refute it at one input. -/
def relUnionsWrong : ChangeSpec := { name := "relUnions", fn := fun _ => fun
  | [d1, d2] => { results := [.lit (.bool false)], args := [d1, d2] }
  | _ => none }
def RelUnionsWrongFalsely : Prop := relUnionsRow.holds Tryd.pinned (OpenSpec.ofChange relUnionsWrong)

/-- 'graduslaw06.RelAny': WHATEVER THE INPUT: true; the input reads as it did. -/
def relAnySpec : ChangeSpec := { name := "relAny", fn := fun _ => fun
  | [d] => { results := [.lit (.bool true)], args := [d] }
  | _ => none }
def relAnyRow : OpenClaim := { program := "ytbanpohholnkaaadoor", sum := "23b2db30dd7a47a2c4aa6965778eaad48094e2bd9e2657bf0a3e3aed4f2c6bf4", func := "gradus/graduslaw06.RelAny", spec := "relAny", unfollowed := true, recurses := true, named := ["strings.asciiSpace", "unicode.White_Space"], loops := true, plainKeys := false, apart := false, laid := [("unicode.White_Space", laid_unicode_White_Space), ("strings.asciiSpace", laid_strings_asciiSpace)] }
def RelAnySaid : Prop := relAnyRow.holds Tryd.pinned (OpenSpec.ofChange relAnySpec)

/-- ITS FALSE NEIGHBOUR: 'it returns false'. Refute it at one input. -/
def relAnyWrong : ChangeSpec := { name := "relAny", fn := fun _ => fun
  | [d] => { results := [.lit (.bool false)], args := [d] }
  | _ => none }
def RelAnyWrongFalsely : Prop := relAnyRow.holds Tryd.pinned (OpenSpec.ofChange relAnyWrong)

/-- 'graduslaw08.InstResolves': WHATEVER THE INPUT: true; the input reads as it did. -/
def instResolvesSpec : ChangeSpec := { name := "instResolves", fn := fun _ => fun
  | [d1, d2, d3] => { results := [.lit (.bool true)], args := [d1, d2, d3] }
  | _ => none }
def instResolvesRow : OpenClaim := { program := "ytbanpohholnkaaadoor", sum := "23b2db30dd7a47a2c4aa6965778eaad48094e2bd9e2657bf0a3e3aed4f2c6bf4", func := "gradus/graduslaw08.InstResolves", spec := "instResolves", unfollowed := true, recurses := true, named := ["strings.asciiSpace", "unicode.White_Space"], loops := true, plainKeys := false, apart := false, laid := [("unicode.White_Space", laid_unicode_White_Space), ("strings.asciiSpace", laid_strings_asciiSpace)] }
def InstResolvesSaid : Prop := instResolvesRow.holds Tryd.pinned (OpenSpec.ofChange instResolvesSpec)

/-- ITS FALSE NEIGHBOUR: 'it returns false'. Refute it at one input. -/
def instResolvesWrong : ChangeSpec := { name := "instResolves", fn := fun _ => fun
  | [d1, d2, d3] => { results := [.lit (.bool false)], args := [d1, d2, d3] }
  | _ => none }
def InstResolvesWrongFalsely : Prop := instResolvesRow.holds Tryd.pinned (OpenSpec.ofChange instResolvesWrong)

/-- 'graduslaw08.InstOne': WHATEVER THE INPUT: true; the input reads as it did. -/
def instOneSpec : ChangeSpec := { name := "instOne", fn := fun _ => fun
  | [d] => { results := [.lit (.bool true)], args := [d] }
  | _ => none }
def instOneRow : OpenClaim := { program := "ytbanpohholnkaaadoor", sum := "23b2db30dd7a47a2c4aa6965778eaad48094e2bd9e2657bf0a3e3aed4f2c6bf4", func := "gradus/graduslaw08.InstOne", spec := "instOne", unfollowed := true, recurses := true, named := ["strings.asciiSpace", "unicode.White_Space"], loops := true, plainKeys := false, apart := false, laid := [("unicode.White_Space", laid_unicode_White_Space), ("strings.asciiSpace", laid_strings_asciiSpace)] }
def InstOneSaid : Prop := instOneRow.holds Tryd.pinned (OpenSpec.ofChange instOneSpec)

/-- ITS FALSE NEIGHBOUR: 'it returns false'. Refute it at one input. -/
def instOneWrong : ChangeSpec := { name := "instOne", fn := fun _ => fun
  | [d] => { results := [.lit (.bool false)], args := [d] }
  | _ => none }
def InstOneWrongFalsely : Prop := instOneRow.holds Tryd.pinned (OpenSpec.ofChange instOneWrong)

/-- 'graduslaw06.RelJoinsBoth': WHATEVER THE INPUT: true; the input reads as it did. -/
def relJoinsBothSpec : ChangeSpec := { name := "relJoinsBoth", fn := fun _ => fun
  | [d1, d2] => { results := [.lit (.bool true)], args := [d1, d2] }
  | _ => none }
def relJoinsBothRow : OpenClaim := { program := "ytbanpohholnkaaadoor", sum := "23b2db30dd7a47a2c4aa6965778eaad48094e2bd9e2657bf0a3e3aed4f2c6bf4", func := "gradus/graduslaw06.RelJoinsBoth", spec := "relJoinsBoth", unfollowed := true, recurses := true, named := ["strings.asciiSpace", "unicode.White_Space"], loops := true, plainKeys := false, apart := false, laid := [("unicode.White_Space", laid_unicode_White_Space), ("strings.asciiSpace", laid_strings_asciiSpace)] }
def RelJoinsBothSaid : Prop := relJoinsBothRow.holds Tryd.pinned (OpenSpec.ofChange relJoinsBothSpec)

/-- ITS FALSE NEIGHBOUR: 'it returns false'. Refute it at one input. -/
def relJoinsBothWrong : ChangeSpec := { name := "relJoinsBoth", fn := fun _ => fun
  | [d1, d2] => { results := [.lit (.bool false)], args := [d1, d2] }
  | _ => none }
def RelJoinsBothWrongFalsely : Prop := relJoinsBothRow.holds Tryd.pinned (OpenSpec.ofChange relJoinsBothWrong)

/-- 'graduslaw08.InstAgain': WHATEVER THE INPUT: true; the input reads as it did. -/
def instAgainSpec : ChangeSpec := { name := "instAgain", fn := fun _ => fun
  | [d1, d2] => { results := [.lit (.bool true)], args := [d1, d2] }
  | _ => none }
def instAgainRow : OpenClaim := { program := "ytbanpohholnkaaadoor", sum := "23b2db30dd7a47a2c4aa6965778eaad48094e2bd9e2657bf0a3e3aed4f2c6bf4", func := "gradus/graduslaw08.InstAgain", spec := "instAgain", inPlace := ["internal/abi.NoEscape", "internal/bytealg.MakeNoZero"], unfollowed := true, recurses := true, named := ["strings.asciiSpace", "unicode.White_Space"], loops := true, plainKeys := false, apart := false, laid := [("unicode.White_Space", laid_unicode_White_Space), ("strings.asciiSpace", laid_strings_asciiSpace)] }
def InstAgainSaid : Prop := instAgainRow.holds Tryd.pinned (OpenSpec.ofChange instAgainSpec)

/-- ITS FALSE NEIGHBOUR: 'it returns false'. Refute it at one input. -/
def instAgainWrong : ChangeSpec := { name := "instAgain", fn := fun _ => fun
  | [d1, d2] => { results := [.lit (.bool false)], args := [d1, d2] }
  | _ => none }
def InstAgainWrongFalsely : Prop := instAgainRow.holds Tryd.pinned (OpenSpec.ofChange instAgainWrong)

/- THE SECOND FORM. 'bulk': how many values and letters a reading holds, each counted each time it is reached (what is shared counts as often as it is met; a slice's spare places count too). A statement '..UptoSaid' is the law's where the arguments, and the package variables that the reading takes, are together of bulk at most 1048576: NARROWER than '..Said'. Prove '..Said' where nothing that the law and all that it calls make is longer than what came in: it says more and counts as full. Else prove '..UptoSaid'. A law counts once. -/
mutual
def uptoBulk {H : Type} : DataW H → Nat
  | .lit (.string bytes) => bytes.length + 1
  | .lit _ => 1
  | .nil => 1
  | .ptr d => uptoBulk d + 1
  | .slice elems spare => uptoBulkAll elems + uptoBulkAll spare + 1
  | .agg parts => uptoBulkAll parts + 1
  | .iface _ d => uptoBulk d + 1
  | .map entries => uptoBulkEntries entries + 1
  | .held _ => 1
def uptoBulkAll {H : Type} : List (DataW H) → Nat
  | [] => 0
  | d :: r => uptoBulk d + uptoBulkAll r
def uptoBulkEntries {H : Type} : List (Lit × DataW H) → Nat
  | [] => 0
  | x :: r => uptoBulkEntry x + uptoBulkEntries r
def uptoBulkEntry {H : Type} : Lit × DataW H → Nat
  | (.string bytes, d) => bytes.length + uptoBulk d + 1
  | (_, d) => uptoBulk d + 1
 end
def uptoSmall : (H : Type) → List (DataW H) → Bool := fun _ ds => decide (uptoBulkAll ds ≤ 1048576)
def OpenSpec.upto (s : _root_.Go.ChangeSpec) : _root_.Go.OpenSpec := { _root_.Go.OpenSpec.ofChange s with cond := some uptoSmall }

/-- 'graduslaw06.RelStatic', WHERE WHAT IT READS IS OF BULK AT MOST 1048576: true; the input reads as it did. -/
def relStaticUptoRow : OpenClaim := { program := "ytbanpohholnkaaadoor", sum := "23b2db30dd7a47a2c4aa6965778eaad48094e2bd9e2657bf0a3e3aed4f2c6bf4", func := "gradus/graduslaw06.RelStatic", spec := "relStatic", unfollowed := true, recurses := true, named := ["strings.asciiSpace", "unicode.White_Space"], loops := true, plainKeys := false, apart := false, laid := [("unicode.White_Space", laid_unicode_White_Space), ("strings.asciiSpace", laid_strings_asciiSpace)], narrowed := true }
def RelStaticUptoSaid : Prop := relStaticUptoRow.holds Tryd.pinned (OpenSpec.upto relStaticSpec)

/-- 'graduslaw06.RelLoose', WHERE WHAT IT READS IS OF BULK AT MOST 1048576: true; the input reads as it did. -/
def relLooseUptoRow : OpenClaim := { program := "ytbanpohholnkaaadoor", sum := "23b2db30dd7a47a2c4aa6965778eaad48094e2bd9e2657bf0a3e3aed4f2c6bf4", func := "gradus/graduslaw06.RelLoose", spec := "relLoose", unfollowed := true, recurses := true, named := ["strings.asciiSpace", "unicode.White_Space"], loops := true, plainKeys := false, apart := false, laid := [("unicode.White_Space", laid_unicode_White_Space), ("strings.asciiSpace", laid_strings_asciiSpace)], narrowed := true }
def RelLooseUptoSaid : Prop := relLooseUptoRow.holds Tryd.pinned (OpenSpec.upto relLooseSpec)

/-- 'graduslaw06.RelFuns', WHERE WHAT IT READS IS OF BULK AT MOST 1048576: true; the input reads as it did. -/
def relFunsUptoRow : OpenClaim := { program := "ytbanpohholnkaaadoor", sum := "23b2db30dd7a47a2c4aa6965778eaad48094e2bd9e2657bf0a3e3aed4f2c6bf4", func := "gradus/graduslaw06.RelFuns", spec := "relFuns", unfollowed := true, recurses := true, named := ["strings.asciiSpace", "unicode.White_Space"], loops := true, plainKeys := false, apart := false, laid := [("unicode.White_Space", laid_unicode_White_Space), ("strings.asciiSpace", laid_strings_asciiSpace)], narrowed := true }
def RelFunsUptoSaid : Prop := relFunsUptoRow.holds Tryd.pinned (OpenSpec.upto relFunsSpec)

/-- 'graduslaw06.RelUnions', WHERE WHAT IT READS IS OF BULK AT MOST 1048576: true; the input reads as it did. -/
def relUnionsUptoRow : OpenClaim := { program := "ytbanpohholnkaaadoor", sum := "23b2db30dd7a47a2c4aa6965778eaad48094e2bd9e2657bf0a3e3aed4f2c6bf4", func := "gradus/graduslaw06.RelUnions", spec := "relUnions", unfollowed := true, recurses := true, named := ["strings.asciiSpace", "unicode.White_Space"], loops := true, plainKeys := false, apart := false, laid := [("unicode.White_Space", laid_unicode_White_Space), ("strings.asciiSpace", laid_strings_asciiSpace)], narrowed := true }
def RelUnionsUptoSaid : Prop := relUnionsUptoRow.holds Tryd.pinned (OpenSpec.upto relUnionsSpec)

/-- 'graduslaw06.RelAny', WHERE WHAT IT READS IS OF BULK AT MOST 1048576: true; the input reads as it did. -/
def relAnyUptoRow : OpenClaim := { program := "ytbanpohholnkaaadoor", sum := "23b2db30dd7a47a2c4aa6965778eaad48094e2bd9e2657bf0a3e3aed4f2c6bf4", func := "gradus/graduslaw06.RelAny", spec := "relAny", unfollowed := true, recurses := true, named := ["strings.asciiSpace", "unicode.White_Space"], loops := true, plainKeys := false, apart := false, laid := [("unicode.White_Space", laid_unicode_White_Space), ("strings.asciiSpace", laid_strings_asciiSpace)], narrowed := true }
def RelAnyUptoSaid : Prop := relAnyUptoRow.holds Tryd.pinned (OpenSpec.upto relAnySpec)

/-- 'graduslaw08.InstResolves', WHERE WHAT IT READS IS OF BULK AT MOST 1048576: true; the input reads as it did. -/
def instResolvesUptoRow : OpenClaim := { program := "ytbanpohholnkaaadoor", sum := "23b2db30dd7a47a2c4aa6965778eaad48094e2bd9e2657bf0a3e3aed4f2c6bf4", func := "gradus/graduslaw08.InstResolves", spec := "instResolves", unfollowed := true, recurses := true, named := ["strings.asciiSpace", "unicode.White_Space"], loops := true, plainKeys := false, apart := false, laid := [("unicode.White_Space", laid_unicode_White_Space), ("strings.asciiSpace", laid_strings_asciiSpace)], narrowed := true }
def InstResolvesUptoSaid : Prop := instResolvesUptoRow.holds Tryd.pinned (OpenSpec.upto instResolvesSpec)

/-- 'graduslaw08.InstOne', WHERE WHAT IT READS IS OF BULK AT MOST 1048576: true; the input reads as it did. -/
def instOneUptoRow : OpenClaim := { program := "ytbanpohholnkaaadoor", sum := "23b2db30dd7a47a2c4aa6965778eaad48094e2bd9e2657bf0a3e3aed4f2c6bf4", func := "gradus/graduslaw08.InstOne", spec := "instOne", unfollowed := true, recurses := true, named := ["strings.asciiSpace", "unicode.White_Space"], loops := true, plainKeys := false, apart := false, laid := [("unicode.White_Space", laid_unicode_White_Space), ("strings.asciiSpace", laid_strings_asciiSpace)], narrowed := true }
def InstOneUptoSaid : Prop := instOneUptoRow.holds Tryd.pinned (OpenSpec.upto instOneSpec)

/-- 'graduslaw06.RelJoinsBoth', WHERE WHAT IT READS IS OF BULK AT MOST 1048576: true; the input reads as it did. -/
def relJoinsBothUptoRow : OpenClaim := { program := "ytbanpohholnkaaadoor", sum := "23b2db30dd7a47a2c4aa6965778eaad48094e2bd9e2657bf0a3e3aed4f2c6bf4", func := "gradus/graduslaw06.RelJoinsBoth", spec := "relJoinsBoth", unfollowed := true, recurses := true, named := ["strings.asciiSpace", "unicode.White_Space"], loops := true, plainKeys := false, apart := false, laid := [("unicode.White_Space", laid_unicode_White_Space), ("strings.asciiSpace", laid_strings_asciiSpace)], narrowed := true }
def RelJoinsBothUptoSaid : Prop := relJoinsBothUptoRow.holds Tryd.pinned (OpenSpec.upto relJoinsBothSpec)

/-- 'graduslaw08.InstAgain', WHERE WHAT IT READS IS OF BULK AT MOST 1048576: true; the input reads as it did. -/
def instAgainUptoRow : OpenClaim := { program := "ytbanpohholnkaaadoor", sum := "23b2db30dd7a47a2c4aa6965778eaad48094e2bd9e2657bf0a3e3aed4f2c6bf4", func := "gradus/graduslaw08.InstAgain", spec := "instAgain", inPlace := ["internal/abi.NoEscape", "internal/bytealg.MakeNoZero"], unfollowed := true, recurses := true, named := ["strings.asciiSpace", "unicode.White_Space"], loops := true, plainKeys := false, apart := false, laid := [("unicode.White_Space", laid_unicode_White_Space), ("strings.asciiSpace", laid_strings_asciiSpace)], narrowed := true }
def InstAgainUptoSaid : Prop := instAgainUptoRow.holds Tryd.pinned (OpenSpec.upto instAgainSpec)

end Rows
end Go.Proofs.YtbanpohholnkaaaDoor
