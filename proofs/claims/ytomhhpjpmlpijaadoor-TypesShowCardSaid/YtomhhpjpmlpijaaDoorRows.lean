/-
  NARROWER THAN 'FOR EVERY INPUT', by the rows' own cells (each row's printed sentence says how): TypesNorm: loops, laid · TypesMeasure: loops, laid · TypesSame: loops, laid · TypesShow: loops, laid · TypesUnions: loops, laid · TypesFields: loops, laid · TypesWithin: loops, laid · TypesParts: loops, laid.
  DERIVED. THE GIVEN ROWS OF THIS SEAT. 8 by the template 'for every input the law returns true; each argument reads behind the call as it read before'; 0 by the template 'total and deterministic' (their statements: YtomhhpjpmlpijaaDoorTotals.lean).
  GIVEN WITH THE SEED: the statements are not yours to turn. If you find one false, say at which input.
  Laid BY PROGRAM, IN A SANDBOX (cutbox-rows.mjs): the forced cells as the released guide's own fill.sh prints them over the translation 954a116541c2b862… (all of the seat's roots in one cut). By AI agents, Wed Nov 11 2026. No macro, syntax, notation, axiom, sorry.
-/
import Derived.Test.YtomhhpjpmlpijaaDoorChecked
import GoSem.Claim
import GoSem.ClaimJoined
import GoSem.ClaimMapViews
import Derived.JoinedTies
import Derived.KernelRfl
namespace Go.Proofs.YtomhhpjpmlpijaaDoor
/- THE CELL 'sum', in the pinned program and in every row, IS THE sha256 OF THE DUMP (.gsa) THAT YtomhhpjpmlpijaaDoorProg.lean LOADS. Nothing in Lean hashes anything: it is a label: what it is worth is what the hold of that sum in a sandbox is worth. -/
noncomputable def Tryd.pinned : Pinned := { name := "ytomhhpjpmlpijaadoor", sum := "954a116541c2b862a2734f0b894e8bc430cc4d94245d0665ae297e6794109ee6", checked := Tryd.checked }
namespace Rows
def none {H : Type} : Left H := { results := [], args := [] }

/- WHAT THE LISTED PACKAGE-LEVEL VARIABLES READ AS WHEN THE CALL BEGINS. Each datum BY PROGRAM (the guide's laid-datum.mjs) off the statement by which the dump's own 'gosem.cut.vars' lays the variable. In a bare row this is a premise. The card (YtomhhpjpmlpijaaDoorCards.lean) ties it to the program's text. -/
def laid_unicode_White_Space {H : Type} : DataW H := .ptr (.agg [.slice [.agg [.lit (.int .u16 9), .lit (.int .u16 13), .lit (.int .u16 1)], .agg [.lit (.int .u16 32), .lit (.int .u16 133), .lit (.int .u16 101)], .agg [.lit (.int .u16 160), .lit (.int .u16 5760), .lit (.int .u16 5600)], .agg [.lit (.int .u16 8192), .lit (.int .u16 8202), .lit (.int .u16 1)], .agg [.lit (.int .u16 8232), .lit (.int .u16 8233), .lit (.int .u16 1)], .agg [.lit (.int .u16 8239), .lit (.int .u16 8287), .lit (.int .u16 48)], .agg [.lit (.int .u16 12288), .lit (.int .u16 12288), .lit (.int .u16 1)]] [], .nil, .lit (.int .i64 2)])
def laid_strings_asciiSpace {H : Type} : DataW H := .agg [.lit (.int .u8 0), .lit (.int .u8 0), .lit (.int .u8 0), .lit (.int .u8 0), .lit (.int .u8 0), .lit (.int .u8 0), .lit (.int .u8 0), .lit (.int .u8 0), .lit (.int .u8 0), .lit (.int .u8 1), .lit (.int .u8 1), .lit (.int .u8 1), .lit (.int .u8 1), .lit (.int .u8 1), .lit (.int .u8 0), .lit (.int .u8 0), .lit (.int .u8 0), .lit (.int .u8 0), .lit (.int .u8 0), .lit (.int .u8 0), .lit (.int .u8 0), .lit (.int .u8 0), .lit (.int .u8 0), .lit (.int .u8 0), .lit (.int .u8 0), .lit (.int .u8 0), .lit (.int .u8 0), .lit (.int .u8 0), .lit (.int .u8 0), .lit (.int .u8 0), .lit (.int .u8 0), .lit (.int .u8 0), .lit (.int .u8 1), .lit (.int .u8 0), .lit (.int .u8 0), .lit (.int .u8 0), .lit (.int .u8 0), .lit (.int .u8 0), .lit (.int .u8 0), .lit (.int .u8 0), .lit (.int .u8 0), .lit (.int .u8 0), .lit (.int .u8 0), .lit (.int .u8 0), .lit (.int .u8 0), .lit (.int .u8 0), .lit (.int .u8 0), .lit (.int .u8 0), .lit (.int .u8 0), .lit (.int .u8 0), .lit (.int .u8 0), .lit (.int .u8 0), .lit (.int .u8 0), .lit (.int .u8 0), .lit (.int .u8 0), .lit (.int .u8 0), .lit (.int .u8 0), .lit (.int .u8 0), .lit (.int .u8 0), .lit (.int .u8 0), .lit (.int .u8 0), .lit (.int .u8 0), .lit (.int .u8 0), .lit (.int .u8 0), .lit (.int .u8 0), .lit (.int .u8 0), .lit (.int .u8 0), .lit (.int .u8 0), .lit (.int .u8 0), .lit (.int .u8 0), .lit (.int .u8 0), .lit (.int .u8 0), .lit (.int .u8 0), .lit (.int .u8 0), .lit (.int .u8 0), .lit (.int .u8 0), .lit (.int .u8 0), .lit (.int .u8 0), .lit (.int .u8 0), .lit (.int .u8 0), .lit (.int .u8 0), .lit (.int .u8 0), .lit (.int .u8 0), .lit (.int .u8 0), .lit (.int .u8 0), .lit (.int .u8 0), .lit (.int .u8 0), .lit (.int .u8 0), .lit (.int .u8 0), .lit (.int .u8 0), .lit (.int .u8 0), .lit (.int .u8 0), .lit (.int .u8 0), .lit (.int .u8 0), .lit (.int .u8 0), .lit (.int .u8 0), .lit (.int .u8 0), .lit (.int .u8 0), .lit (.int .u8 0), .lit (.int .u8 0), .lit (.int .u8 0), .lit (.int .u8 0), .lit (.int .u8 0), .lit (.int .u8 0), .lit (.int .u8 0), .lit (.int .u8 0), .lit (.int .u8 0), .lit (.int .u8 0), .lit (.int .u8 0), .lit (.int .u8 0), .lit (.int .u8 0), .lit (.int .u8 0), .lit (.int .u8 0), .lit (.int .u8 0), .lit (.int .u8 0), .lit (.int .u8 0), .lit (.int .u8 0), .lit (.int .u8 0), .lit (.int .u8 0), .lit (.int .u8 0), .lit (.int .u8 0), .lit (.int .u8 0), .lit (.int .u8 0), .lit (.int .u8 0), .lit (.int .u8 0), .lit (.int .u8 0), .lit (.int .u8 0), .lit (.int .u8 0), .lit (.int .u8 0), .lit (.int .u8 0), .lit (.int .u8 0), .lit (.int .u8 0), .lit (.int .u8 0), .lit (.int .u8 0), .lit (.int .u8 0), .lit (.int .u8 0), .lit (.int .u8 0), .lit (.int .u8 0), .lit (.int .u8 0), .lit (.int .u8 0), .lit (.int .u8 0), .lit (.int .u8 0), .lit (.int .u8 0), .lit (.int .u8 0), .lit (.int .u8 0), .lit (.int .u8 0), .lit (.int .u8 0), .lit (.int .u8 0), .lit (.int .u8 0), .lit (.int .u8 0), .lit (.int .u8 0), .lit (.int .u8 0), .lit (.int .u8 0), .lit (.int .u8 0), .lit (.int .u8 0), .lit (.int .u8 0), .lit (.int .u8 0), .lit (.int .u8 0), .lit (.int .u8 0), .lit (.int .u8 0), .lit (.int .u8 0), .lit (.int .u8 0), .lit (.int .u8 0), .lit (.int .u8 0), .lit (.int .u8 0), .lit (.int .u8 0), .lit (.int .u8 0), .lit (.int .u8 0), .lit (.int .u8 0), .lit (.int .u8 0), .lit (.int .u8 0), .lit (.int .u8 0), .lit (.int .u8 0), .lit (.int .u8 0), .lit (.int .u8 0), .lit (.int .u8 0), .lit (.int .u8 0), .lit (.int .u8 0), .lit (.int .u8 0), .lit (.int .u8 0), .lit (.int .u8 0), .lit (.int .u8 0), .lit (.int .u8 0), .lit (.int .u8 0), .lit (.int .u8 0), .lit (.int .u8 0), .lit (.int .u8 0), .lit (.int .u8 0), .lit (.int .u8 0), .lit (.int .u8 0), .lit (.int .u8 0), .lit (.int .u8 0), .lit (.int .u8 0), .lit (.int .u8 0), .lit (.int .u8 0), .lit (.int .u8 0), .lit (.int .u8 0), .lit (.int .u8 0), .lit (.int .u8 0), .lit (.int .u8 0), .lit (.int .u8 0), .lit (.int .u8 0), .lit (.int .u8 0), .lit (.int .u8 0), .lit (.int .u8 0), .lit (.int .u8 0), .lit (.int .u8 0), .lit (.int .u8 0), .lit (.int .u8 0), .lit (.int .u8 0), .lit (.int .u8 0), .lit (.int .u8 0), .lit (.int .u8 0), .lit (.int .u8 0), .lit (.int .u8 0), .lit (.int .u8 0), .lit (.int .u8 0), .lit (.int .u8 0), .lit (.int .u8 0), .lit (.int .u8 0), .lit (.int .u8 0), .lit (.int .u8 0), .lit (.int .u8 0), .lit (.int .u8 0), .lit (.int .u8 0), .lit (.int .u8 0), .lit (.int .u8 0), .lit (.int .u8 0), .lit (.int .u8 0), .lit (.int .u8 0), .lit (.int .u8 0), .lit (.int .u8 0), .lit (.int .u8 0), .lit (.int .u8 0), .lit (.int .u8 0), .lit (.int .u8 0), .lit (.int .u8 0), .lit (.int .u8 0), .lit (.int .u8 0), .lit (.int .u8 0), .lit (.int .u8 0), .lit (.int .u8 0), .lit (.int .u8 0), .lit (.int .u8 0), .lit (.int .u8 0), .lit (.int .u8 0), .lit (.int .u8 0), .lit (.int .u8 0), .lit (.int .u8 0), .lit (.int .u8 0), .lit (.int .u8 0), .lit (.int .u8 0), .lit (.int .u8 0), .lit (.int .u8 0), .lit (.int .u8 0), .lit (.int .u8 0)]

/-- 'graduslaw03.TypesNorm': WHATEVER THE INPUT: true; the input reads as it did. -/
def typesNormSpec : ChangeSpec := { name := "typesNorm", fn := fun _ => fun
  | [d] => { results := [.lit (.bool true)], args := [d] }
  | _ => none }
def typesNormRow : OpenClaim := { program := "ytomhhpjpmlpijaadoor", sum := "954a116541c2b862a2734f0b894e8bc430cc4d94245d0665ae297e6794109ee6", func := "gradus/graduslaw03.TypesNorm", spec := "typesNorm", inPlace := ["internal/abi.NoEscape", "internal/bytealg.MakeNoZero"], unfollowed := true, recurses := true, named := ["strings.asciiSpace", "unicode.White_Space"], loops := true, apart := false, laid := [("unicode.White_Space", laid_unicode_White_Space), ("strings.asciiSpace", laid_strings_asciiSpace)] }
def TypesNormSaid : Prop := typesNormRow.holds Tryd.pinned (OpenSpec.ofChange typesNormSpec)

/-- ITS FALSE NEIGHBOUR: 'it returns false'. Refute it at one input. -/
def typesNormWrong : ChangeSpec := { name := "typesNorm", fn := fun _ => fun
  | [d] => { results := [.lit (.bool false)], args := [d] }
  | _ => none }
def TypesNormWrongFalsely : Prop := typesNormRow.holds Tryd.pinned (OpenSpec.ofChange typesNormWrong)

/-- 'graduslaw03.TypesMeasure': WHATEVER THE INPUT: true; the input reads as it did. -/
def typesMeasureSpec : ChangeSpec := { name := "typesMeasure", fn := fun _ => fun
  | [d] => { results := [.lit (.bool true)], args := [d] }
  | _ => none }
def typesMeasureRow : OpenClaim := { program := "ytomhhpjpmlpijaadoor", sum := "954a116541c2b862a2734f0b894e8bc430cc4d94245d0665ae297e6794109ee6", func := "gradus/graduslaw03.TypesMeasure", spec := "typesMeasure", inPlace := ["internal/abi.NoEscape", "internal/bytealg.MakeNoZero"], unfollowed := true, recurses := true, named := ["strings.asciiSpace", "unicode.White_Space"], loops := true, apart := false, laid := [("unicode.White_Space", laid_unicode_White_Space), ("strings.asciiSpace", laid_strings_asciiSpace)] }
def TypesMeasureSaid : Prop := typesMeasureRow.holds Tryd.pinned (OpenSpec.ofChange typesMeasureSpec)

/-- ITS FALSE NEIGHBOUR: 'it returns false'. Refute it at one input. -/
def typesMeasureWrong : ChangeSpec := { name := "typesMeasure", fn := fun _ => fun
  | [d] => { results := [.lit (.bool false)], args := [d] }
  | _ => none }
def TypesMeasureWrongFalsely : Prop := typesMeasureRow.holds Tryd.pinned (OpenSpec.ofChange typesMeasureWrong)

/-- 'graduslaw03.TypesSame': WHATEVER THE INPUT: true; the input reads as it did. -/
def typesSameSpec : ChangeSpec := { name := "typesSame", fn := fun _ => fun
  | [d1, d2] => { results := [.lit (.bool true)], args := [d1, d2] }
  | _ => none }
def typesSameRow : OpenClaim := { program := "ytomhhpjpmlpijaadoor", sum := "954a116541c2b862a2734f0b894e8bc430cc4d94245d0665ae297e6794109ee6", func := "gradus/graduslaw03.TypesSame", spec := "typesSame", inPlace := ["internal/abi.NoEscape", "internal/bytealg.MakeNoZero"], unfollowed := true, recurses := true, named := ["strings.asciiSpace", "unicode.White_Space"], loops := true, apart := false, laid := [("unicode.White_Space", laid_unicode_White_Space), ("strings.asciiSpace", laid_strings_asciiSpace)] }
def TypesSameSaid : Prop := typesSameRow.holds Tryd.pinned (OpenSpec.ofChange typesSameSpec)

/-- ITS FALSE NEIGHBOUR: 'it returns false'. Refute it at one input. -/
def typesSameWrong : ChangeSpec := { name := "typesSame", fn := fun _ => fun
  | [d1, d2] => { results := [.lit (.bool false)], args := [d1, d2] }
  | _ => none }
def TypesSameWrongFalsely : Prop := typesSameRow.holds Tryd.pinned (OpenSpec.ofChange typesSameWrong)

/-- 'graduslaw03.TypesShow': WHATEVER THE INPUT: true; the input reads as it did. -/
def typesShowSpec : ChangeSpec := { name := "typesShow", fn := fun _ => fun
  | [d1, d2] => { results := [.lit (.bool true)], args := [d1, d2] }
  | _ => none }
def typesShowRow : OpenClaim := { program := "ytomhhpjpmlpijaadoor", sum := "954a116541c2b862a2734f0b894e8bc430cc4d94245d0665ae297e6794109ee6", func := "gradus/graduslaw03.TypesShow", spec := "typesShow", inPlace := ["internal/abi.NoEscape", "internal/bytealg.MakeNoZero"], unfollowed := true, recurses := true, named := ["strings.asciiSpace", "unicode.White_Space"], loops := true, apart := false, laid := [("unicode.White_Space", laid_unicode_White_Space), ("strings.asciiSpace", laid_strings_asciiSpace)] }
def TypesShowSaid : Prop := typesShowRow.holds Tryd.pinned (OpenSpec.ofChange typesShowSpec)

/-- ITS FALSE NEIGHBOUR: 'it returns false'. Refute it at one input. -/
def typesShowWrong : ChangeSpec := { name := "typesShow", fn := fun _ => fun
  | [d1, d2] => { results := [.lit (.bool false)], args := [d1, d2] }
  | _ => none }
def TypesShowWrongFalsely : Prop := typesShowRow.holds Tryd.pinned (OpenSpec.ofChange typesShowWrong)

/-- 'graduslaw03.TypesUnions': WHATEVER THE INPUT: true; the input reads as it did. -/
def typesUnionsSpec : ChangeSpec := { name := "typesUnions", fn := fun _ => fun
  | [d1, d2] => { results := [.lit (.bool true)], args := [d1, d2] }
  | _ => none }
def typesUnionsRow : OpenClaim := { program := "ytomhhpjpmlpijaadoor", sum := "954a116541c2b862a2734f0b894e8bc430cc4d94245d0665ae297e6794109ee6", func := "gradus/graduslaw03.TypesUnions", spec := "typesUnions", inPlace := ["internal/abi.NoEscape", "internal/bytealg.MakeNoZero"], unfollowed := true, recurses := true, named := ["strings.asciiSpace", "unicode.White_Space"], loops := true, apart := false, laid := [("unicode.White_Space", laid_unicode_White_Space), ("strings.asciiSpace", laid_strings_asciiSpace)] }
def TypesUnionsSaid : Prop := typesUnionsRow.holds Tryd.pinned (OpenSpec.ofChange typesUnionsSpec)

/-- ITS FALSE NEIGHBOUR: 'it returns false'. Refute it at one input. -/
def typesUnionsWrong : ChangeSpec := { name := "typesUnions", fn := fun _ => fun
  | [d1, d2] => { results := [.lit (.bool false)], args := [d1, d2] }
  | _ => none }
def TypesUnionsWrongFalsely : Prop := typesUnionsRow.holds Tryd.pinned (OpenSpec.ofChange typesUnionsWrong)

/-- 'graduslaw03.TypesFields': WHATEVER THE INPUT: true; the input reads as it did. -/
def typesFieldsSpec : ChangeSpec := { name := "typesFields", fn := fun _ => fun
  | [d1, d2] => { results := [.lit (.bool true)], args := [d1, d2] }
  | _ => none }
def typesFieldsRow : OpenClaim := { program := "ytomhhpjpmlpijaadoor", sum := "954a116541c2b862a2734f0b894e8bc430cc4d94245d0665ae297e6794109ee6", func := "gradus/graduslaw03.TypesFields", spec := "typesFields", inPlace := ["internal/abi.NoEscape", "internal/bytealg.MakeNoZero"], unfollowed := true, recurses := true, named := ["strings.asciiSpace", "unicode.White_Space"], loops := true, apart := false, laid := [("unicode.White_Space", laid_unicode_White_Space), ("strings.asciiSpace", laid_strings_asciiSpace)] }
def TypesFieldsSaid : Prop := typesFieldsRow.holds Tryd.pinned (OpenSpec.ofChange typesFieldsSpec)

/-- ITS FALSE NEIGHBOUR: 'it returns false'. Refute it at one input. -/
def typesFieldsWrong : ChangeSpec := { name := "typesFields", fn := fun _ => fun
  | [d1, d2] => { results := [.lit (.bool false)], args := [d1, d2] }
  | _ => none }
def TypesFieldsWrongFalsely : Prop := typesFieldsRow.holds Tryd.pinned (OpenSpec.ofChange typesFieldsWrong)

/-- 'graduslaw03.TypesWithin': WHATEVER THE INPUT: true; the input reads as it did. -/
def typesWithinSpec : ChangeSpec := { name := "typesWithin", fn := fun _ => fun
  | [d] => { results := [.lit (.bool true)], args := [d] }
  | _ => none }
def typesWithinRow : OpenClaim := { program := "ytomhhpjpmlpijaadoor", sum := "954a116541c2b862a2734f0b894e8bc430cc4d94245d0665ae297e6794109ee6", func := "gradus/graduslaw03.TypesWithin", spec := "typesWithin", inPlace := ["internal/abi.NoEscape", "internal/bytealg.MakeNoZero"], unfollowed := true, recurses := true, named := ["strings.asciiSpace", "unicode.White_Space"], loops := true, apart := false, laid := [("unicode.White_Space", laid_unicode_White_Space), ("strings.asciiSpace", laid_strings_asciiSpace)] }
def TypesWithinSaid : Prop := typesWithinRow.holds Tryd.pinned (OpenSpec.ofChange typesWithinSpec)

/-- ITS FALSE NEIGHBOUR: 'it returns false'. Refute it at one input. -/
def typesWithinWrong : ChangeSpec := { name := "typesWithin", fn := fun _ => fun
  | [d] => { results := [.lit (.bool false)], args := [d] }
  | _ => none }
def TypesWithinWrongFalsely : Prop := typesWithinRow.holds Tryd.pinned (OpenSpec.ofChange typesWithinWrong)

/-- 'graduslaw03.TypesParts': WHATEVER THE INPUT: true; the input reads as it did. -/
def typesPartsSpec : ChangeSpec := { name := "typesParts", fn := fun _ => fun
  | [d1, d2] => { results := [.lit (.bool true)], args := [d1, d2] }
  | _ => none }
def typesPartsRow : OpenClaim := { program := "ytomhhpjpmlpijaadoor", sum := "954a116541c2b862a2734f0b894e8bc430cc4d94245d0665ae297e6794109ee6", func := "gradus/graduslaw03.TypesParts", spec := "typesParts", inPlace := ["internal/abi.NoEscape", "internal/bytealg.MakeNoZero"], unfollowed := true, recurses := true, named := ["strings.asciiSpace", "unicode.White_Space"], loops := true, apart := false, laid := [("unicode.White_Space", laid_unicode_White_Space), ("strings.asciiSpace", laid_strings_asciiSpace)] }
def TypesPartsSaid : Prop := typesPartsRow.holds Tryd.pinned (OpenSpec.ofChange typesPartsSpec)

/-- ITS FALSE NEIGHBOUR: 'it returns false'. Refute it at one input. -/
def typesPartsWrong : ChangeSpec := { name := "typesParts", fn := fun _ => fun
  | [d1, d2] => { results := [.lit (.bool false)], args := [d1, d2] }
  | _ => none }
def TypesPartsWrongFalsely : Prop := typesPartsRow.holds Tryd.pinned (OpenSpec.ofChange typesPartsWrong)

/- THE SECOND FORM. 'bulk': how many values and letters a reading holds, each counted each time it is reached (what is shared counts as often as it is met; a slice's spare places count too). A statement '..UptoSaid' is the law's where the arguments, and the package variables that the reading takes, are together of bulk at most 1048576: NARROWER than '..Said'. Prove '..Said' where nothing that the law and all that it calls make is longer than what came in: it says more and counts as full. Else prove '..UptoSaid'. A law counts once. -/
mutual
def uptoBulk {H : Type} : DataW H → Nat
  | .lit (.string bytes) => bytes.length + 1
  | .lit _ => 1
  | .nil => 1
  | .ptr d => uptoBulk d + 1
  | .slice elems spare => uptoBulkAll elems + uptoBulkAll spare + 1
  | .agg parts => uptoBulkAll parts + 1
  | .iface _ d => uptoBulk d + 1
  | .map entries => uptoBulkEntries entries + 1
  | .held _ => 1
def uptoBulkAll {H : Type} : List (DataW H) → Nat
  | [] => 0
  | d :: r => uptoBulk d + uptoBulkAll r
def uptoBulkEntries {H : Type} : List (Lit × DataW H) → Nat
  | [] => 0
  | x :: r => uptoBulkEntry x + uptoBulkEntries r
def uptoBulkEntry {H : Type} : Lit × DataW H → Nat
  | (.string bytes, d) => bytes.length + uptoBulk d + 1
  | (_, d) => uptoBulk d + 1
 end
def uptoSmall : (H : Type) → List (DataW H) → Bool := fun _ ds => decide (uptoBulkAll ds ≤ 1048576)
def OpenSpec.upto (s : _root_.Go.ChangeSpec) : _root_.Go.OpenSpec := { _root_.Go.OpenSpec.ofChange s with cond := some uptoSmall }

/-- 'graduslaw03.TypesNorm', WHERE WHAT IT READS IS OF BULK AT MOST 1048576: true; the input reads as it did. -/
def typesNormUptoRow : OpenClaim := { program := "ytomhhpjpmlpijaadoor", sum := "954a116541c2b862a2734f0b894e8bc430cc4d94245d0665ae297e6794109ee6", func := "gradus/graduslaw03.TypesNorm", spec := "typesNorm", inPlace := ["internal/abi.NoEscape", "internal/bytealg.MakeNoZero"], unfollowed := true, recurses := true, named := ["strings.asciiSpace", "unicode.White_Space"], loops := true, apart := false, laid := [("unicode.White_Space", laid_unicode_White_Space), ("strings.asciiSpace", laid_strings_asciiSpace)], narrowed := true }
def TypesNormUptoSaid : Prop := typesNormUptoRow.holds Tryd.pinned (OpenSpec.upto typesNormSpec)

/-- 'graduslaw03.TypesMeasure', WHERE WHAT IT READS IS OF BULK AT MOST 1048576: true; the input reads as it did. -/
def typesMeasureUptoRow : OpenClaim := { program := "ytomhhpjpmlpijaadoor", sum := "954a116541c2b862a2734f0b894e8bc430cc4d94245d0665ae297e6794109ee6", func := "gradus/graduslaw03.TypesMeasure", spec := "typesMeasure", inPlace := ["internal/abi.NoEscape", "internal/bytealg.MakeNoZero"], unfollowed := true, recurses := true, named := ["strings.asciiSpace", "unicode.White_Space"], loops := true, apart := false, laid := [("unicode.White_Space", laid_unicode_White_Space), ("strings.asciiSpace", laid_strings_asciiSpace)], narrowed := true }
def TypesMeasureUptoSaid : Prop := typesMeasureUptoRow.holds Tryd.pinned (OpenSpec.upto typesMeasureSpec)

/-- 'graduslaw03.TypesSame', WHERE WHAT IT READS IS OF BULK AT MOST 1048576: true; the input reads as it did. -/
def typesSameUptoRow : OpenClaim := { program := "ytomhhpjpmlpijaadoor", sum := "954a116541c2b862a2734f0b894e8bc430cc4d94245d0665ae297e6794109ee6", func := "gradus/graduslaw03.TypesSame", spec := "typesSame", inPlace := ["internal/abi.NoEscape", "internal/bytealg.MakeNoZero"], unfollowed := true, recurses := true, named := ["strings.asciiSpace", "unicode.White_Space"], loops := true, apart := false, laid := [("unicode.White_Space", laid_unicode_White_Space), ("strings.asciiSpace", laid_strings_asciiSpace)], narrowed := true }
def TypesSameUptoSaid : Prop := typesSameUptoRow.holds Tryd.pinned (OpenSpec.upto typesSameSpec)

/-- 'graduslaw03.TypesShow', WHERE WHAT IT READS IS OF BULK AT MOST 1048576: true; the input reads as it did. -/
def typesShowUptoRow : OpenClaim := { program := "ytomhhpjpmlpijaadoor", sum := "954a116541c2b862a2734f0b894e8bc430cc4d94245d0665ae297e6794109ee6", func := "gradus/graduslaw03.TypesShow", spec := "typesShow", inPlace := ["internal/abi.NoEscape", "internal/bytealg.MakeNoZero"], unfollowed := true, recurses := true, named := ["strings.asciiSpace", "unicode.White_Space"], loops := true, apart := false, laid := [("unicode.White_Space", laid_unicode_White_Space), ("strings.asciiSpace", laid_strings_asciiSpace)], narrowed := true }
def TypesShowUptoSaid : Prop := typesShowUptoRow.holds Tryd.pinned (OpenSpec.upto typesShowSpec)

/-- 'graduslaw03.TypesUnions', WHERE WHAT IT READS IS OF BULK AT MOST 1048576: true; the input reads as it did. -/
def typesUnionsUptoRow : OpenClaim := { program := "ytomhhpjpmlpijaadoor", sum := "954a116541c2b862a2734f0b894e8bc430cc4d94245d0665ae297e6794109ee6", func := "gradus/graduslaw03.TypesUnions", spec := "typesUnions", inPlace := ["internal/abi.NoEscape", "internal/bytealg.MakeNoZero"], unfollowed := true, recurses := true, named := ["strings.asciiSpace", "unicode.White_Space"], loops := true, apart := false, laid := [("unicode.White_Space", laid_unicode_White_Space), ("strings.asciiSpace", laid_strings_asciiSpace)], narrowed := true }
def TypesUnionsUptoSaid : Prop := typesUnionsUptoRow.holds Tryd.pinned (OpenSpec.upto typesUnionsSpec)

/-- 'graduslaw03.TypesFields', WHERE WHAT IT READS IS OF BULK AT MOST 1048576: true; the input reads as it did. -/
def typesFieldsUptoRow : OpenClaim := { program := "ytomhhpjpmlpijaadoor", sum := "954a116541c2b862a2734f0b894e8bc430cc4d94245d0665ae297e6794109ee6", func := "gradus/graduslaw03.TypesFields", spec := "typesFields", inPlace := ["internal/abi.NoEscape", "internal/bytealg.MakeNoZero"], unfollowed := true, recurses := true, named := ["strings.asciiSpace", "unicode.White_Space"], loops := true, apart := false, laid := [("unicode.White_Space", laid_unicode_White_Space), ("strings.asciiSpace", laid_strings_asciiSpace)], narrowed := true }
def TypesFieldsUptoSaid : Prop := typesFieldsUptoRow.holds Tryd.pinned (OpenSpec.upto typesFieldsSpec)

/-- 'graduslaw03.TypesWithin', WHERE WHAT IT READS IS OF BULK AT MOST 1048576: true; the input reads as it did. -/
def typesWithinUptoRow : OpenClaim := { program := "ytomhhpjpmlpijaadoor", sum := "954a116541c2b862a2734f0b894e8bc430cc4d94245d0665ae297e6794109ee6", func := "gradus/graduslaw03.TypesWithin", spec := "typesWithin", inPlace := ["internal/abi.NoEscape", "internal/bytealg.MakeNoZero"], unfollowed := true, recurses := true, named := ["strings.asciiSpace", "unicode.White_Space"], loops := true, apart := false, laid := [("unicode.White_Space", laid_unicode_White_Space), ("strings.asciiSpace", laid_strings_asciiSpace)], narrowed := true }
def TypesWithinUptoSaid : Prop := typesWithinUptoRow.holds Tryd.pinned (OpenSpec.upto typesWithinSpec)

/-- 'graduslaw03.TypesParts', WHERE WHAT IT READS IS OF BULK AT MOST 1048576: true; the input reads as it did. -/
def typesPartsUptoRow : OpenClaim := { program := "ytomhhpjpmlpijaadoor", sum := "954a116541c2b862a2734f0b894e8bc430cc4d94245d0665ae297e6794109ee6", func := "gradus/graduslaw03.TypesParts", spec := "typesParts", inPlace := ["internal/abi.NoEscape", "internal/bytealg.MakeNoZero"], unfollowed := true, recurses := true, named := ["strings.asciiSpace", "unicode.White_Space"], loops := true, apart := false, laid := [("unicode.White_Space", laid_unicode_White_Space), ("strings.asciiSpace", laid_strings_asciiSpace)], narrowed := true }
def TypesPartsUptoSaid : Prop := typesPartsUptoRow.holds Tryd.pinned (OpenSpec.upto typesPartsSpec)

end Rows
end Go.Proofs.YtomhhpjpmlpijaaDoor
