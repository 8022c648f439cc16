/-
  No cell of these rows narrows 'for every input' (looked for: loops, veiled, ifaces, maps, wideKeys, modest, calm, conditions, laid).
  DERIVED. THE GIVEN ROWS OF THIS SEAT. 5 by the template 'for every input the law returns true; each argument reads behind the call as it read before'; 0 by the template 'total and deterministic' (their statements: YtaklhkghjklkhaaTotals.lean).
  GIVEN WITH THE SEED: the statements are not yours to turn. If you find one false, say at which input.
  Laid BY PROGRAM, IN A SANDBOX (cutbox-rows.mjs): the forced cells as the released guide's own fill.sh prints them over the translation b1ab49de670a23ba… (all of the seat's roots in one cut). By AI agents, Wed Nov 11 2026. No macro, syntax, notation, axiom, sorry.
-/
import Derived.Test.YtaklhkghjklkhaaChecked
import GoSem.Claim
import GoSem.ClaimJoined
import GoSem.ClaimMapViews
import Derived.JoinedTies
import Derived.KernelRfl
namespace Go.Proofs.Ytaklhkghjklkhaa
/- THE CELL 'sum', in the pinned program and in every row, IS THE sha256 OF THE DUMP (.gsa) THAT YtaklhkghjklkhaaProg.lean LOADS. Nothing in Lean hashes anything: it is a label: what it is worth is what the hold of that sum in a sandbox is worth. -/
noncomputable def Try.pinned : Pinned := { name := "ytaklhkghjklkhaa", sum := "b1ab49de670a23baecfd31c76ba51bab339d2ae0a359e3199c3bcddfcbe4373e", checked := Try.checked }
namespace Rows
def none {H : Type} : Left H := { results := [], args := [] }

/-- 'graduslaw16.HeapAgain': WHATEVER THE INPUT: true; the input reads as it did. -/
def heapAgainSpec : ChangeSpec := { name := "heapAgain", fn := fun _ => fun
  | [d1, d2, d3] => { results := [.lit (.bool true)], args := [d1, d2, d3] }
  | _ => none }
def heapAgainRow : OpenClaim := { program := "ytaklhkghjklkhaa", sum := "b1ab49de670a23baecfd31c76ba51bab339d2ae0a359e3199c3bcddfcbe4373e", func := "gradus/graduslaw16.HeapAgain", spec := "heapAgain", unfollowed := true, recurses := true, apart := false }
def HeapAgainSaid : Prop := heapAgainRow.holds Try.pinned (OpenSpec.ofChange heapAgainSpec)

/-- ITS FALSE NEIGHBOUR: 'it returns false'. Refute it at one input. -/
def heapAgainWrong : ChangeSpec := { name := "heapAgain", fn := fun _ => fun
  | [d1, d2, d3] => { results := [.lit (.bool false)], args := [d1, d2, d3] }
  | _ => none }
def HeapAgainWrongFalsely : Prop := heapAgainRow.holds Try.pinned (OpenSpec.ofChange heapAgainWrong)

/-- 'graduslaw16.HeapDoes': WHATEVER THE INPUT: true; the input reads as it did. -/
def heapDoesSpec : ChangeSpec := { name := "heapDoes", fn := fun _ => fun
  | [d1, d2] => { results := [.lit (.bool true)], args := [d1, d2] }
  | _ => none }
def heapDoesRow : OpenClaim := { program := "ytaklhkghjklkhaa", sum := "b1ab49de670a23baecfd31c76ba51bab339d2ae0a359e3199c3bcddfcbe4373e", func := "gradus/graduslaw16.HeapDoes", spec := "heapDoes", unfollowed := true, recurses := true, apart := false }
def HeapDoesSaid : Prop := heapDoesRow.holds Try.pinned (OpenSpec.ofChange heapDoesSpec)

/-- ITS FALSE NEIGHBOUR: 'it returns false'. Refute it at one input. -/
def heapDoesWrong : ChangeSpec := { name := "heapDoes", fn := fun _ => fun
  | [d1, d2] => { results := [.lit (.bool false)], args := [d1, d2] }
  | _ => none }
def HeapDoesWrongFalsely : Prop := heapDoesRow.holds Try.pinned (OpenSpec.ofChange heapDoesWrong)

/-- 'graduslaw16.HeapChains': WHATEVER THE INPUT: true; the input reads as it did. -/
def heapChainsSpec : ChangeSpec := { name := "heapChains", fn := fun _ => fun
  | [d1, d2] => { results := [.lit (.bool true)], args := [d1, d2] }
  | _ => none }
def heapChainsRow : OpenClaim := { program := "ytaklhkghjklkhaa", sum := "b1ab49de670a23baecfd31c76ba51bab339d2ae0a359e3199c3bcddfcbe4373e", func := "gradus/graduslaw16.HeapChains", spec := "heapChains", unfollowed := true, recurses := true, apart := false }
def HeapChainsSaid : Prop := heapChainsRow.holds Try.pinned (OpenSpec.ofChange heapChainsSpec)

/-- ITS FALSE NEIGHBOUR: 'it returns false'. Refute it at one input. -/
def heapChainsWrong : ChangeSpec := { name := "heapChains", fn := fun _ => fun
  | [d1, d2] => { results := [.lit (.bool false)], args := [d1, d2] }
  | _ => none }
def HeapChainsWrongFalsely : Prop := heapChainsRow.holds Try.pinned (OpenSpec.ofChange heapChainsWrong)

/-- 'graduslaw16.HeapOwn': WHATEVER THE INPUT: true; the input reads as it did. -/
def heapOwnSpec : ChangeSpec := { name := "heapOwn", fn := fun _ => fun
  | [d] => { results := [.lit (.bool true)], args := [d] }
  | _ => none }
def heapOwnRow : OpenClaim := { program := "ytaklhkghjklkhaa", sum := "b1ab49de670a23baecfd31c76ba51bab339d2ae0a359e3199c3bcddfcbe4373e", func := "gradus/graduslaw16.HeapOwn", spec := "heapOwn", unfollowed := true, recurses := true, apart := false }
def HeapOwnSaid : Prop := heapOwnRow.holds Try.pinned (OpenSpec.ofChange heapOwnSpec)

/-- ITS FALSE NEIGHBOUR: 'it returns false'. Refute it at one input. -/
def heapOwnWrong : ChangeSpec := { name := "heapOwn", fn := fun _ => fun
  | [d] => { results := [.lit (.bool false)], args := [d] }
  | _ => none }
def HeapOwnWrongFalsely : Prop := heapOwnRow.holds Try.pinned (OpenSpec.ofChange heapOwnWrong)

/-- 'graduslaw16.HeapGone': WHATEVER THE INPUT: true; the input reads as it did. -/
def heapGoneSpec : ChangeSpec := { name := "heapGone", fn := fun _ => fun
  | [d1, d2] => { results := [.lit (.bool true)], args := [d1, d2] }
  | _ => none }
def heapGoneRow : OpenClaim := { program := "ytaklhkghjklkhaa", sum := "b1ab49de670a23baecfd31c76ba51bab339d2ae0a359e3199c3bcddfcbe4373e", func := "gradus/graduslaw16.HeapGone", spec := "heapGone", unfollowed := true, recurses := true, apart := false }
def HeapGoneSaid : Prop := heapGoneRow.holds Try.pinned (OpenSpec.ofChange heapGoneSpec)

/-- ITS FALSE NEIGHBOUR: 'it returns false'. Refute it at one input. -/
def heapGoneWrong : ChangeSpec := { name := "heapGone", fn := fun _ => fun
  | [d1, d2] => { results := [.lit (.bool false)], args := [d1, d2] }
  | _ => none }
def HeapGoneWrongFalsely : Prop := heapGoneRow.holds Try.pinned (OpenSpec.ofChange heapGoneWrong)

/- THE SECOND FORM. 'bulk': how many values and letters a reading holds, each counted each time it is reached (what is shared counts as often as it is met; a slice's spare places count too). A statement '..UptoSaid' is the law's where the arguments, and the package variables that the reading takes, are together of bulk at most 1048576: NARROWER than '..Said'. Prove '..Said' where nothing that the law and all that it calls make is longer than what came in: it says more and counts as full. Else prove '..UptoSaid'. A law counts once. -/
mutual
def uptoBulk {H : Type} : DataW H → Nat
  | .lit (.string bytes) => bytes.length + 1
  | .lit _ => 1
  | .nil => 1
  | .ptr d => uptoBulk d + 1
  | .slice elems spare => uptoBulkAll elems + uptoBulkAll spare + 1
  | .agg parts => uptoBulkAll parts + 1
  | .iface _ d => uptoBulk d + 1
  | .map entries => uptoBulkEntries entries + 1
  | .held _ => 1
def uptoBulkAll {H : Type} : List (DataW H) → Nat
  | [] => 0
  | d :: r => uptoBulk d + uptoBulkAll r
def uptoBulkEntries {H : Type} : List (Lit × DataW H) → Nat
  | [] => 0
  | x :: r => uptoBulkEntry x + uptoBulkEntries r
def uptoBulkEntry {H : Type} : Lit × DataW H → Nat
  | (.string bytes, d) => bytes.length + uptoBulk d + 1
  | (_, d) => uptoBulk d + 1
 end
def uptoSmall : (H : Type) → List (DataW H) → Bool := fun _ ds => decide (uptoBulkAll ds ≤ 1048576)
def OpenSpec.upto (s : _root_.Go.ChangeSpec) : _root_.Go.OpenSpec := { _root_.Go.OpenSpec.ofChange s with cond := some uptoSmall }

/-- 'graduslaw16.HeapAgain', WHERE WHAT IT READS IS OF BULK AT MOST 1048576: true; the input reads as it did. -/
def heapAgainUptoRow : OpenClaim := { program := "ytaklhkghjklkhaa", sum := "b1ab49de670a23baecfd31c76ba51bab339d2ae0a359e3199c3bcddfcbe4373e", func := "gradus/graduslaw16.HeapAgain", spec := "heapAgain", unfollowed := true, recurses := true, apart := false, narrowed := true }
def HeapAgainUptoSaid : Prop := heapAgainUptoRow.holds Try.pinned (OpenSpec.upto heapAgainSpec)

/-- 'graduslaw16.HeapDoes', WHERE WHAT IT READS IS OF BULK AT MOST 1048576: true; the input reads as it did. -/
def heapDoesUptoRow : OpenClaim := { program := "ytaklhkghjklkhaa", sum := "b1ab49de670a23baecfd31c76ba51bab339d2ae0a359e3199c3bcddfcbe4373e", func := "gradus/graduslaw16.HeapDoes", spec := "heapDoes", unfollowed := true, recurses := true, apart := false, narrowed := true }
def HeapDoesUptoSaid : Prop := heapDoesUptoRow.holds Try.pinned (OpenSpec.upto heapDoesSpec)

/-- 'graduslaw16.HeapChains', WHERE WHAT IT READS IS OF BULK AT MOST 1048576: true; the input reads as it did. -/
def heapChainsUptoRow : OpenClaim := { program := "ytaklhkghjklkhaa", sum := "b1ab49de670a23baecfd31c76ba51bab339d2ae0a359e3199c3bcddfcbe4373e", func := "gradus/graduslaw16.HeapChains", spec := "heapChains", unfollowed := true, recurses := true, apart := false, narrowed := true }
def HeapChainsUptoSaid : Prop := heapChainsUptoRow.holds Try.pinned (OpenSpec.upto heapChainsSpec)

/-- 'graduslaw16.HeapOwn', WHERE WHAT IT READS IS OF BULK AT MOST 1048576: true; the input reads as it did. -/
def heapOwnUptoRow : OpenClaim := { program := "ytaklhkghjklkhaa", sum := "b1ab49de670a23baecfd31c76ba51bab339d2ae0a359e3199c3bcddfcbe4373e", func := "gradus/graduslaw16.HeapOwn", spec := "heapOwn", unfollowed := true, recurses := true, apart := false, narrowed := true }
def HeapOwnUptoSaid : Prop := heapOwnUptoRow.holds Try.pinned (OpenSpec.upto heapOwnSpec)

/-- 'graduslaw16.HeapGone', WHERE WHAT IT READS IS OF BULK AT MOST 1048576: true; the input reads as it did. -/
def heapGoneUptoRow : OpenClaim := { program := "ytaklhkghjklkhaa", sum := "b1ab49de670a23baecfd31c76ba51bab339d2ae0a359e3199c3bcddfcbe4373e", func := "gradus/graduslaw16.HeapGone", spec := "heapGone", unfollowed := true, recurses := true, apart := false, narrowed := true }
def HeapGoneUptoSaid : Prop := heapGoneUptoRow.holds Try.pinned (OpenSpec.upto heapGoneSpec)

end Rows
end Go.Proofs.Ytaklhkghjklkhaa
