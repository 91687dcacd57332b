/-
  No cell of these rows narrows 'for every input' (looked for: loops, veiled, ifaces, maps, wideKeys, modest, calm, conditions, laid).
  DERIVED. THE GIVEN ROWS OF THIS SEAT. 6 by the template 'for every input the law returns true; each argument reads behind the call as it read before'; 0 by the template 'total and deterministic' (their statements: YtnaeicepapokjaaTotals.lean).
  GIVEN WITH THE SEED: the statements are not yours to turn. If you find one false, say at which input.
  Laid BY PROGRAM, IN A SANDBOX (cutbox-rows.mjs): the forced cells as the released guide's own fill.sh prints them over the translation 43076ba3098076aa… (all of the seat's roots in one cut). By AI agents, Wed Nov 11 2026. No macro, syntax, notation, axiom, sorry.
-/
import Derived.Test.YtnaeicepapokjaaChecked
import GoSem.Claim
import GoSem.ClaimJoined
import GoSem.ClaimMapViews
import Derived.JoinedTies
import Derived.KernelRfl
namespace Go.Proofs.Ytnaeicepapokjaa
/- THE CELL 'sum', in the pinned program and in every row, IS THE sha256 OF THE DUMP (.gsa) THAT YtnaeicepapokjaaProg.lean LOADS. Nothing in Lean hashes anything: it is a label: what it is worth is what the hold of that sum in a sandbox is worth. -/
noncomputable def Try.pinned : Pinned := { name := "ytnaeicepapokjaa", sum := "43076ba3098076aa39562c54233bd015d02149271aa8c0909ffbbd58f045ec9c", checked := Try.checked }
namespace Rows
def none {H : Type} : Left H := { results := [], args := [] }

/-- 'rolodexlaw03.PrefixOrder': WHATEVER THE INPUT: true; the input reads as it did. -/
def prefixOrderSpec : ChangeSpec := { name := "prefixOrder", fn := fun _ => fun
  | [d1, d2, d3] => { results := [.lit (.bool true)], args := [d1, d2, d3] }
  | _ => none }
def prefixOrderRow : OpenClaim := { program := "ytnaeicepapokjaa", sum := "43076ba3098076aa39562c54233bd015d02149271aa8c0909ffbbd58f045ec9c", func := "rolodex/rolodexlaw03.PrefixOrder", spec := "prefixOrder", inPlace := ["internal/bytealg.Compare"], apart := false }
def PrefixOrderSaid : Prop := prefixOrderRow.holds Try.pinned (OpenSpec.ofChange prefixOrderSpec)

/-- ITS FALSE NEIGHBOUR: 'it returns false'. Refute it at one input. -/
def prefixOrderWrong : ChangeSpec := { name := "prefixOrder", fn := fun _ => fun
  | [d1, d2, d3] => { results := [.lit (.bool false)], args := [d1, d2, d3] }
  | _ => none }
def PrefixOrderWrongFalsely : Prop := prefixOrderRow.holds Try.pinned (OpenSpec.ofChange prefixOrderWrong)

/-- 'rolodexlaw03.PrefixCuts': WHATEVER THE INPUT: true; the input reads as it did. -/
def prefixCutsSpec : ChangeSpec := { name := "prefixCuts", fn := fun _ => fun
  | [d1, d2, d3] => { results := [.lit (.bool true)], args := [d1, d2, d3] }
  | _ => none }
def prefixCutsRow : OpenClaim := { program := "ytnaeicepapokjaa", sum := "43076ba3098076aa39562c54233bd015d02149271aa8c0909ffbbd58f045ec9c", func := "rolodex/rolodexlaw03.PrefixCuts", spec := "prefixCuts", apart := false }
def PrefixCutsSaid : Prop := prefixCutsRow.holds Try.pinned (OpenSpec.ofChange prefixCutsSpec)

/-- ITS FALSE NEIGHBOUR: 'it returns false'. Refute it at one input. -/
def prefixCutsWrong : ChangeSpec := { name := "prefixCuts", fn := fun _ => fun
  | [d1, d2, d3] => { results := [.lit (.bool false)], args := [d1, d2, d3] }
  | _ => none }
def PrefixCutsWrongFalsely : Prop := prefixCutsRow.holds Try.pinned (OpenSpec.ofChange prefixCutsWrong)

/-- 'rolodexlaw03.PrefixOwn': WHATEVER THE INPUT: true; the input reads as it did. -/
def prefixOwnSpec : ChangeSpec := { name := "prefixOwn", fn := fun _ => fun
  | [d1, d2, d3] => { results := [.lit (.bool true)], args := [d1, d2, d3] }
  | _ => none }
def prefixOwnRow : OpenClaim := { program := "ytnaeicepapokjaa", sum := "43076ba3098076aa39562c54233bd015d02149271aa8c0909ffbbd58f045ec9c", func := "rolodex/rolodexlaw03.PrefixOwn", spec := "prefixOwn", apart := false }
def PrefixOwnSaid : Prop := prefixOwnRow.holds Try.pinned (OpenSpec.ofChange prefixOwnSpec)

/-- ITS FALSE NEIGHBOUR: 'it returns false'. Refute it at one input. -/
def prefixOwnWrong : ChangeSpec := { name := "prefixOwn", fn := fun _ => fun
  | [d1, d2, d3] => { results := [.lit (.bool false)], args := [d1, d2, d3] }
  | _ => none }
def PrefixOwnWrongFalsely : Prop := prefixOwnRow.holds Try.pinned (OpenSpec.ofChange prefixOwnWrong)

/-- 'rolodexlaw03.PrefixBits': WHATEVER THE INPUT: true; the input reads as it did. -/
def prefixBitsSpec : ChangeSpec := { name := "prefixBits", fn := fun _ => fun
  | [d1, d2, d3] => { results := [.lit (.bool true)], args := [d1, d2, d3] }
  | _ => none }
def prefixBitsRow : OpenClaim := { program := "ytnaeicepapokjaa", sum := "43076ba3098076aa39562c54233bd015d02149271aa8c0909ffbbd58f045ec9c", func := "rolodex/rolodexlaw03.PrefixBits", spec := "prefixBits", inPlace := ["internal/bytealg.Compare"], apart := false }
def PrefixBitsSaid : Prop := prefixBitsRow.holds Try.pinned (OpenSpec.ofChange prefixBitsSpec)

/-- ITS FALSE NEIGHBOUR: 'it returns false'. Refute it at one input. -/
def prefixBitsWrong : ChangeSpec := { name := "prefixBits", fn := fun _ => fun
  | [d1, d2, d3] => { results := [.lit (.bool false)], args := [d1, d2, d3] }
  | _ => none }
def PrefixBitsWrongFalsely : Prop := prefixBitsRow.holds Try.pinned (OpenSpec.ofChange prefixBitsWrong)

/-- 'rolodexlaw03.PrefixMeets': WHATEVER THE INPUT: true; the input reads as it did. -/
def prefixMeetsSpec : ChangeSpec := { name := "prefixMeets", fn := fun _ => fun
  | [d1, d2] => { results := [.lit (.bool true)], args := [d1, d2] }
  | _ => none }
def prefixMeetsRow : OpenClaim := { program := "ytnaeicepapokjaa", sum := "43076ba3098076aa39562c54233bd015d02149271aa8c0909ffbbd58f045ec9c", func := "rolodex/rolodexlaw03.PrefixMeets", spec := "prefixMeets", apart := false }
def PrefixMeetsSaid : Prop := prefixMeetsRow.holds Try.pinned (OpenSpec.ofChange prefixMeetsSpec)

/-- ITS FALSE NEIGHBOUR: 'it returns false'. Refute it at one input. -/
def prefixMeetsWrong : ChangeSpec := { name := "prefixMeets", fn := fun _ => fun
  | [d1, d2] => { results := [.lit (.bool false)], args := [d1, d2] }
  | _ => none }
def PrefixMeetsWrongFalsely : Prop := prefixMeetsRow.holds Try.pinned (OpenSpec.ofChange prefixMeetsWrong)

/-- 'rolodexlaw03.PrefixGrows': WHATEVER THE INPUT: true; the input reads as it did. -/
def prefixGrowsSpec : ChangeSpec := { name := "prefixGrows", fn := fun _ => fun
  | [d1, d2] => { results := [.lit (.bool true)], args := [d1, d2] }
  | _ => none }
def prefixGrowsRow : OpenClaim := { program := "ytnaeicepapokjaa", sum := "43076ba3098076aa39562c54233bd015d02149271aa8c0909ffbbd58f045ec9c", func := "rolodex/rolodexlaw03.PrefixGrows", spec := "prefixGrows", apart := false }
def PrefixGrowsSaid : Prop := prefixGrowsRow.holds Try.pinned (OpenSpec.ofChange prefixGrowsSpec)

/-- ITS FALSE NEIGHBOUR: 'it returns false'. Refute it at one input. -/
def prefixGrowsWrong : ChangeSpec := { name := "prefixGrows", fn := fun _ => fun
  | [d1, d2] => { results := [.lit (.bool false)], args := [d1, d2] }
  | _ => none }
def PrefixGrowsWrongFalsely : Prop := prefixGrowsRow.holds Try.pinned (OpenSpec.ofChange prefixGrowsWrong)

/- THE SECOND FORM. 'bulk': how many values and letters a reading holds, each counted each time it is reached (what is shared counts as often as it is met; a slice's spare places count too). A statement '..UptoSaid' is the law's where the arguments, and the package variables that the reading takes, are together of bulk at most 1048576: NARROWER than '..Said'. Prove '..Said' where nothing that the law and all that it calls make is longer than what came in: it says more and counts as full. Else prove '..UptoSaid'. A law counts once. -/
mutual
def uptoBulk {H : Type} : DataW H → Nat
  | .lit (.string bytes) => bytes.length + 1
  | .lit _ => 1
  | .nil => 1
  | .ptr d => uptoBulk d + 1
  | .slice elems spare => uptoBulkAll elems + uptoBulkAll spare + 1
  | .agg parts => uptoBulkAll parts + 1
  | .iface _ d => uptoBulk d + 1
  | .map entries => uptoBulkEntries entries + 1
  | .held _ => 1
def uptoBulkAll {H : Type} : List (DataW H) → Nat
  | [] => 0
  | d :: r => uptoBulk d + uptoBulkAll r
def uptoBulkEntries {H : Type} : List (Lit × DataW H) → Nat
  | [] => 0
  | x :: r => uptoBulkEntry x + uptoBulkEntries r
def uptoBulkEntry {H : Type} : Lit × DataW H → Nat
  | (.string bytes, d) => bytes.length + uptoBulk d + 1
  | (_, d) => uptoBulk d + 1
 end
def uptoSmall : (H : Type) → List (DataW H) → Bool := fun _ ds => decide (uptoBulkAll ds ≤ 1048576)
def OpenSpec.upto (s : _root_.Go.ChangeSpec) : _root_.Go.OpenSpec := { _root_.Go.OpenSpec.ofChange s with cond := some uptoSmall }

/-- 'rolodexlaw03.PrefixOrder', WHERE WHAT IT READS IS OF BULK AT MOST 1048576: true; the input reads as it did. -/
def prefixOrderUptoRow : OpenClaim := { program := "ytnaeicepapokjaa", sum := "43076ba3098076aa39562c54233bd015d02149271aa8c0909ffbbd58f045ec9c", func := "rolodex/rolodexlaw03.PrefixOrder", spec := "prefixOrder", inPlace := ["internal/bytealg.Compare"], apart := false, narrowed := true }
def PrefixOrderUptoSaid : Prop := prefixOrderUptoRow.holds Try.pinned (OpenSpec.upto prefixOrderSpec)

/-- 'rolodexlaw03.PrefixCuts', WHERE WHAT IT READS IS OF BULK AT MOST 1048576: true; the input reads as it did. -/
def prefixCutsUptoRow : OpenClaim := { program := "ytnaeicepapokjaa", sum := "43076ba3098076aa39562c54233bd015d02149271aa8c0909ffbbd58f045ec9c", func := "rolodex/rolodexlaw03.PrefixCuts", spec := "prefixCuts", apart := false, narrowed := true }
def PrefixCutsUptoSaid : Prop := prefixCutsUptoRow.holds Try.pinned (OpenSpec.upto prefixCutsSpec)

/-- 'rolodexlaw03.PrefixOwn', WHERE WHAT IT READS IS OF BULK AT MOST 1048576: true; the input reads as it did. -/
def prefixOwnUptoRow : OpenClaim := { program := "ytnaeicepapokjaa", sum := "43076ba3098076aa39562c54233bd015d02149271aa8c0909ffbbd58f045ec9c", func := "rolodex/rolodexlaw03.PrefixOwn", spec := "prefixOwn", apart := false, narrowed := true }
def PrefixOwnUptoSaid : Prop := prefixOwnUptoRow.holds Try.pinned (OpenSpec.upto prefixOwnSpec)

/-- 'rolodexlaw03.PrefixBits', WHERE WHAT IT READS IS OF BULK AT MOST 1048576: true; the input reads as it did. -/
def prefixBitsUptoRow : OpenClaim := { program := "ytnaeicepapokjaa", sum := "43076ba3098076aa39562c54233bd015d02149271aa8c0909ffbbd58f045ec9c", func := "rolodex/rolodexlaw03.PrefixBits", spec := "prefixBits", inPlace := ["internal/bytealg.Compare"], apart := false, narrowed := true }
def PrefixBitsUptoSaid : Prop := prefixBitsUptoRow.holds Try.pinned (OpenSpec.upto prefixBitsSpec)

/-- 'rolodexlaw03.PrefixMeets', WHERE WHAT IT READS IS OF BULK AT MOST 1048576: true; the input reads as it did. -/
def prefixMeetsUptoRow : OpenClaim := { program := "ytnaeicepapokjaa", sum := "43076ba3098076aa39562c54233bd015d02149271aa8c0909ffbbd58f045ec9c", func := "rolodex/rolodexlaw03.PrefixMeets", spec := "prefixMeets", apart := false, narrowed := true }
def PrefixMeetsUptoSaid : Prop := prefixMeetsUptoRow.holds Try.pinned (OpenSpec.upto prefixMeetsSpec)

/-- 'rolodexlaw03.PrefixGrows', WHERE WHAT IT READS IS OF BULK AT MOST 1048576: true; the input reads as it did. -/
def prefixGrowsUptoRow : OpenClaim := { program := "ytnaeicepapokjaa", sum := "43076ba3098076aa39562c54233bd015d02149271aa8c0909ffbbd58f045ec9c", func := "rolodex/rolodexlaw03.PrefixGrows", spec := "prefixGrows", apart := false, narrowed := true }
def PrefixGrowsUptoSaid : Prop := prefixGrowsUptoRow.holds Try.pinned (OpenSpec.upto prefixGrowsSpec)

end Rows
end Go.Proofs.Ytnaeicepapokjaa
