/-
  No cell of these rows narrows 'for every input' (looked for: loops, veiled, ifaces, maps, wideKeys, modest, calm, conditions, laid).
  DERIVED. THE GIVEN ROWS OF THIS SEAT. 5 by the template 'for every input the law returns true; each argument reads behind the call as it read before'; 0 by the template 'total and deterministic' (their statements: YtkeggnfffnodmaaTotals.lean).
  GIVEN WITH THE SEED: the statements are not yours to turn. If you find one false, say at which input.
  Laid BY PROGRAM, IN A SANDBOX (cutbox-rows.mjs): the forced cells as the released guide's own fill.sh prints them over the translation 2d56dca09f7e3fd5… (all of the seat's roots in one cut). By AI agents, Wed Nov 11 2026. No macro, syntax, notation, axiom, sorry.
-/
import Derived.Test.YtkeggnfffnodmaaChecked
import GoSem.Claim
import GoSem.ClaimJoined
import GoSem.ClaimMapViews
import Derived.JoinedTies
import Derived.KernelRfl
namespace Go.Proofs.Ytkeggnfffnodmaa
/- THE CELL 'sum', in the pinned program and in every row, IS THE sha256 OF THE DUMP (.gsa) THAT YtkeggnfffnodmaaProg.lean LOADS. Nothing in Lean hashes anything: it is a label: what it is worth is what the hold of that sum in a sandbox is worth. -/
noncomputable def Try.pinned : Pinned := { name := "ytkeggnfffnodmaa", sum := "2d56dca09f7e3fd5946b980d662406acc87858359768a83529c6a04dcb089b74", checked := Try.checked }
namespace Rows
def none {H : Type} : Left H := { results := [], args := [] }

/-- 'rolodexlaw08.SlotCounts': WHATEVER THE INPUT: true; the input reads as it did. -/
def slotCountsSpec : ChangeSpec := { name := "slotCounts", fn := fun _ => fun
  | [d] => { results := [.lit (.bool true)], args := [d] }
  | _ => none }
def slotCountsRow : OpenClaim := { program := "ytkeggnfffnodmaa", sum := "2d56dca09f7e3fd5946b980d662406acc87858359768a83529c6a04dcb089b74", func := "rolodex/rolodexlaw08.SlotCounts", spec := "slotCounts", apart := false }
def SlotCountsSaid : Prop := slotCountsRow.holds Try.pinned (OpenSpec.ofChange slotCountsSpec)

/-- ITS FALSE NEIGHBOUR: 'it returns false'. Refute it at one input. -/
def slotCountsWrong : ChangeSpec := { name := "slotCounts", fn := fun _ => fun
  | [d] => { results := [.lit (.bool false)], args := [d] }
  | _ => none }
def SlotCountsWrongFalsely : Prop := slotCountsRow.holds Try.pinned (OpenSpec.ofChange slotCountsWrong)

/-- 'rolodexlaw08.SlotAny': WHATEVER THE INPUT: true; the input reads as it did. -/
def slotAnySpec : ChangeSpec := { name := "slotAny", fn := fun _ => fun
  | [d1, d2, d3] => { results := [.lit (.bool true)], args := [d1, d2, d3] }
  | _ => none }
def slotAnyRow : OpenClaim := { program := "ytkeggnfffnodmaa", sum := "2d56dca09f7e3fd5946b980d662406acc87858359768a83529c6a04dcb089b74", func := "rolodex/rolodexlaw08.SlotAny", spec := "slotAny", apart := false }
def SlotAnySaid : Prop := slotAnyRow.holds Try.pinned (OpenSpec.ofChange slotAnySpec)

/-- ITS FALSE NEIGHBOUR: 'it returns false'. Refute it at one input. -/
def slotAnyWrong : ChangeSpec := { name := "slotAny", fn := fun _ => fun
  | [d1, d2, d3] => { results := [.lit (.bool false)], args := [d1, d2, d3] }
  | _ => none }
def SlotAnyWrongFalsely : Prop := slotAnyRow.holds Try.pinned (OpenSpec.ofChange slotAnyWrong)

/-- 'rolodexlaw08.SlotNone': WHATEVER THE INPUT: true; the input reads as it did. -/
def slotNoneSpec : ChangeSpec := { name := "slotNone", fn := fun _ => fun
  | [d1, d2] => { results := [.lit (.bool true)], args := [d1, d2] }
  | _ => none }
def slotNoneRow : OpenClaim := { program := "ytkeggnfffnodmaa", sum := "2d56dca09f7e3fd5946b980d662406acc87858359768a83529c6a04dcb089b74", func := "rolodex/rolodexlaw08.SlotNone", spec := "slotNone", apart := false }
def SlotNoneSaid : Prop := slotNoneRow.holds Try.pinned (OpenSpec.ofChange slotNoneSpec)

/-- ITS FALSE NEIGHBOUR: 'it returns false'. Refute it at one input. -/
def slotNoneWrong : ChangeSpec := { name := "slotNone", fn := fun _ => fun
  | [d1, d2] => { results := [.lit (.bool false)], args := [d1, d2] }
  | _ => none }
def SlotNoneWrongFalsely : Prop := slotNoneRow.holds Try.pinned (OpenSpec.ofChange slotNoneWrong)

/-- 'rolodexlaw08.SlotPlays': WHATEVER THE INPUT: true; the input reads as it did. -/
def slotPlaysSpec : ChangeSpec := { name := "slotPlays", fn := fun _ => fun
  | [d] => { results := [.lit (.bool true)], args := [d] }
  | _ => none }
def slotPlaysRow : OpenClaim := { program := "ytkeggnfffnodmaa", sum := "2d56dca09f7e3fd5946b980d662406acc87858359768a83529c6a04dcb089b74", func := "rolodex/rolodexlaw08.SlotPlays", spec := "slotPlays", apart := false }
def SlotPlaysSaid : Prop := slotPlaysRow.holds Try.pinned (OpenSpec.ofChange slotPlaysSpec)

/-- ITS FALSE NEIGHBOUR: 'it returns false'. Refute it at one input. -/
def slotPlaysWrong : ChangeSpec := { name := "slotPlays", fn := fun _ => fun
  | [d] => { results := [.lit (.bool false)], args := [d] }
  | _ => none }
def SlotPlaysWrongFalsely : Prop := slotPlaysRow.holds Try.pinned (OpenSpec.ofChange slotPlaysWrong)

/-- 'rolodexlaw08.SlotWhole': WHATEVER THE INPUT: true; the input reads as it did. -/
def slotWholeSpec : ChangeSpec := { name := "slotWhole", fn := fun _ => fun
  | [d] => { results := [.lit (.bool true)], args := [d] }
  | _ => none }
def slotWholeRow : OpenClaim := { program := "ytkeggnfffnodmaa", sum := "2d56dca09f7e3fd5946b980d662406acc87858359768a83529c6a04dcb089b74", func := "rolodex/rolodexlaw08.SlotWhole", spec := "slotWhole", apart := false }
def SlotWholeSaid : Prop := slotWholeRow.holds Try.pinned (OpenSpec.ofChange slotWholeSpec)

/-- ITS FALSE NEIGHBOUR: 'it returns false'. Refute it at one input. -/
def slotWholeWrong : ChangeSpec := { name := "slotWhole", fn := fun _ => fun
  | [d] => { results := [.lit (.bool false)], args := [d] }
  | _ => none }
def SlotWholeWrongFalsely : Prop := slotWholeRow.holds Try.pinned (OpenSpec.ofChange slotWholeWrong)

/- THE SECOND FORM. 'bulk': how many values and letters a reading holds, each counted each time it is reached (what is shared counts as often as it is met; a slice's spare places count too). A statement '..UptoSaid' is the law's where the arguments, and the package variables that the reading takes, are together of bulk at most 1048576: NARROWER than '..Said'. Prove '..Said' where nothing that the law and all that it calls make is longer than what came in: it says more and counts as full. Else prove '..UptoSaid'. A law counts once. -/
mutual
def uptoBulk {H : Type} : DataW H → Nat
  | .lit (.string bytes) => bytes.length + 1
  | .lit _ => 1
  | .nil => 1
  | .ptr d => uptoBulk d + 1
  | .slice elems spare => uptoBulkAll elems + uptoBulkAll spare + 1
  | .agg parts => uptoBulkAll parts + 1
  | .iface _ d => uptoBulk d + 1
  | .map entries => uptoBulkEntries entries + 1
  | .held _ => 1
def uptoBulkAll {H : Type} : List (DataW H) → Nat
  | [] => 0
  | d :: r => uptoBulk d + uptoBulkAll r
def uptoBulkEntries {H : Type} : List (Lit × DataW H) → Nat
  | [] => 0
  | x :: r => uptoBulkEntry x + uptoBulkEntries r
def uptoBulkEntry {H : Type} : Lit × DataW H → Nat
  | (.string bytes, d) => bytes.length + uptoBulk d + 1
  | (_, d) => uptoBulk d + 1
 end
def uptoSmall : (H : Type) → List (DataW H) → Bool := fun _ ds => decide (uptoBulkAll ds ≤ 1048576)
def OpenSpec.upto (s : _root_.Go.ChangeSpec) : _root_.Go.OpenSpec := { _root_.Go.OpenSpec.ofChange s with cond := some uptoSmall }

/-- 'rolodexlaw08.SlotCounts', WHERE WHAT IT READS IS OF BULK AT MOST 1048576: true; the input reads as it did. -/
def slotCountsUptoRow : OpenClaim := { program := "ytkeggnfffnodmaa", sum := "2d56dca09f7e3fd5946b980d662406acc87858359768a83529c6a04dcb089b74", func := "rolodex/rolodexlaw08.SlotCounts", spec := "slotCounts", apart := false, narrowed := true }
def SlotCountsUptoSaid : Prop := slotCountsUptoRow.holds Try.pinned (OpenSpec.upto slotCountsSpec)

/-- 'rolodexlaw08.SlotAny', WHERE WHAT IT READS IS OF BULK AT MOST 1048576: true; the input reads as it did. -/
def slotAnyUptoRow : OpenClaim := { program := "ytkeggnfffnodmaa", sum := "2d56dca09f7e3fd5946b980d662406acc87858359768a83529c6a04dcb089b74", func := "rolodex/rolodexlaw08.SlotAny", spec := "slotAny", apart := false, narrowed := true }
def SlotAnyUptoSaid : Prop := slotAnyUptoRow.holds Try.pinned (OpenSpec.upto slotAnySpec)

/-- 'rolodexlaw08.SlotNone', WHERE WHAT IT READS IS OF BULK AT MOST 1048576: true; the input reads as it did. -/
def slotNoneUptoRow : OpenClaim := { program := "ytkeggnfffnodmaa", sum := "2d56dca09f7e3fd5946b980d662406acc87858359768a83529c6a04dcb089b74", func := "rolodex/rolodexlaw08.SlotNone", spec := "slotNone", apart := false, narrowed := true }
def SlotNoneUptoSaid : Prop := slotNoneUptoRow.holds Try.pinned (OpenSpec.upto slotNoneSpec)

/-- 'rolodexlaw08.SlotPlays', WHERE WHAT IT READS IS OF BULK AT MOST 1048576: true; the input reads as it did. -/
def slotPlaysUptoRow : OpenClaim := { program := "ytkeggnfffnodmaa", sum := "2d56dca09f7e3fd5946b980d662406acc87858359768a83529c6a04dcb089b74", func := "rolodex/rolodexlaw08.SlotPlays", spec := "slotPlays", apart := false, narrowed := true }
def SlotPlaysUptoSaid : Prop := slotPlaysUptoRow.holds Try.pinned (OpenSpec.upto slotPlaysSpec)

/-- 'rolodexlaw08.SlotWhole', WHERE WHAT IT READS IS OF BULK AT MOST 1048576: true; the input reads as it did. -/
def slotWholeUptoRow : OpenClaim := { program := "ytkeggnfffnodmaa", sum := "2d56dca09f7e3fd5946b980d662406acc87858359768a83529c6a04dcb089b74", func := "rolodex/rolodexlaw08.SlotWhole", spec := "slotWhole", apart := false, narrowed := true }
def SlotWholeUptoSaid : Prop := slotWholeUptoRow.holds Try.pinned (OpenSpec.upto slotWholeSpec)

end Rows
end Go.Proofs.Ytkeggnfffnodmaa
