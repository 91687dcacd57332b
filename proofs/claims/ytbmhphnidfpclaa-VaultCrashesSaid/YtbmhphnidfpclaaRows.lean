/-
  No cell of these rows narrows 'for every input' (looked for: loops, veiled, ifaces, maps, wideKeys, modest, calm, conditions, laid).
  DERIVED. THE GIVEN ROWS OF THIS SEAT. 3 by the template 'for every input the law returns true; each argument reads behind the call as it read before'; 0 by the template 'total and deterministic' (their statements: YtbmhphnidfpclaaTotals.lean).
  GIVEN WITH THE SEED: the statements are not yours to turn. If you find one false, say at which input.
  Laid BY PROGRAM, IN A SANDBOX (cutbox-rows.mjs): the forced cells as the released guide's own fill.sh prints them over the translation 2bc0795473f63b76… (all of the seat's roots in one cut). By AI agents, Wed Nov 11 2026. No macro, syntax, notation, axiom, sorry.
-/
import Derived.Test.YtbmhphnidfpclaaChecked
import GoSem.Claim
import GoSem.ClaimJoined
import GoSem.ClaimMapViews
import Derived.JoinedTies
import Derived.KernelRfl
namespace Go.Proofs.Ytbmhphnidfpclaa
/- THE CELL 'sum', in the pinned program and in every row, IS THE sha256 OF THE DUMP (.gsa) THAT YtbmhphnidfpclaaProg.lean LOADS. Nothing in Lean hashes anything: it is a label: what it is worth is what the hold of that sum in a sandbox is worth. -/
noncomputable def Try.pinned : Pinned := { name := "ytbmhphnidfpclaa", sum := "2bc0795473f63b7684bb26540e3bad7b754d584b12aa36808ae627b749027b24", checked := Try.checked }
namespace Rows
def none {H : Type} : Left H := { results := [], args := [] }

/-- 'rolodexlaw10.VaultNone': WHATEVER THE INPUT: true; the input reads as it did. -/
def vaultNoneSpec : ChangeSpec := { name := "vaultNone", fn := fun _ => fun
  | [d1, d2] => { results := [.lit (.bool true)], args := [d1, d2] }
  | _ => none }
def vaultNoneRow : OpenClaim := { program := "ytbmhphnidfpclaa", sum := "2bc0795473f63b7684bb26540e3bad7b754d584b12aa36808ae627b749027b24", func := "rolodex/rolodexlaw10.VaultNone", spec := "vaultNone", apart := false }
def VaultNoneSaid : Prop := vaultNoneRow.holds Try.pinned (OpenSpec.ofChange vaultNoneSpec)

/-- ITS FALSE NEIGHBOUR: 'it returns false'. Refute it at one input. -/
def vaultNoneWrong : ChangeSpec := { name := "vaultNone", fn := fun _ => fun
  | [d1, d2] => { results := [.lit (.bool false)], args := [d1, d2] }
  | _ => none }
def VaultNoneWrongFalsely : Prop := vaultNoneRow.holds Try.pinned (OpenSpec.ofChange vaultNoneWrong)

/-- 'rolodexlaw10.VaultReplaces': WHATEVER THE INPUT: true; the input reads as it did. -/
def vaultReplacesSpec : ChangeSpec := { name := "vaultReplaces", fn := fun _ => fun
  | [d] => { results := [.lit (.bool true)], args := [d] }
  | _ => none }
def vaultReplacesRow : OpenClaim := { program := "ytbmhphnidfpclaa", sum := "2bc0795473f63b7684bb26540e3bad7b754d584b12aa36808ae627b749027b24", func := "rolodex/rolodexlaw10.VaultReplaces", spec := "vaultReplaces", apart := false }
def VaultReplacesSaid : Prop := vaultReplacesRow.holds Try.pinned (OpenSpec.ofChange vaultReplacesSpec)

/-- ITS FALSE NEIGHBOUR: 'it returns false'. Refute it at one input. -/
def vaultReplacesWrong : ChangeSpec := { name := "vaultReplaces", fn := fun _ => fun
  | [d] => { results := [.lit (.bool false)], args := [d] }
  | _ => none }
def VaultReplacesWrongFalsely : Prop := vaultReplacesRow.holds Try.pinned (OpenSpec.ofChange vaultReplacesWrong)

/-- 'rolodexlaw10.VaultCrashes': WHATEVER THE INPUT: true; the input reads as it did. -/
def vaultCrashesSpec : ChangeSpec := { name := "vaultCrashes", fn := fun _ => fun
  | [d1, d2] => { results := [.lit (.bool true)], args := [d1, d2] }
  | _ => none }
def vaultCrashesRow : OpenClaim := { program := "ytbmhphnidfpclaa", sum := "2bc0795473f63b7684bb26540e3bad7b754d584b12aa36808ae627b749027b24", func := "rolodex/rolodexlaw10.VaultCrashes", spec := "vaultCrashes", apart := false }
def VaultCrashesSaid : Prop := vaultCrashesRow.holds Try.pinned (OpenSpec.ofChange vaultCrashesSpec)

/-- ITS FALSE NEIGHBOUR: 'it returns false'. Refute it at one input. -/
def vaultCrashesWrong : ChangeSpec := { name := "vaultCrashes", fn := fun _ => fun
  | [d1, d2] => { results := [.lit (.bool false)], args := [d1, d2] }
  | _ => none }
def VaultCrashesWrongFalsely : Prop := vaultCrashesRow.holds Try.pinned (OpenSpec.ofChange vaultCrashesWrong)

/- THE SECOND FORM. 'bulk': how many values and letters a reading holds, each counted each time it is reached (what is shared counts as often as it is met; a slice's spare places count too). A statement '..UptoSaid' is the law's where the arguments, and the package variables that the reading takes, are together of bulk at most 1048576: NARROWER than '..Said'. Prove '..Said' where nothing that the law and all that it calls make is longer than what came in: it says more and counts as full. Else prove '..UptoSaid'. A law counts once. -/
mutual
def uptoBulk {H : Type} : DataW H → Nat
  | .lit (.string bytes) => bytes.length + 1
  | .lit _ => 1
  | .nil => 1
  | .ptr d => uptoBulk d + 1
  | .slice elems spare => uptoBulkAll elems + uptoBulkAll spare + 1
  | .agg parts => uptoBulkAll parts + 1
  | .iface _ d => uptoBulk d + 1
  | .map entries => uptoBulkEntries entries + 1
  | .held _ => 1
def uptoBulkAll {H : Type} : List (DataW H) → Nat
  | [] => 0
  | d :: r => uptoBulk d + uptoBulkAll r
def uptoBulkEntries {H : Type} : List (Lit × DataW H) → Nat
  | [] => 0
  | x :: r => uptoBulkEntry x + uptoBulkEntries r
def uptoBulkEntry {H : Type} : Lit × DataW H → Nat
  | (.string bytes, d) => bytes.length + uptoBulk d + 1
  | (_, d) => uptoBulk d + 1
 end
def uptoSmall : (H : Type) → List (DataW H) → Bool := fun _ ds => decide (uptoBulkAll ds ≤ 1048576)
def OpenSpec.upto (s : _root_.Go.ChangeSpec) : _root_.Go.OpenSpec := { _root_.Go.OpenSpec.ofChange s with cond := some uptoSmall }

/-- 'rolodexlaw10.VaultNone', WHERE WHAT IT READS IS OF BULK AT MOST 1048576: true; the input reads as it did. -/
def vaultNoneUptoRow : OpenClaim := { program := "ytbmhphnidfpclaa", sum := "2bc0795473f63b7684bb26540e3bad7b754d584b12aa36808ae627b749027b24", func := "rolodex/rolodexlaw10.VaultNone", spec := "vaultNone", apart := false, narrowed := true }
def VaultNoneUptoSaid : Prop := vaultNoneUptoRow.holds Try.pinned (OpenSpec.upto vaultNoneSpec)

/-- 'rolodexlaw10.VaultReplaces', WHERE WHAT IT READS IS OF BULK AT MOST 1048576: true; the input reads as it did. -/
def vaultReplacesUptoRow : OpenClaim := { program := "ytbmhphnidfpclaa", sum := "2bc0795473f63b7684bb26540e3bad7b754d584b12aa36808ae627b749027b24", func := "rolodex/rolodexlaw10.VaultReplaces", spec := "vaultReplaces", apart := false, narrowed := true }
def VaultReplacesUptoSaid : Prop := vaultReplacesUptoRow.holds Try.pinned (OpenSpec.upto vaultReplacesSpec)

/-- 'rolodexlaw10.VaultCrashes', WHERE WHAT IT READS IS OF BULK AT MOST 1048576: true; the input reads as it did. -/
def vaultCrashesUptoRow : OpenClaim := { program := "ytbmhphnidfpclaa", sum := "2bc0795473f63b7684bb26540e3bad7b754d584b12aa36808ae627b749027b24", func := "rolodex/rolodexlaw10.VaultCrashes", spec := "vaultCrashes", apart := false, narrowed := true }
def VaultCrashesUptoSaid : Prop := vaultCrashesUptoRow.holds Try.pinned (OpenSpec.upto vaultCrashesSpec)

end Rows
end Go.Proofs.Ytbmhphnidfpclaa
