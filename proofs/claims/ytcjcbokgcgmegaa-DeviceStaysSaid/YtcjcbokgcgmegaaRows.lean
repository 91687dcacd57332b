/-
  No cell of these rows narrows 'for every input' (looked for: loops, veiled, ifaces, maps, wideKeys, modest, calm, conditions, laid).
  DERIVED. THE GIVEN ROWS OF THIS SEAT. 5 by the template 'for every input the law returns true; each argument reads behind the call as it read before'; 0 by the template 'total and deterministic' (their statements: YtcjcbokgcgmegaaTotals.lean).
  GIVEN WITH THE SEED: the statements are not yours to turn. If you find one false, say at which input.
  Laid BY PROGRAM, IN A SANDBOX (cutbox-rows.mjs): the forced cells as the released guide's own fill.sh prints them over the translation c018934939f1813c… (all of the seat's roots in one cut). By AI agents, Wed Nov 11 2026. No macro, syntax, notation, axiom, sorry.
-/
import Derived.Test.YtcjcbokgcgmegaaChecked
import GoSem.Claim
import GoSem.ClaimJoined
import GoSem.ClaimMapViews
import Derived.JoinedTies
import Derived.KernelRfl
namespace Go.Proofs.Ytcjcbokgcgmegaa
/- THE CELL 'sum', in the pinned program and in every row, IS THE sha256 OF THE DUMP (.gsa) THAT YtcjcbokgcgmegaaProg.lean LOADS. Nothing in Lean hashes anything: it is a label: what it is worth is what the hold of that sum in a sandbox is worth. -/
noncomputable def Try.pinned : Pinned := { name := "ytcjcbokgcgmegaa", sum := "c018934939f1813cfd95f6fe1cae50502e1120ce301b0c12adb5c70de5c801d3", checked := Try.checked }
namespace Rows
def none {H : Type} : Left H := { results := [], args := [] }

/-- 'rolodexlaw07.DeviceWhole': WHATEVER THE INPUT: true; the input reads as it did. -/
def deviceWholeSpec : ChangeSpec := { name := "deviceWhole", fn := fun _ => fun
  | [d1, d2] => { results := [.lit (.bool true)], args := [d1, d2] }
  | _ => none }
def deviceWholeRow : OpenClaim := { program := "ytcjcbokgcgmegaa", sum := "c018934939f1813cfd95f6fe1cae50502e1120ce301b0c12adb5c70de5c801d3", func := "rolodex/rolodexlaw07.DeviceWhole", spec := "deviceWhole", apart := false }
def DeviceWholeSaid : Prop := deviceWholeRow.holds Try.pinned (OpenSpec.ofChange deviceWholeSpec)

/-- ITS FALSE NEIGHBOUR: 'it returns false'. Refute it at one input. -/
def deviceWholeWrong : ChangeSpec := { name := "deviceWhole", fn := fun _ => fun
  | [d1, d2] => { results := [.lit (.bool false)], args := [d1, d2] }
  | _ => none }
def DeviceWholeWrongFalsely : Prop := deviceWholeRow.holds Try.pinned (OpenSpec.ofChange deviceWholeWrong)

/-- 'rolodexlaw07.DeviceFuse': WHATEVER THE INPUT: true; the input reads as it did. -/
def deviceFuseSpec : ChangeSpec := { name := "deviceFuse", fn := fun _ => fun
  | [d] => { results := [.lit (.bool true)], args := [d] }
  | _ => none }
def deviceFuseRow : OpenClaim := { program := "ytcjcbokgcgmegaa", sum := "c018934939f1813cfd95f6fe1cae50502e1120ce301b0c12adb5c70de5c801d3", func := "rolodex/rolodexlaw07.DeviceFuse", spec := "deviceFuse", apart := false }
def DeviceFuseSaid : Prop := deviceFuseRow.holds Try.pinned (OpenSpec.ofChange deviceFuseSpec)

/-- ITS FALSE NEIGHBOUR: 'it returns false'. Refute it at one input. -/
def deviceFuseWrong : ChangeSpec := { name := "deviceFuse", fn := fun _ => fun
  | [d] => { results := [.lit (.bool false)], args := [d] }
  | _ => none }
def DeviceFuseWrongFalsely : Prop := deviceFuseRow.holds Try.pinned (OpenSpec.ofChange deviceFuseWrong)

/-- 'rolodexlaw07.DevicePlays': WHATEVER THE INPUT: true; the input reads as it did. -/
def devicePlaysSpec : ChangeSpec := { name := "devicePlays", fn := fun _ => fun
  | [d1, d2] => { results := [.lit (.bool true)], args := [d1, d2] }
  | _ => none }
def devicePlaysRow : OpenClaim := { program := "ytcjcbokgcgmegaa", sum := "c018934939f1813cfd95f6fe1cae50502e1120ce301b0c12adb5c70de5c801d3", func := "rolodex/rolodexlaw07.DevicePlays", spec := "devicePlays", apart := false }
def DevicePlaysSaid : Prop := devicePlaysRow.holds Try.pinned (OpenSpec.ofChange devicePlaysSpec)

/-- ITS FALSE NEIGHBOUR: 'it returns false'. Refute it at one input. -/
def devicePlaysWrong : ChangeSpec := { name := "devicePlays", fn := fun _ => fun
  | [d1, d2] => { results := [.lit (.bool false)], args := [d1, d2] }
  | _ => none }
def DevicePlaysWrongFalsely : Prop := devicePlaysRow.holds Try.pinned (OpenSpec.ofChange devicePlaysWrong)

/-- 'rolodexlaw07.DeviceStays': WHATEVER THE INPUT: true; the input reads as it did. -/
def deviceStaysSpec : ChangeSpec := { name := "deviceStays", fn := fun _ => fun
  | [d1, d2] => { results := [.lit (.bool true)], args := [d1, d2] }
  | _ => none }
def deviceStaysRow : OpenClaim := { program := "ytcjcbokgcgmegaa", sum := "c018934939f1813cfd95f6fe1cae50502e1120ce301b0c12adb5c70de5c801d3", func := "rolodex/rolodexlaw07.DeviceStays", spec := "deviceStays", apart := false }
def DeviceStaysSaid : Prop := deviceStaysRow.holds Try.pinned (OpenSpec.ofChange deviceStaysSpec)

/-- ITS FALSE NEIGHBOUR: 'it returns false'. Refute it at one input. -/
def deviceStaysWrong : ChangeSpec := { name := "deviceStays", fn := fun _ => fun
  | [d1, d2] => { results := [.lit (.bool false)], args := [d1, d2] }
  | _ => none }
def DeviceStaysWrongFalsely : Prop := deviceStaysRow.holds Try.pinned (OpenSpec.ofChange deviceStaysWrong)

/-- 'rolodexlaw07.DeviceNil': WHATEVER THE INPUT: true; the input reads as it did. -/
def deviceNilSpec : ChangeSpec := { name := "deviceNil", fn := fun _ => fun
  | [d1, d2] => { results := [.lit (.bool true)], args := [d1, d2] }
  | _ => none }
def deviceNilRow : OpenClaim := { program := "ytcjcbokgcgmegaa", sum := "c018934939f1813cfd95f6fe1cae50502e1120ce301b0c12adb5c70de5c801d3", func := "rolodex/rolodexlaw07.DeviceNil", spec := "deviceNil", apart := false }
def DeviceNilSaid : Prop := deviceNilRow.holds Try.pinned (OpenSpec.ofChange deviceNilSpec)

/-- ITS FALSE NEIGHBOUR: 'it returns false'. Refute it at one input. -/
def deviceNilWrong : ChangeSpec := { name := "deviceNil", fn := fun _ => fun
  | [d1, d2] => { results := [.lit (.bool false)], args := [d1, d2] }
  | _ => none }
def DeviceNilWrongFalsely : Prop := deviceNilRow.holds Try.pinned (OpenSpec.ofChange deviceNilWrong)

/- THE SECOND FORM. 'bulk': how many values and letters a reading holds, each counted each time it is reached (what is shared counts as often as it is met; a slice's spare places count too). A statement '..UptoSaid' is the law's where the arguments, and the package variables that the reading takes, are together of bulk at most 1048576: NARROWER than '..Said'. Prove '..Said' where nothing that the law and all that it calls make is longer than what came in: it says more and counts as full. Else prove '..UptoSaid'. A law counts once. -/
mutual
def uptoBulk {H : Type} : DataW H → Nat
  | .lit (.string bytes) => bytes.length + 1
  | .lit _ => 1
  | .nil => 1
  | .ptr d => uptoBulk d + 1
  | .slice elems spare => uptoBulkAll elems + uptoBulkAll spare + 1
  | .agg parts => uptoBulkAll parts + 1
  | .iface _ d => uptoBulk d + 1
  | .map entries => uptoBulkEntries entries + 1
  | .held _ => 1
def uptoBulkAll {H : Type} : List (DataW H) → Nat
  | [] => 0
  | d :: r => uptoBulk d + uptoBulkAll r
def uptoBulkEntries {H : Type} : List (Lit × DataW H) → Nat
  | [] => 0
  | x :: r => uptoBulkEntry x + uptoBulkEntries r
def uptoBulkEntry {H : Type} : Lit × DataW H → Nat
  | (.string bytes, d) => bytes.length + uptoBulk d + 1
  | (_, d) => uptoBulk d + 1
 end
def uptoSmall : (H : Type) → List (DataW H) → Bool := fun _ ds => decide (uptoBulkAll ds ≤ 1048576)
def OpenSpec.upto (s : _root_.Go.ChangeSpec) : _root_.Go.OpenSpec := { _root_.Go.OpenSpec.ofChange s with cond := some uptoSmall }

/-- 'rolodexlaw07.DeviceWhole', WHERE WHAT IT READS IS OF BULK AT MOST 1048576: true; the input reads as it did. -/
def deviceWholeUptoRow : OpenClaim := { program := "ytcjcbokgcgmegaa", sum := "c018934939f1813cfd95f6fe1cae50502e1120ce301b0c12adb5c70de5c801d3", func := "rolodex/rolodexlaw07.DeviceWhole", spec := "deviceWhole", apart := false, narrowed := true }
def DeviceWholeUptoSaid : Prop := deviceWholeUptoRow.holds Try.pinned (OpenSpec.upto deviceWholeSpec)

/-- 'rolodexlaw07.DeviceFuse', WHERE WHAT IT READS IS OF BULK AT MOST 1048576: true; the input reads as it did. -/
def deviceFuseUptoRow : OpenClaim := { program := "ytcjcbokgcgmegaa", sum := "c018934939f1813cfd95f6fe1cae50502e1120ce301b0c12adb5c70de5c801d3", func := "rolodex/rolodexlaw07.DeviceFuse", spec := "deviceFuse", apart := false, narrowed := true }
def DeviceFuseUptoSaid : Prop := deviceFuseUptoRow.holds Try.pinned (OpenSpec.upto deviceFuseSpec)

/-- 'rolodexlaw07.DevicePlays', WHERE WHAT IT READS IS OF BULK AT MOST 1048576: true; the input reads as it did. -/
def devicePlaysUptoRow : OpenClaim := { program := "ytcjcbokgcgmegaa", sum := "c018934939f1813cfd95f6fe1cae50502e1120ce301b0c12adb5c70de5c801d3", func := "rolodex/rolodexlaw07.DevicePlays", spec := "devicePlays", apart := false, narrowed := true }
def DevicePlaysUptoSaid : Prop := devicePlaysUptoRow.holds Try.pinned (OpenSpec.upto devicePlaysSpec)

/-- 'rolodexlaw07.DeviceStays', WHERE WHAT IT READS IS OF BULK AT MOST 1048576: true; the input reads as it did. -/
def deviceStaysUptoRow : OpenClaim := { program := "ytcjcbokgcgmegaa", sum := "c018934939f1813cfd95f6fe1cae50502e1120ce301b0c12adb5c70de5c801d3", func := "rolodex/rolodexlaw07.DeviceStays", spec := "deviceStays", apart := false, narrowed := true }
def DeviceStaysUptoSaid : Prop := deviceStaysUptoRow.holds Try.pinned (OpenSpec.upto deviceStaysSpec)

/-- 'rolodexlaw07.DeviceNil', WHERE WHAT IT READS IS OF BULK AT MOST 1048576: true; the input reads as it did. -/
def deviceNilUptoRow : OpenClaim := { program := "ytcjcbokgcgmegaa", sum := "c018934939f1813cfd95f6fe1cae50502e1120ce301b0c12adb5c70de5c801d3", func := "rolodex/rolodexlaw07.DeviceNil", spec := "deviceNil", apart := false, narrowed := true }
def DeviceNilUptoSaid : Prop := deviceNilUptoRow.holds Try.pinned (OpenSpec.upto deviceNilSpec)

end Rows
end Go.Proofs.Ytcjcbokgcgmegaa
