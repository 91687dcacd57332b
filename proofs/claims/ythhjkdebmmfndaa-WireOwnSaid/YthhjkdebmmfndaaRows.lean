/-
  No cell of these rows narrows 'for every input' (looked for: loops, veiled, ifaces, maps, wideKeys, modest, calm, conditions, laid).
  DERIVED. THE GIVEN ROWS OF THIS SEAT. 26 by the template 'for every input the law returns true; each argument reads behind the call as it read before'; 0 by the template 'total and deterministic' (their statements: YthhjkdebmmfndaaTotals.lean).
  GIVEN WITH THE SEED: the statements are not yours to turn. If you find one false, say at which input.
  Laid BY PROGRAM, IN A SANDBOX (cutbox-rows.mjs): the forced cells as the released guide's own fill.sh prints them over the translation 32b0d8174a8e1502… (all of the seat's roots in one cut). By AI agents, Wed Nov 11 2026. No macro, syntax, notation, axiom, sorry.
-/
import Derived.Test.YthhjkdebmmfndaaChecked
import GoSem.Claim
import GoSem.ClaimJoined
import GoSem.ClaimMapViews
import Derived.JoinedTies
import Derived.KernelRfl
namespace Go.Proofs.Ythhjkdebmmfndaa
/- THE CELL 'sum', in the pinned program and in every row, IS THE sha256 OF THE DUMP (.gsa) THAT YthhjkdebmmfndaaProg.lean LOADS. Nothing in Lean hashes anything: it is a label: what it is worth is what the hold of that sum in a sandbox is worth. -/
noncomputable def Try.pinned : Pinned := { name := "ythhjkdebmmfndaa", sum := "32b0d8174a8e1502ef0e50648904d647b7969ed13a2a970e99e48760f608645a", checked := Try.checked }
namespace Rows
def none {H : Type} : Left H := { results := [], args := [] }

/-- 'rolodexlaw01.WireOwn': WHATEVER THE INPUT: true; the input reads as it did. -/
def wireOwnSpec : ChangeSpec := { name := "wireOwn", fn := fun _ => fun
  | [d] => { results := [.lit (.bool true)], args := [d] }
  | _ => none }
def wireOwnRow : OpenClaim := { program := "ythhjkdebmmfndaa", sum := "32b0d8174a8e1502ef0e50648904d647b7969ed13a2a970e99e48760f608645a", func := "rolodex/rolodexlaw01.WireOwn", spec := "wireOwn", apart := false }
def WireOwnSaid : Prop := wireOwnRow.holds Try.pinned (OpenSpec.ofChange wireOwnSpec)

/-- ITS FALSE NEIGHBOUR: 'it returns false'. Refute it at one input. -/
def wireOwnWrong : ChangeSpec := { name := "wireOwn", fn := fun _ => fun
  | [d] => { results := [.lit (.bool false)], args := [d] }
  | _ => none }
def WireOwnWrongFalsely : Prop := wireOwnRow.holds Try.pinned (OpenSpec.ofChange wireOwnWrong)

/-- 'rolodexlaw01.WireWrites': WHATEVER THE INPUT: true; the input reads as it did. -/
def wireWritesSpec : ChangeSpec := { name := "wireWrites", fn := fun _ => fun
  | [d] => { results := [.lit (.bool true)], args := [d] }
  | _ => none }
def wireWritesRow : OpenClaim := { program := "ythhjkdebmmfndaa", sum := "32b0d8174a8e1502ef0e50648904d647b7969ed13a2a970e99e48760f608645a", func := "rolodex/rolodexlaw01.WireWrites", spec := "wireWrites", apart := false }
def WireWritesSaid : Prop := wireWritesRow.holds Try.pinned (OpenSpec.ofChange wireWritesSpec)

/-- ITS FALSE NEIGHBOUR: 'it returns false'. Refute it at one input. -/
def wireWritesWrong : ChangeSpec := { name := "wireWrites", fn := fun _ => fun
  | [d] => { results := [.lit (.bool false)], args := [d] }
  | _ => none }
def WireWritesWrongFalsely : Prop := wireWritesRow.holds Try.pinned (OpenSpec.ofChange wireWritesWrong)

/-- 'rolodexlaw01.WireSpoiled': WHATEVER THE INPUT: true; the input reads as it did. -/
def wireSpoiledSpec : ChangeSpec := { name := "wireSpoiled", fn := fun _ => fun
  | [d1, d2, d3] => { results := [.lit (.bool true)], args := [d1, d2, d3] }
  | _ => none }
def wireSpoiledRow : OpenClaim := { program := "ythhjkdebmmfndaa", sum := "32b0d8174a8e1502ef0e50648904d647b7969ed13a2a970e99e48760f608645a", func := "rolodex/rolodexlaw01.WireSpoiled", spec := "wireSpoiled", apart := false }
def WireSpoiledSaid : Prop := wireSpoiledRow.holds Try.pinned (OpenSpec.ofChange wireSpoiledSpec)

/-- ITS FALSE NEIGHBOUR: 'it returns false'. Refute it at one input. -/
def wireSpoiledWrong : ChangeSpec := { name := "wireSpoiled", fn := fun _ => fun
  | [d1, d2, d3] => { results := [.lit (.bool false)], args := [d1, d2, d3] }
  | _ => none }
def WireSpoiledWrongFalsely : Prop := wireSpoiledRow.holds Try.pinned (OpenSpec.ofChange wireSpoiledWrong)

/-- 'rolodexlaw07.DeviceWhole': WHATEVER THE INPUT: true; the input reads as it did. -/
def deviceWholeSpec : ChangeSpec := { name := "deviceWhole", fn := fun _ => fun
  | [d1, d2] => { results := [.lit (.bool true)], args := [d1, d2] }
  | _ => none }
def deviceWholeRow : OpenClaim := { program := "ythhjkdebmmfndaa", sum := "32b0d8174a8e1502ef0e50648904d647b7969ed13a2a970e99e48760f608645a", func := "rolodex/rolodexlaw07.DeviceWhole", spec := "deviceWhole", apart := false }
def DeviceWholeSaid : Prop := deviceWholeRow.holds Try.pinned (OpenSpec.ofChange deviceWholeSpec)

/-- ITS FALSE NEIGHBOUR: 'it returns false'. Refute it at one input. -/
def deviceWholeWrong : ChangeSpec := { name := "deviceWhole", fn := fun _ => fun
  | [d1, d2] => { results := [.lit (.bool false)], args := [d1, d2] }
  | _ => none }
def DeviceWholeWrongFalsely : Prop := deviceWholeRow.holds Try.pinned (OpenSpec.ofChange deviceWholeWrong)

/-- 'rolodexlaw07.DeviceFuse': WHATEVER THE INPUT: true; the input reads as it did. -/
def deviceFuseSpec : ChangeSpec := { name := "deviceFuse", fn := fun _ => fun
  | [d] => { results := [.lit (.bool true)], args := [d] }
  | _ => none }
def deviceFuseRow : OpenClaim := { program := "ythhjkdebmmfndaa", sum := "32b0d8174a8e1502ef0e50648904d647b7969ed13a2a970e99e48760f608645a", func := "rolodex/rolodexlaw07.DeviceFuse", spec := "deviceFuse", apart := false }
def DeviceFuseSaid : Prop := deviceFuseRow.holds Try.pinned (OpenSpec.ofChange deviceFuseSpec)

/-- ITS FALSE NEIGHBOUR: 'it returns false'. Refute it at one input. -/
def deviceFuseWrong : ChangeSpec := { name := "deviceFuse", fn := fun _ => fun
  | [d] => { results := [.lit (.bool false)], args := [d] }
  | _ => none }
def DeviceFuseWrongFalsely : Prop := deviceFuseRow.holds Try.pinned (OpenSpec.ofChange deviceFuseWrong)

/-- 'rolodexlaw07.DevicePlays': WHATEVER THE INPUT: true; the input reads as it did. -/
def devicePlaysSpec : ChangeSpec := { name := "devicePlays", fn := fun _ => fun
  | [d1, d2] => { results := [.lit (.bool true)], args := [d1, d2] }
  | _ => none }
def devicePlaysRow : OpenClaim := { program := "ythhjkdebmmfndaa", sum := "32b0d8174a8e1502ef0e50648904d647b7969ed13a2a970e99e48760f608645a", func := "rolodex/rolodexlaw07.DevicePlays", spec := "devicePlays", apart := false }
def DevicePlaysSaid : Prop := devicePlaysRow.holds Try.pinned (OpenSpec.ofChange devicePlaysSpec)

/-- ITS FALSE NEIGHBOUR: 'it returns false'. Refute it at one input. -/
def devicePlaysWrong : ChangeSpec := { name := "devicePlays", fn := fun _ => fun
  | [d1, d2] => { results := [.lit (.bool false)], args := [d1, d2] }
  | _ => none }
def DevicePlaysWrongFalsely : Prop := devicePlaysRow.holds Try.pinned (OpenSpec.ofChange devicePlaysWrong)

/-- 'rolodexlaw07.DeviceStays': WHATEVER THE INPUT: true; the input reads as it did. -/
def deviceStaysSpec : ChangeSpec := { name := "deviceStays", fn := fun _ => fun
  | [d1, d2] => { results := [.lit (.bool true)], args := [d1, d2] }
  | _ => none }
def deviceStaysRow : OpenClaim := { program := "ythhjkdebmmfndaa", sum := "32b0d8174a8e1502ef0e50648904d647b7969ed13a2a970e99e48760f608645a", func := "rolodex/rolodexlaw07.DeviceStays", spec := "deviceStays", apart := false }
def DeviceStaysSaid : Prop := deviceStaysRow.holds Try.pinned (OpenSpec.ofChange deviceStaysSpec)

/-- ITS FALSE NEIGHBOUR: 'it returns false'. Refute it at one input. -/
def deviceStaysWrong : ChangeSpec := { name := "deviceStays", fn := fun _ => fun
  | [d1, d2] => { results := [.lit (.bool false)], args := [d1, d2] }
  | _ => none }
def DeviceStaysWrongFalsely : Prop := deviceStaysRow.holds Try.pinned (OpenSpec.ofChange deviceStaysWrong)

/-- 'rolodexlaw07.DeviceNil': WHATEVER THE INPUT: true; the input reads as it did. -/
def deviceNilSpec : ChangeSpec := { name := "deviceNil", fn := fun _ => fun
  | [d1, d2] => { results := [.lit (.bool true)], args := [d1, d2] }
  | _ => none }
def deviceNilRow : OpenClaim := { program := "ythhjkdebmmfndaa", sum := "32b0d8174a8e1502ef0e50648904d647b7969ed13a2a970e99e48760f608645a", func := "rolodex/rolodexlaw07.DeviceNil", spec := "deviceNil", apart := false }
def DeviceNilSaid : Prop := deviceNilRow.holds Try.pinned (OpenSpec.ofChange deviceNilSpec)

/-- ITS FALSE NEIGHBOUR: 'it returns false'. Refute it at one input. -/
def deviceNilWrong : ChangeSpec := { name := "deviceNil", fn := fun _ => fun
  | [d1, d2] => { results := [.lit (.bool false)], args := [d1, d2] }
  | _ => none }
def DeviceNilWrongFalsely : Prop := deviceNilRow.holds Try.pinned (OpenSpec.ofChange deviceNilWrong)

/-- 'rolodexlaw01.WireReads': WHATEVER THE INPUT: true; the input reads as it did. -/
def wireReadsSpec : ChangeSpec := { name := "wireReads", fn := fun _ => fun
  | [d1, d2] => { results := [.lit (.bool true)], args := [d1, d2] }
  | _ => none }
def wireReadsRow : OpenClaim := { program := "ythhjkdebmmfndaa", sum := "32b0d8174a8e1502ef0e50648904d647b7969ed13a2a970e99e48760f608645a", func := "rolodex/rolodexlaw01.WireReads", spec := "wireReads", apart := false }
def WireReadsSaid : Prop := wireReadsRow.holds Try.pinned (OpenSpec.ofChange wireReadsSpec)

/-- ITS FALSE NEIGHBOUR: 'it returns false'. Refute it at one input. -/
def wireReadsWrong : ChangeSpec := { name := "wireReads", fn := fun _ => fun
  | [d1, d2] => { results := [.lit (.bool false)], args := [d1, d2] }
  | _ => none }
def WireReadsWrongFalsely : Prop := wireReadsRow.holds Try.pinned (OpenSpec.ofChange wireReadsWrong)

/-- 'rolodexlaw01.WireNil': WHATEVER THE INPUT: true; the input reads as it did. -/
def wireNilSpec : ChangeSpec := { name := "wireNil", fn := fun _ => fun
  | [d] => { results := [.lit (.bool true)], args := [d] }
  | _ => none }
def wireNilRow : OpenClaim := { program := "ythhjkdebmmfndaa", sum := "32b0d8174a8e1502ef0e50648904d647b7969ed13a2a970e99e48760f608645a", func := "rolodex/rolodexlaw01.WireNil", spec := "wireNil", apart := false }
def WireNilSaid : Prop := wireNilRow.holds Try.pinned (OpenSpec.ofChange wireNilSpec)

/-- ITS FALSE NEIGHBOUR: 'it returns false'. Refute it at one input. -/
def wireNilWrong : ChangeSpec := { name := "wireNil", fn := fun _ => fun
  | [d] => { results := [.lit (.bool false)], args := [d] }
  | _ => none }
def WireNilWrongFalsely : Prop := wireNilRow.holds Try.pinned (OpenSpec.ofChange wireNilWrong)

/-- 'rolodexlaw01.WireBack': WHATEVER THE INPUT: true; the input reads as it did. -/
def wireBackSpec : ChangeSpec := { name := "wireBack", fn := fun _ => fun
  | [d] => { results := [.lit (.bool true)], args := [d] }
  | _ => none }
def wireBackRow : OpenClaim := { program := "ythhjkdebmmfndaa", sum := "32b0d8174a8e1502ef0e50648904d647b7969ed13a2a970e99e48760f608645a", func := "rolodex/rolodexlaw01.WireBack", spec := "wireBack", apart := false }
def WireBackSaid : Prop := wireBackRow.holds Try.pinned (OpenSpec.ofChange wireBackSpec)

/-- ITS FALSE NEIGHBOUR: 'it returns false'. Refute it at one input. -/
def wireBackWrong : ChangeSpec := { name := "wireBack", fn := fun _ => fun
  | [d] => { results := [.lit (.bool false)], args := [d] }
  | _ => none }
def WireBackWrongFalsely : Prop := wireBackRow.holds Try.pinned (OpenSpec.ofChange wireBackWrong)

/-- 'rolodexlaw08.SlotCounts': WHATEVER THE INPUT: true; the input reads as it did. -/
def slotCountsSpec : ChangeSpec := { name := "slotCounts", fn := fun _ => fun
  | [d] => { results := [.lit (.bool true)], args := [d] }
  | _ => none }
def slotCountsRow : OpenClaim := { program := "ythhjkdebmmfndaa", sum := "32b0d8174a8e1502ef0e50648904d647b7969ed13a2a970e99e48760f608645a", func := "rolodex/rolodexlaw08.SlotCounts", spec := "slotCounts", apart := false }
def SlotCountsSaid : Prop := slotCountsRow.holds Try.pinned (OpenSpec.ofChange slotCountsSpec)

/-- ITS FALSE NEIGHBOUR: 'it returns false'. Refute it at one input. -/
def slotCountsWrong : ChangeSpec := { name := "slotCounts", fn := fun _ => fun
  | [d] => { results := [.lit (.bool false)], args := [d] }
  | _ => none }
def SlotCountsWrongFalsely : Prop := slotCountsRow.holds Try.pinned (OpenSpec.ofChange slotCountsWrong)

/-- 'rolodexlaw08.SlotAny': WHATEVER THE INPUT: true; the input reads as it did. -/
def slotAnySpec : ChangeSpec := { name := "slotAny", fn := fun _ => fun
  | [d1, d2, d3] => { results := [.lit (.bool true)], args := [d1, d2, d3] }
  | _ => none }
def slotAnyRow : OpenClaim := { program := "ythhjkdebmmfndaa", sum := "32b0d8174a8e1502ef0e50648904d647b7969ed13a2a970e99e48760f608645a", func := "rolodex/rolodexlaw08.SlotAny", spec := "slotAny", apart := false }
def SlotAnySaid : Prop := slotAnyRow.holds Try.pinned (OpenSpec.ofChange slotAnySpec)

/-- ITS FALSE NEIGHBOUR: 'it returns false'. Refute it at one input. -/
def slotAnyWrong : ChangeSpec := { name := "slotAny", fn := fun _ => fun
  | [d1, d2, d3] => { results := [.lit (.bool false)], args := [d1, d2, d3] }
  | _ => none }
def SlotAnyWrongFalsely : Prop := slotAnyRow.holds Try.pinned (OpenSpec.ofChange slotAnyWrong)

/-- 'rolodexlaw08.SlotNone': WHATEVER THE INPUT: true; the input reads as it did. -/
def slotNoneSpec : ChangeSpec := { name := "slotNone", fn := fun _ => fun
  | [d1, d2] => { results := [.lit (.bool true)], args := [d1, d2] }
  | _ => none }
def slotNoneRow : OpenClaim := { program := "ythhjkdebmmfndaa", sum := "32b0d8174a8e1502ef0e50648904d647b7969ed13a2a970e99e48760f608645a", func := "rolodex/rolodexlaw08.SlotNone", spec := "slotNone", apart := false }
def SlotNoneSaid : Prop := slotNoneRow.holds Try.pinned (OpenSpec.ofChange slotNoneSpec)

/-- ITS FALSE NEIGHBOUR: 'it returns false'. Refute it at one input. -/
def slotNoneWrong : ChangeSpec := { name := "slotNone", fn := fun _ => fun
  | [d1, d2] => { results := [.lit (.bool false)], args := [d1, d2] }
  | _ => none }
def SlotNoneWrongFalsely : Prop := slotNoneRow.holds Try.pinned (OpenSpec.ofChange slotNoneWrong)

/-- 'rolodexlaw08.SlotPlays': WHATEVER THE INPUT: true; the input reads as it did. -/
def slotPlaysSpec : ChangeSpec := { name := "slotPlays", fn := fun _ => fun
  | [d] => { results := [.lit (.bool true)], args := [d] }
  | _ => none }
def slotPlaysRow : OpenClaim := { program := "ythhjkdebmmfndaa", sum := "32b0d8174a8e1502ef0e50648904d647b7969ed13a2a970e99e48760f608645a", func := "rolodex/rolodexlaw08.SlotPlays", spec := "slotPlays", apart := false }
def SlotPlaysSaid : Prop := slotPlaysRow.holds Try.pinned (OpenSpec.ofChange slotPlaysSpec)

/-- ITS FALSE NEIGHBOUR: 'it returns false'. Refute it at one input. -/
def slotPlaysWrong : ChangeSpec := { name := "slotPlays", fn := fun _ => fun
  | [d] => { results := [.lit (.bool false)], args := [d] }
  | _ => none }
def SlotPlaysWrongFalsely : Prop := slotPlaysRow.holds Try.pinned (OpenSpec.ofChange slotPlaysWrong)

/-- 'rolodexlaw08.SlotWhole': WHATEVER THE INPUT: true; the input reads as it did. -/
def slotWholeSpec : ChangeSpec := { name := "slotWhole", fn := fun _ => fun
  | [d] => { results := [.lit (.bool true)], args := [d] }
  | _ => none }
def slotWholeRow : OpenClaim := { program := "ythhjkdebmmfndaa", sum := "32b0d8174a8e1502ef0e50648904d647b7969ed13a2a970e99e48760f608645a", func := "rolodex/rolodexlaw08.SlotWhole", spec := "slotWhole", apart := false }
def SlotWholeSaid : Prop := slotWholeRow.holds Try.pinned (OpenSpec.ofChange slotWholeSpec)

/-- ITS FALSE NEIGHBOUR: 'it returns false'. Refute it at one input. -/
def slotWholeWrong : ChangeSpec := { name := "slotWhole", fn := fun _ => fun
  | [d] => { results := [.lit (.bool false)], args := [d] }
  | _ => none }
def SlotWholeWrongFalsely : Prop := slotWholeRow.holds Try.pinned (OpenSpec.ofChange slotWholeWrong)

/-- 'rolodexlaw09.WalWhole': WHATEVER THE INPUT: true; the input reads as it did. -/
def walWholeSpec : ChangeSpec := { name := "walWhole", fn := fun _ => fun
  | [d] => { results := [.lit (.bool true)], args := [d] }
  | _ => none }
def walWholeRow : OpenClaim := { program := "ythhjkdebmmfndaa", sum := "32b0d8174a8e1502ef0e50648904d647b7969ed13a2a970e99e48760f608645a", func := "rolodex/rolodexlaw09.WalWhole", spec := "walWhole", apart := false }
def WalWholeSaid : Prop := walWholeRow.holds Try.pinned (OpenSpec.ofChange walWholeSpec)

/-- ITS FALSE NEIGHBOUR: 'it returns false'. Refute it at one input. -/
def walWholeWrong : ChangeSpec := { name := "walWhole", fn := fun _ => fun
  | [d] => { results := [.lit (.bool false)], args := [d] }
  | _ => none }
def WalWholeWrongFalsely : Prop := walWholeRow.holds Try.pinned (OpenSpec.ofChange walWholeWrong)

/-- 'rolodexlaw09.WalFull': WHATEVER THE INPUT: true; the input reads as it did. -/
def walFullSpec : ChangeSpec := { name := "walFull", fn := fun _ => fun
  | [d1, d2] => { results := [.lit (.bool true)], args := [d1, d2] }
  | _ => none }
def walFullRow : OpenClaim := { program := "ythhjkdebmmfndaa", sum := "32b0d8174a8e1502ef0e50648904d647b7969ed13a2a970e99e48760f608645a", func := "rolodex/rolodexlaw09.WalFull", spec := "walFull", apart := false }
def WalFullSaid : Prop := walFullRow.holds Try.pinned (OpenSpec.ofChange walFullSpec)

/-- ITS FALSE NEIGHBOUR: 'it returns false'. Refute it at one input. -/
def walFullWrong : ChangeSpec := { name := "walFull", fn := fun _ => fun
  | [d1, d2] => { results := [.lit (.bool false)], args := [d1, d2] }
  | _ => none }
def WalFullWrongFalsely : Prop := walFullRow.holds Try.pinned (OpenSpec.ofChange walFullWrong)

/-- 'rolodexlaw18.MessageEncodes': WHATEVER THE INPUT: true; the input reads as it did. -/
def messageEncodesSpec : ChangeSpec := { name := "messageEncodes", fn := fun _ => fun
  | [d] => { results := [.lit (.bool true)], args := [d] }
  | _ => none }
def messageEncodesRow : OpenClaim := { program := "ythhjkdebmmfndaa", sum := "32b0d8174a8e1502ef0e50648904d647b7969ed13a2a970e99e48760f608645a", func := "rolodex/rolodexlaw18.MessageEncodes", spec := "messageEncodes", unfollowed := true, recurses := true, apart := false }
def MessageEncodesSaid : Prop := messageEncodesRow.holds Try.pinned (OpenSpec.ofChange messageEncodesSpec)

/-- ITS FALSE NEIGHBOUR: 'it returns false'. Refute it at one input. -/
def messageEncodesWrong : ChangeSpec := { name := "messageEncodes", fn := fun _ => fun
  | [d] => { results := [.lit (.bool false)], args := [d] }
  | _ => none }
def MessageEncodesWrongFalsely : Prop := messageEncodesRow.holds Try.pinned (OpenSpec.ofChange messageEncodesWrong)

/-- 'rolodexlaw09.WalCrashes': WHATEVER THE INPUT: true; the input reads as it did. -/
def walCrashesSpec : ChangeSpec := { name := "walCrashes", fn := fun _ => fun
  | [d] => { results := [.lit (.bool true)], args := [d] }
  | _ => none }
def walCrashesRow : OpenClaim := { program := "ythhjkdebmmfndaa", sum := "32b0d8174a8e1502ef0e50648904d647b7969ed13a2a970e99e48760f608645a", func := "rolodex/rolodexlaw09.WalCrashes", spec := "walCrashes", apart := false }
def WalCrashesSaid : Prop := walCrashesRow.holds Try.pinned (OpenSpec.ofChange walCrashesSpec)

/-- ITS FALSE NEIGHBOUR: 'it returns false'. Refute it at one input. -/
def walCrashesWrong : ChangeSpec := { name := "walCrashes", fn := fun _ => fun
  | [d] => { results := [.lit (.bool false)], args := [d] }
  | _ => none }
def WalCrashesWrongFalsely : Prop := walCrashesRow.holds Try.pinned (OpenSpec.ofChange walCrashesWrong)

/-- 'rolodexlaw18.MessageSame': WHATEVER THE INPUT: true; the input reads as it did. -/
def messageSameSpec : ChangeSpec := { name := "messageSame", fn := fun _ => fun
  | [d1, d2] => { results := [.lit (.bool true)], args := [d1, d2] }
  | _ => none }
def messageSameRow : OpenClaim := { program := "ythhjkdebmmfndaa", sum := "32b0d8174a8e1502ef0e50648904d647b7969ed13a2a970e99e48760f608645a", func := "rolodex/rolodexlaw18.MessageSame", spec := "messageSame", unfollowed := true, recurses := true, apart := false }
def MessageSameSaid : Prop := messageSameRow.holds Try.pinned (OpenSpec.ofChange messageSameSpec)

/-- ITS FALSE NEIGHBOUR: 'it returns false'. Refute it at one input. -/
def messageSameWrong : ChangeSpec := { name := "messageSame", fn := fun _ => fun
  | [d1, d2] => { results := [.lit (.bool false)], args := [d1, d2] }
  | _ => none }
def MessageSameWrongFalsely : Prop := messageSameRow.holds Try.pinned (OpenSpec.ofChange messageSameWrong)

/-- 'rolodexlaw10.VaultNone': WHATEVER THE INPUT: true; the input reads as it did. -/
def vaultNoneSpec : ChangeSpec := { name := "vaultNone", fn := fun _ => fun
  | [d1, d2] => { results := [.lit (.bool true)], args := [d1, d2] }
  | _ => none }
def vaultNoneRow : OpenClaim := { program := "ythhjkdebmmfndaa", sum := "32b0d8174a8e1502ef0e50648904d647b7969ed13a2a970e99e48760f608645a", func := "rolodex/rolodexlaw10.VaultNone", spec := "vaultNone", apart := false }
def VaultNoneSaid : Prop := vaultNoneRow.holds Try.pinned (OpenSpec.ofChange vaultNoneSpec)

/-- ITS FALSE NEIGHBOUR: 'it returns false'. Refute it at one input. -/
def vaultNoneWrong : ChangeSpec := { name := "vaultNone", fn := fun _ => fun
  | [d1, d2] => { results := [.lit (.bool false)], args := [d1, d2] }
  | _ => none }
def VaultNoneWrongFalsely : Prop := vaultNoneRow.holds Try.pinned (OpenSpec.ofChange vaultNoneWrong)

/-- 'rolodexlaw18.MessageCuts': WHATEVER THE INPUT: true; the input reads as it did. -/
def messageCutsSpec : ChangeSpec := { name := "messageCuts", fn := fun _ => fun
  | [d1, d2, d3] => { results := [.lit (.bool true)], args := [d1, d2, d3] }
  | _ => none }
def messageCutsRow : OpenClaim := { program := "ythhjkdebmmfndaa", sum := "32b0d8174a8e1502ef0e50648904d647b7969ed13a2a970e99e48760f608645a", func := "rolodex/rolodexlaw18.MessageCuts", spec := "messageCuts", unfollowed := true, recurses := true, apart := false }
def MessageCutsSaid : Prop := messageCutsRow.holds Try.pinned (OpenSpec.ofChange messageCutsSpec)

/-- ITS FALSE NEIGHBOUR: 'it returns false'. Refute it at one input. -/
def messageCutsWrong : ChangeSpec := { name := "messageCuts", fn := fun _ => fun
  | [d1, d2, d3] => { results := [.lit (.bool false)], args := [d1, d2, d3] }
  | _ => none }
def MessageCutsWrongFalsely : Prop := messageCutsRow.holds Try.pinned (OpenSpec.ofChange messageCutsWrong)

/-- 'rolodexlaw10.VaultReplaces': WHATEVER THE INPUT: true; the input reads as it did. -/
def vaultReplacesSpec : ChangeSpec := { name := "vaultReplaces", fn := fun _ => fun
  | [d] => { results := [.lit (.bool true)], args := [d] }
  | _ => none }
def vaultReplacesRow : OpenClaim := { program := "ythhjkdebmmfndaa", sum := "32b0d8174a8e1502ef0e50648904d647b7969ed13a2a970e99e48760f608645a", func := "rolodex/rolodexlaw10.VaultReplaces", spec := "vaultReplaces", apart := false }
def VaultReplacesSaid : Prop := vaultReplacesRow.holds Try.pinned (OpenSpec.ofChange vaultReplacesSpec)

/-- ITS FALSE NEIGHBOUR: 'it returns false'. Refute it at one input. -/
def vaultReplacesWrong : ChangeSpec := { name := "vaultReplaces", fn := fun _ => fun
  | [d] => { results := [.lit (.bool false)], args := [d] }
  | _ => none }
def VaultReplacesWrongFalsely : Prop := vaultReplacesRow.holds Try.pinned (OpenSpec.ofChange vaultReplacesWrong)

/-- 'rolodexlaw10.VaultCrashes': WHATEVER THE INPUT: true; the input reads as it did. -/
def vaultCrashesSpec : ChangeSpec := { name := "vaultCrashes", fn := fun _ => fun
  | [d1, d2] => { results := [.lit (.bool true)], args := [d1, d2] }
  | _ => none }
def vaultCrashesRow : OpenClaim := { program := "ythhjkdebmmfndaa", sum := "32b0d8174a8e1502ef0e50648904d647b7969ed13a2a970e99e48760f608645a", func := "rolodex/rolodexlaw10.VaultCrashes", spec := "vaultCrashes", apart := false }
def VaultCrashesSaid : Prop := vaultCrashesRow.holds Try.pinned (OpenSpec.ofChange vaultCrashesSpec)

/-- ITS FALSE NEIGHBOUR: 'it returns false'. Refute it at one input. -/
def vaultCrashesWrong : ChangeSpec := { name := "vaultCrashes", fn := fun _ => fun
  | [d1, d2] => { results := [.lit (.bool false)], args := [d1, d2] }
  | _ => none }
def VaultCrashesWrongFalsely : Prop := vaultCrashesRow.holds Try.pinned (OpenSpec.ofChange vaultCrashesWrong)

/-- 'rolodexlaw18.MessageBack': WHATEVER THE INPUT: true; the input reads as it did. -/
def messageBackSpec : ChangeSpec := { name := "messageBack", fn := fun _ => fun
  | [d] => { results := [.lit (.bool true)], args := [d] }
  | _ => none }
def messageBackRow : OpenClaim := { program := "ythhjkdebmmfndaa", sum := "32b0d8174a8e1502ef0e50648904d647b7969ed13a2a970e99e48760f608645a", func := "rolodex/rolodexlaw18.MessageBack", spec := "messageBack", unfollowed := true, recurses := true, apart := false }
def MessageBackSaid : Prop := messageBackRow.holds Try.pinned (OpenSpec.ofChange messageBackSpec)

/-- ITS FALSE NEIGHBOUR: 'it returns false'. Refute it at one input. -/
def messageBackWrong : ChangeSpec := { name := "messageBack", fn := fun _ => fun
  | [d] => { results := [.lit (.bool false)], args := [d] }
  | _ => none }
def MessageBackWrongFalsely : Prop := messageBackRow.holds Try.pinned (OpenSpec.ofChange messageBackWrong)

/- THE SECOND FORM. 'bulk': how many values and letters a reading holds, each counted each time it is reached (what is shared counts as often as it is met; a slice's spare places count too). A statement '..UptoSaid' is the law's where the arguments, and the package variables that the reading takes, are together of bulk at most 1048576: NARROWER than '..Said'. Prove '..Said' where nothing that the law and all that it calls make is longer than what came in: it says more and counts as full. Else prove '..UptoSaid'. A law counts once. -/
mutual
def uptoBulk {H : Type} : DataW H → Nat
  | .lit (.string bytes) => bytes.length + 1
  | .lit _ => 1
  | .nil => 1
  | .ptr d => uptoBulk d + 1
  | .slice elems spare => uptoBulkAll elems + uptoBulkAll spare + 1
  | .agg parts => uptoBulkAll parts + 1
  | .iface _ d => uptoBulk d + 1
  | .map entries => uptoBulkEntries entries + 1
  | .held _ => 1
def uptoBulkAll {H : Type} : List (DataW H) → Nat
  | [] => 0
  | d :: r => uptoBulk d + uptoBulkAll r
def uptoBulkEntries {H : Type} : List (Lit × DataW H) → Nat
  | [] => 0
  | x :: r => uptoBulkEntry x + uptoBulkEntries r
def uptoBulkEntry {H : Type} : Lit × DataW H → Nat
  | (.string bytes, d) => bytes.length + uptoBulk d + 1
  | (_, d) => uptoBulk d + 1
 end
def uptoSmall : (H : Type) → List (DataW H) → Bool := fun _ ds => decide (uptoBulkAll ds ≤ 1048576)
def OpenSpec.upto (s : _root_.Go.ChangeSpec) : _root_.Go.OpenSpec := { _root_.Go.OpenSpec.ofChange s with cond := some uptoSmall }

/-- 'rolodexlaw01.WireOwn', WHERE WHAT IT READS IS OF BULK AT MOST 1048576: true; the input reads as it did. -/
def wireOwnUptoRow : OpenClaim := { program := "ythhjkdebmmfndaa", sum := "32b0d8174a8e1502ef0e50648904d647b7969ed13a2a970e99e48760f608645a", func := "rolodex/rolodexlaw01.WireOwn", spec := "wireOwn", apart := false, narrowed := true }
def WireOwnUptoSaid : Prop := wireOwnUptoRow.holds Try.pinned (OpenSpec.upto wireOwnSpec)

/-- 'rolodexlaw01.WireWrites', WHERE WHAT IT READS IS OF BULK AT MOST 1048576: true; the input reads as it did. -/
def wireWritesUptoRow : OpenClaim := { program := "ythhjkdebmmfndaa", sum := "32b0d8174a8e1502ef0e50648904d647b7969ed13a2a970e99e48760f608645a", func := "rolodex/rolodexlaw01.WireWrites", spec := "wireWrites", apart := false, narrowed := true }
def WireWritesUptoSaid : Prop := wireWritesUptoRow.holds Try.pinned (OpenSpec.upto wireWritesSpec)

/-- 'rolodexlaw01.WireSpoiled', WHERE WHAT IT READS IS OF BULK AT MOST 1048576: true; the input reads as it did. -/
def wireSpoiledUptoRow : OpenClaim := { program := "ythhjkdebmmfndaa", sum := "32b0d8174a8e1502ef0e50648904d647b7969ed13a2a970e99e48760f608645a", func := "rolodex/rolodexlaw01.WireSpoiled", spec := "wireSpoiled", apart := false, narrowed := true }
def WireSpoiledUptoSaid : Prop := wireSpoiledUptoRow.holds Try.pinned (OpenSpec.upto wireSpoiledSpec)

/-- 'rolodexlaw07.DeviceWhole', WHERE WHAT IT READS IS OF BULK AT MOST 1048576: true; the input reads as it did. -/
def deviceWholeUptoRow : OpenClaim := { program := "ythhjkdebmmfndaa", sum := "32b0d8174a8e1502ef0e50648904d647b7969ed13a2a970e99e48760f608645a", func := "rolodex/rolodexlaw07.DeviceWhole", spec := "deviceWhole", apart := false, narrowed := true }
def DeviceWholeUptoSaid : Prop := deviceWholeUptoRow.holds Try.pinned (OpenSpec.upto deviceWholeSpec)

/-- 'rolodexlaw07.DeviceFuse', WHERE WHAT IT READS IS OF BULK AT MOST 1048576: true; the input reads as it did. -/
def deviceFuseUptoRow : OpenClaim := { program := "ythhjkdebmmfndaa", sum := "32b0d8174a8e1502ef0e50648904d647b7969ed13a2a970e99e48760f608645a", func := "rolodex/rolodexlaw07.DeviceFuse", spec := "deviceFuse", apart := false, narrowed := true }
def DeviceFuseUptoSaid : Prop := deviceFuseUptoRow.holds Try.pinned (OpenSpec.upto deviceFuseSpec)

/-- 'rolodexlaw07.DevicePlays', WHERE WHAT IT READS IS OF BULK AT MOST 1048576: true; the input reads as it did. -/
def devicePlaysUptoRow : OpenClaim := { program := "ythhjkdebmmfndaa", sum := "32b0d8174a8e1502ef0e50648904d647b7969ed13a2a970e99e48760f608645a", func := "rolodex/rolodexlaw07.DevicePlays", spec := "devicePlays", apart := false, narrowed := true }
def DevicePlaysUptoSaid : Prop := devicePlaysUptoRow.holds Try.pinned (OpenSpec.upto devicePlaysSpec)

/-- 'rolodexlaw07.DeviceStays', WHERE WHAT IT READS IS OF BULK AT MOST 1048576: true; the input reads as it did. -/
def deviceStaysUptoRow : OpenClaim := { program := "ythhjkdebmmfndaa", sum := "32b0d8174a8e1502ef0e50648904d647b7969ed13a2a970e99e48760f608645a", func := "rolodex/rolodexlaw07.DeviceStays", spec := "deviceStays", apart := false, narrowed := true }
def DeviceStaysUptoSaid : Prop := deviceStaysUptoRow.holds Try.pinned (OpenSpec.upto deviceStaysSpec)

/-- 'rolodexlaw07.DeviceNil', WHERE WHAT IT READS IS OF BULK AT MOST 1048576: true; the input reads as it did. -/
def deviceNilUptoRow : OpenClaim := { program := "ythhjkdebmmfndaa", sum := "32b0d8174a8e1502ef0e50648904d647b7969ed13a2a970e99e48760f608645a", func := "rolodex/rolodexlaw07.DeviceNil", spec := "deviceNil", apart := false, narrowed := true }
def DeviceNilUptoSaid : Prop := deviceNilUptoRow.holds Try.pinned (OpenSpec.upto deviceNilSpec)

/-- 'rolodexlaw01.WireReads', WHERE WHAT IT READS IS OF BULK AT MOST 1048576: true; the input reads as it did. -/
def wireReadsUptoRow : OpenClaim := { program := "ythhjkdebmmfndaa", sum := "32b0d8174a8e1502ef0e50648904d647b7969ed13a2a970e99e48760f608645a", func := "rolodex/rolodexlaw01.WireReads", spec := "wireReads", apart := false, narrowed := true }
def WireReadsUptoSaid : Prop := wireReadsUptoRow.holds Try.pinned (OpenSpec.upto wireReadsSpec)

/-- 'rolodexlaw01.WireNil', WHERE WHAT IT READS IS OF BULK AT MOST 1048576: true; the input reads as it did. -/
def wireNilUptoRow : OpenClaim := { program := "ythhjkdebmmfndaa", sum := "32b0d8174a8e1502ef0e50648904d647b7969ed13a2a970e99e48760f608645a", func := "rolodex/rolodexlaw01.WireNil", spec := "wireNil", apart := false, narrowed := true }
def WireNilUptoSaid : Prop := wireNilUptoRow.holds Try.pinned (OpenSpec.upto wireNilSpec)

/-- 'rolodexlaw01.WireBack', WHERE WHAT IT READS IS OF BULK AT MOST 1048576: true; the input reads as it did. -/
def wireBackUptoRow : OpenClaim := { program := "ythhjkdebmmfndaa", sum := "32b0d8174a8e1502ef0e50648904d647b7969ed13a2a970e99e48760f608645a", func := "rolodex/rolodexlaw01.WireBack", spec := "wireBack", apart := false, narrowed := true }
def WireBackUptoSaid : Prop := wireBackUptoRow.holds Try.pinned (OpenSpec.upto wireBackSpec)

/-- 'rolodexlaw08.SlotCounts', WHERE WHAT IT READS IS OF BULK AT MOST 1048576: true; the input reads as it did. -/
def slotCountsUptoRow : OpenClaim := { program := "ythhjkdebmmfndaa", sum := "32b0d8174a8e1502ef0e50648904d647b7969ed13a2a970e99e48760f608645a", func := "rolodex/rolodexlaw08.SlotCounts", spec := "slotCounts", apart := false, narrowed := true }
def SlotCountsUptoSaid : Prop := slotCountsUptoRow.holds Try.pinned (OpenSpec.upto slotCountsSpec)

/-- 'rolodexlaw08.SlotAny', WHERE WHAT IT READS IS OF BULK AT MOST 1048576: true; the input reads as it did. -/
def slotAnyUptoRow : OpenClaim := { program := "ythhjkdebmmfndaa", sum := "32b0d8174a8e1502ef0e50648904d647b7969ed13a2a970e99e48760f608645a", func := "rolodex/rolodexlaw08.SlotAny", spec := "slotAny", apart := false, narrowed := true }
def SlotAnyUptoSaid : Prop := slotAnyUptoRow.holds Try.pinned (OpenSpec.upto slotAnySpec)

/-- 'rolodexlaw08.SlotNone', WHERE WHAT IT READS IS OF BULK AT MOST 1048576: true; the input reads as it did. -/
def slotNoneUptoRow : OpenClaim := { program := "ythhjkdebmmfndaa", sum := "32b0d8174a8e1502ef0e50648904d647b7969ed13a2a970e99e48760f608645a", func := "rolodex/rolodexlaw08.SlotNone", spec := "slotNone", apart := false, narrowed := true }
def SlotNoneUptoSaid : Prop := slotNoneUptoRow.holds Try.pinned (OpenSpec.upto slotNoneSpec)

/-- 'rolodexlaw08.SlotPlays', WHERE WHAT IT READS IS OF BULK AT MOST 1048576: true; the input reads as it did. -/
def slotPlaysUptoRow : OpenClaim := { program := "ythhjkdebmmfndaa", sum := "32b0d8174a8e1502ef0e50648904d647b7969ed13a2a970e99e48760f608645a", func := "rolodex/rolodexlaw08.SlotPlays", spec := "slotPlays", apart := false, narrowed := true }
def SlotPlaysUptoSaid : Prop := slotPlaysUptoRow.holds Try.pinned (OpenSpec.upto slotPlaysSpec)

/-- 'rolodexlaw08.SlotWhole', WHERE WHAT IT READS IS OF BULK AT MOST 1048576: true; the input reads as it did. -/
def slotWholeUptoRow : OpenClaim := { program := "ythhjkdebmmfndaa", sum := "32b0d8174a8e1502ef0e50648904d647b7969ed13a2a970e99e48760f608645a", func := "rolodex/rolodexlaw08.SlotWhole", spec := "slotWhole", apart := false, narrowed := true }
def SlotWholeUptoSaid : Prop := slotWholeUptoRow.holds Try.pinned (OpenSpec.upto slotWholeSpec)

/-- 'rolodexlaw09.WalWhole', WHERE WHAT IT READS IS OF BULK AT MOST 1048576: true; the input reads as it did. -/
def walWholeUptoRow : OpenClaim := { program := "ythhjkdebmmfndaa", sum := "32b0d8174a8e1502ef0e50648904d647b7969ed13a2a970e99e48760f608645a", func := "rolodex/rolodexlaw09.WalWhole", spec := "walWhole", apart := false, narrowed := true }
def WalWholeUptoSaid : Prop := walWholeUptoRow.holds Try.pinned (OpenSpec.upto walWholeSpec)

/-- 'rolodexlaw09.WalFull', WHERE WHAT IT READS IS OF BULK AT MOST 1048576: true; the input reads as it did. -/
def walFullUptoRow : OpenClaim := { program := "ythhjkdebmmfndaa", sum := "32b0d8174a8e1502ef0e50648904d647b7969ed13a2a970e99e48760f608645a", func := "rolodex/rolodexlaw09.WalFull", spec := "walFull", apart := false, narrowed := true }
def WalFullUptoSaid : Prop := walFullUptoRow.holds Try.pinned (OpenSpec.upto walFullSpec)

/-- 'rolodexlaw18.MessageEncodes', WHERE WHAT IT READS IS OF BULK AT MOST 1048576: true; the input reads as it did. -/
def messageEncodesUptoRow : OpenClaim := { program := "ythhjkdebmmfndaa", sum := "32b0d8174a8e1502ef0e50648904d647b7969ed13a2a970e99e48760f608645a", func := "rolodex/rolodexlaw18.MessageEncodes", spec := "messageEncodes", unfollowed := true, recurses := true, apart := false, narrowed := true }
def MessageEncodesUptoSaid : Prop := messageEncodesUptoRow.holds Try.pinned (OpenSpec.upto messageEncodesSpec)

/-- 'rolodexlaw09.WalCrashes', WHERE WHAT IT READS IS OF BULK AT MOST 1048576: true; the input reads as it did. -/
def walCrashesUptoRow : OpenClaim := { program := "ythhjkdebmmfndaa", sum := "32b0d8174a8e1502ef0e50648904d647b7969ed13a2a970e99e48760f608645a", func := "rolodex/rolodexlaw09.WalCrashes", spec := "walCrashes", apart := false, narrowed := true }
def WalCrashesUptoSaid : Prop := walCrashesUptoRow.holds Try.pinned (OpenSpec.upto walCrashesSpec)

/-- 'rolodexlaw18.MessageSame', WHERE WHAT IT READS IS OF BULK AT MOST 1048576: true; the input reads as it did. -/
def messageSameUptoRow : OpenClaim := { program := "ythhjkdebmmfndaa", sum := "32b0d8174a8e1502ef0e50648904d647b7969ed13a2a970e99e48760f608645a", func := "rolodex/rolodexlaw18.MessageSame", spec := "messageSame", unfollowed := true, recurses := true, apart := false, narrowed := true }
def MessageSameUptoSaid : Prop := messageSameUptoRow.holds Try.pinned (OpenSpec.upto messageSameSpec)

/-- 'rolodexlaw10.VaultNone', WHERE WHAT IT READS IS OF BULK AT MOST 1048576: true; the input reads as it did. -/
def vaultNoneUptoRow : OpenClaim := { program := "ythhjkdebmmfndaa", sum := "32b0d8174a8e1502ef0e50648904d647b7969ed13a2a970e99e48760f608645a", func := "rolodex/rolodexlaw10.VaultNone", spec := "vaultNone", apart := false, narrowed := true }
def VaultNoneUptoSaid : Prop := vaultNoneUptoRow.holds Try.pinned (OpenSpec.upto vaultNoneSpec)

/-- 'rolodexlaw18.MessageCuts', WHERE WHAT IT READS IS OF BULK AT MOST 1048576: true; the input reads as it did. -/
def messageCutsUptoRow : OpenClaim := { program := "ythhjkdebmmfndaa", sum := "32b0d8174a8e1502ef0e50648904d647b7969ed13a2a970e99e48760f608645a", func := "rolodex/rolodexlaw18.MessageCuts", spec := "messageCuts", unfollowed := true, recurses := true, apart := false, narrowed := true }
def MessageCutsUptoSaid : Prop := messageCutsUptoRow.holds Try.pinned (OpenSpec.upto messageCutsSpec)

/-- 'rolodexlaw10.VaultReplaces', WHERE WHAT IT READS IS OF BULK AT MOST 1048576: true; the input reads as it did. -/
def vaultReplacesUptoRow : OpenClaim := { program := "ythhjkdebmmfndaa", sum := "32b0d8174a8e1502ef0e50648904d647b7969ed13a2a970e99e48760f608645a", func := "rolodex/rolodexlaw10.VaultReplaces", spec := "vaultReplaces", apart := false, narrowed := true }
def VaultReplacesUptoSaid : Prop := vaultReplacesUptoRow.holds Try.pinned (OpenSpec.upto vaultReplacesSpec)

/-- 'rolodexlaw10.VaultCrashes', WHERE WHAT IT READS IS OF BULK AT MOST 1048576: true; the input reads as it did. -/
def vaultCrashesUptoRow : OpenClaim := { program := "ythhjkdebmmfndaa", sum := "32b0d8174a8e1502ef0e50648904d647b7969ed13a2a970e99e48760f608645a", func := "rolodex/rolodexlaw10.VaultCrashes", spec := "vaultCrashes", apart := false, narrowed := true }
def VaultCrashesUptoSaid : Prop := vaultCrashesUptoRow.holds Try.pinned (OpenSpec.upto vaultCrashesSpec)

/-- 'rolodexlaw18.MessageBack', WHERE WHAT IT READS IS OF BULK AT MOST 1048576: true; the input reads as it did. -/
def messageBackUptoRow : OpenClaim := { program := "ythhjkdebmmfndaa", sum := "32b0d8174a8e1502ef0e50648904d647b7969ed13a2a970e99e48760f608645a", func := "rolodex/rolodexlaw18.MessageBack", spec := "messageBack", unfollowed := true, recurses := true, apart := false, narrowed := true }
def MessageBackUptoSaid : Prop := messageBackUptoRow.holds Try.pinned (OpenSpec.upto messageBackSpec)

end Rows
end Go.Proofs.Ythhjkdebmmfndaa
