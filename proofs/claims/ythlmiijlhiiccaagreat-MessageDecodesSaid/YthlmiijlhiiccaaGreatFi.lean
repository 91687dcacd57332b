/- The formulas of some functions, and that each is what its code comes to. Written by a program of ours. -/
import Derived.Test.YthlmiijlhiiccaaGreatV
import Derived.Test.YthlmiijlhiiccaaGreatNm
import Derived.Test.YthlmiijlhiiccaaGreatProg
import Derived.KernelRfl
set_option linter.unusedVariables false
set_option maxRecDepth 100000
namespace Go.Proofs.YthlmiijlhiiccaaGreat
open Go Go.Vc Go.Proofs

/- rolodex/rolodexlaw18.MessageDecodes -/
def A_law18_MessageDecodes : Ann := { qs := [4, 5, 6, 7, 8, 9, 10, 11, 13, 14, 16, 17, 18, 19, 20, 21, 22, 23, 24, 25, 27, 37, 38, 41, 42, 58, 59, 60, 61, 62, 81, 86, 93, 94, 98, 106, 108, 109, 110, 112], cuts := [(3, [])], plans := [(7, (.take 0 (.take 1 (.take 2 (.take 3 (.alt 4 (.take 5 (.take 6 (.take 7 (.take 8 (.alt 9 (.alt 10 (.take 11 (.take 12 .done)) .stop) .stop))))) .stop))))))] }
def F_law18_MessageDecodes (b : Option Addr) (b_l : Nat) (b_c : Nat) (h : Heap) (R : Value → Heap → Prop) : Prop :=
 ∃ (J0 : PUnit → Heap → Prop),
 (CallsH Tryz.prog n_law18_awake #[] h fun (v1 : Value) (h2 : Heap) =>
 Ext h h2 ∧
 ∃ (t3 : Bool),
 v1 = Value.bool t3 ∧
 br (!t3) (CallsH Tryz.prog n_law18_awake #[] h2 fun (v4 : Value) (h5 : Heap) => Ext h2 h5 ∧ ∃ (t6 : Bool), v4 = Value.bool t6 ∧ R (Value.bool t6) h5)
 (br (decide ((↑b_l : Int) > (20000 : Int))) (CallsH Tryz.prog n_law18_awake #[] h2 fun (v7 : Value) (h8 : Heap) => Ext h2 h8 ∧ ∃ (t9 : Bool), v7 = Value.bool t9 ∧ R (Value.bool t9) h8)
 (J0 () h2))) ∧
 ∀ (x10 : PUnit) (h11 : Heap),
 J0 x10 h11 →
 CallsH Tryz.prog n_message_Decode #[Value.slice b b_l b_c] h11 fun (v12 : Value) (h13 : Heap) =>
 Ext h11 h13 ∧
 ∃ (cs14 : Array Value),
 Array.size cs14 = (279 : Nat) ∧
 ∃ (n15 : Int),
 v12 = Value.tuple #[Value.agg cs14, Value.int IntKind.i64 n15] ∧
 newBlk h13 (43 : Nat)
 (List.toArray
 (Value.int IntKind.i64 (0 : Int) ::
 Value.int IntKind.i64 (0 : Int) ::
 Value.int IntKind.i64 (0 : Int) ::
 Value.int IntKind.i64 (0 : Int) ::
 Value.int IntKind.i64 (0 : Int) ::
 Value.int IntKind.i64 (0 : Int) ::
 Value.int IntKind.i64 (0 : Int) ::
 Value.slice none (0 : Nat) (0 : Nat) ::
 Value.slice none (0 : Nat) (0 : Nat) ::
 Value.int IntKind.i64 (0 : Int) ::
 Value.int IntKind.i64 (0 : Int) ::
 (List.replicate (64 : Nat) (Value.int IntKind.u8 (0 : Int)) ++
 Value.slice none (0 : Nat) (0 : Nat) ::
 Value.slice none (0 : Nat) (0 : Nat) ::
 Value.slice none (0 : Nat) (0 : Nat) ::
 Value.slice none (0 : Nat) (0 : Nat) ::
 Value.slice none (0 : Nat) (0 : Nat) ::
 (List.replicate (32 : Nat) (Value.int IntKind.u8 (0 : Int)) ++
 Value.slice none (0 : Nat) (0 : Nat) ::
 Value.int IntKind.i64 (0 : Int) ::
 (List.replicate (64 : Nat) (Value.int IntKind.u8 (0 : Int)) ++
 Value.int IntKind.i64 (0 : Int) ::
 (List.replicate (96 : Nat) (Value.int IntKind.u8 (0 : Int)) ++
 [Value.slice none (0 : Nat) (0 : Nat), Value.slice none (0 : Nat) (0 : Nat), Value.slice none (0 : Nat) (0 : Nat),
 Value.slice none (0 : Nat) (0 : Nat)]))))))
 fun (b16 : Nat) (h17 : Heap) =>
 storeP (some (279 : Nat)) h17 (Addr.mk b16 (0 : Nat) none) (Value.agg cs14) fun (h18 : Heap) =>
 br (n15 != (0 : Int))
 (br (n15 == (2 : Int))
 (∃ (cs19 : Array Value),
 row h18 (Addr.mk b16 (0 : Nat) none) (279 : Nat) = some cs19 ∧
 CallsH Tryz.prog n_message_Same
 #[Value.agg cs19,
 Value.agg
 (List.toArray
 (Value.int IntKind.i64 (0 : Int) ::
 Value.int IntKind.i64 (0 : Int) ::
 Value.int IntKind.i64 (0 : Int) ::
 Value.int IntKind.i64 (0 : Int) ::
 Value.int IntKind.i64 (0 : Int) ::
 Value.int IntKind.i64 (0 : Int) ::
 Value.int IntKind.i64 (0 : Int) ::
 Value.slice none (0 : Nat) (0 : Nat) ::
 Value.slice none (0 : Nat) (0 : Nat) ::
 Value.int IntKind.i64 (0 : Int) ::
 Value.int IntKind.i64 (0 : Int) ::
 (List.replicate (64 : Nat) (Value.int IntKind.u8 (0 : Int)) ++
 Value.slice none (0 : Nat) (0 : Nat) ::
 Value.slice none (0 : Nat) (0 : Nat) ::
 Value.slice none (0 : Nat) (0 : Nat) ::
 Value.slice none (0 : Nat) (0 : Nat) ::
 Value.slice none (0 : Nat) (0 : Nat) ::
 (List.replicate (32 : Nat) (Value.int IntKind.u8 (0 : Int)) ++
 Value.slice none (0 : Nat) (0 : Nat) ::
 Value.int IntKind.i64 (0 : Int) ::
 (List.replicate (64 : Nat) (Value.int IntKind.u8 (0 : Int)) ++
 Value.int IntKind.i64 (0 : Int) ::
 (List.replicate (96 : Nat) (Value.int IntKind.u8 (0 : Int)) ++
 [Value.slice none (0 : Nat) (0 : Nat), Value.slice none (0 : Nat) (0 : Nat), Value.slice none (0 : Nat) (0 : Nat),
 Value.slice none (0 : Nat) (0 : Nat)]))))))]
 h18 fun (v20 : Value) (h21 : Heap) => Ext h18 h21 ∧ ∃ (t22 : Bool), v20 = Value.bool t22 ∧ R (Value.bool t22) h21)
 (R (Value.bool false) h18))
 (∃ (cs23 : Array Value),
 row h18 (Addr.mk b16 (0 : Nat) none) (279 : Nat) = some cs23 ∧
 CallsH Tryz.prog n_ref18_Bytes #[Value.agg cs23] h18 fun (v24 : Value) (h25 : Heap) =>
 Ext h18 h25 ∧
 ∃ (p26 : Option Addr),
 ∃ (l27 : Nat),
 ∃ (c28 : Nat),
 ∃ (t29 : Bool),
 v24 = Value.tuple #[Value.slice p26 l27 c28, Value.bool t29] ∧
 br t29
 (CallsH Tryz.prog n_ref01_Same #[Value.slice b b_l b_c, Value.slice p26 l27 c28] h25 fun (v30 : Value) (h31 : Heap) =>
 Ext h25 h31 ∧
 ∃ (t32 : Bool),
 v30 = Value.bool t32 ∧
 br t32
 (∃ (cs33 : Array Value),
 row h31 (Addr.mk b16 (0 : Nat) none) (279 : Nat) = some cs33 ∧
 ∃ (cs34 : Array Value),
 row h31 (Addr.mk b16 (0 : Nat) none) (279 : Nat) = some cs34 ∧
 CallsH Tryz.prog n_ref18_Bare #[Value.agg cs34] h31 fun (v35 : Value) (h36 : Heap) =>
 Ext h31 h36 ∧
 ∃ (cs37 : Array Value),
 Array.size cs37 = (279 : Nat) ∧
 v35 = Value.agg cs37 ∧
 CallsH Tryz.prog n_message_Same #[Value.agg cs33, Value.agg cs37] h36 fun (v38 : Value) (h39 : Heap) =>
 Ext h36 h39 ∧ ∃ (t40 : Bool), v38 = Value.bool t40 ∧ R (Value.bool t40) h39)
 (R (Value.bool false) h31))
 (R (Value.bool false) h25))
theorem C_law18_MessageDecodes (b : Option Addr) (b_l : Nat) (b_c : Nat) {h : Heap} {R : Value → Heap → Prop} (H : F_law18_MessageDecodes b b_l b_c h R) : CallsH Tryz.prog n_law18_MessageDecodes [(.slice b b_l b_c)].toArray h R :=
  fn_sound (A := A_law18_MessageDecodes) (Eq.mp (by kernel_rfl : F_law18_MessageDecodes b b_l b_c h R = fnVc Go.Proofs.Tryz.prog A_law18_MessageDecodes 3 [(.slice b b_l b_c)] h R) H)

end Go.Proofs.YthlmiijlhiiccaaGreat
