/- The formulas of some functions, and that each is what its code comes to. Written by a program of ours. -/
import Derived.Test.YthlmiijlhiiccaaV
import Derived.Test.YthlmiijlhiiccaaNm
import Derived.Test.YthlmiijlhiiccaaProg
import Derived.KernelRfl
set_option linter.unusedVariables false
set_option maxRecDepth 100000
namespace Go.Proofs.Ythlmiijlhiiccaa
open Go Go.Vc Go.Proofs

/- rolodex/rolodexlaw18.MessageBack -/
def A_law18_MessageBack : Ann := { qs := [7, 8, 9, 10, 11, 12, 13, 14, 15, 17, 19, 21, 31, 32, 33, 34, 35, 36, 37, 38, 39, 40, 43, 44, 45, 62, 63, 64, 67, 83, 84, 88, 95, 96, 97, 102, 109, 110, 112, 113, 116], cuts := [(3, [])], plans := [(7, (.take 0 (.take 1 (.take 2 (.take 3 (.take 4 (.alt 5 (.alt 6 (.take 7 (.take 8 .done)) .stop) .stop)))))))] }
def F_law18_MessageBack (m : Array Value) (h : Heap) (R : Value → Heap → Prop) : Prop :=
  newBlk h (42 : Nat) m fun (b0 : Nat) (h1 : Heap) =>
  ∃ (J2 : PUnit → Heap → Prop),
    (CallsH Try.prog n_law18_awake #[] h1 fun (v3 : Value) (h4 : Heap) =>
        Ext h1 h4 ∧
          ∃ (t5 : Bool),
            v3 = Value.bool t5 ∧
              br (!t5) (CallsH Try.prog n_law18_awake #[] h4 fun (v6 : Value) (h7 : Heap) => Ext h4 h7 ∧ ∃ (t8 : Bool), v6 = Value.bool t8 ∧ R (Value.bool t8) h7)
                (∃ (cs9 : Array Value),
                  row h4 (Addr.mk b0 (0 : Nat) none) (279 : Nat) = some cs9 ∧
                    CallsH Try.prog n_ref18_Few #[Value.agg cs9] h4 fun (v10 : Value) (h11 : Heap) =>
                      Ext h4 h11 ∧
                        ∃ (t12 : Bool),
                          v10 = Value.bool t12 ∧
                            br (!t12) (CallsH Try.prog n_law18_awake #[] h11 fun (v13 : Value) (h14 : Heap) => Ext h11 h14 ∧ ∃ (t15 : Bool), v13 = Value.bool t15 ∧ R (Value.bool t15) h14) (J2 () h11))) ∧
      ∀ (x16 : PUnit) (h17 : Heap),
        J2 x16 h17 →
          ∃ (cs18 : Array Value),
            row h17 (Addr.mk b0 (0 : Nat) none) (279 : Nat) = some cs18 ∧
              CallsH Try.prog n_message_Encode #[Value.agg cs18] h17 fun (v19 : Value) (h20 : Heap) =>
                Ext h17 h20 ∧
                  ∃ (p21 : Option Addr),
                    ∃ (l22 : Nat),
                      ∃ (c23 : Nat),
                        ∃ (n24 : Int),
                          v19 = Value.tuple #[Value.slice p21 l22 c23, Value.int IntKind.i64 n24] ∧
                            br (n24 != (0 : Int)) (R (Value.bool ((↑l22 : Int) == (0 : Int))) h20)
                              (CallsH Try.prog n_message_Decode #[Value.slice p21 l22 c23] h20 fun (v25 : Value) (h26 : Heap) =>
                                Ext h20 h26 ∧
                                  ∃ (cs27 : Array Value),
                                    Array.size cs27 = (279 : Nat) ∧
                                      ∃ (n28 : Int),
                                        v25 = Value.tuple #[Value.agg cs27, Value.int IntKind.i64 n28] ∧
                                          newBlk h26 (42 : Nat)
                                            (List.toArray
                                              (Value.int IntKind.i64 (0 : Int) ::
                                                Value.int IntKind.i64 (0 : Int) ::
                                                  Value.int IntKind.i64 (0 : Int) ::
                                                    Value.int IntKind.i64 (0 : Int) ::
                                                      Value.int IntKind.i64 (0 : Int) ::
                                                        Value.int IntKind.i64 (0 : Int) ::
                                                          Value.int IntKind.i64 (0 : Int) ::
                                                            Value.slice none (0 : Nat) (0 : Nat) ::
                                                              Value.slice none (0 : Nat) (0 : Nat) ::
                                                                Value.int IntKind.i64 (0 : Int) ::
                                                                  Value.int IntKind.i64 (0 : Int) ::
                                                                    (List.replicate (64 : Nat) (Value.int IntKind.u8 (0 : Int)) ++
                                                                      Value.slice none (0 : Nat) (0 : Nat) ::
                                                                        Value.slice none (0 : Nat) (0 : Nat) ::
                                                                          Value.slice none (0 : Nat) (0 : Nat) ::
                                                                            Value.slice none (0 : Nat) (0 : Nat) ::
                                                                              Value.slice none (0 : Nat) (0 : Nat) ::
                                                                                (List.replicate (32 : Nat) (Value.int IntKind.u8 (0 : Int)) ++
                                                                                  Value.slice none (0 : Nat) (0 : Nat) ::
                                                                                    Value.int IntKind.i64 (0 : Int) ::
                                                                                      (List.replicate (64 : Nat) (Value.int IntKind.u8 (0 : Int)) ++
                                                                                        Value.int IntKind.i64 (0 : Int) ::
                                                                                          (List.replicate (96 : Nat) (Value.int IntKind.u8 (0 : Int)) ++
                                                                                            [Value.slice none (0 : Nat) (0 : Nat), Value.slice none (0 : Nat) (0 : Nat),
                                                                                              Value.slice none (0 : Nat) (0 : Nat), Value.slice none (0 : Nat) (0 : Nat)]))))))
                                            fun (b29 : Nat) (h30 : Heap) =>
                                            storeP (some (279 : Nat)) h30 (Addr.mk b29 (0 : Nat) none) (Value.agg cs27) fun (h31 : Heap) =>
                                              br (n28 == (0 : Int))
                                                (∃ (cs32 : Array Value),
                                                  row h31 (Addr.mk b29 (0 : Nat) none) (279 : Nat) = some cs32 ∧
                                                    ∃ (cs33 : Array Value),
                                                      row h31 (Addr.mk b0 (0 : Nat) none) (279 : Nat) = some cs33 ∧
                                                        CallsH Try.prog n_ref18_Bare #[Value.agg cs33] h31 fun (v34 : Value) (h35 : Heap) =>
                                                          Ext h31 h35 ∧
                                                            ∃ (cs36 : Array Value),
                                                              Array.size cs36 = (279 : Nat) ∧
                                                                v34 = Value.agg cs36 ∧
                                                                  CallsH Try.prog n_message_Same #[Value.agg cs32, Value.agg cs36] h35 fun (v37 : Value) (h38 : Heap) =>
                                                                    Ext h35 h38 ∧ ∃ (t39 : Bool), v37 = Value.bool t39 ∧ R (Value.bool t39) h38)
                                                (R (Value.bool false) h31))
theorem C_law18_MessageBack (m : Array Value) {h : Heap} {R : Value → Heap → Prop} (H : F_law18_MessageBack m h R) : CallsH Try.prog n_law18_MessageBack [(.agg m)].toArray h R :=
  fn_sound (A := A_law18_MessageBack) (Eq.mp (by kernel_rfl : F_law18_MessageBack m h R = fnVc Go.Proofs.Try.prog A_law18_MessageBack 6 [(.agg m)] h R) H)

end Go.Proofs.Ythlmiijlhiiccaa
