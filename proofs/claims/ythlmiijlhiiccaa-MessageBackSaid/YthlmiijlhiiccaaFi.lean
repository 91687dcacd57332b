/- The formulas of some functions, and that each is what its code comes to. Written by a program of ours. -/
import Derived.Test.YthlmiijlhiiccaaV
import Derived.Test.YthlmiijlhiiccaaNm
import Derived.Test.YthlmiijlhiiccaaProg
import Derived.KernelRfl
set_option linter.unusedVariables false
set_option maxRecDepth 100000
namespace Go.Proofs.Ythlmiijlhiiccaa
open Go Go.Vc Go.Proofs

/- rolodex/rolodexlaw18.MessageEncodes -/
def A_law18_MessageEncodes : Ann := { qs := [7, 8, 9, 10, 11, 12, 13, 14, 15, 17, 19, 21, 31, 32, 33, 34, 35, 36, 37, 38, 39, 40, 43, 44, 45, 62, 63, 64, 67, 83, 84, 88, 95, 96, 97, 102, 109, 110, 112, 113, 116], cuts := [(3, [])] }
def F_law18_MessageEncodes (m : Array Value) (h : Heap) (R : Value → Heap → Prop) : Prop :=
  newBlk h (42 : Nat) m fun (b0 : Nat) (h1 : Heap) =>
  ∃ (J2 : PUnit → Heap → Prop),
    (CallsH Try.prog n_law18_awake #[] h1 fun (v3 : Value) (h4 : Heap) =>
        Ext h1 h4 ∧
          ∃ (t5 : Bool),
            v3 = Value.bool t5 ∧
              br (!t5) (CallsH Try.prog n_law18_awake #[] h4 fun (v6 : Value) (h7 : Heap) => Ext h4 h7 ∧ ∃ (t8 : Bool), v6 = Value.bool t8 ∧ R (Value.bool t8) h7)
                (∃ (cs9 : Array Value),
                  row h4 (Addr.mk b0 (0 : Nat) none) (279 : Nat) = some cs9 ∧
                    CallsH Try.prog n_ref18_Few #[Value.agg cs9] h4 fun (v10 : Value) (h11 : Heap) =>
                      Ext h4 h11 ∧
                        ∃ (t12 : Bool),
                          v10 = Value.bool t12 ∧
                            br (!t12) (CallsH Try.prog n_law18_awake #[] h11 fun (v13 : Value) (h14 : Heap) => Ext h11 h14 ∧ ∃ (t15 : Bool), v13 = Value.bool t15 ∧ R (Value.bool t15) h14) (J2 () h11))) ∧
      ∀ (x16 : PUnit) (h17 : Heap),
        J2 x16 h17 →
          ∃ (cs18 : Array Value),
            row h17 (Addr.mk b0 (0 : Nat) none) (279 : Nat) = some cs18 ∧
              CallsH Try.prog n_message_Encode #[Value.agg cs18] h17 fun (v19 : Value) (h20 : Heap) =>
                Ext h17 h20 ∧
                  ∃ (p21 : Option Addr),
                    ∃ (l22 : Nat),
                      ∃ (c23 : Nat),
                        ∃ (n24 : Int),
                          v19 = Value.tuple #[Value.slice p21 l22 c23, Value.int IntKind.i64 n24] ∧
                            ∃ (cs25 : Array Value),
                              row h20 (Addr.mk b0 (0 : Nat) none) (279 : Nat) = some cs25 ∧
                                CallsH Try.prog n_ref18_Bytes #[Value.agg cs25] h20 fun (v26 : Value) (h27 : Heap) =>
                                  Ext h20 h27 ∧
                                    ∃ (p28 : Option Addr),
                                      ∃ (l29 : Nat),
                                        ∃ (c30 : Nat),
                                          ∃ (t31 : Bool),
                                            v26 = Value.tuple #[Value.slice p28 l29 c30, Value.bool t31] ∧
                                              br ((n24 == (0 : Int)) == t31)
                                                (br t31
                                                  (CallsH Try.prog n_ref01_Same #[Value.slice p21 l22 c23, Value.slice p28 l29 c30] h27 fun (v32 : Value) (h33 : Heap) =>
                                                    Ext h27 h33 ∧ ∃ (t34 : Bool), v32 = Value.bool t34 ∧ R (Value.bool t34) h33)
                                                  (br (n24 == (1 : Int))
                                                    (CallsH Try.prog n_ref01_Same #[Value.slice p21 l22 c23, Value.slice p28 l29 c30] h27 fun (v35 : Value) (h36 : Heap) =>
                                                      Ext h27 h36 ∧ ∃ (t37 : Bool), v35 = Value.bool t37 ∧ R (Value.bool t37) h36)
                                                    (R (Value.bool false) h27)))
                                                (R (Value.bool false) h27)
theorem C_law18_MessageEncodes (m : Array Value) {h : Heap} {R : Value → Heap → Prop} (H : F_law18_MessageEncodes m h R) : CallsH Try.prog n_law18_MessageEncodes [(.agg m)].toArray h R :=
  fn_sound (A := A_law18_MessageEncodes) (Eq.mp (by kernel_rfl : F_law18_MessageEncodes m h R = fnVc Go.Proofs.Try.prog A_law18_MessageEncodes 3 [(.agg m)] h R) H)

end Go.Proofs.Ythlmiijlhiiccaa
