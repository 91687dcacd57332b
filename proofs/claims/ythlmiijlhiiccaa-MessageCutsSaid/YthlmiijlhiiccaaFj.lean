/- The formulas of some functions, and that each is what its code comes to. Written by a program of ours. -/
import Derived.Test.YthlmiijlhiiccaaV
import Derived.Test.YthlmiijlhiiccaaNm
import Derived.Test.YthlmiijlhiiccaaProg
import Derived.KernelRfl
set_option linter.unusedVariables false
set_option maxRecDepth 100000
namespace Go.Proofs.Ythlmiijlhiiccaa
open Go Go.Vc Go.Proofs

/- rolodex/rolodexlaw18.MessageCuts -/
def A_law18_MessageCuts : Ann := { qs := [7, 8, 9, 10, 11, 12, 13, 14, 15, 17, 19, 21, 31, 32, 33, 34, 35, 36, 37, 38, 39, 40, 43, 44, 45, 62, 63, 64, 67, 83, 84, 88, 95, 96, 97, 102, 109, 110, 112, 113, 116], cuts := [(3, [])] }
def F_law18_MessageCuts (m : Array Value) (cut : Int) (more : Option Addr) (more_l : Nat) (more_c : Nat) (h : Heap) (R : Value → Heap → Prop) : Prop :=
  newBlk h (42 : Nat) m fun (b0 : Nat) (h1 : Heap) =>
  ∃ (J2 : PUnit → Heap → Prop),
    (CallsH Try.prog n_law18_awake #[] h1 fun (v3 : Value) (h4 : Heap) =>
        Ext h1 h4 ∧
          ∃ (t5 : Bool),
            v3 = Value.bool t5 ∧
              br (!t5) (CallsH Try.prog n_law18_awake #[] h4 fun (v6 : Value) (h7 : Heap) => Ext h4 h7 ∧ ∃ (t8 : Bool), v6 = Value.bool t8 ∧ R (Value.bool t8) h7)
                (∃ (cs9 : Array Value),
                  row h4 (Addr.mk b0 (0 : Nat) none) (279 : Nat) = some cs9 ∧
                    CallsH Try.prog n_ref18_Few #[Value.agg cs9] h4 fun (v10 : Value) (h11 : Heap) =>
                      Ext h4 h11 ∧
                        ∃ (t12 : Bool),
                          v10 = Value.bool t12 ∧
                            br (!t12) (CallsH Try.prog n_law18_awake #[] h11 fun (v13 : Value) (h14 : Heap) => Ext h11 h14 ∧ ∃ (t15 : Bool), v13 = Value.bool t15 ∧ R (Value.bool t15) h14)
                              (br ((↑more_l : Int) == (0 : Int))
                                (CallsH Try.prog n_law18_awake #[] h11 fun (v16 : Value) (h17 : Heap) => Ext h11 h17 ∧ ∃ (t18 : Bool), v16 = Value.bool t18 ∧ R (Value.bool t18) h17)
                                (br (decide ((↑more_l : Int) > (50 : Int)))
                                  (CallsH Try.prog n_law18_awake #[] h11 fun (v19 : Value) (h20 : Heap) => Ext h11 h20 ∧ ∃ (t21 : Bool), v19 = Value.bool t21 ∧ R (Value.bool t21) h20) (J2 () h11))))) ∧
      ∀ (x22 : PUnit) (h23 : Heap),
        J2 x22 h23 →
          ∃ (cs24 : Array Value),
            row h23 (Addr.mk b0 (0 : Nat) none) (279 : Nat) = some cs24 ∧
              CallsH Try.prog n_message_Encode #[Value.agg cs24] h23 fun (v25 : Value) (h26 : Heap) =>
                Ext h23 h26 ∧
                  ∃ (p27 : Option Addr),
                    ∃ (l28 : Nat),
                      ∃ (c29 : Nat),
                        ∃ (n30 : Int),
                          v25 = Value.tuple #[Value.slice p27 l28 c29, Value.int IntKind.i64 n30] ∧
                            br (n30 != (0 : Int)) (R (Value.bool true) h26)
                              ((↑l28 : Int) ≠ (0 : Int) ∧
                                sliceP (1 : Nat) p27 (0 : Int) (Int.tmod (IntKind.wrap IntKind.i64 cut) (↑l28 : Int)) (↑c29 : Int) c29 fun (p31 : Option Addr) (l32 c33 : Nat) =>
                                  CallsH Try.prog n_message_Decode #[Value.slice p31 l32 c33] h26 fun (v34 : Value) (h35 : Heap) =>
                                    Ext h26 h35 ∧
                                      ∃ (cs36 : Array Value),
                                        Array.size cs36 = (279 : Nat) ∧
                                          ∃ (n37 : Int),
                                            v34 = Value.tuple #[Value.agg cs36, Value.int IntKind.i64 n37] ∧
                                              newBlk h35 (42 : Nat)
                                                (List.toArray
                                                  (Value.int IntKind.i64 (0 : Int) ::
                                                    Value.int IntKind.i64 (0 : Int) ::
                                                      Value.int IntKind.i64 (0 : Int) ::
                                                        Value.int IntKind.i64 (0 : Int) ::
                                                          Value.int IntKind.i64 (0 : Int) ::
                                                            Value.int IntKind.i64 (0 : Int) ::
                                                              Value.int IntKind.i64 (0 : Int) ::
                                                                Value.slice none (0 : Nat) (0 : Nat) ::
                                                                  Value.slice none (0 : Nat) (0 : Nat) ::
                                                                    Value.int IntKind.i64 (0 : Int) ::
                                                                      Value.int IntKind.i64 (0 : Int) ::
                                                                        (List.replicate (64 : Nat) (Value.int IntKind.u8 (0 : Int)) ++
                                                                          Value.slice none (0 : Nat) (0 : Nat) ::
                                                                            Value.slice none (0 : Nat) (0 : Nat) ::
                                                                              Value.slice none (0 : Nat) (0 : Nat) ::
                                                                                Value.slice none (0 : Nat) (0 : Nat) ::
                                                                                  Value.slice none (0 : Nat) (0 : Nat) ::
                                                                                    (List.replicate (32 : Nat) (Value.int IntKind.u8 (0 : Int)) ++
                                                                                      Value.slice none (0 : Nat) (0 : Nat) ::
                                                                                        Value.int IntKind.i64 (0 : Int) ::
                                                                                          (List.replicate (64 : Nat) (Value.int IntKind.u8 (0 : Int)) ++
                                                                                            Value.int IntKind.i64 (0 : Int) ::
                                                                                              (List.replicate (96 : Nat) (Value.int IntKind.u8 (0 : Int)) ++
                                                                                                [Value.slice none (0 : Nat) (0 : Nat), Value.slice none (0 : Nat) (0 : Nat),
                                                                                                  Value.slice none (0 : Nat) (0 : Nat), Value.slice none (0 : Nat) (0 : Nat)]))))))
                                                fun (b38 : Nat) (h39 : Heap) =>
                                                storeP (some (279 : Nat)) h39 (Addr.mk b38 (0 : Nat) none) (Value.agg cs36) fun (h40 : Heap) =>
                                                  newBlk h40 (5 : Nat) #[] fun (b41 : Nat) (h42 : Heap) =>
                                                    appendP (5 : Nat) (1 : Nat) (1 : Nat) #[Value.int IntKind.u8 (0 : Int)] (some (Addr.mk b41 (0 : Nat) none)) (0 : Nat) (0 : Nat) p27 l28 h42
                                                      fun (p43 : Option Addr) (l44 c45 : Nat) (h46 : Heap) =>
                                                      appendP (5 : Nat) (1 : Nat) (1 : Nat) #[Value.int IntKind.u8 (0 : Int)] p43 l44 c45 more more_l h46
                                                        fun (p47 : Option Addr) (l48 c49 : Nat) (h50 : Heap) =>
                                                        CallsH Try.prog n_message_Decode #[Value.slice p47 l48 c49] h50 fun (v51 : Value) (h52 : Heap) =>
                                                          Ext h50 h52 ∧
                                                            ∃ (cs53 : Array Value),
                                                              Array.size cs53 = (279 : Nat) ∧
                                                                ∃ (n54 : Int),
                                                                  v51 = Value.tuple #[Value.agg cs53, Value.int IntKind.i64 n54] ∧
                                                                    newBlk h52 (42 : Nat)
                                                                      (List.toArray
                                                                        (Value.int IntKind.i64 (0 : Int) ::
                                                                          Value.int IntKind.i64 (0 : Int) ::
                                                                            Value.int IntKind.i64 (0 : Int) ::
                                                                              Value.int IntKind.i64 (0 : Int) ::
                                                                                Value.int IntKind.i64 (0 : Int) ::
                                                                                  Value.int IntKind.i64 (0 : Int) ::
                                                                                    Value.int IntKind.i64 (0 : Int) ::
                                                                                      Value.slice none (0 : Nat) (0 : Nat) ::
                                                                                        Value.slice none (0 : Nat) (0 : Nat) ::
                                                                                          Value.int IntKind.i64 (0 : Int) ::
                                                                                            Value.int IntKind.i64 (0 : Int) ::
                                                                                              (List.replicate (64 : Nat) (Value.int IntKind.u8 (0 : Int)) ++
                                                                                                Value.slice none (0 : Nat) (0 : Nat) ::
                                                                                                  Value.slice none (0 : Nat) (0 : Nat) ::
                                                                                                    Value.slice none (0 : Nat) (0 : Nat) ::
                                                                                                      Value.slice none (0 : Nat) (0 : Nat) ::
                                                                                                        Value.slice none (0 : Nat) (0 : Nat) ::
                                                                                                          (List.replicate (32 : Nat) (Value.int IntKind.u8 (0 : Int)) ++
                                                                                                            Value.slice none (0 : Nat) (0 : Nat) ::
                                                                                                              Value.int IntKind.i64 (0 : Int) ::
                                                                                                                (List.replicate (64 : Nat) (Value.int IntKind.u8 (0 : Int)) ++
                                                                                                                  Value.int IntKind.i64 (0 : Int) ::
                                                                                                                    (List.replicate (96 : Nat) (Value.int IntKind.u8 (0 : Int)) ++
                                                                                                                      [Value.slice none (0 : Nat) (0 : Nat), Value.slice none (0 : Nat) (0 : Nat),
                                                                                                                        Value.slice none (0 : Nat) (0 : Nat),
                                                                                                                        Value.slice none (0 : Nat) (0 : Nat)]))))))
                                                                      fun (b55 : Nat) (h56 : Heap) =>
                                                                      storeP (some (279 : Nat)) h56 (Addr.mk b55 (0 : Nat) none) (Value.agg cs53) fun (h57 : Heap) =>
                                                                        br (n37 == (2 : Int)) (R (Value.bool (n54 == (2 : Int))) h57) (R (Value.bool false) h57))
theorem C_law18_MessageCuts (m : Array Value) (cut : Int) (more : Option Addr) (more_l : Nat) (more_c : Nat) {h : Heap} {R : Value → Heap → Prop} (H : F_law18_MessageCuts m cut more more_l more_c h R) : CallsH Try.prog n_law18_MessageCuts [(.agg m), (.int .u16 cut), (.slice more more_l more_c)].toArray h R :=
  fn_sound (A := A_law18_MessageCuts) (Eq.mp (by kernel_rfl : F_law18_MessageCuts m cut more more_l more_c h R = fnVc Go.Proofs.Try.prog A_law18_MessageCuts 5 [(.agg m), (.int .u16 cut), (.slice more more_l more_c)] h R) H)

end Go.Proofs.Ythlmiijlhiiccaa
