/- The formulas of some functions, and that each is what its code comes to. Written by a program of ours. -/
import Derived.Test.YthlmiijlhiiccaaV
import Derived.Test.YthlmiijlhiiccaaNm
import Derived.Test.YthlmiijlhiiccaaProg
import Derived.KernelRfl
set_option linter.unusedVariables false
set_option maxRecDepth 100000
namespace Go.Proofs.Ythlmiijlhiiccaa
open Go Go.Vc Go.Proofs

/- rolodex/rolodexlaw18.MessageSame -/
def A_law18_MessageSame : Ann := { qs := [7, 8, 9, 10, 11, 12, 13, 14, 15, 17, 19, 21, 31, 32, 33, 34, 35, 36, 37, 38, 39, 40, 43, 44, 45, 62, 63, 64, 67, 83, 84, 88, 95, 96, 97, 102, 109, 110, 112, 113, 116], cuts := [(3, []), (4, [(5, .blk)]), (29, [])] }
def F_law18_MessageSame (m : Array Value) (which : Int) (h : Heap) (R : Value → Heap → Prop) : Prop :=
  newBlk h (42 : Nat) m fun (b0 : Nat) (h1 : Heap) =>
  ∃ (J2 : PUnit → Heap → Prop),
    (CallsH Try.prog n_law18_awake #[] h1 fun (v3 : Value) (h4 : Heap) =>
        Ext h1 h4 ∧
          ∃ (t5 : Bool),
            v3 = Value.bool t5 ∧
              br (!t5) (CallsH Try.prog n_law18_awake #[] h4 fun (v6 : Value) (h7 : Heap) => Ext h4 h7 ∧ ∃ (t8 : Bool), v6 = Value.bool t8 ∧ R (Value.bool t8) h7)
                (∃ (cs9 : Array Value),
                  row h4 (Addr.mk b0 (0 : Nat) none) (279 : Nat) = some cs9 ∧
                    CallsH Try.prog n_ref18_Few #[Value.agg cs9] h4 fun (v10 : Value) (h11 : Heap) =>
                      Ext h4 h11 ∧
                        ∃ (t12 : Bool),
                          v10 = Value.bool t12 ∧
                            br (!t12) (CallsH Try.prog n_law18_awake #[] h11 fun (v13 : Value) (h14 : Heap) => Ext h11 h14 ∧ ∃ (t15 : Bool), v13 = Value.bool t15 ∧ R (Value.bool t15) h14) (J2 () h11))) ∧
      ∀ (x16 : PUnit) (h17 : Heap),
        J2 x16 h17 →
          ∃ (J18 : Nat → Heap → Prop),
            (∃ (cs19 : Array Value),
                row h17 (Addr.mk b0 (0 : Nat) none) (279 : Nat) = some cs19 ∧
                  newBlk h17 (42 : Nat)
                    (List.toArray
                      (Value.int IntKind.i64 (0 : Int) ::
                        Value.int IntKind.i64 (0 : Int) ::
                          Value.int IntKind.i64 (0 : Int) ::
                            Value.int IntKind.i64 (0 : Int) ::
                              Value.int IntKind.i64 (0 : Int) ::
                                Value.int IntKind.i64 (0 : Int) ::
                                  Value.int IntKind.i64 (0 : Int) ::
                                    Value.slice none (0 : Nat) (0 : Nat) ::
                                      Value.slice none (0 : Nat) (0 : Nat) ::
                                        Value.int IntKind.i64 (0 : Int) ::
                                          Value.int IntKind.i64 (0 : Int) ::
                                            (List.replicate (64 : Nat) (Value.int IntKind.u8 (0 : Int)) ++
                                              Value.slice none (0 : Nat) (0 : Nat) ::
                                                Value.slice none (0 : Nat) (0 : Nat) ::
                                                  Value.slice none (0 : Nat) (0 : Nat) ::
                                                    Value.slice none (0 : Nat) (0 : Nat) ::
                                                      Value.slice none (0 : Nat) (0 : Nat) ::
                                                        (List.replicate (32 : Nat) (Value.int IntKind.u8 (0 : Int)) ++
                                                          Value.slice none (0 : Nat) (0 : Nat) ::
                                                            Value.int IntKind.i64 (0 : Int) ::
                                                              (List.replicate (64 : Nat) (Value.int IntKind.u8 (0 : Int)) ++
                                                                Value.int IntKind.i64 (0 : Int) ::
                                                                  (List.replicate (96 : Nat) (Value.int IntKind.u8 (0 : Int)) ++
                                                                    [Value.slice none (0 : Nat) (0 : Nat), Value.slice none (0 : Nat) (0 : Nat), Value.slice none (0 : Nat) (0 : Nat),
                                                                      Value.slice none (0 : Nat) (0 : Nat)]))))))
                    fun (b20 : Nat) (h21 : Heap) => storeP (some (279 : Nat)) h21 (Addr.mk b20 (0 : Nat) none) (Value.agg cs19) fun (h22 : Heap) => J18 b20 h22) ∧
              ∀ (b23 : Nat) (h24 : Heap),
                J18 b23 h24 →
                  ∃ (J25 : PUnit → Heap → Prop),
                    ((12 : Int) ≠ (0 : Int) ∧
                        br (Int.tmod which (12 : Int) == (0 : Int))
                          (∃ (n26 : Int),
                            cell h24 (Addr.add (Addr.mk b0 (0 : Nat) none) (0 : Nat)) = some (Value.int IntKind.i64 n26) ∧
                              storeP none h24 (Addr.mk b23 (0 : Nat) none) (Value.int IntKind.i64 (xorI IntKind.i64 n26 (1 : Int))) fun (h27 : Heap) => J25 () h27)
                          (br (Int.tmod which (12 : Int) == (1 : Int))
                            (∃ (n28 : Int),
                              cell h24 (Addr.add (Addr.mk b0 (0 : Nat) none) (1 : Nat)) = some (Value.int IntKind.i64 n28) ∧
                                storeP none h24 (Addr.mk (Addr.block (Addr.mk b23 (0 : Nat) none)) (Addr.off (Addr.mk b23 (0 : Nat) none) + (1 : Nat)) none)
                                  (Value.int IntKind.i64 (xorI IntKind.i64 n28 (1 : Int))) fun (h29 : Heap) => J25 () h29)
                            (br (Int.tmod which (12 : Int) == (2 : Int))
                              (∃ (n30 : Int),
                                cell h24 (Addr.add (Addr.mk b0 (0 : Nat) none) (2 : Nat)) = some (Value.int IntKind.i64 n30) ∧
                                  storeP none h24 (Addr.mk (Addr.block (Addr.mk b23 (0 : Nat) none)) (Addr.off (Addr.mk b23 (0 : Nat) none) + (2 : Nat)) none)
                                    (Value.int IntKind.i64 (xorI IntKind.i64 n30 (1 : Int))) fun (h31 : Heap) => J25 () h31)
                              (br (Int.tmod which (12 : Int) == (3 : Int))
                                (∃ (n32 : Int),
                                  cell h24 (Addr.add (Addr.mk b0 (0 : Nat) none) (3 : Nat)) = some (Value.int IntKind.i64 n32) ∧
                                    storeP none h24 (Addr.mk (Addr.block (Addr.mk b23 (0 : Nat) none)) (Addr.off (Addr.mk b23 (0 : Nat) none) + (3 : Nat)) none)
                                      (Value.int IntKind.i64 (xorI IntKind.i64 n32 (1 : Int))) fun (h33 : Heap) => J25 () h33)
                                (br (Int.tmod which (12 : Int) == (4 : Int))
                                  (∃ (n34 : Int),
                                    cell h24 (Addr.add (Addr.mk b0 (0 : Nat) none) (4 : Nat)) = some (Value.int IntKind.i64 n34) ∧
                                      storeP none h24 (Addr.mk (Addr.block (Addr.mk b23 (0 : Nat) none)) (Addr.off (Addr.mk b23 (0 : Nat) none) + (4 : Nat)) none)
                                        (Value.int IntKind.i64 (xorI IntKind.i64 n34 (1 : Int))) fun (h35 : Heap) => J25 () h35)
                                  (br (Int.tmod which (12 : Int) == (5 : Int))
                                    (∃ (n36 : Int),
                                      cell h24 (Addr.add (Addr.mk b0 (0 : Nat) none) (5 : Nat)) = some (Value.int IntKind.i64 n36) ∧
                                        storeP none h24 (Addr.mk (Addr.block (Addr.mk b23 (0 : Nat) none)) (Addr.off (Addr.mk b23 (0 : Nat) none) + (5 : Nat)) none)
                                          (Value.int IntKind.i64 (xorI IntKind.i64 n36 (1 : Int))) fun (h37 : Heap) => J25 () h37)
                                    (br (Int.tmod which (12 : Int) == (6 : Int))
                                      (∃ (n38 : Int),
                                        cell h24 (Addr.add (Addr.mk b0 (0 : Nat) none) (6 : Nat)) = some (Value.int IntKind.i64 n38) ∧
                                          storeP none h24 (Addr.mk (Addr.block (Addr.mk b23 (0 : Nat) none)) (Addr.off (Addr.mk b23 (0 : Nat) none) + (6 : Nat)) none)
                                            (Value.int IntKind.i64 (xorI IntKind.i64 n38 (1 : Int))) fun (h39 : Heap) => J25 () h39)
                                      (br (Int.tmod which (12 : Int) == (7 : Int))
                                        (newBlk h24 (5 : Nat) #[] fun (b40 : Nat) (h41 : Heap) =>
                                          ∃ (p42 : Option Addr),
                                            ∃ (l43 : Nat),
                                              ∃ (c44 : Nat),
                                                cell h41 (Addr.add (Addr.mk b0 (0 : Nat) none) (7 : Nat)) = some (Value.slice p42 l43 c44) ∧
                                                  appendP (5 : Nat) (1 : Nat) (1 : Nat) #[Value.int IntKind.u8 (0 : Int)] (some (Addr.mk b40 (0 : Nat) none)) (0 : Nat) (0 : Nat) p42 l43 h41
                                                    fun (p45 : Option Addr) (l46 c47 : Nat) (h48 : Heap) =>
                                                    newBlk h48 (5 : Nat) #[Value.int IntKind.u8 (1 : Int)] fun (b49 : Nat) (h50 : Heap) =>
                                                      appendP (5 : Nat) (1 : Nat) (1 : Nat) #[Value.int IntKind.u8 (0 : Int)] p45 l46 c47 (some (Addr.mk b49 (0 : Nat) none)) (1 : Nat) h50
                                                        fun (p51 : Option Addr) (l52 c53 : Nat) (h54 : Heap) =>
                                                        storeP none h54 (Addr.mk (Addr.block (Addr.mk b23 (0 : Nat) none)) (Addr.off (Addr.mk b23 (0 : Nat) none) + (7 : Nat)) none)
                                                          (Value.slice p51 l52 c53) fun (h55 : Heap) => J25 () h55)
                                        (br (Int.tmod which (12 : Int) == (8 : Int))
                                          (newBlk h24 (5 : Nat) #[] fun (b56 : Nat) (h57 : Heap) =>
                                            ∃ (p58 : Option Addr),
                                              ∃ (l59 : Nat),
                                                ∃ (c60 : Nat),
                                                  cell h57 (Addr.add (Addr.mk b0 (0 : Nat) none) (8 : Nat)) = some (Value.slice p58 l59 c60) ∧
                                                    appendP (5 : Nat) (1 : Nat) (1 : Nat) #[Value.int IntKind.u8 (0 : Int)] (some (Addr.mk b56 (0 : Nat) none)) (0 : Nat) (0 : Nat) p58 l59 h57
                                                      fun (p61 : Option Addr) (l62 c63 : Nat) (h64 : Heap) =>
                                                      newBlk h64 (5 : Nat) #[Value.int IntKind.u8 (1 : Int)] fun (b65 : Nat) (h66 : Heap) =>
                                                        appendP (5 : Nat) (1 : Nat) (1 : Nat) #[Value.int IntKind.u8 (0 : Int)] p61 l62 c63 (some (Addr.mk b65 (0 : Nat) none)) (1 : Nat) h66
                                                          fun (p67 : Option Addr) (l68 c69 : Nat) (h70 : Heap) =>
                                                          storeP none h70 (Addr.mk (Addr.block (Addr.mk b23 (0 : Nat) none)) (Addr.off (Addr.mk b23 (0 : Nat) none) + (8 : Nat)) none)
                                                            (Value.slice p67 l68 c69) fun (h71 : Heap) => J25 () h71)
                                          (br (Int.tmod which (12 : Int) == (9 : Int))
                                            ((32 : Int) ≠ (0 : Int) ∧
                                              (0 : Int) ≤ Int.tmod which (32 : Int) ∧
                                                Int.tmod which (32 : Int) < (↑(32 : Nat) : Int) ∧
                                                  ∃ (n72 : Int),
                                                    cell h24 (Addr.add (Addr.add (Addr.mk b23 (0 : Nat) none) (80 : Nat)) (Int.toNat (Int.tmod which (32 : Int)) * (1 : Nat))) =
                                                        some (Value.int IntKind.u8 n72) ∧
                                                      (0 : Int) ≤ Int.tmod which (32 : Int) ∧
                                                        Int.tmod which (32 : Int) < (↑(32 : Nat) : Int) ∧
                                                          storeP none h24 (Addr.add (Addr.add (Addr.mk b23 (0 : Nat) none) (80 : Nat)) (Int.toNat (Int.tmod which (32 : Int)) * (1 : Nat)))
                                                            (Value.int IntKind.u8 (xorI IntKind.u8 n72 (1 : Int))) fun (h73 : Heap) => J25 () h73)
                                            (br (Int.tmod which (12 : Int) == (10 : Int))
                                              (newBlk h24 (25 : Nat) #[] fun (b74 : Nat) (h75 : Heap) =>
                                                ∃ (p76 : Option Addr),
                                                  ∃ (l77 : Nat),
                                                    ∃ (c78 : Nat),
                                                      cell h75 (Addr.add (Addr.mk b0 (0 : Nat) none) (278 : Nat)) = some (Value.slice p76 l77 c78) ∧
                                                        appendP (25 : Nat) (32 : Nat) (32 : Nat) (List.toArray (List.replicate (32 : Nat) (Value.int IntKind.u8 (0 : Int))))
                                                          (some (Addr.mk b74 (0 : Nat) none)) (0 : Nat) (0 : Nat) p76 l77 h75 fun (p79 : Option Addr) (l80 c81 : Nat) (h82 : Heap) =>
                                                          (32 : Nat) = (32 : Nat) ∧
                                                            newBlk h82 (25 : Nat) (List.toArray (List.replicate (32 : Nat) (Value.int IntKind.u8 (0 : Int)))) fun (b83 : Nat) (h84 : Heap) =>
                                                              appendP (25 : Nat) (32 : Nat) (32 : Nat) (List.toArray (List.replicate (32 : Nat) (Value.int IntKind.u8 (0 : Int)))) p79 l80 c81
                                                                (some (Addr.mk b83 (0 : Nat) none)) (1 : Nat) h84 fun (p85 : Option Addr) (l86 c87 : Nat) (h88 : Heap) =>
                                                                storeP none h88 (Addr.mk (Addr.block (Addr.mk b23 (0 : Nat) none)) (Addr.off (Addr.mk b23 (0 : Nat) none) + (278 : Nat)) none)
                                                                  (Value.slice p85 l86 c87) fun (h89 : Heap) => J25 () h89)
                                              (br (Int.tmod which (12 : Int) == (11 : Int))
                                                ((32 : Int) ≠ (0 : Int) ∧
                                                  (0 : Int) ≤ Int.tmod which (32 : Int) ∧
                                                    Int.tmod which (32 : Int) < (↑(32 : Nat) : Int) ∧
                                                      ∃ (n90 : Int),
                                                        cell h24
                                                              (Addr.add (Addr.add (Addr.add (Addr.mk b23 (0 : Nat) none) (112 : Nat)) (34 : Nat)) (Int.toNat (Int.tmod which (32 : Int)) * (1 : Nat))) =
                                                            some (Value.int IntKind.u8 n90) ∧
                                                          (0 : Int) ≤ Int.tmod which (32 : Int) ∧
                                                            Int.tmod which (32 : Int) < (↑(32 : Nat) : Int) ∧
                                                              storeP none h24
                                                                (Addr.add (Addr.add (Addr.add (Addr.mk b23 (0 : Nat) none) (112 : Nat)) (34 : Nat)) (Int.toNat (Int.tmod which (32 : Int)) * (1 : Nat)))
                                                                (Value.int IntKind.u8 (xorI IntKind.u8 n90 (1 : Int))) fun (h91 : Heap) => J25 () h91)
                                                (J25 () h24))))))))))))) ∧
                      ∀ (x92 : PUnit) (h93 : Heap),
                        J25 x92 h93 →
                          ∃ (cs94 : Array Value),
                            row h93 (Addr.mk b0 (0 : Nat) none) (279 : Nat) = some cs94 ∧
                              ∃ (cs95 : Array Value),
                                row h93 (Addr.mk b0 (0 : Nat) none) (279 : Nat) = some cs95 ∧
                                  CallsH Try.prog n_message_Same #[Value.agg cs94, Value.agg cs95] h93 fun (v96 : Value) (h97 : Heap) =>
                                    Ext h93 h97 ∧
                                      ∃ (t98 : Bool),
                                        v96 = Value.bool t98 ∧
                                          br t98
                                            (∃ (cs99 : Array Value),
                                              row h97 (Addr.mk b0 (0 : Nat) none) (279 : Nat) = some cs99 ∧
                                                ∃ (cs100 : Array Value),
                                                  row h97 (Addr.mk b23 (0 : Nat) none) (279 : Nat) = some cs100 ∧
                                                    CallsH Try.prog n_message_Same #[Value.agg cs99, Value.agg cs100] h97 fun (v101 : Value) (h102 : Heap) =>
                                                      Ext h97 h102 ∧
                                                        ∃ (t103 : Bool),
                                                          v101 = Value.bool t103 ∧
                                                            br (!t103)
                                                              (∃ (cs104 : Array Value),
                                                                row h102 (Addr.mk b23 (0 : Nat) none) (279 : Nat) = some cs104 ∧
                                                                  ∃ (cs105 : Array Value),
                                                                    row h102 (Addr.mk b0 (0 : Nat) none) (279 : Nat) = some cs105 ∧
                                                                      CallsH Try.prog n_message_Same #[Value.agg cs104, Value.agg cs105] h102 fun (v106 : Value) (h107 : Heap) =>
                                                                        Ext h102 h107 ∧ ∃ (t108 : Bool), v106 = Value.bool t108 ∧ R (Value.bool !t108) h107)
                                                              (R (Value.bool false) h102))
                                            (R (Value.bool false) h97)
theorem C_law18_MessageSame (m : Array Value) (which : Int) {h : Heap} {R : Value → Heap → Prop} (H : F_law18_MessageSame m which h R) : CallsH Try.prog n_law18_MessageSame [(.agg m), (.int .u8 which)].toArray h R :=
  fn_sound (A := A_law18_MessageSame) (Eq.mp (by kernel_rfl : F_law18_MessageSame m which h R = fnVc Go.Proofs.Try.prog A_law18_MessageSame 4 [(.agg m), (.int .u8 which)] h R) H)

end Go.Proofs.Ythlmiijlhiiccaa
