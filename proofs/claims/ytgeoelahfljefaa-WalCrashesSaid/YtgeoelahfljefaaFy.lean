/- The formulas of some functions, and that each is what its code comes to. Written by a program of ours. -/
import Derived.Test.YtgeoelahfljefaaV
import Derived.Test.YtgeoelahfljefaaNm
import Derived.Test.YtgeoelahfljefaaProg
import Derived.KernelRfl
set_option linter.unusedVariables false
set_option maxRecDepth 100000
namespace Go.Proofs.Ytgeoelahfljefaa
open Go Go.Vc Go.Proofs

/- rolodex/rolodexlaw09.WalCrashes -/
def A_law09_WalCrashes : Ann := { qs := [6, 7, 8, 9, 10, 12, 13, 14, 15, 20, 21, 22, 23, 24, 26, 28, 30, 31, 32, 36, 38, 41, 42, 45, 46, 49], loops := [(9, [(5, .ptr), (8, .slice), (9, (.int .i64)), (10, (.int .u32)), (11, (.int .i64))])], cuts := [(3, []), (14, [(8, .slice)]), (16, [(9, (.int .i64))]), (18, []), (20, []), (26, [])], plans := [(13, (.take 1 (.take 3 (.alt 0 (.alt 2 (.take 4 (.alt 5 (.alt 6 (.take 7 .done) .stop) .stop)) (.alt 4 (.alt 2 (.alt 5 (.alt 6 (.take 7 .done) .stop) .stop) (.alt 5 (.alt 2 (.alt 6 (.take 7 .done) .stop) .stop) .stop)) .stop)) (.alt 4 (.alt 0 (.alt 2 (.alt 5 (.alt 6 (.take 7 .done) .stop) .stop) (.alt 5 (.alt 2 (.alt 6 (.take 7 .done) .stop) .stop) .stop)) (.alt 5 (.alt 0 (.alt 2 (.alt 6 (.take 7 .done) .stop) .stop) .stop) .stop)) .stop)))))] }
def F_law09_WalCrashes (script : Option Addr) (script_l : Nat) (script_c : Nat) (h : Heap) (R : Value → Heap → Prop) : Prop :=
  ∃ (J0 : PUnit → Heap → Prop),
  (CallsH Try.prog n_law09_awake #[] h fun (v1 : Value) (h2 : Heap) =>
      Ext h h2 ∧
        ∃ (t3 : Bool),
          v1 = Value.bool t3 ∧
            br (!t3) (CallsH Try.prog n_law09_awake #[] h2 fun (v4 : Value) (h5 : Heap) => Ext h2 h5 ∧ ∃ (t6 : Bool), v4 = Value.bool t6 ∧ R (Value.bool t6) h5)
              (CallsH Try.prog n_law09_Few #[Value.slice script script_l script_c, Value.int IntKind.i64 (40 : Int)] h2 fun (v7 : Value) (h8 : Heap) =>
                Ext h2 h8 ∧
                  ∃ (t9 : Bool),
                    v7 = Value.bool t9 ∧
                      br (!t9) (CallsH Try.prog n_law09_awake #[] h8 fun (v10 : Value) (h11 : Heap) => Ext h8 h11 ∧ ∃ (t12 : Bool), v10 = Value.bool t12 ∧ R (Value.bool t12) h11) (J0 () h8))) ∧
    ∀ (x13 : PUnit) (h14 : Heap),
      J0 x13 h14 →
        CallsH Try.prog n_device_New #[Value.int IntKind.i64 (60 : Int)] h14 fun (v15 : Value) (h16 : Heap) =>
          Ext h14 h16 ∧
            ∃ (p17 : Option Addr),
              ∃ (n18 : Int),
                v15 = Value.tuple #[Value.pointer p17, Value.int IntKind.i64 n18] ∧
                  CallsH Try.prog n_wal_Open #[Value.pointer p17, Value.int IntKind.i64 (3 : Int), Value.int IntKind.i64 (50 : Int), Value.int IntKind.u32 (1 : Int), Value.int IntKind.u32 (1 : Int)]
                    h16 fun (v19 : Value) (h20 : Heap) =>
                    Ext h16 h20 ∧
                      ∃ (p21 : Option Addr),
                        ∃ (p22 : Option Addr),
                          ∃ (l23 : Nat),
                            ∃ (c24 : Nat),
                              ∃ (n25 : Int),
                                v19 = Value.tuple #[Value.pointer p21, Value.slice p22 l23 c24, Value.int IntKind.i64 n25] ∧
                                  ∃ (I26 : Option Addr × (Option Addr × Nat × Nat) × Int × Int × Int → Heap → Prop),
                                    ∃ (μ27 : Option Addr × (Option Addr × Nat × Nat) × Int × Int × Int → Heap → Nat),
                                      I26 (p21, (none, (0 : Nat), (0 : Nat)), (0 : Int), (1 : Int), (0 : Int)) h20 ∧
                                        ∀ (s28 : Option Addr × (Option Addr × Nat × Nat) × Int × Int × Int) (h29 : Heap),
                                          I26 s28 h29 →
                                            br (decide (Prod.snd (Prod.snd (Prod.snd (Prod.snd s28))) < (↑script_l : Int)))
                                              ((0 : Int) ≤ Prod.snd (Prod.snd (Prod.snd (Prod.snd s28))) ∧
                                                Prod.snd (Prod.snd (Prod.snd (Prod.snd s28))) < (↑script_l : Int) ∧
                                                  deref script fun (a30 : Addr) =>
                                                    ∃ (cs31 : Array Value),
                                                      row h29 (Addr.add a30 (Int.toNat (Prod.snd (Prod.snd (Prod.snd (Prod.snd s28)))) * (4 : Nat))) (4 : Nat) = some cs31 ∧
                                                        newBlk h29 (44 : Nat)
                                                          #[Value.int IntKind.i64 (0 : Int), Value.int IntKind.i64 (0 : Int), Value.slice none (0 : Nat) (0 : Nat),
                                                            Value.slice none (0 : Nat) (0 : Nat)]
                                                          fun (b32 : Nat) (h33 : Heap) =>
                                                          storeP (some (4 : Nat)) h33 (Addr.mk b32 (0 : Nat) none) (Value.agg cs31) fun (h34 : Heap) =>
                                                            ∃ (J35 : Option Addr × Nat × Nat → Heap → Prop),
                                                              (∃ (n36 : Int),
                                                                  cell h34 (Addr.add (Addr.mk b32 (0 : Nat) none) (0 : Nat)) = some (Value.int IntKind.i64 n36) ∧
                                                                    br (n36 == (1 : Int))
                                                                      (∃ (p37 : Option Addr),
                                                                        ∃ (l38 : Nat),
                                                                          ∃ (c39 : Nat),
                                                                            cell h34 (Addr.add (Addr.mk b32 (0 : Nat) none) (2 : Nat)) = some (Value.slice p37 l38 c39) ∧
                                                                              br (decide ((↑l38 : Int) ≤ (6000 : Int)))
                                                                                (∃ (p40 : Option Addr),
                                                                                  ∃ (l41 : Nat),
                                                                                    ∃ (c42 : Nat),
                                                                                      cell h34 (Addr.add (Addr.mk b32 (0 : Nat) none) (2 : Nat)) = some (Value.slice p40 l41 c42) ∧
                                                                                        CallsH Try.prog n_wal_Log_Append #[Value.pointer (Prod.fst s28), Value.slice p40 l41 c42] h34
                                                                                          fun (v43 : Value) (h44 : Heap) =>
                                                                                          ∃ (n45 : Int),
                                                                                            v43 = Value.int IntKind.i64 n45 ∧
                                                                                              br (n45 != (5 : Int))
                                                                                                ((newBlk h44 (34 : Nat) #[] fun (b46 : Nat) (h47 : Heap) =>
                                                                                                    (appendP (34 : Nat) (1 : Nat) (24 : Nat) #[Value.slice none (0 : Nat) (0 : Nat)]
                                                                                                        (some (Addr.mk b46 (0 : Nat) none)) (0 : Nat) (0 : Nat) (Prod.fst (Prod.fst (Prod.snd s28)))
                                                                                                        (Prod.fst (Prod.snd (Prod.fst (Prod.snd s28)))) h47
                                                                                                        fun (p48 : Option Addr) (l49 c50 : Nat) (h51 : Heap) =>
                                                                                                        ∃ (p52 : Option Addr),
                                                                                                          ∃ (l53 : Nat),
                                                                                                            ∃ (c54 : Nat),
                                                                                                              cell h51 (Addr.add (Addr.mk b32 (0 : Nat) none) (2 : Nat)) =
                                                                                                                  some (Value.slice p52 l53 c54) ∧
                                                                                                                newBlk h51 (34 : Nat) #[Value.slice p52 l53 c54] fun (b55 : Nat) (h56 : Heap) =>
                                                                                                                  appendP (34 : Nat) (1 : Nat) (24 : Nat) #[Value.slice none (0 : Nat) (0 : Nat)] p48
                                                                                                                    l49 c50 (some (Addr.mk b55 (0 : Nat) none)) (1 : Nat) h56
                                                                                                                    fun (p57 : Option Addr) (l58 c59 : Nat) (h60 : Heap) => J35 (p57, l58, c59) h60) ∧
                                                                                                      ∃ (p61 : Option Addr),
                                                                                                        ∃ (l62 : Nat),
                                                                                                          ∃ (c63 : Nat),
                                                                                                            cell h47 (Addr.add (Addr.mk b32 (0 : Nat) none) (2 : Nat)) =
                                                                                                                some (Value.slice p61 l62 c63) ∧
                                                                                                              (appendP (34 : Nat) (1 : Nat) (24 : Nat) #[Value.slice none (0 : Nat) (0 : Nat)]
                                                                                                                  (some (Addr.mk b46 (0 : Nat) none)) (0 : Nat) (0 : Nat)
                                                                                                                  (Prod.fst (Prod.fst (Prod.snd s28))) (Prod.fst (Prod.snd (Prod.fst (Prod.snd s28))))
                                                                                                                  h47 fun (p64 : Option Addr) (l65 c66 : Nat) (h67 : Heap) =>
                                                                                                                  newBlk h67 (34 : Nat) #[Value.slice p61 l62 c63] fun (b68 : Nat) (h69 : Heap) =>
                                                                                                                    appendP (34 : Nat) (1 : Nat) (24 : Nat) #[Value.slice none (0 : Nat) (0 : Nat)] p64
                                                                                                                      l65 c66 (some (Addr.mk b68 (0 : Nat) none)) (1 : Nat) h69
                                                                                                                      fun (p70 : Option Addr) (l71 c72 : Nat) (h73 : Heap) => J35 (p70, l71, c72) h73) ∧
                                                                                                                newBlk h47 (34 : Nat) #[Value.slice p61 l62 c63] fun (b74 : Nat) (h75 : Heap) =>
                                                                                                                  appendP (34 : Nat) (1 : Nat) (24 : Nat) #[Value.slice none (0 : Nat) (0 : Nat)]
                                                                                                                    (some (Addr.mk b46 (0 : Nat) none)) (0 : Nat) (0 : Nat)
                                                                                                                    (Prod.fst (Prod.fst (Prod.snd s28))) (Prod.fst (Prod.snd (Prod.fst (Prod.snd s28))))
                                                                                                                    h75 fun (p76 : Option Addr) (l77 c78 : Nat) (h79 : Heap) =>
                                                                                                                    appendP (34 : Nat) (1 : Nat) (24 : Nat) #[Value.slice none (0 : Nat) (0 : Nat)] p76
                                                                                                                      l77 c78 (some (Addr.mk b74 (0 : Nat) none)) (1 : Nat) h79
                                                                                                                      fun (p80 : Option Addr) (l81 c82 : Nat) (h83 : Heap) => J35 (p80, l81, c82) h83) ∧
                                                                                                  ∃ (p84 : Option Addr),
                                                                                                    ∃ (l85 : Nat),
                                                                                                      ∃ (c86 : Nat),
                                                                                                        cell h44 (Addr.add (Addr.mk b32 (0 : Nat) none) (2 : Nat)) = some (Value.slice p84 l85 c86) ∧
                                                                                                          (newBlk h44 (34 : Nat) #[] fun (b87 : Nat) (h88 : Heap) =>
                                                                                                              (appendP (34 : Nat) (1 : Nat) (24 : Nat) #[Value.slice none (0 : Nat) (0 : Nat)]
                                                                                                                  (some (Addr.mk b87 (0 : Nat) none)) (0 : Nat) (0 : Nat)
                                                                                                                  (Prod.fst (Prod.fst (Prod.snd s28))) (Prod.fst (Prod.snd (Prod.fst (Prod.snd s28))))
                                                                                                                  h88 fun (p89 : Option Addr) (l90 c91 : Nat) (h92 : Heap) =>
                                                                                                                  newBlk h92 (34 : Nat) #[Value.slice p84 l85 c86] fun (b93 : Nat) (h94 : Heap) =>
                                                                                                                    appendP (34 : Nat) (1 : Nat) (24 : Nat) #[Value.slice none (0 : Nat) (0 : Nat)] p89
                                                                                                                      l90 c91 (some (Addr.mk b93 (0 : Nat) none)) (1 : Nat) h94
                                                                                                                      fun (p95 : Option Addr) (l96 c97 : Nat) (h98 : Heap) => J35 (p95, l96, c97) h98) ∧
                                                                                                                newBlk h88 (34 : Nat) #[Value.slice p84 l85 c86] fun (b99 : Nat) (h100 : Heap) =>
                                                                                                                  appendP (34 : Nat) (1 : Nat) (24 : Nat) #[Value.slice none (0 : Nat) (0 : Nat)]
                                                                                                                    (some (Addr.mk b87 (0 : Nat) none)) (0 : Nat) (0 : Nat)
                                                                                                                    (Prod.fst (Prod.fst (Prod.snd s28))) (Prod.fst (Prod.snd (Prod.fst (Prod.snd s28))))
                                                                                                                    h100 fun (p101 : Option Addr) (l102 c103 : Nat) (h104 : Heap) =>
                                                                                                                    appendP (34 : Nat) (1 : Nat) (24 : Nat) #[Value.slice none (0 : Nat) (0 : Nat)] p101
                                                                                                                      l102 c103 (some (Addr.mk b99 (0 : Nat) none)) (1 : Nat) h104
                                                                                                                      fun (p105 : Option Addr) (l106 c107 : Nat) (h108 : Heap) =>
                                                                                                                      J35 (p105, l106, c107) h108) ∧
                                                                                                            newBlk h44 (34 : Nat) #[Value.slice p84 l85 c86] fun (b109 : Nat) (h110 : Heap) =>
                                                                                                              newBlk h110 (34 : Nat) #[] fun (b111 : Nat) (h112 : Heap) =>
                                                                                                                appendP (34 : Nat) (1 : Nat) (24 : Nat) #[Value.slice none (0 : Nat) (0 : Nat)]
                                                                                                                  (some (Addr.mk b111 (0 : Nat) none)) (0 : Nat) (0 : Nat)
                                                                                                                  (Prod.fst (Prod.fst (Prod.snd s28))) (Prod.fst (Prod.snd (Prod.fst (Prod.snd s28))))
                                                                                                                  h112 fun (p113 : Option Addr) (l114 c115 : Nat) (h116 : Heap) =>
                                                                                                                  appendP (34 : Nat) (1 : Nat) (24 : Nat) #[Value.slice none (0 : Nat) (0 : Nat)] p113
                                                                                                                    l114 c115 (some (Addr.mk b109 (0 : Nat) none)) (1 : Nat) h116
                                                                                                                    fun (p117 : Option Addr) (l118 c119 : Nat) (h120 : Heap) =>
                                                                                                                    J35 (p117, l118, c119) h120)
                                                                                                (J35
                                                                                                  (Prod.fst (Prod.fst (Prod.snd s28)), Prod.fst (Prod.snd (Prod.fst (Prod.snd s28))),
                                                                                                    Prod.snd (Prod.snd (Prod.fst (Prod.snd s28))))
                                                                                                  h44))
                                                                                (J35
                                                                                  (Prod.fst (Prod.fst (Prod.snd s28)), Prod.fst (Prod.snd (Prod.fst (Prod.snd s28))),
                                                                                    Prod.snd (Prod.snd (Prod.fst (Prod.snd s28))))
                                                                                  h34))
                                                                      (J35
                                                                        (Prod.fst (Prod.fst (Prod.snd s28)), Prod.fst (Prod.snd (Prod.fst (Prod.snd s28))),
                                                                          Prod.snd (Prod.snd (Prod.fst (Prod.snd s28))))
                                                                        h34)) ∧
                                                                ∀ (s121 : Option Addr × Nat × Nat) (h122 : Heap),
                                                                  J35 s121 h122 →
                                                                    ∃ (J123 : Int → Heap → Prop),
                                                                      (∃ (n124 : Int),
                                                                          cell h122 (Addr.add (Addr.mk b32 (0 : Nat) none) (0 : Nat)) = some (Value.int IntKind.i64 n124) ∧
                                                                            br (n124 == (2 : Int))
                                                                              (CallsH Try.prog n_wal_Log_Flush #[Value.pointer (Prod.fst s28)] h122 fun (v125 : Value) (h126 : Heap) =>
                                                                                ∃ (n127 : Int),
                                                                                  v125 = Value.int IntKind.i64 n127 ∧
                                                                                    br (n127 == (0 : Int)) (J123 (↑(Prod.fst (Prod.snd s121)) : Int) h126)
                                                                                      (J123 (Prod.fst (Prod.snd (Prod.snd s28))) h126))
                                                                              (J123 (Prod.fst (Prod.snd (Prod.snd s28))) h122)) ∧
                                                                        ∀ (n128 : Int) (h129 : Heap),
                                                                          J123 n128 h129 →
                                                                            ∃ (J130 : PUnit → Heap → Prop),
                                                                              (∃ (n131 : Int),
                                                                                  cell h129 (Addr.add (Addr.mk b32 (0 : Nat) none) (0 : Nat)) = some (Value.int IntKind.i64 n131) ∧
                                                                                    br (n131 == (3 : Int))
                                                                                      (∃ (n132 : Int),
                                                                                        cell h129 (Addr.add (Addr.mk b32 (0 : Nat) none) (1 : Nat)) = some (Value.int IntKind.i64 n132) ∧
                                                                                          CallsH Try.prog n_device_Device_SetFuse #[Value.pointer p17, Value.int IntKind.i64 n132] h129
                                                                                            fun (v133 : Value) (h134 : Heap) => v133 = Value.tuple #[] ∧ J130 () h134)
                                                                                      (J130 () h129)) ∧
                                                                                ∀ (x135 : PUnit) (h136 : Heap),
                                                                                  J130 x135 h136 →
                                                                                    ∃ (J137 : PUnit → Heap → Prop),
                                                                                      (∃ (n138 : Int),
                                                                                          cell h136 (Addr.add (Addr.mk b32 (0 : Nat) none) (0 : Nat)) = some (Value.int IntKind.i64 n138) ∧
                                                                                            br (n138 == (5 : Int))
                                                                                              (∃ (n139 : Int),
                                                                                                cell h136 (Addr.add (Addr.mk b32 (0 : Nat) none) (1 : Nat)) = some (Value.int IntKind.i64 n139) ∧
                                                                                                  br (decide (n139 < (3 : Int)))
                                                                                                    (∃ (n140 : Int),
                                                                                                      cell h136 (Addr.add (Addr.mk b32 (0 : Nat) none) (1 : Nat)) = some (Value.int IntKind.i64 n140) ∧
                                                                                                        ∃ (p141 : Option Addr),
                                                                                                          ∃ (l142 : Nat),
                                                                                                            ∃ (c143 : Nat),
                                                                                                              cell h136 (Addr.add (Addr.mk b32 (0 : Nat) none) (2 : Nat)) =
                                                                                                                  some (Value.slice p141 l142 c143) ∧
                                                                                                                CallsH Try.prog n_device_Device_Write
                                                                                                                  #[Value.pointer p17, Value.int IntKind.i64 n140, Value.slice p141 l142 c143] h136
                                                                                                                  fun (v144 : Value) (h145 : Heap) =>
                                                                                                                  ∃ (n146 : Int), v144 = Value.int IntKind.i64 n146 ∧ J137 () h145)
                                                                                                    (∃ (n147 : Int),
                                                                                                      cell h136 (Addr.add (Addr.mk b32 (0 : Nat) none) (1 : Nat)) = some (Value.int IntKind.i64 n147) ∧
                                                                                                        br (decide (n147 > (52 : Int)))
                                                                                                          (∃ (n148 : Int),
                                                                                                            cell h136 (Addr.add (Addr.mk b32 (0 : Nat) none) (1 : Nat)) =
                                                                                                                some (Value.int IntKind.i64 n148) ∧
                                                                                                              ∃ (p149 : Option Addr),
                                                                                                                ∃ (l150 : Nat),
                                                                                                                  ∃ (c151 : Nat),
                                                                                                                    cell h136 (Addr.add (Addr.mk b32 (0 : Nat) none) (2 : Nat)) =
                                                                                                                        some (Value.slice p149 l150 c151) ∧
                                                                                                                      CallsH Try.prog n_device_Device_Write
                                                                                                                        #[Value.pointer p17, Value.int IntKind.i64 n148, Value.slice p149 l150 c151]
                                                                                                                        h136 fun (v152 : Value) (h153 : Heap) =>
                                                                                                                        ∃ (n154 : Int), v152 = Value.int IntKind.i64 n154 ∧ J137 () h153)
                                                                                                          (J137 () h136)))
                                                                                              (J137 () h136)) ∧
                                                                                        ∀ (x155 : PUnit) (h156 : Heap),
                                                                                          J137 x155 h156 →
                                                                                            ∃ (n157 : Int),
                                                                                              cell h156 (Addr.add (Addr.mk b32 (0 : Nat) none) (0 : Nat)) = some (Value.int IntKind.i64 n157) ∧
                                                                                                br (n157 != (4 : Int))
                                                                                                  (I26
                                                                                                      (Prod.fst s28, (Prod.fst s121, Prod.fst (Prod.snd s121), Prod.snd (Prod.snd s121)), n128,
                                                                                                        Prod.fst (Prod.snd (Prod.snd (Prod.snd s28))),
                                                                                                        IntKind.wrap IntKind.i64 (Prod.snd (Prod.snd (Prod.snd (Prod.snd s28))) + (1 : Int)))
                                                                                                      h156 ∧
                                                                                                    μ27
                                                                                                        (Prod.fst s28, (Prod.fst s121, Prod.fst (Prod.snd s121), Prod.snd (Prod.snd s121)), n128,
                                                                                                          Prod.fst (Prod.snd (Prod.snd (Prod.snd s28))),
                                                                                                          IntKind.wrap IntKind.i64 (Prod.snd (Prod.snd (Prod.snd (Prod.snd s28))) + (1 : Int)))
                                                                                                        h156 <
                                                                                                      μ27 s28 h29)
                                                                                                  (∃ (p158 : Option Addr),
                                                                                                    ∃ (l159 : Nat),
                                                                                                      ∃ (c160 : Nat),
                                                                                                        cell h156 (Addr.add (Addr.mk b32 (0 : Nat) none) (3 : Nat)) =
                                                                                                            some (Value.slice p158 l159 c160) ∧
                                                                                                          CallsH Try.prog n_device_Device_Restart #[Value.pointer p17, Value.slice p158 l159 c160] h156
                                                                                                            fun (v161 : Value) (h162 : Heap) =>
                                                                                                            v161 = Value.tuple #[] ∧
                                                                                                              CallsH Try.prog n_wal_Open
                                                                                                                #[Value.pointer p17, Value.int IntKind.i64 (3 : Int), Value.int IntKind.i64 (50 : Int),
                                                                                                                  Value.int IntKind.u32 (1 : Int),
                                                                                                                  Value.int IntKind.u32
                                                                                                                    (IntKind.wrap IntKind.u32
                                                                                                                      (Prod.fst (Prod.snd (Prod.snd (Prod.snd s28))) + (1 : Int)))]
                                                                                                                h162 fun (v163 : Value) (h164 : Heap) =>
                                                                                                                Ext h162 h164 ∧
                                                                                                                  ∃ (p165 : Option Addr),
                                                                                                                    ∃ (p166 : Option Addr),
                                                                                                                      ∃ (l167 : Nat),
                                                                                                                        ∃ (c168 : Nat),
                                                                                                                          ∃ (n169 : Int),
                                                                                                                            v163 =
                                                                                                                                Value.tuple
                                                                                                                                  #[Value.pointer p165, Value.slice p166 l167 c168,
                                                                                                                                    Value.int IntKind.i64 n169] ∧
                                                                                                                              ∃ (J170 : PUnit → Heap → Prop),
                                                                                                                                br (n169 != (0 : Int)) (R (Value.bool false) h164)
                                                                                                                                    (br (decide ((↑l167 : Int) < n128)) (R (Value.bool false) h164)
                                                                                                                                      (CallsH Try.prog n_ref09_Ahead
                                                                                                                                        #[Value.slice p166 l167 c168,
                                                                                                                                          Value.slice (Prod.fst s121) (Prod.fst (Prod.snd s121))
                                                                                                                                            (Prod.snd (Prod.snd s121))]
                                                                                                                                        h164 fun (v171 : Value) (h172 : Heap) =>
                                                                                                                                        Ext h164 h172 ∧
                                                                                                                                          ∃ (t173 : Bool),
                                                                                                                                            v171 = Value.bool t173 ∧
                                                                                                                                              br (!t173) (R (Value.bool false) h172) (J170 () h172))) ∧
                                                                                                                                  ∀ (x174 : PUnit) (h175 : Heap),
                                                                                                                                    J170 x174 h175 →
                                                                                                                                      I26
                                                                                                                                          (p165, (p166, l167, c168), (↑l167 : Int),
                                                                                                                                            IntKind.wrap IntKind.u32
                                                                                                                                              (Prod.fst (Prod.snd (Prod.snd (Prod.snd s28))) +
                                                                                                                                                (1 : Int)),
                                                                                                                                            IntKind.wrap IntKind.i64
                                                                                                                                              (Prod.snd (Prod.snd (Prod.snd (Prod.snd s28))) +
                                                                                                                                                (1 : Int)))
                                                                                                                                          h175 ∧
                                                                                                                                        μ27
                                                                                                                                            (p165, (p166, l167, c168), (↑l167 : Int),
                                                                                                                                              IntKind.wrap IntKind.u32
                                                                                                                                                (Prod.fst (Prod.snd (Prod.snd (Prod.snd s28))) +
                                                                                                                                                  (1 : Int)),
                                                                                                                                              IntKind.wrap IntKind.i64
                                                                                                                                                (Prod.snd (Prod.snd (Prod.snd (Prod.snd s28))) +
                                                                                                                                                  (1 : Int)))
                                                                                                                                            h175 <
                                                                                                                                          μ27 s28 h29))
                                              (R (Value.bool true) h29)
theorem C_law09_WalCrashes (script : Option Addr) (script_l : Nat) (script_c : Nat) {h : Heap} {R : Value → Heap → Prop} (H : F_law09_WalCrashes script script_l script_c h R) : CallsH Try.prog n_law09_WalCrashes [(.slice script script_l script_c)].toArray h R :=
  fn_sound (A := A_law09_WalCrashes) (Eq.mp (by kernel_rfl : F_law09_WalCrashes script script_l script_c h R = fnVc Go.Proofs.Try.prog A_law09_WalCrashes 5 [(.slice script script_l script_c)] h R) H)

end Go.Proofs.Ytgeoelahfljefaa
