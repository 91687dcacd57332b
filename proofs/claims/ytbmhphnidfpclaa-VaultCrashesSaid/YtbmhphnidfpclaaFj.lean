/- The formulas of some functions, and that each is what its code comes to. Written by a program of ours. -/
import Derived.Test.YtbmhphnidfpclaaV
import Derived.Test.YtbmhphnidfpclaaNm
import Derived.Test.YtbmhphnidfpclaaProg
import Derived.KernelRfl
set_option linter.unusedVariables false
set_option maxRecDepth 100000
namespace Go.Proofs.Ytbmhphnidfpclaa
open Go Go.Vc Go.Proofs

/- rolodex/rolodexlaw10.VaultCrashes -/
def A_law10_VaultCrashes : Ann := { qs := [6, 7, 12, 13, 14, 15, 17, 18, 20, 21, 22, 23, 25, 26, 32, 33, 34, 35, 36, 37, 40, 42, 43, 44, 45, 46, 50, 51, 54, 56, 59, 60, 63, 66, 70], loops := [(9, [(7, .ptr), (10, .slice), (11, .slice), (12, (.int .i64)), (13, (.int .i64))]), (29, [(16, (.int .i64))]), (37, [(20, .bool), (21, (.int .i64))])], cuts := [(3, []), (14, [(10, .slice)]), (16, [(12, (.int .i64))]), (18, []), (26, [(10, .slice), (11, .slice), (12, (.int .i64))]), (24, [(10, .slice), (11, .slice), (12, (.int .i64))]), (36, [(20, .bool)]), (42, [])], plans := [(13, (.take 1 (.alt 0 (.alt 2 (.take 3 (.alt 4 (.alt 5 (.alt 6 (.take 7 .done) .stop) .stop) .stop)) (.alt 3 (.alt 2 (.alt 4 (.alt 5 (.alt 6 (.take 7 .done) .stop) .stop) .stop) .stop) .stop)) (.alt 3 (.alt 0 (.alt 2 (.alt 4 (.alt 5 (.alt 6 (.take 7 .done) .stop) .stop) .stop) .stop) .stop) .stop))))] }
def F_law10_VaultCrashes (script : Option Addr) (script_l : Nat) (script_c : Nat) (within : Option Addr) (within_l : Nat) (within_c : Nat) (h : Heap) (R : Value → Heap → Prop) : Prop :=
  ∃ (J0 : PUnit → Heap → Prop),
  (CallsH Try.prog n_law10_awake #[] h fun (v1 : Value) (h2 : Heap) =>
      Ext h h2 ∧
        ∃ (t3 : Bool),
          v1 = Value.bool t3 ∧
            br (!t3) (CallsH Try.prog n_law10_awake #[] h2 fun (v4 : Value) (h5 : Heap) => Ext h2 h5 ∧ ∃ (t6 : Bool), v4 = Value.bool t6 ∧ R (Value.bool t6) h5)
              (CallsH Try.prog n_law10_Few #[Value.slice script script_l script_c, Value.int IntKind.i64 (30 : Int)] h2 fun (v7 : Value) (h8 : Heap) =>
                Ext h2 h8 ∧
                  ∃ (t9 : Bool),
                    v7 = Value.bool t9 ∧
                      br (!t9) (CallsH Try.prog n_law10_awake #[] h8 fun (v10 : Value) (h11 : Heap) => Ext h8 h11 ∧ ∃ (t12 : Bool), v10 = Value.bool t12 ∧ R (Value.bool t12) h11)
                        (br (decide ((↑within_l : Int) > (8 : Int)))
                          (CallsH Try.prog n_law10_awake #[] h8 fun (v13 : Value) (h14 : Heap) => Ext h8 h14 ∧ ∃ (t15 : Bool), v13 = Value.bool t15 ∧ R (Value.bool t15) h14) (J0 () h8)))) ∧
    ∀ (x16 : PUnit) (h17 : Heap),
      J0 x16 h17 →
        CallsH Try.prog n_device_New #[Value.int IntKind.i64 (120 : Int)] h17 fun (v18 : Value) (h19 : Heap) =>
          Ext h17 h19 ∧
            ∃ (p20 : Option Addr),
              ∃ (n21 : Int),
                v18 = Value.tuple #[Value.pointer p20, Value.int IntKind.i64 n21] ∧
                  CallsH Try.prog n_vault_Open #[Value.pointer p20] h19 fun (v22 : Value) (h23 : Heap) =>
                    ∃ (p24 : Option Addr),
                      ∃ (p25 : Option Addr),
                        ∃ (l26 : Nat),
                          ∃ (c27 : Nat),
                            ∃ (n28 : Int),
                              v22 = Value.tuple #[Value.pointer p24, Value.slice p25 l26 c27, Value.int IntKind.i64 n28] ∧
                                ∃ (I29 : Option Addr × (Option Addr × Nat × Nat) × (Option Addr × Nat × Nat) × Int × Int → Heap → Prop),
                                  ∃ (μ30 : Option Addr × (Option Addr × Nat × Nat) × (Option Addr × Nat × Nat) × Int × Int → Heap → Nat),
                                    I29 (p24, (none, (0 : Nat), (0 : Nat)), (none, (0 : Nat), (0 : Nat)), (0 : Int), (0 : Int)) h23 ∧
                                      ∀ (s31 : Option Addr × (Option Addr × Nat × Nat) × (Option Addr × Nat × Nat) × Int × Int) (h32 : Heap),
                                        I29 s31 h32 →
                                          br (decide (Prod.snd (Prod.snd (Prod.snd (Prod.snd s31))) < (↑script_l : Int)))
                                            ((0 : Int) ≤ Prod.snd (Prod.snd (Prod.snd (Prod.snd s31))) ∧
                                              Prod.snd (Prod.snd (Prod.snd (Prod.snd s31))) < (↑script_l : Int) ∧
                                                deref script fun (a33 : Addr) =>
                                                  ∃ (cs34 : Array Value),
                                                    row h32 (Addr.add a33 (Int.toNat (Prod.snd (Prod.snd (Prod.snd (Prod.snd s31)))) * (4 : Nat))) (4 : Nat) = some cs34 ∧
                                                      newBlk h32 (41 : Nat)
                                                        #[Value.int IntKind.i64 (0 : Int), Value.int IntKind.i64 (0 : Int), Value.slice none (0 : Nat) (0 : Nat), Value.slice none (0 : Nat) (0 : Nat)]
                                                        fun (b35 : Nat) (h36 : Heap) =>
                                                        storeP (some (4 : Nat)) h36 (Addr.mk b35 (0 : Nat) none) (Value.agg cs34) fun (h37 : Heap) =>
                                                          ∃ (J38 : Option Addr × Nat × Nat → Heap → Prop),
                                                            (∃ (n39 : Int),
                                                                cell h37 (Addr.add (Addr.mk b35 (0 : Nat) none) (0 : Nat)) = some (Value.int IntKind.i64 n39) ∧
                                                                  br (n39 == (1 : Int))
                                                                    (∃ (cs40 : Array Value),
                                                                      row h37 (Addr.mk b35 (0 : Nat) none) (4 : Nat) = some cs40 ∧
                                                                        CallsH Try.prog n_law10_record #[Value.agg cs40] h37 fun (v41 : Value) (h42 : Heap) =>
                                                                          Ext h37 h42 ∧
                                                                            ∃ (p43 : Option Addr),
                                                                              ∃ (l44 : Nat),
                                                                                ∃ (c45 : Nat),
                                                                                  v41 = Value.slice p43 l44 c45 ∧
                                                                                    br (decide ((↑l44 : Int) ≤ (6000 : Int)))
                                                                                      (∃ (cs46 : Array Value),
                                                                                        row h42 (Addr.mk b35 (0 : Nat) none) (4 : Nat) = some cs46 ∧
                                                                                          CallsH Try.prog n_law10_record #[Value.agg cs46] h42 fun (v47 : Value) (h48 : Heap) =>
                                                                                            Ext h42 h48 ∧
                                                                                              ∃ (p49 : Option Addr),
                                                                                                ∃ (l50 : Nat),
                                                                                                  ∃ (c51 : Nat),
                                                                                                    v47 = Value.slice p49 l50 c51 ∧
                                                                                                      CallsH Try.prog n_vault_Vault_Append #[Value.pointer (Prod.fst s31), Value.slice p49 l50 c51] h48
                                                                                                        fun (v52 : Value) (h53 : Heap) =>
                                                                                                        ∃ (n54 : Int),
                                                                                                          v52 = Value.int IntKind.i64 n54 ∧
                                                                                                            br (n54 != (5 : Int))
                                                                                                              ((newBlk h53 (22 : Nat) #[] fun (b55 : Nat) (h56 : Heap) =>
                                                                                                                  (appendP (22 : Nat) (1 : Nat) (24 : Nat) #[Value.slice none (0 : Nat) (0 : Nat)]
                                                                                                                      (some (Addr.mk b55 (0 : Nat) none)) (0 : Nat) (0 : Nat)
                                                                                                                      (Prod.fst (Prod.fst (Prod.snd s31)))
                                                                                                                      (Prod.fst (Prod.snd (Prod.fst (Prod.snd s31)))) h56
                                                                                                                      fun (p57 : Option Addr) (l58 c59 : Nat) (h60 : Heap) =>
                                                                                                                      ∃ (cs61 : Array Value),
                                                                                                                        row h60 (Addr.mk b35 (0 : Nat) none) (4 : Nat) = some cs61 ∧
                                                                                                                          CallsH Try.prog n_law10_record #[Value.agg cs61] h60
                                                                                                                            fun (v62 : Value) (h63 : Heap) =>
                                                                                                                            Ext h60 h63 ∧
                                                                                                                              ∃ (p64 : Option Addr),
                                                                                                                                ∃ (l65 : Nat),
                                                                                                                                  ∃ (c66 : Nat),
                                                                                                                                    v62 = Value.slice p64 l65 c66 ∧
                                                                                                                                      newBlk h63 (22 : Nat) #[Value.slice p64 l65 c66]
                                                                                                                                        fun (b67 : Nat) (h68 : Heap) =>
                                                                                                                                        appendP (22 : Nat) (1 : Nat) (24 : Nat)
                                                                                                                                          #[Value.slice none (0 : Nat) (0 : Nat)] p57 l58 c59
                                                                                                                                          (some (Addr.mk b67 (0 : Nat) none)) (1 : Nat) h68
                                                                                                                                          fun (p69 : Option Addr) (l70 c71 : Nat) (h72 : Heap) =>
                                                                                                                                          J38 (p69, l70, c71) h72) ∧
                                                                                                                    ∃ (cs73 : Array Value),
                                                                                                                      row h56 (Addr.mk b35 (0 : Nat) none) (4 : Nat) = some cs73 ∧
                                                                                                                        appendP (22 : Nat) (1 : Nat) (24 : Nat) #[Value.slice none (0 : Nat) (0 : Nat)]
                                                                                                                          (some (Addr.mk b55 (0 : Nat) none)) (0 : Nat) (0 : Nat)
                                                                                                                          (Prod.fst (Prod.fst (Prod.snd s31)))
                                                                                                                          (Prod.fst (Prod.snd (Prod.fst (Prod.snd s31)))) h56
                                                                                                                          fun (p74 : Option Addr) (l75 c76 : Nat) (h77 : Heap) =>
                                                                                                                          CallsH Try.prog n_law10_record #[Value.agg cs73] h77
                                                                                                                            fun (v78 : Value) (h79 : Heap) =>
                                                                                                                            Ext h77 h79 ∧
                                                                                                                              ∃ (p80 : Option Addr),
                                                                                                                                ∃ (l81 : Nat),
                                                                                                                                  ∃ (c82 : Nat),
                                                                                                                                    v78 = Value.slice p80 l81 c82 ∧
                                                                                                                                      newBlk h79 (22 : Nat) #[Value.slice p80 l81 c82]
                                                                                                                                        fun (b83 : Nat) (h84 : Heap) =>
                                                                                                                                        appendP (22 : Nat) (1 : Nat) (24 : Nat)
                                                                                                                                          #[Value.slice none (0 : Nat) (0 : Nat)] p74 l75 c76
                                                                                                                                          (some (Addr.mk b83 (0 : Nat) none)) (1 : Nat) h84
                                                                                                                                          fun (p85 : Option Addr) (l86 c87 : Nat) (h88 : Heap) =>
                                                                                                                                          J38 (p85, l86, c87) h88) ∧
                                                                                                                ∃ (cs89 : Array Value),
                                                                                                                  row h53 (Addr.mk b35 (0 : Nat) none) (4 : Nat) = some cs89 ∧
                                                                                                                    newBlk h53 (22 : Nat) #[] fun (b90 : Nat) (h91 : Heap) =>
                                                                                                                      appendP (22 : Nat) (1 : Nat) (24 : Nat) #[Value.slice none (0 : Nat) (0 : Nat)]
                                                                                                                        (some (Addr.mk b90 (0 : Nat) none)) (0 : Nat) (0 : Nat)
                                                                                                                        (Prod.fst (Prod.fst (Prod.snd s31)))
                                                                                                                        (Prod.fst (Prod.snd (Prod.fst (Prod.snd s31)))) h91
                                                                                                                        fun (p92 : Option Addr) (l93 c94 : Nat) (h95 : Heap) =>
                                                                                                                        CallsH Try.prog n_law10_record #[Value.agg cs89] h95
                                                                                                                          fun (v96 : Value) (h97 : Heap) =>
                                                                                                                          Ext h95 h97 ∧
                                                                                                                            ∃ (p98 : Option Addr),
                                                                                                                              ∃ (l99 : Nat),
                                                                                                                                ∃ (c100 : Nat),
                                                                                                                                  v96 = Value.slice p98 l99 c100 ∧
                                                                                                                                    newBlk h97 (22 : Nat) #[Value.slice p98 l99 c100]
                                                                                                                                      fun (b101 : Nat) (h102 : Heap) =>
                                                                                                                                      appendP (22 : Nat) (1 : Nat) (24 : Nat)
                                                                                                                                        #[Value.slice none (0 : Nat) (0 : Nat)] p92 l93 c94
                                                                                                                                        (some (Addr.mk b101 (0 : Nat) none)) (1 : Nat) h102
                                                                                                                                        fun (p103 : Option Addr) (l104 c105 : Nat) (h106 : Heap) =>
                                                                                                                                        J38 (p103, l104, c105) h106)
                                                                                                              (J38
                                                                                                                (Prod.fst (Prod.fst (Prod.snd s31)), Prod.fst (Prod.snd (Prod.fst (Prod.snd s31))),
                                                                                                                  Prod.snd (Prod.snd (Prod.fst (Prod.snd s31))))
                                                                                                                h53))
                                                                                      (J38
                                                                                        (Prod.fst (Prod.fst (Prod.snd s31)), Prod.fst (Prod.snd (Prod.fst (Prod.snd s31))),
                                                                                          Prod.snd (Prod.snd (Prod.fst (Prod.snd s31))))
                                                                                        h42))
                                                                    (J38
                                                                      (Prod.fst (Prod.fst (Prod.snd s31)), Prod.fst (Prod.snd (Prod.fst (Prod.snd s31))), Prod.snd (Prod.snd (Prod.fst (Prod.snd s31))))
                                                                      h37)) ∧
                                                              ∀ (s107 : Option Addr × Nat × Nat) (h108 : Heap),
                                                                J38 s107 h108 →
                                                                  ∃ (J109 : Int → Heap → Prop),
                                                                    (∃ (n110 : Int),
                                                                        cell h108 (Addr.add (Addr.mk b35 (0 : Nat) none) (0 : Nat)) = some (Value.int IntKind.i64 n110) ∧
                                                                          br (n110 == (2 : Int))
                                                                            (CallsH Try.prog n_vault_Vault_Flush #[Value.pointer (Prod.fst s31)] h108 fun (v111 : Value) (h112 : Heap) =>
                                                                              ∃ (n113 : Int),
                                                                                v111 = Value.int IntKind.i64 n113 ∧
                                                                                  br (n113 == (0 : Int)) (J109 (↑(Prod.fst (Prod.snd s107)) : Int) h112)
                                                                                    (J109 (Prod.fst (Prod.snd (Prod.snd (Prod.snd s31)))) h112))
                                                                            (J109 (Prod.fst (Prod.snd (Prod.snd (Prod.snd s31)))) h108)) ∧
                                                                      ∀ (n114 : Int) (h115 : Heap),
                                                                        J109 n114 h115 →
                                                                          ∃ (J116 : PUnit → Heap → Prop),
                                                                            (∃ (n117 : Int),
                                                                                cell h115 (Addr.add (Addr.mk b35 (0 : Nat) none) (0 : Nat)) = some (Value.int IntKind.i64 n117) ∧
                                                                                  br (n117 == (3 : Int))
                                                                                    (∃ (n118 : Int),
                                                                                      cell h115 (Addr.add (Addr.mk b35 (0 : Nat) none) (1 : Nat)) = some (Value.int IntKind.i64 n118) ∧
                                                                                        CallsH Try.prog n_device_Device_SetFuse #[Value.pointer p20, Value.int IntKind.i64 n118] h115
                                                                                          fun (v119 : Value) (h120 : Heap) => v119 = Value.tuple #[] ∧ J116 () h120)
                                                                                    (J116 () h115)) ∧
                                                                              ∀ (x121 : PUnit) (h122 : Heap),
                                                                                J116 x121 h122 →
                                                                                  ∃ (J123 : (Option Addr × Nat × Nat) × (Option Addr × Nat × Nat) × Int → Heap → Prop),
                                                                                    (∃ (n124 : Int),
                                                                                        cell h122 (Addr.add (Addr.mk b35 (0 : Nat) none) (0 : Nat)) = some (Value.int IntKind.i64 n124) ∧
                                                                                          br (n124 == (6 : Int))
                                                                                            (∃ (p125 : Option Addr),
                                                                                              ∃ (l126 : Nat),
                                                                                                ∃ (c127 : Nat),
                                                                                                  cell h122 (Addr.add (Addr.mk b35 (0 : Nat) none) (2 : Nat)) = some (Value.slice p125 l126 c127) ∧
                                                                                                    CallsH Try.prog n_vault_Vault_Replace #[Value.pointer (Prod.fst s31), Value.slice p125 l126 c127] h122
                                                                                                      fun (v128 : Value) (h129 : Heap) =>
                                                                                                      ∃ (n130 : Int),
                                                                                                        v128 = Value.int IntKind.i64 n130 ∧
                                                                                                          ∃ (J131 : (Option Addr × Nat × Nat) × (Option Addr × Nat × Nat) × Int → Heap → Prop),
                                                                                                            br (n130 == (0 : Int))
                                                                                                                (∃ (p132 : Option Addr),
                                                                                                                  ∃ (l133 : Nat),
                                                                                                                    ∃ (c134 : Nat),
                                                                                                                      cell h129 (Addr.add (Addr.mk b35 (0 : Nat) none) (2 : Nat)) =
                                                                                                                          some (Value.slice p132 l133 c134) ∧
                                                                                                                        J131 ((p132, l133, c134), (none, (0 : Nat), (0 : Nat)), (↑l133 : Int)) h129)
                                                                                                                (J131
                                                                                                                  ((Prod.fst s107, Prod.fst (Prod.snd s107), Prod.snd (Prod.snd s107)),
                                                                                                                    (Prod.fst (Prod.fst (Prod.snd (Prod.snd s31))),
                                                                                                                      Prod.fst (Prod.snd (Prod.fst (Prod.snd (Prod.snd s31)))),
                                                                                                                      Prod.snd (Prod.snd (Prod.fst (Prod.snd (Prod.snd s31))))),
                                                                                                                    n114)
                                                                                                                  h129) ∧
                                                                                                              ∀ (s135 : (Option Addr × Nat × Nat) × (Option Addr × Nat × Nat) × Int) (h136 : Heap),
                                                                                                                J131 s135 h136 →
                                                                                                                  br (n130 == (6 : Int))
                                                                                                                    (∃ (p137 : Option Addr),
                                                                                                                      ∃ (l138 : Nat),
                                                                                                                        ∃ (c139 : Nat),
                                                                                                                          cell h136 (Addr.add (Addr.mk b35 (0 : Nat) none) (2 : Nat)) =
                                                                                                                              some (Value.slice p137 l138 c139) ∧
                                                                                                                            newBlk h136 (29 : Nat) #[Value.slice p137 l138 c139]
                                                                                                                              fun (b140 : Nat) (h141 : Heap) =>
                                                                                                                              appendP (29 : Nat) (1 : Nat) (24 : Nat)
                                                                                                                                #[Value.slice none (0 : Nat) (0 : Nat)]
                                                                                                                                (Prod.fst (Prod.fst (Prod.snd s135)))
                                                                                                                                (Prod.fst (Prod.snd (Prod.fst (Prod.snd s135))))
                                                                                                                                (Prod.snd (Prod.snd (Prod.fst (Prod.snd s135))))
                                                                                                                                (some (Addr.mk b140 (0 : Nat) none)) (1 : Nat) h141
                                                                                                                                fun (p142 : Option Addr) (l143 c144 : Nat) (h145 : Heap) =>
                                                                                                                                J123
                                                                                                                                  ((Prod.fst (Prod.fst s135), Prod.fst (Prod.snd (Prod.fst s135)),
                                                                                                                                      Prod.snd (Prod.snd (Prod.fst s135))),
                                                                                                                                    (p142, l143, c144), Prod.snd (Prod.snd s135))
                                                                                                                                  h145)
                                                                                                                    (J123
                                                                                                                      ((Prod.fst (Prod.fst s135), Prod.fst (Prod.snd (Prod.fst s135)),
                                                                                                                          Prod.snd (Prod.snd (Prod.fst s135))),
                                                                                                                        (Prod.fst (Prod.fst (Prod.snd s135)),
                                                                                                                          Prod.fst (Prod.snd (Prod.fst (Prod.snd s135))),
                                                                                                                          Prod.snd (Prod.snd (Prod.fst (Prod.snd s135)))),
                                                                                                                        Prod.snd (Prod.snd s135))
                                                                                                                      h136))
                                                                                            (J123
                                                                                              ((Prod.fst s107, Prod.fst (Prod.snd s107), Prod.snd (Prod.snd s107)),
                                                                                                (Prod.fst (Prod.fst (Prod.snd (Prod.snd s31))),
                                                                                                  Prod.fst (Prod.snd (Prod.fst (Prod.snd (Prod.snd s31)))),
                                                                                                  Prod.snd (Prod.snd (Prod.fst (Prod.snd (Prod.snd s31))))),
                                                                                                n114)
                                                                                              h122)) ∧
                                                                                      ∀ (s146 : (Option Addr × Nat × Nat) × (Option Addr × Nat × Nat) × Int) (h147 : Heap),
                                                                                        J123 s146 h147 →
                                                                                          ∃ (n148 : Int),
                                                                                            cell h147 (Addr.add (Addr.mk b35 (0 : Nat) none) (0 : Nat)) = some (Value.int IntKind.i64 n148) ∧
                                                                                              br (n148 != (4 : Int))
                                                                                                (I29
                                                                                                    (Prod.fst s31,
                                                                                                      (Prod.fst (Prod.fst s146), Prod.fst (Prod.snd (Prod.fst s146)),
                                                                                                        Prod.snd (Prod.snd (Prod.fst s146))),
                                                                                                      (Prod.fst (Prod.fst (Prod.snd s146)), Prod.fst (Prod.snd (Prod.fst (Prod.snd s146))),
                                                                                                        Prod.snd (Prod.snd (Prod.fst (Prod.snd s146)))),
                                                                                                      Prod.snd (Prod.snd s146),
                                                                                                      IntKind.wrap IntKind.i64 (Prod.snd (Prod.snd (Prod.snd (Prod.snd s31))) + (1 : Int)))
                                                                                                    h147 ∧
                                                                                                  μ30
                                                                                                      (Prod.fst s31,
                                                                                                        (Prod.fst (Prod.fst s146), Prod.fst (Prod.snd (Prod.fst s146)),
                                                                                                          Prod.snd (Prod.snd (Prod.fst s146))),
                                                                                                        (Prod.fst (Prod.fst (Prod.snd s146)), Prod.fst (Prod.snd (Prod.fst (Prod.snd s146))),
                                                                                                          Prod.snd (Prod.snd (Prod.fst (Prod.snd s146)))),
                                                                                                        Prod.snd (Prod.snd s146),
                                                                                                        IntKind.wrap IntKind.i64 (Prod.snd (Prod.snd (Prod.snd (Prod.snd s31))) + (1 : Int)))
                                                                                                      h147 <
                                                                                                    μ30 s31 h32)
                                                                                                (∃ (p149 : Option Addr),
                                                                                                  ∃ (l150 : Nat),
                                                                                                    ∃ (c151 : Nat),
                                                                                                      cell h147 (Addr.add (Addr.mk b35 (0 : Nat) none) (3 : Nat)) = some (Value.slice p149 l150 c151) ∧
                                                                                                        CallsH Try.prog n_device_Device_Restart #[Value.pointer p20, Value.slice p149 l150 c151] h147
                                                                                                          fun (v152 : Value) (h153 : Heap) =>
                                                                                                          v152 = Value.tuple #[] ∧
                                                                                                            ∃ (I154 : Int → Heap → Prop),
                                                                                                              ∃ (μ155 : Int → Heap → Nat),
                                                                                                                I154 (0 : Int) h153 ∧
                                                                                                                  ∀ (n156 : Int) (h157 : Heap),
                                                                                                                    I154 n156 h157 →
                                                                                                                      br (decide (n156 < (↑within_l : Int)))
                                                                                                                        ((0 : Int) ≤ n156 ∧
                                                                                                                          n156 < (↑within_l : Int) ∧
                                                                                                                            deref within fun (a158 : Addr) =>
                                                                                                                              ∃ (n159 : Int),
                                                                                                                                cell h157 (Addr.add a158 (Int.toNat n156 * (1 : Nat))) =
                                                                                                                                    some (Value.int IntKind.u8 n159) ∧
                                                                                                                                  (4 : Int) ≠ (0 : Int) ∧
                                                                                                                                    CallsH Try.prog n_device_Device_SetFuse
                                                                                                                                      #[Value.pointer p20,
                                                                                                                                        Value.int IntKind.i64
                                                                                                                                          (IntKind.wrap IntKind.i64 (Int.tmod n159 (4 : Int)))]
                                                                                                                                      h157 fun (v160 : Value) (h161 : Heap) =>
                                                                                                                                      v160 = Value.tuple #[] ∧
                                                                                                                                        CallsH Try.prog n_vault_Open #[Value.pointer p20] h161
                                                                                                                                          fun (v162 : Value) (h163 : Heap) =>
                                                                                                                                          ∃ (p164 : Option Addr),
                                                                                                                                            ∃ (p165 : Option Addr),
                                                                                                                                              ∃ (l166 : Nat),
                                                                                                                                                ∃ (c167 : Nat),
                                                                                                                                                  ∃ (n168 : Int),
                                                                                                                                                    v162 =
                                                                                                                                                        Value.tuple
                                                                                                                                                          #[Value.pointer p164,
                                                                                                                                                            Value.slice p165 l166 c167,
                                                                                                                                                            Value.int IntKind.i64 n168] ∧
                                                                                                                                                      ∃ (p169 : Option Addr),
                                                                                                                                                        ∃ (l170 : Nat),
                                                                                                                                                          ∃ (c171 : Nat),
                                                                                                                                                            cell h163
                                                                                                                                                                  (Addr.add (Addr.mk b35 (0 : Nat) none)
                                                                                                                                                                    (3 : Nat)) =
                                                                                                                                                                some (Value.slice p169 l170 c171) ∧
                                                                                                                                                              CallsH Try.prog n_device_Device_Restart
                                                                                                                                                                #[Value.pointer p20,
                                                                                                                                                                  Value.slice p169 l170 c171]
                                                                                                                                                                h163 fun (v172 : Value) (h173 : Heap) =>
                                                                                                                                                                v172 = Value.tuple #[] ∧
                                                                                                                                                                  I154
                                                                                                                                                                      (IntKind.wrap IntKind.i64
                                                                                                                                                                        (n156 + (1 : Int)))
                                                                                                                                                                      h173 ∧
                                                                                                                                                                    μ155
                                                                                                                                                                        (IntKind.wrap IntKind.i64
                                                                                                                                                                          (n156 + (1 : Int)))
                                                                                                                                                                        h173 <
                                                                                                                                                                      μ155 n156 h157)
                                                                                                                        (CallsH Try.prog n_vault_Open #[Value.pointer p20] h157
                                                                                                                          fun (v174 : Value) (h175 : Heap) =>
                                                                                                                          ∃ (p176 : Option Addr),
                                                                                                                            ∃ (p177 : Option Addr),
                                                                                                                              ∃ (l178 : Nat),
                                                                                                                                ∃ (c179 : Nat),
                                                                                                                                  ∃ (n180 : Int),
                                                                                                                                    v174 =
                                                                                                                                        Value.tuple
                                                                                                                                          #[Value.pointer p176, Value.slice p177 l178 c179,
                                                                                                                                            Value.int IntKind.i64 n180] ∧
                                                                                                                                      ∃ (J181 : Bool → Heap → Prop),
                                                                                                                                        br (decide ((↑l178 : Int) ≥ Prod.snd (Prod.snd s146)))
                                                                                                                                            (CallsH Try.prog n_ref09_Ahead
                                                                                                                                              #[Value.slice p177 l178 c179,
                                                                                                                                                Value.slice (Prod.fst (Prod.fst s146))
                                                                                                                                                  (Prod.fst (Prod.snd (Prod.fst s146)))
                                                                                                                                                  (Prod.snd (Prod.snd (Prod.fst s146)))]
                                                                                                                                              h175 fun (v182 : Value) (h183 : Heap) =>
                                                                                                                                              Ext h175 h183 ∧
                                                                                                                                                ∃ (t184 : Bool),
                                                                                                                                                  v182 = Value.bool t184 ∧ J181 t184 h183)
                                                                                                                                            (J181 false h175) ∧
                                                                                                                                          ∀ (t185 : Bool) (h186 : Heap),
                                                                                                                                            J181 t185 h186 →
                                                                                                                                              ∃ (I187 : Bool × Int → Heap → Prop),
                                                                                                                                                ∃ (μ188 : Bool × Int → Heap → Nat),
                                                                                                                                                  I187 (t185, (0 : Int)) h186 ∧
                                                                                                                                                    ∀ (s189 : Bool × Int) (h190 : Heap),
                                                                                                                                                      I187 s189 h190 →
                                                                                                                                                        br
                                                                                                                                                          (decide
                                                                                                                                                            (Prod.snd s189 <
                                                                                                                                                              (↑(Prod.fst
                                                                                                                                                                    (Prod.snd
                                                                                                                                                                      (Prod.fst (Prod.snd s146)))) :
                                                                                                                                                                Int)))
                                                                                                                                                          (br (Prod.fst s189)
                                                                                                                                                            (I187
                                                                                                                                                                (true,
                                                                                                                                                                  IntKind.wrap IntKind.i64
                                                                                                                                                                    (Prod.snd s189 + (1 : Int)))
                                                                                                                                                                h190 ∧
                                                                                                                                                              μ188
                                                                                                                                                                  (true,
                                                                                                                                                                    IntKind.wrap IntKind.i64
                                                                                                                                                                      (Prod.snd s189 + (1 : Int)))
                                                                                                                                                                  h190 <
                                                                                                                                                                μ188 s189 h190)
                                                                                                                                                            ((0 : Int) ≤ Prod.snd s189 ∧
                                                                                                                                                              Prod.snd s189 <
                                                                                                                                                                  (↑(Prod.fst
                                                                                                                                                                        (Prod.snd
                                                                                                                                                                          (Prod.fst (Prod.snd s146)))) :
                                                                                                                                                                    Int) ∧
                                                                                                                                                                deref
                                                                                                                                                                  (Prod.fst (Prod.fst (Prod.snd s146)))
                                                                                                                                                                  fun (a191 : Addr) =>
                                                                                                                                                                  ∃ (p192 : Option Addr),
                                                                                                                                                                    ∃ (l193 : Nat),
                                                                                                                                                                      ∃ (c194 : Nat),
                                                                                                                                                                        cell h190
                                                                                                                                                                              (Addr.add a191
                                                                                                                                                                                (Int.toNat
                                                                                                                                                                                    (Prod.snd s189) *
                                                                                                                                                                                  (1 : Nat))) =
                                                                                                                                                                            some
                                                                                                                                                                              (Value.slice p192 l193
                                                                                                                                                                                c194) ∧
                                                                                                                                                                          CallsH Try.prog n_ref02_Same
                                                                                                                                                                            #[Value.slice p177 l178
                                                                                                                                                                                c179,
                                                                                                                                                                              Value.slice p192 l193
                                                                                                                                                                                c194]
                                                                                                                                                                            h190
                                                                                                                                                                            fun (v195 : Value)
                                                                                                                                                                              (h196 : Heap) =>
                                                                                                                                                                            Ext h190 h196 ∧
                                                                                                                                                                              ∃ (t197 : Bool),
                                                                                                                                                                                v195 = Value.bool t197 ∧
                                                                                                                                                                                  I187
                                                                                                                                                                                      (t197,
                                                                                                                                                                                        IntKind.wrap
                                                                                                                                                                                          IntKind.i64
                                                                                                                                                                                          (Prod.snd
                                                                                                                                                                                              s189 +
                                                                                                                                                                                            (1 : Int)))
                                                                                                                                                                                      h196 ∧
                                                                                                                                                                                    μ188
                                                                                                                                                                                        (t197,
                                                                                                                                                                                          IntKind.wrap
                                                                                                                                                                                            IntKind.i64
                                                                                                                                                                                            (Prod.snd
                                                                                                                                                                                                s189 +
                                                                                                                                                                                              (1 :
                                                                                                                                                                                                Int)))
                                                                                                                                                                                        h196 <
                                                                                                                                                                                      μ188 s189 h190))
                                                                                                                                                          (∃ (J198 : PUnit → Heap → Prop),
                                                                                                                                                            br (n180 != (0 : Int))
                                                                                                                                                                (R (Value.bool false) h190)
                                                                                                                                                                (br (!Prod.fst s189)
                                                                                                                                                                  (R (Value.bool false) h190)
                                                                                                                                                                  (J198 () h190)) ∧
                                                                                                                                                              ∀ (x199 : PUnit) (h200 : Heap),
                                                                                                                                                                J198 x199 h200 →
                                                                                                                                                                  I29
                                                                                                                                                                      (p176, (p177, l178, c179),
                                                                                                                                                                        (none, (0 : Nat), (0 : Nat)),
                                                                                                                                                                        (↑l178 : Int),
                                                                                                                                                                        IntKind.wrap IntKind.i64
                                                                                                                                                                          (Prod.snd
                                                                                                                                                                              (Prod.snd
                                                                                                                                                                                (Prod.snd
                                                                                                                                                                                  (Prod.snd s31))) +
                                                                                                                                                                            (1 : Int)))
                                                                                                                                                                      h200 ∧
                                                                                                                                                                    μ30
                                                                                                                                                                        (p176, (p177, l178, c179),
                                                                                                                                                                          (none, (0 : Nat), (0 : Nat)),
                                                                                                                                                                          (↑l178 : Int),
                                                                                                                                                                          IntKind.wrap IntKind.i64
                                                                                                                                                                            (Prod.snd
                                                                                                                                                                                (Prod.snd
                                                                                                                                                                                  (Prod.snd
                                                                                                                                                                                    (Prod.snd s31))) +
                                                                                                                                                                              (1 : Int)))
                                                                                                                                                                        h200 <
                                                                                                                                                                      μ30 s31 h32))))
                                            (R (Value.bool true) h32)
theorem C_law10_VaultCrashes (script : Option Addr) (script_l : Nat) (script_c : Nat) (within : Option Addr) (within_l : Nat) (within_c : Nat) {h : Heap} {R : Value → Heap → Prop} (H : F_law10_VaultCrashes script script_l script_c within within_l within_c h R) : CallsH Try.prog n_law10_VaultCrashes [(.slice script script_l script_c), (.slice within within_l within_c)].toArray h R :=
  fn_sound (A := A_law10_VaultCrashes) (Eq.mp (by kernel_rfl : F_law10_VaultCrashes script script_l script_c within within_l within_c h R = fnVc Go.Proofs.Try.prog A_law10_VaultCrashes 5 [(.slice script script_l script_c), (.slice within within_l within_c)] h R) H)

end Go.Proofs.Ytbmhphnidfpclaa
