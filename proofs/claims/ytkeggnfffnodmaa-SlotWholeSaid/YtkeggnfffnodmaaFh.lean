/- The formulas of some functions, and that each is what its code comes to. Written by a program of ours. -/
import Derived.Test.YtkeggnfffnodmaaVcO
import Derived.Test.YtkeggnfffnodmaaNm
import Derived.Test.YtkeggnfffnodmaaProg
import Derived.KernelRfl
set_option linter.unusedVariables false
set_option maxRecDepth 100000
namespace Go.Proofs.Ytkeggnfffnodmaa
open Go Go.Vc Go.Proofs

/- rolodex/rolodexlaw08.SlotPlays -/
def A_law08_SlotPlays : Ann := { qs := [8, 9, 11, 12, 13, 15, 16, 25, 26, 27, 28, 29, 30, 32, 33, 35, 36, 40, 41, 44, 46, 47, 51, 52], loops := [(6, [(6, (.int .i64))])], cuts := [(3, []), (10, []), (28, [])], plans := [(17, (.take 0 (.take 1 (.take 2 (.take 3 (.take 4 (.take 6 (.take 7 (.take 9 (.alt 5 (.take 8 (.take 10 (.alt 11 (.take 12 .done) .stop))) (.alt 8 (.alt 5 (.take 10 (.alt 11 (.take 12 .done) .stop)) (.alt 10 (.alt 5 (.alt 11 (.take 12 .done) .stop) .stop) .stop)) (.alt 10 (.alt 5 (.take 8 (.alt 11 (.take 12 .done) .stop)) (.alt 8 (.alt 5 (.alt 11 (.take 12 .done) .stop) .stop) .stop)) .stop)))))))))))), (30, (.take 0 (.take 1 (.take 2 (.take 3 (.take 4 (.take 5 (.take 6 (.take 7 (.take 8 (.take 9 (.take 10 (.alt 11 (.take 12 (.take 13 (.take 14 (.take 15 (.take 17 (.take 18 (.take 19 (.take 20 (.alt 16 (.take 21 (.take 22 .done)) .stop))))))))) .stop)))))))))))))] }
def F_law08_SlotPlays (script : Option Addr) (script_l : Nat) (script_c : Nat) (h : Heap) (R : Value → Heap → Prop) : Prop :=
  ∃ (J0 : PUnit → Heap → Prop),
  (CallsH Try.prog n_law08_awake #[] h fun (v1 : Value) (h2 : Heap) =>
      Ext h h2 ∧
        ∃ (t3 : Bool),
          v1 = Value.bool t3 ∧
            br (!t3) (CallsH Try.prog n_law08_awake #[] h2 fun (v4 : Value) (h5 : Heap) => Ext h2 h5 ∧ ∃ (t6 : Bool), v4 = Value.bool t6 ∧ R (Value.bool t6) h5)
              (CallsH Try.prog n_law08_few #[Value.slice script script_l script_c, Value.int IntKind.i64 (50 : Int)] h2 fun (v7 : Value) (h8 : Heap) =>
                Ext h2 h8 ∧
                  ∃ (t9 : Bool),
                    v7 = Value.bool t9 ∧
                      br (!t9) (CallsH Try.prog n_law08_awake #[] h8 fun (v10 : Value) (h11 : Heap) => Ext h8 h11 ∧ ∃ (t12 : Bool), v10 = Value.bool t12 ∧ R (Value.bool t12) h11) (J0 () h8))) ∧
    ∀ (x13 : PUnit) (h14 : Heap),
      J0 x13 h14 →
        CallsH Try.prog n_device_New #[Value.int IntKind.i64 (8 : Int)] h14 fun (v15 : Value) (h16 : Heap) =>
          Ext h14 h16 ∧
            ∃ (p17 : Option Addr),
              ∃ (n18 : Int),
                v15 = Value.tuple #[Value.pointer p17, Value.int IntKind.i64 n18] ∧
                  CallsH Try.prog n_ref07_New #[Value.int IntKind.i64 (8 : Int)] h16 fun (v19 : Value) (h20 : Heap) =>
                    ∃ (p21 : Option Addr),
                      v19 = Value.pointer p21 ∧
                        ∃ (I22 : Int → Heap → Prop),
                          ∃ (μ23 : Int → Heap → Nat),
                            I22 (0 : Int) h20 ∧
                              ∀ (n24 : Int) (h25 : Heap),
                                I22 n24 h25 →
                                  br (decide (n24 < (↑script_l : Int)))
                                    ((0 : Int) ≤ n24 ∧
                                      n24 < (↑script_l : Int) ∧
                                        deref script fun (a26 : Addr) =>
                                          ∃ (cs27 : Array Value),
                                            row h25 (Addr.add a26 (Int.toNat n24 * (5 : Nat))) (5 : Nat) = some cs27 ∧
                                              newBlk h25 (49 : Nat)
                                                #[Value.int IntKind.i64 (0 : Int), Value.int IntKind.i64 (0 : Int), Value.int IntKind.i64 (0 : Int), Value.slice none (0 : Nat) (0 : Nat),
                                                  Value.slice none (0 : Nat) (0 : Nat)]
                                                fun (b28 : Nat) (h29 : Heap) =>
                                                storeP (some (5 : Nat)) h29 (Addr.mk b28 (0 : Nat) none) (Value.agg cs27) fun (h30 : Heap) =>
                                                  ∃ (J31 : PUnit → Heap → Prop),
                                                    (∃ (n32 : Int),
                                                        cell h30 (Addr.add (Addr.mk b28 (0 : Nat) none) (2 : Nat)) = some (Value.int IntKind.i64 n32) ∧
                                                          br (decide (n32 < (-4 : Int)))
                                                            (I22 (IntKind.wrap IntKind.i64 (n24 + (1 : Int))) h30 ∧ μ23 (IntKind.wrap IntKind.i64 (n24 + (1 : Int))) h30 < μ23 n24 h25)
                                                            (∃ (n33 : Int),
                                                              cell h30 (Addr.add (Addr.mk b28 (0 : Nat) none) (2 : Nat)) = some (Value.int IntKind.i64 n33) ∧
                                                                br (decide (n33 > (10 : Int)))
                                                                  (I22 (IntKind.wrap IntKind.i64 (n24 + (1 : Int))) h30 ∧ μ23 (IntKind.wrap IntKind.i64 (n24 + (1 : Int))) h30 < μ23 n24 h25)
                                                                  (J31 () h30))) ∧
                                                      ∀ (x34 : PUnit) (h35 : Heap),
                                                        J31 x34 h35 →
                                                          ∃ (J36 : PUnit → Heap → Prop),
                                                            (∃ (n37 : Int),
                                                                cell h35 (Addr.add (Addr.mk b28 (0 : Nat) none) (0 : Nat)) = some (Value.int IntKind.i64 n37) ∧
                                                                  br (n37 == (1 : Int))
                                                                    (∃ (n38 : Int),
                                                                      cell h35 (Addr.add (Addr.mk b28 (0 : Nat) none) (2 : Nat)) = some (Value.int IntKind.i64 n38) ∧
                                                                        ∃ (p39 : Option Addr),
                                                                          ∃ (l40 : Nat),
                                                                            ∃ (c41 : Nat),
                                                                              cell h35 (Addr.add (Addr.mk b28 (0 : Nat) none) (3 : Nat)) = some (Value.slice p39 l40 c41) ∧
                                                                                CallsH Try.prog n_slot_Save #[Value.pointer p17, Value.int IntKind.i64 n38, Value.slice p39 l40 c41] h35
                                                                                  fun (v42 : Value) (h43 : Heap) =>
                                                                                  ∃ (n44 : Int),
                                                                                    ∃ (n45 : Int),
                                                                                      v42 = Value.tuple #[Value.int IntKind.u64 n44, Value.int IntKind.i64 n45] ∧
                                                                                        ∃ (n46 : Int),
                                                                                          cell h43 (Addr.add (Addr.mk b28 (0 : Nat) none) (2 : Nat)) = some (Value.int IntKind.i64 n46) ∧
                                                                                            ∃ (p47 : Option Addr),
                                                                                              ∃ (l48 : Nat),
                                                                                                ∃ (c49 : Nat),
                                                                                                  cell h43 (Addr.add (Addr.mk b28 (0 : Nat) none) (3 : Nat)) = some (Value.slice p47 l48 c49) ∧
                                                                                                    CallsH Try.prog n_ref08_Save #[Value.pointer p21, Value.int IntKind.i64 n46, Value.slice p47 l48 c49]
                                                                                                      h43 fun (v50 : Value) (h51 : Heap) =>
                                                                                                      ∃ (n52 : Int),
                                                                                                        ∃ (n53 : Int),
                                                                                                          v50 = Value.tuple #[Value.int IntKind.u64 n52, Value.int IntKind.i64 n53] ∧
                                                                                                            br (n44 != n52) (R (Value.bool false) h51)
                                                                                                              (br (n45 != n53) (R (Value.bool false) h51) (J36 () h51)))
                                                                    (br (n37 == (2 : Int))
                                                                      (∃ (n54 : Int),
                                                                        cell h35 (Addr.add (Addr.mk b28 (0 : Nat) none) (1 : Nat)) = some (Value.int IntKind.i64 n54) ∧
                                                                          ∃ (p55 : Option Addr),
                                                                            ∃ (l56 : Nat),
                                                                              ∃ (c57 : Nat),
                                                                                cell h35 (Addr.add (Addr.mk b28 (0 : Nat) none) (3 : Nat)) = some (Value.slice p55 l56 c57) ∧
                                                                                  (CallsH Try.prog n_device_Device_Write #[Value.pointer p17, Value.int IntKind.i64 n54, Value.slice p55 l56 c57] h35
                                                                                      fun (v58 : Value) (h59 : Heap) =>
                                                                                      ∃ (n60 : Int),
                                                                                        v58 = Value.int IntKind.i64 n60 ∧
                                                                                          ∃ (n61 : Int),
                                                                                            cell h59 (Addr.add (Addr.mk b28 (0 : Nat) none) (1 : Nat)) = some (Value.int IntKind.i64 n61) ∧
                                                                                              ∃ (p62 : Option Addr),
                                                                                                ∃ (l63 : Nat),
                                                                                                  ∃ (c64 : Nat),
                                                                                                    cell h59 (Addr.add (Addr.mk b28 (0 : Nat) none) (3 : Nat)) = some (Value.slice p62 l63 c64) ∧
                                                                                                      CallsH Try.prog n_ref07_Device_Write
                                                                                                        #[Value.pointer p21, Value.int IntKind.i64 n61, Value.slice p62 l63 c64] h59
                                                                                                        fun (v65 : Value) (h66 : Heap) =>
                                                                                                        ∃ (n67 : Int),
                                                                                                          v65 = Value.int IntKind.i64 n67 ∧ br (n60 != n67) (R (Value.bool false) h66) (J36 () h66)) ∧
                                                                                    (∃ (n68 : Int),
                                                                                        cell h35 (Addr.add (Addr.mk b28 (0 : Nat) none) (1 : Nat)) = some (Value.int IntKind.i64 n68) ∧
                                                                                          (CallsH Try.prog n_device_Device_Write #[Value.pointer p17, Value.int IntKind.i64 n54, Value.slice p55 l56 c57] h35
                                                                                              fun (v69 : Value) (h70 : Heap) =>
                                                                                              ∃ (n71 : Int),
                                                                                                v69 = Value.int IntKind.i64 n71 ∧
                                                                                                  ∃ (p72 : Option Addr),
                                                                                                    ∃ (l73 : Nat),
                                                                                                      ∃ (c74 : Nat),
                                                                                                        cell h70 (Addr.add (Addr.mk b28 (0 : Nat) none) (3 : Nat)) = some (Value.slice p72 l73 c74) ∧
                                                                                                          CallsH Try.prog n_ref07_Device_Write
                                                                                                            #[Value.pointer p21, Value.int IntKind.i64 n68, Value.slice p72 l73 c74] h70
                                                                                                            fun (v75 : Value) (h76 : Heap) =>
                                                                                                            ∃ (n77 : Int),
                                                                                                              v75 = Value.int IntKind.i64 n77 ∧
                                                                                                                br (n71 != n77) (R (Value.bool false) h76) (J36 () h76)) ∧
                                                                                            ∃ (p78 : Option Addr),
                                                                                              ∃ (l79 : Nat),
                                                                                                ∃ (c80 : Nat),
                                                                                                  cell h35 (Addr.add (Addr.mk b28 (0 : Nat) none) (3 : Nat)) = some (Value.slice p78 l79 c80) ∧
                                                                                                    CallsH Try.prog n_device_Device_Write #[Value.pointer p17, Value.int IntKind.i64 n54, Value.slice p55 l56 c57]
                                                                                                      h35 fun (v81 : Value) (h82 : Heap) =>
                                                                                                      ∃ (n83 : Int),
                                                                                                        v81 = Value.int IntKind.i64 n83 ∧
                                                                                                          CallsH Try.prog n_ref07_Device_Write
                                                                                                            #[Value.pointer p21, Value.int IntKind.i64 n68, Value.slice p78 l79 c80] h82
                                                                                                            fun (v84 : Value) (h85 : Heap) =>
                                                                                                            ∃ (n86 : Int),
                                                                                                              v84 = Value.int IntKind.i64 n86 ∧
                                                                                                                br (n83 != n86) (R (Value.bool false) h85) (J36 () h85)) ∧
                                                                                      ∃ (p87 : Option Addr),
                                                                                        ∃ (l88 : Nat),
                                                                                          ∃ (c89 : Nat),
                                                                                            cell h35 (Addr.add (Addr.mk b28 (0 : Nat) none) (3 : Nat)) = some (Value.slice p87 l88 c89) ∧
                                                                                              (CallsH Try.prog n_device_Device_Write #[Value.pointer p17, Value.int IntKind.i64 n54, Value.slice p55 l56 c57] h35
                                                                                                  fun (v90 : Value) (h91 : Heap) =>
                                                                                                  ∃ (n92 : Int),
                                                                                                    v90 = Value.int IntKind.i64 n92 ∧
                                                                                                      ∃ (n93 : Int),
                                                                                                        cell h91 (Addr.add (Addr.mk b28 (0 : Nat) none) (1 : Nat)) = some (Value.int IntKind.i64 n93) ∧
                                                                                                          CallsH Try.prog n_ref07_Device_Write
                                                                                                            #[Value.pointer p21, Value.int IntKind.i64 n93, Value.slice p87 l88 c89] h91
                                                                                                            fun (v94 : Value) (h95 : Heap) =>
                                                                                                            ∃ (n96 : Int),
                                                                                                              v94 = Value.int IntKind.i64 n96 ∧
                                                                                                                br (n92 != n96) (R (Value.bool false) h95) (J36 () h95)) ∧
                                                                                                ∃ (n97 : Int),
                                                                                                  cell h35 (Addr.add (Addr.mk b28 (0 : Nat) none) (1 : Nat)) = some (Value.int IntKind.i64 n97) ∧
                                                                                                    CallsH Try.prog n_device_Device_Write #[Value.pointer p17, Value.int IntKind.i64 n54, Value.slice p55 l56 c57]
                                                                                                      h35 fun (v98 : Value) (h99 : Heap) =>
                                                                                                      ∃ (n100 : Int),
                                                                                                        v98 = Value.int IntKind.i64 n100 ∧
                                                                                                          CallsH Try.prog n_ref07_Device_Write
                                                                                                            #[Value.pointer p21, Value.int IntKind.i64 n97, Value.slice p87 l88 c89] h99
                                                                                                            fun (v101 : Value) (h102 : Heap) =>
                                                                                                            ∃ (n103 : Int),
                                                                                                              v101 = Value.int IntKind.i64 n103 ∧
                                                                                                                br (n100 != n103) (R (Value.bool false) h102) (J36 () h102))
                                                                      (br (n37 == (3 : Int))
                                                                        (∃ (n104 : Int),
                                                                          cell h35 (Addr.add (Addr.mk b28 (0 : Nat) none) (1 : Nat)) = some (Value.int IntKind.i64 n104) ∧
                                                                            CallsH Try.prog n_device_Device_SetFuse #[Value.pointer p17, Value.int IntKind.i64 n104] h35 fun (v105 : Value) (h106 : Heap) =>
                                                                              v105 = Value.tuple #[] ∧
                                                                                ∃ (n107 : Int),
                                                                                  cell h106 (Addr.add (Addr.mk b28 (0 : Nat) none) (1 : Nat)) = some (Value.int IntKind.i64 n107) ∧
                                                                                    deref p21 fun (a108 : Addr) =>
                                                                                      storeP none h106 (Addr.mk (Addr.block a108) (Addr.off a108 + (2 : Nat)) none)
                                                                                        (Value.int IntKind.i64 (maxI n107 (-1 : Int))) fun (h109 : Heap) => J36 () h109)
                                                                        (br (n37 == (4 : Int))
                                                                          (∃ (p110 : Option Addr),
                                                                            ∃ (l111 : Nat),
                                                                              ∃ (c112 : Nat),
                                                                                cell h35 (Addr.add (Addr.mk b28 (0 : Nat) none) (4 : Nat)) = some (Value.slice p110 l111 c112) ∧
                                                                                  CallsH Try.prog n_device_Device_Restart #[Value.pointer p17, Value.slice p110 l111 c112] h35 fun (v113 : Value) (h114 : Heap) =>
                                                                                    v113 = Value.tuple #[] ∧
                                                                                      ∃ (p115 : Option Addr),
                                                                                        ∃ (l116 : Nat),
                                                                                          ∃ (c117 : Nat),
                                                                                            cell h114 (Addr.add (Addr.mk b28 (0 : Nat) none) (4 : Nat)) = some (Value.slice p115 l116 c117) ∧
                                                                                              CallsH Try.prog n_ref07_Device_Restart #[Value.pointer p21, Value.slice p115 l116 c117] h114
                                                                                                fun (v118 : Value) (h119 : Heap) => v118 = Value.tuple #[] ∧ J36 () h119)
                                                                          (br (n37 == (5 : Int))
                                                                            (CallsH Try.prog n_device_Device_Flush #[Value.pointer p17] h35 fun (v120 : Value) (h121 : Heap) =>
                                                                              ∃ (n122 : Int),
                                                                                v120 = Value.int IntKind.i64 n122 ∧
                                                                                  CallsH Try.prog n_ref07_Device_Flush #[Value.pointer p21] h121 fun (v123 : Value) (h124 : Heap) =>
                                                                                    ∃ (n125 : Int), v123 = Value.int IntKind.i64 n125 ∧ br (n122 != n125) (R (Value.bool false) h124) (J36 () h124))
                                                                            (J36 () h35)))))) ∧
                                                              ∀ (x126 : PUnit) (h127 : Heap),
                                                                J36 x126 h127 →
                                                                  ∃ (n128 : Int),
                                                                    cell h127 (Addr.add (Addr.mk b28 (0 : Nat) none) (2 : Nat)) = some (Value.int IntKind.i64 n128) ∧
                                                                      CallsH Try.prog n_slot_Load #[Value.pointer p17, Value.int IntKind.i64 n128] h127 fun (v129 : Value) (h130 : Heap) =>
                                                                        Ext h127 h130 ∧
                                                                          ∃ (n131 : Int),
                                                                            ∃ (p132 : Option Addr),
                                                                              ∃ (l133 : Nat),
                                                                                ∃ (c134 : Nat),
                                                                                  ∃ (n135 : Int),
                                                                                    v129 = Value.tuple #[Value.int IntKind.u64 n131, Value.slice p132 l133 c134, Value.int IntKind.i64 n135] ∧
                                                                                      ∃ (n136 : Int),
                                                                                        cell h130 (Addr.add (Addr.mk b28 (0 : Nat) none) (2 : Nat)) = some (Value.int IntKind.i64 n136) ∧
                                                                                          CallsH Try.prog n_ref08_Load #[Value.pointer p21, Value.int IntKind.i64 n136] h130
                                                                                            fun (v137 : Value) (h138 : Heap) =>
                                                                                            Ext h130 h138 ∧
                                                                                              ∃ (n139 : Int),
                                                                                                ∃ (p140 : Option Addr),
                                                                                                  ∃ (l141 : Nat),
                                                                                                    ∃ (c142 : Nat),
                                                                                                      ∃ (n143 : Int),
                                                                                                        v137 =
                                                                                                            Value.tuple
                                                                                                              #[Value.int IntKind.u64 n139, Value.slice p140 l141 c142, Value.int IntKind.i64 n143] ∧
                                                                                                          br (n131 != n139) (R (Value.bool false) h138)
                                                                                                            (br (n135 != n143) (R (Value.bool false) h138)
                                                                                                              (CallsH Try.prog n_ref01_Same #[Value.slice p132 l133 c134, Value.slice p140 l141 c142] h138
                                                                                                                fun (v144 : Value) (h145 : Heap) =>
                                                                                                                Ext h138 h145 ∧
                                                                                                                  ∃ (t146 : Bool),
                                                                                                                    v144 = Value.bool t146 ∧
                                                                                                                      br (!t146) (R (Value.bool false) h145)
                                                                                                                        (deref p21 fun (a147 : Addr) =>
                                                                                                                          ∃ (t148 : Bool),
                                                                                                                            cell h145 (Addr.add a147 (3 : Nat)) = some (Value.bool t148) ∧
                                                                                                                              CallsH Try.prog n_device_Device_Down #[Value.pointer p17] h145
                                                                                                                                fun (v149 : Value) (h150 : Heap) =>
                                                                                                                                Ext h145 h150 ∧
                                                                                                                                  ∃ (t151 : Bool),
                                                                                                                                    v149 = Value.bool t151 ∧
                                                                                                                                      br (!t151 == t148) (R (Value.bool false) h150)
                                                                                                                                        (I22 (IntKind.wrap IntKind.i64 (n24 + (1 : Int))) h150 ∧
                                                                                                                                          μ23 (IntKind.wrap IntKind.i64 (n24 + (1 : Int))) h150 <
                                                                                                                                            μ23 n24 h25)))))
                                    (R (Value.bool true) h25)
theorem C_law08_SlotPlays (script : Option Addr) (script_l : Nat) (script_c : Nat) {h : Heap} {R : Value → Heap → Prop} (H : F_law08_SlotPlays script script_l script_c h R) : CallsH Try.prog n_law08_SlotPlays [(.slice script script_l script_c)].toArray h R :=
  fn_sound (A := A_law08_SlotPlays) (Eq.mp (by kernel_rfl : F_law08_SlotPlays script script_l script_c h R = fnVc Go.Proofs.Try.prog A_law08_SlotPlays 6 [(.slice script script_l script_c)] h R) H)

end Go.Proofs.Ytkeggnfffnodmaa
