/- The formulas of some functions, and that each is what its code comes to. Written by a program of ours. -/
import Derived.Test.YtkeggnfffnodmaaVcO
import Derived.Test.YtkeggnfffnodmaaNm
import Derived.Test.YtkeggnfffnodmaaProg
import Derived.KernelRfl
set_option linter.unusedVariables false
set_option maxRecDepth 100000
namespace Go.Proofs.Ytkeggnfffnodmaa.R
open Go Go.Vc Go.Proofs

/- rolodex/rolodexlaw08.SlotWhole -/
def A_law08_SlotWhole : Ann := { qs := [8, 9, 11, 12, 13, 15, 16, 25, 26, 27, 28, 29, 30, 32, 33, 35, 36, 40, 41, 44, 46, 47, 51, 52], loops := [(6, [(5, .slice), (6, (.int .i64))]), (23, [(13, .bool), (14, (.int .i64))])], cuts := [(3, []), (14, [(5, .slice)]), (13, [(5, .slice)]), (16, []), (18, []), (26, [(13, .bool)])] }
def F_law08_SlotWhole (script : Option Addr) (script_l : Nat) (script_c : Nat) (h : Heap) (R : Value → Heap → Prop) : Prop :=
  ∃ (J0 : PUnit → Heap → Prop),
  (CallsH Try.prog n_law08_awake #[] h fun (v1 : Value) (h2 : Heap) =>
      Ext h h2 ∧
        ∃ (t3 : Bool),
          v1 = Value.bool t3 ∧
            br (!t3) (CallsH Try.prog n_law08_awake #[] h2 fun (v4 : Value) (h5 : Heap) => Ext h2 h5 ∧ ∃ (t6 : Bool), v4 = Value.bool t6 ∧ R (Value.bool t6) h5)
              (CallsH Try.prog n_law08_few #[Value.slice script script_l script_c, Value.int IntKind.i64 (50 : Int)] h2 fun (v7 : Value) (h8 : Heap) =>
                Ext h2 h8 ∧
                  ∃ (t9 : Bool),
                    v7 = Value.bool t9 ∧
                      br (!t9) (CallsH Try.prog n_law08_awake #[] h8 fun (v10 : Value) (h11 : Heap) => Ext h8 h11 ∧ ∃ (t12 : Bool), v10 = Value.bool t12 ∧ R (Value.bool t12) h11) (J0 () h8))) ∧
    ∀ (x13 : PUnit) (h14 : Heap),
      J0 x13 h14 →
        CallsH Try.prog n_device_New #[Value.int IntKind.i64 (5 : Int)] h14 fun (v15 : Value) (h16 : Heap) =>
          Ext h14 h16 ∧
            ∃ (p17 : Option Addr),
              ∃ (n18 : Int),
                v15 = Value.tuple #[Value.pointer p17, Value.int IntKind.i64 n18] ∧
                  newBlk h16 (29 : Nat) #[Value.slice none (0 : Nat) (0 : Nat)] fun (b19 : Nat) (h20 : Heap) =>
                    ∃ (I21 : (Option Addr × Nat × Nat) × Int → Heap → Prop),
                      ∃ (μ22 : (Option Addr × Nat × Nat) × Int → Heap → Nat),
                        I21 ((some (Addr.mk b19 (0 : Nat) none), (1 : Nat), (1 : Nat)), (0 : Int)) h20 ∧
                          ∀ (s23 : (Option Addr × Nat × Nat) × Int) (h24 : Heap),
                            I21 s23 h24 →
                              br (decide (Prod.snd s23 < (↑script_l : Int)))
                                ((0 : Int) ≤ Prod.snd s23 ∧
                                  Prod.snd s23 < (↑script_l : Int) ∧
                                    deref script fun (a25 : Addr) =>
                                      ∃ (cs26 : Array Value),
                                        row h24 (Addr.add a25 (Int.toNat (Prod.snd s23) * (5 : Nat))) (5 : Nat) = some cs26 ∧
                                          newBlk h24 (49 : Nat)
                                            #[Value.int IntKind.i64 (0 : Int), Value.int IntKind.i64 (0 : Int), Value.int IntKind.i64 (0 : Int), Value.slice none (0 : Nat) (0 : Nat),
                                              Value.slice none (0 : Nat) (0 : Nat)]
                                            fun (b27 : Nat) (h28 : Heap) =>
                                            storeP (some (5 : Nat)) h28 (Addr.mk b27 (0 : Nat) none) (Value.agg cs26) fun (h29 : Heap) =>
                                              ∃ (J30 : Option Addr × Nat × Nat → Heap → Prop),
                                                (∃ (n31 : Int),
                                                    cell h29 (Addr.add (Addr.mk b27 (0 : Nat) none) (0 : Nat)) = some (Value.int IntKind.i64 n31) ∧
                                                      br (n31 == (1 : Int))
                                                        (∃ (p32 : Option Addr),
                                                          ∃ (l33 : Nat),
                                                            ∃ (c34 : Nat),
                                                              cell h29 (Addr.add (Addr.mk b27 (0 : Nat) none) (3 : Nat)) = some (Value.slice p32 l33 c34) ∧
                                                                br (decide ((↑l33 : Int) ≤ (110 : Int)))
                                                                  (∃ (p35 : Option Addr),
                                                                    ∃ (l36 : Nat),
                                                                      ∃ (c37 : Nat),
                                                                        cell h29 (Addr.add (Addr.mk b27 (0 : Nat) none) (3 : Nat)) = some (Value.slice p35 l36 c37) ∧
                                                                          CallsH Try.prog n_slot_Save #[Value.pointer p17, Value.int IntKind.i64 (2 : Int), Value.slice p35 l36 c37] h29
                                                                            fun (v38 : Value) (h39 : Heap) =>
                                                                            ∃ (n40 : Int),
                                                                              ∃ (n41 : Int),
                                                                                v38 = Value.tuple #[Value.int IntKind.u64 n40, Value.int IntKind.i64 n41] ∧
                                                                                  ∃ (J42 : Option Addr × Nat × Nat → Heap → Prop),
                                                                                    br (n41 == (0 : Int)) (J42 (none, (0 : Nat), (0 : Nat)) h39)
                                                                                        (J42 (Prod.fst (Prod.fst s23), Prod.fst (Prod.snd (Prod.fst s23)), Prod.snd (Prod.snd (Prod.fst s23))) h39) ∧
                                                                                      ∀ (s43 : Option Addr × Nat × Nat) (h44 : Heap),
                                                                                        J42 s43 h44 →
                                                                                          ∃ (p45 : Option Addr),
                                                                                            ∃ (l46 : Nat),
                                                                                              ∃ (c47 : Nat),
                                                                                                cell h44 (Addr.add (Addr.mk b27 (0 : Nat) none) (3 : Nat)) = some (Value.slice p45 l46 c47) ∧
                                                                                                  newBlk h44 (29 : Nat) #[Value.slice p45 l46 c47] fun (b48 : Nat) (h49 : Heap) =>
                                                                                                    appendP (29 : Nat) (1 : Nat) (24 : Nat) #[Value.slice none (0 : Nat) (0 : Nat)] (Prod.fst s43)
                                                                                                      (Prod.fst (Prod.snd s43)) (Prod.snd (Prod.snd s43)) (some (Addr.mk b48 (0 : Nat) none)) (1 : Nat)
                                                                                                      h49 fun (p50 : Option Addr) (l51 c52 : Nat) (h53 : Heap) => J30 (p50, l51, c52) h53)
                                                                  (J30 (Prod.fst (Prod.fst s23), Prod.fst (Prod.snd (Prod.fst s23)), Prod.snd (Prod.snd (Prod.fst s23))) h29))
                                                        (J30 (Prod.fst (Prod.fst s23), Prod.fst (Prod.snd (Prod.fst s23)), Prod.snd (Prod.snd (Prod.fst s23))) h29)) ∧
                                                  ∀ (s54 : Option Addr × Nat × Nat) (h55 : Heap),
                                                    J30 s54 h55 →
                                                      ∃ (J56 : PUnit → Heap → Prop),
                                                        (∃ (n57 : Int),
                                                            cell h55 (Addr.add (Addr.mk b27 (0 : Nat) none) (0 : Nat)) = some (Value.int IntKind.i64 n57) ∧
                                                              br (n57 == (2 : Int))
                                                                (∃ (n58 : Int),
                                                                  cell h55 (Addr.add (Addr.mk b27 (0 : Nat) none) (1 : Nat)) = some (Value.int IntKind.i64 n58) ∧
                                                                    br (n58 != (2 : Int))
                                                                      (∃ (n59 : Int),
                                                                        cell h55 (Addr.add (Addr.mk b27 (0 : Nat) none) (1 : Nat)) = some (Value.int IntKind.i64 n59) ∧
                                                                          br (n59 != (3 : Int))
                                                                            (∃ (n60 : Int),
                                                                              cell h55 (Addr.add (Addr.mk b27 (0 : Nat) none) (1 : Nat)) = some (Value.int IntKind.i64 n60) ∧
                                                                                ∃ (p61 : Option Addr),
                                                                                  ∃ (l62 : Nat),
                                                                                    ∃ (c63 : Nat),
                                                                                      cell h55 (Addr.add (Addr.mk b27 (0 : Nat) none) (3 : Nat)) = some (Value.slice p61 l62 c63) ∧
                                                                                        CallsH Try.prog n_device_Device_Write #[Value.pointer p17, Value.int IntKind.i64 n60, Value.slice p61 l62 c63] h55
                                                                                          fun (v64 : Value) (h65 : Heap) => ∃ (n66 : Int), v64 = Value.int IntKind.i64 n66 ∧ J56 () h65)
                                                                            (J56 () h55))
                                                                      (J56 () h55))
                                                                (J56 () h55)) ∧
                                                          ∀ (x67 : PUnit) (h68 : Heap),
                                                            J56 x67 h68 →
                                                              ∃ (J69 : PUnit → Heap → Prop),
                                                                (∃ (n70 : Int),
                                                                    cell h68 (Addr.add (Addr.mk b27 (0 : Nat) none) (0 : Nat)) = some (Value.int IntKind.i64 n70) ∧
                                                                      br (n70 == (3 : Int))
                                                                        (∃ (n71 : Int),
                                                                          cell h68 (Addr.add (Addr.mk b27 (0 : Nat) none) (1 : Nat)) = some (Value.int IntKind.i64 n71) ∧
                                                                            CallsH Try.prog n_device_Device_SetFuse #[Value.pointer p17, Value.int IntKind.i64 n71] h68 fun (v72 : Value) (h73 : Heap) =>
                                                                              v72 = Value.tuple #[] ∧ J69 () h73)
                                                                        (J69 () h68)) ∧
                                                                  ∀ (x74 : PUnit) (h75 : Heap),
                                                                    J69 x74 h75 →
                                                                      ∃ (n76 : Int),
                                                                        cell h75 (Addr.add (Addr.mk b27 (0 : Nat) none) (0 : Nat)) = some (Value.int IntKind.i64 n76) ∧
                                                                          br (n76 != (4 : Int))
                                                                            (I21 ((Prod.fst s54, Prod.fst (Prod.snd s54), Prod.snd (Prod.snd s54)), IntKind.wrap IntKind.i64 (Prod.snd s23 + (1 : Int)))
                                                                                h75 ∧
                                                                              μ22
                                                                                  ((Prod.fst s54, Prod.fst (Prod.snd s54), Prod.snd (Prod.snd s54)),
                                                                                    IntKind.wrap IntKind.i64 (Prod.snd s23 + (1 : Int)))
                                                                                  h75 <
                                                                                μ22 s23 h24)
                                                                            (∃ (p77 : Option Addr),
                                                                              ∃ (l78 : Nat),
                                                                                ∃ (c79 : Nat),
                                                                                  cell h75 (Addr.add (Addr.mk b27 (0 : Nat) none) (4 : Nat)) = some (Value.slice p77 l78 c79) ∧
                                                                                    CallsH Try.prog n_device_Device_Restart #[Value.pointer p17, Value.slice p77 l78 c79] h75 fun (v80 : Value) (h81 : Heap) =>
                                                                                      v80 = Value.tuple #[] ∧
                                                                                        CallsH Try.prog n_slot_Load #[Value.pointer p17, Value.int IntKind.i64 (2 : Int)] h81
                                                                                          fun (v82 : Value) (h83 : Heap) =>
                                                                                          Ext h81 h83 ∧
                                                                                            ∃ (n84 : Int),
                                                                                              ∃ (p85 : Option Addr),
                                                                                                ∃ (l86 : Nat),
                                                                                                  ∃ (c87 : Nat),
                                                                                                    ∃ (n88 : Int),
                                                                                                      v82 =
                                                                                                          Value.tuple #[Value.int IntKind.u64 n84, Value.slice p85 l86 c87, Value.int IntKind.i64 n88] ∧
                                                                                                        ∃ (J89 : Bool → Heap → Prop),
                                                                                                          (∃ (I90 : Bool × Int → Heap → Prop),
                                                                                                              ∃ (μ91 : Bool × Int → Heap → Nat),
                                                                                                                I90 (false, (0 : Int)) h83 ∧
                                                                                                                  ∀ (s92 : Bool × Int) (h93 : Heap),
                                                                                                                    I90 s92 h93 →
                                                                                                                      br (decide (Prod.snd s92 < (↑(Prod.fst (Prod.snd s54)) : Int)))
                                                                                                                        (br (Prod.fst s92)
                                                                                                                          (I90 (true, IntKind.wrap IntKind.i64 (Prod.snd s92 + (1 : Int))) h93 ∧
                                                                                                                            μ91 (true, IntKind.wrap IntKind.i64 (Prod.snd s92 + (1 : Int))) h93 <
                                                                                                                              μ91 s92 h93)
                                                                                                                          ((0 : Int) ≤ Prod.snd s92 ∧
                                                                                                                            Prod.snd s92 < (↑(Prod.fst (Prod.snd s54)) : Int) ∧
                                                                                                                              deref (Prod.fst s54) fun (a94 : Addr) =>
                                                                                                                                ∃ (p95 : Option Addr),
                                                                                                                                  ∃ (l96 : Nat),
                                                                                                                                    ∃ (c97 : Nat),
                                                                                                                                      cell h93 (Addr.add a94 (Int.toNat (Prod.snd s92) * (1 : Nat))) =
                                                                                                                                          some (Value.slice p95 l96 c97) ∧
                                                                                                                                        CallsH Try.prog n_ref01_Same
                                                                                                                                          #[Value.slice p95 l96 c97, Value.slice p85 l86 c87] h93
                                                                                                                                          fun (v98 : Value) (h99 : Heap) =>
                                                                                                                                          Ext h93 h99 ∧
                                                                                                                                            ∃ (t100 : Bool),
                                                                                                                                              v98 = Value.bool t100 ∧
                                                                                                                                                I90
                                                                                                                                                    (t100,
                                                                                                                                                      IntKind.wrap IntKind.i64
                                                                                                                                                        (Prod.snd s92 + (1 : Int)))
                                                                                                                                                    h99 ∧
                                                                                                                                                  μ91
                                                                                                                                                      (t100,
                                                                                                                                                        IntKind.wrap IntKind.i64
                                                                                                                                                          (Prod.snd s92 + (1 : Int)))
                                                                                                                                                      h99 <
                                                                                                                                                    μ91 s92 h93))
                                                                                                                        (J89 (Prod.fst s92) h93)) ∧
                                                                                                            ∀ (t101 : Bool) (h102 : Heap),
                                                                                                              J89 t101 h102 →
                                                                                                                br (n88 != (0 : Int)) (R (Value.bool false) h102)
                                                                                                                  (br (!t101) (R (Value.bool false) h102)
                                                                                                                    (newBlk h102 (29 : Nat) #[Value.slice p85 l86 c87] fun (b103 : Nat) (h104 : Heap) =>
                                                                                                                      I21
                                                                                                                          ((some (Addr.mk b103 (0 : Nat) none), (1 : Nat), (1 : Nat)),
                                                                                                                            IntKind.wrap IntKind.i64 (Prod.snd s23 + (1 : Int)))
                                                                                                                          h104 ∧
                                                                                                                        μ22
                                                                                                                            ((some (Addr.mk b103 (0 : Nat) none), (1 : Nat), (1 : Nat)),
                                                                                                                              IntKind.wrap IntKind.i64 (Prod.snd s23 + (1 : Int)))
                                                                                                                            h104 <
                                                                                                                          μ22 s23 h24))))
                                (R (Value.bool true) h24)
theorem C_law08_SlotWhole (script : Option Addr) (script_l : Nat) (script_c : Nat) {h : Heap} {R : Value → Heap → Prop} (H : F_law08_SlotWhole script script_l script_c h R) : CallsH Try.prog n_law08_SlotWhole [(.slice script script_l script_c)].toArray h R :=
  fn_sound (A := A_law08_SlotWhole) (Eq.mp (by kernel_rfl : F_law08_SlotWhole script script_l script_c h R = fnVc Go.Proofs.Try.prog A_law08_SlotWhole 7 [(.slice script script_l script_c)] h R) H)

end Go.Proofs.Ytkeggnfffnodmaa.R
