/- The formulas of some functions, and that each is what its code comes to. Written by a program of ours. -/
import Derived.Test.YtgeoelahfljefaaV
import Derived.Test.YtgeoelahfljefaaNm
import Derived.Test.YtgeoelahfljefaaProg
import Derived.KernelRfl
set_option linter.unusedVariables false
set_option maxRecDepth 100000
namespace Go.Proofs.Ytgeoelahfljefaa
open Go Go.Vc Go.Proofs

/- rolodex/rolodexlaw09.WalWhole -/
def A_law09_WalWhole : Ann := { qs := [6, 7, 8, 9, 10, 12, 13, 14, 15, 20, 21, 22, 23, 24, 26, 28, 30, 31, 32, 36, 38, 41, 42, 45, 46, 49], loops := [(9, [(8, (.int .i64)), (9, (.int .i64))])], plans := [(12, (.take 0 (.take 1 (.take 2 (.take 3 (.take 4 (.alt 5 (.take 6 (.take 7 (.take 8 (.take 10 (.alt 9 (.take 11 (.take 12 (.take 13 (.take 14 (.take 15 (.take 16 (.take 17 (.take 18 (.take 20 (.take 21 (.take 22 (.take 23 (.take 24 (.alt 19 (.alt 25 (.take 26 (.take 27 .done)) .stop) .stop)))))))))))))) .stop))))) .stop)))))))] }
def F_law09_WalWhole (records : Option Addr) (records_l : Nat) (records_c : Nat) (h : Heap) (R : Value → Heap → Prop) : Prop :=
  CallsH Try.prog n_law09_awake #[] h fun (v0 : Value) (h1 : Heap) =>
  Ext h h1 ∧
    ∃ (t2 : Bool),
      v0 = Value.bool t2 ∧
        br (!t2) (CallsH Try.prog n_law09_awake #[] h1 fun (v3 : Value) (h4 : Heap) => Ext h1 h4 ∧ ∃ (t5 : Bool), v3 = Value.bool t5 ∧ R (Value.bool t5) h4)
          (CallsH Try.prog n_ref02_Few #[Value.slice records records_l records_c, Value.int IntKind.i64 (30 : Int), Value.int IntKind.i64 (1000 : Int)] h1 fun (v6 : Value) (h7 : Heap) =>
            Ext h1 h7 ∧
              ∃ (t8 : Bool),
                v6 = Value.bool t8 ∧
                  br (!t8) (CallsH Try.prog n_law09_awake #[] h7 fun (v9 : Value) (h10 : Heap) => Ext h7 h10 ∧ ∃ (t11 : Bool), v9 = Value.bool t11 ∧ R (Value.bool t11) h10)
                    (CallsH Try.prog n_device_New #[Value.int IntKind.i64 (400 : Int)] h7 fun (v12 : Value) (h13 : Heap) =>
                      Ext h7 h13 ∧
                        ∃ (p14 : Option Addr),
                          ∃ (n15 : Int),
                            v12 = Value.tuple #[Value.pointer p14, Value.int IntKind.i64 n15] ∧
                              CallsH Try.prog n_wal_Open
                                #[Value.pointer p14, Value.int IntKind.i64 (0 : Int), Value.int IntKind.i64 (400 : Int), Value.int IntKind.u32 (1 : Int), Value.int IntKind.u32 (7 : Int)] h13
                                fun (v16 : Value) (h17 : Heap) =>
                                Ext h13 h17 ∧
                                  ∃ (p18 : Option Addr),
                                    ∃ (p19 : Option Addr),
                                      ∃ (l20 : Nat),
                                        ∃ (c21 : Nat),
                                          ∃ (n22 : Int),
                                            v16 = Value.tuple #[Value.pointer p18, Value.slice p19 l20 c21, Value.int IntKind.i64 n22] ∧
                                              br (n22 != (0 : Int)) (R (Value.bool false) h17)
                                                (br ((↑l20 : Int) != (0 : Int)) (R (Value.bool false) h17)
                                                  (∃ (I23 : Int × Int → Heap → Prop),
                                                    ∃ (μ24 : Int × Int → Heap → Nat),
                                                      I23 ((400 : Int), (0 : Int)) h17 ∧
                                                        ∀ (s25 : Int × Int) (h26 : Heap),
                                                          I23 s25 h26 →
                                                            br (decide (Prod.snd s25 < (↑records_l : Int)))
                                                              ((0 : Int) ≤ Prod.snd s25 ∧
                                                                Prod.snd s25 < (↑records_l : Int) ∧
                                                                  deref records fun (a27 : Addr) =>
                                                                    ∃ (p28 : Option Addr),
                                                                      ∃ (l29 : Nat),
                                                                        ∃ (c30 : Nat),
                                                                          cell h26 (Addr.add a27 (Int.toNat (Prod.snd s25) * (1 : Nat))) = some (Value.slice p28 l29 c30) ∧
                                                                            CallsH Try.prog n_ref09_Parts #[Value.int IntKind.i64 (↑l29 : Int)] h26 fun (v31 : Value) (h32 : Heap) =>
                                                                              Ext h26 h32 ∧
                                                                                ∃ (n33 : Int),
                                                                                  v31 = Value.int IntKind.i64 n33 ∧
                                                                                    (0 : Int) ≤ Prod.snd s25 ∧
                                                                                      Prod.snd s25 < (↑records_l : Int) ∧
                                                                                        deref records fun (a34 : Addr) =>
                                                                                          ∃ (p35 : Option Addr),
                                                                                            ∃ (l36 : Nat),
                                                                                              ∃ (c37 : Nat),
                                                                                                cell h32 (Addr.add a34 (Int.toNat (Prod.snd s25) * (1 : Nat))) = some (Value.slice p35 l36 c37) ∧
                                                                                                  CallsH Try.prog n_wal_Log_Append #[Value.pointer p18, Value.slice p35 l36 c37] h32
                                                                                                    fun (v38 : Value) (h39 : Heap) =>
                                                                                                    ∃ (n40 : Int),
                                                                                                      v38 = Value.int IntKind.i64 n40 ∧
                                                                                                        br (n40 != (0 : Int)) (R (Value.bool false) h39)
                                                                                                          (CallsH Try.prog n_wal_Log_Room #[Value.pointer p18] h39 fun (v41 : Value) (h42 : Heap) =>
                                                                                                            Ext h39 h42 ∧
                                                                                                              ∃ (n43 : Int),
                                                                                                                v41 = Value.int IntKind.i64 n43 ∧
                                                                                                                  br (n43 != IntKind.wrap IntKind.i64 (Prod.fst s25 - n33)) (R (Value.bool false) h42)
                                                                                                                    ((0 : Int) ≤ Prod.snd s25 ∧
                                                                                                                      Prod.snd s25 < (↑records_l : Int) ∧
                                                                                                                        deref records fun (a44 : Addr) =>
                                                                                                                          ∃ (p45 : Option Addr),
                                                                                                                            ∃ (l46 : Nat),
                                                                                                                              ∃ (c47 : Nat),
                                                                                                                                cell h42 (Addr.add a44 (Int.toNat (Prod.snd s25) * (1 : Nat))) =
                                                                                                                                    some (Value.slice p45 l46 c47) ∧
                                                                                                                                  (0 : Int) ≤ Prod.snd s25 ∧
                                                                                                                                    Prod.snd s25 < (↑records_l : Int) ∧
                                                                                                                                      deref records fun (a48 : Addr) =>
                                                                                                                                        ∃ (p49 : Option Addr),
                                                                                                                                          ∃ (l50 : Nat),
                                                                                                                                            ∃ (c51 : Nat),
                                                                                                                                              cell h42
                                                                                                                                                    (Addr.add a48
                                                                                                                                                      (Int.toNat (Prod.snd s25) * (1 : Nat))) =
                                                                                                                                                  some (Value.slice p49 l50 c51) ∧
                                                                                                                                                CallsH Try.prog n_wal_Parts
                                                                                                                                                  #[Value.int IntKind.i64 (↑l46 : Int)] h42
                                                                                                                                                  fun (v52 : Value) (h53 : Heap) =>
                                                                                                                                                  Ext h42 h53 ∧
                                                                                                                                                    ∃ (n54 : Int),
                                                                                                                                                      v52 = Value.int IntKind.i64 n54 ∧
                                                                                                                                                        CallsH Try.prog n_ref09_Parts
                                                                                                                                                          #[Value.int IntKind.i64 (↑l50 : Int)] h53
                                                                                                                                                          fun (v55 : Value) (h56 : Heap) =>
                                                                                                                                                          Ext h53 h56 ∧
                                                                                                                                                            ∃ (n57 : Int),
                                                                                                                                                              v55 = Value.int IntKind.i64 n57 ∧
                                                                                                                                                                br (n54 != n57)
                                                                                                                                                                  (R (Value.bool false) h56)
                                                                                                                                                                  (I23
                                                                                                                                                                      (IntKind.wrap IntKind.i64
                                                                                                                                                                          (Prod.fst s25 - n33),
                                                                                                                                                                        IntKind.wrap IntKind.i64
                                                                                                                                                                          (Prod.snd s25 + (1 : Int)))
                                                                                                                                                                      h56 ∧
                                                                                                                                                                    μ24
                                                                                                                                                                        (IntKind.wrap IntKind.i64
                                                                                                                                                                            (Prod.fst s25 - n33),
                                                                                                                                                                          IntKind.wrap IntKind.i64
                                                                                                                                                                            (Prod.snd s25 + (1 : Int)))
                                                                                                                                                                        h56 <
                                                                                                                                                                      μ24 s25 h26))))
                                                              (CallsH Try.prog n_wal_Open
                                                                #[Value.pointer p14, Value.int IntKind.i64 (0 : Int), Value.int IntKind.i64 (400 : Int), Value.int IntKind.u32 (1 : Int),
                                                                  Value.int IntKind.u32 (7 : Int)]
                                                                h26 fun (v58 : Value) (h59 : Heap) =>
                                                                Ext h26 h59 ∧
                                                                  ∃ (p60 : Option Addr),
                                                                    ∃ (p61 : Option Addr),
                                                                      ∃ (l62 : Nat),
                                                                        ∃ (c63 : Nat),
                                                                          ∃ (n64 : Int),
                                                                            v58 = Value.tuple #[Value.pointer p60, Value.slice p61 l62 c63, Value.int IntKind.i64 n64] ∧
                                                                              CallsH Try.prog n_wal_Open
                                                                                #[Value.pointer p14, Value.int IntKind.i64 (0 : Int), Value.int IntKind.i64 (400 : Int),
                                                                                  Value.int IntKind.u32 (8 : Int), Value.int IntKind.u32 (8 : Int)]
                                                                                h59 fun (v65 : Value) (h66 : Heap) =>
                                                                                Ext h59 h66 ∧
                                                                                  ∃ (p67 : Option Addr),
                                                                                    ∃ (p68 : Option Addr),
                                                                                      ∃ (l69 : Nat),
                                                                                        ∃ (c70 : Nat),
                                                                                          ∃ (n71 : Int),
                                                                                            v65 = Value.tuple #[Value.pointer p67, Value.slice p68 l69 c70, Value.int IntKind.i64 n71] ∧
                                                                                              br (n64 == (0 : Int))
                                                                                                (CallsH Try.prog n_ref02_Same #[Value.slice p61 l62 c63, Value.slice records records_l records_c] h66
                                                                                                  fun (v72 : Value) (h73 : Heap) =>
                                                                                                  Ext h66 h73 ∧
                                                                                                    ∃ (t74 : Bool),
                                                                                                      v72 = Value.bool t74 ∧
                                                                                                        br t74
                                                                                                          (CallsH Try.prog n_wal_Log_Room #[Value.pointer p60] h73 fun (v75 : Value) (h76 : Heap) =>
                                                                                                            Ext h73 h76 ∧
                                                                                                              ∃ (n77 : Int),
                                                                                                                v75 = Value.int IntKind.i64 n77 ∧
                                                                                                                  br (n77 == Prod.fst s25)
                                                                                                                    (br (n71 == (0 : Int))
                                                                                                                      (br ((↑l69 : Int) == (0 : Int))
                                                                                                                        (CallsH Try.prog n_wal_Log_Room #[Value.pointer p67] h76
                                                                                                                          fun (v78 : Value) (h79 : Heap) =>
                                                                                                                          Ext h76 h79 ∧
                                                                                                                            ∃ (n80 : Int),
                                                                                                                              v78 = Value.int IntKind.i64 n80 ∧ R (Value.bool (n80 == (400 : Int))) h79)
                                                                                                                        (R (Value.bool false) h76))
                                                                                                                      (R (Value.bool false) h76))
                                                                                                                    (R (Value.bool false) h76))
                                                                                                          (R (Value.bool false) h73))
                                                                                                (R (Value.bool false) h66))))))
theorem C_law09_WalWhole (records : Option Addr) (records_l : Nat) (records_c : Nat) {h : Heap} {R : Value → Heap → Prop} (H : F_law09_WalWhole records records_l records_c h R) : CallsH Try.prog n_law09_WalWhole [(.slice records records_l records_c)].toArray h R :=
  fn_sound (A := A_law09_WalWhole) (Eq.mp (by kernel_rfl : F_law09_WalWhole records records_l records_c h R = fnVc Go.Proofs.Try.prog A_law09_WalWhole 3 [(.slice records records_l records_c)] h R) H)

/- rolodex/rolodexlaw09.WalFull -/
def A_law09_WalFull : Ann := { qs := [6, 7, 8, 9, 10, 12, 13, 14, 15, 20, 21, 22, 23, 24, 26, 28, 30, 31, 32, 36, 38, 41, 42, 45, 46, 49], loops := [(8, [(11, .slice), (12, (.int .i64))])], cuts := [(3, []), (15, [(17, .bool)]), (17, []), (20, [(11, .slice), (13, (.int .i64))])] }
def F_law09_WalFull (count : Int) (records : Option Addr) (records_l : Nat) (records_c : Nat) (h : Heap) (R : Value → Heap → Prop) : Prop :=
  ∃ (J0 : PUnit → Heap → Prop),
  (CallsH Try.prog n_law09_awake #[] h fun (v1 : Value) (h2 : Heap) =>
      Ext h h2 ∧
        ∃ (t3 : Bool),
          v1 = Value.bool t3 ∧
            br (!t3) (CallsH Try.prog n_law09_awake #[] h2 fun (v4 : Value) (h5 : Heap) => Ext h2 h5 ∧ ∃ (t6 : Bool), v4 = Value.bool t6 ∧ R (Value.bool t6) h5)
              (CallsH Try.prog n_ref02_Few #[Value.slice records records_l records_c, Value.int IntKind.i64 (30 : Int), Value.int IntKind.i64 (6100 : Int)] h2 fun (v7 : Value) (h8 : Heap) =>
                Ext h2 h8 ∧
                  ∃ (t9 : Bool),
                    v7 = Value.bool t9 ∧
                      br (!t9) (CallsH Try.prog n_law09_awake #[] h8 fun (v10 : Value) (h11 : Heap) => Ext h8 h11 ∧ ∃ (t12 : Bool), v10 = Value.bool t12 ∧ R (Value.bool t12) h11) (J0 () h8))) ∧
    ∀ (x13 : PUnit) (h14 : Heap),
      J0 x13 h14 →
        (31 : Int) ≠ (0 : Int) ∧
          CallsH Try.prog n_device_New #[Value.int IntKind.i64 (30 : Int)] h14 fun (v15 : Value) (h16 : Heap) =>
            Ext h14 h16 ∧
              ∃ (p17 : Option Addr),
                ∃ (n18 : Int),
                  v15 = Value.tuple #[Value.pointer p17, Value.int IntKind.i64 n18] ∧
                    CallsH Try.prog n_wal_Open
                      #[Value.pointer p17, Value.int IntKind.i64 (0 : Int), Value.int IntKind.i64 (IntKind.wrap IntKind.i64 (Int.tmod count (31 : Int))), Value.int IntKind.u32 (1 : Int),
                        Value.int IntKind.u32 (1 : Int)]
                      h16 fun (v19 : Value) (h20 : Heap) =>
                      Ext h16 h20 ∧
                        ∃ (p21 : Option Addr),
                          ∃ (p22 : Option Addr),
                            ∃ (l23 : Nat),
                              ∃ (c24 : Nat),
                                ∃ (n25 : Int),
                                  v19 = Value.tuple #[Value.pointer p21, Value.slice p22 l23 c24, Value.int IntKind.i64 n25] ∧
                                    ∃ (I26 : (Option Addr × Nat × Nat) × Int → Heap → Prop),
                                      ∃ (μ27 : (Option Addr × Nat × Nat) × Int → Heap → Nat),
                                        I26 ((none, (0 : Nat), (0 : Nat)), (0 : Int)) h20 ∧
                                          ∀ (s28 : (Option Addr × Nat × Nat) × Int) (h29 : Heap),
                                            I26 s28 h29 →
                                              br (decide (Prod.snd s28 < (↑records_l : Int)))
                                                (CallsH Try.prog n_wal_Log_Room #[Value.pointer p21] h29 fun (v30 : Value) (h31 : Heap) =>
                                                  Ext h29 h31 ∧
                                                    ∃ (n32 : Int),
                                                      v30 = Value.int IntKind.i64 n32 ∧
                                                        (0 : Int) ≤ Prod.snd s28 ∧
                                                          Prod.snd s28 < (↑records_l : Int) ∧
                                                            deref records fun (a33 : Addr) =>
                                                              ∃ (p34 : Option Addr),
                                                                ∃ (l35 : Nat),
                                                                  ∃ (c36 : Nat),
                                                                    cell h31 (Addr.add a33 (Int.toNat (Prod.snd s28) * (1 : Nat))) = some (Value.slice p34 l35 c36) ∧
                                                                      CallsH Try.prog n_wal_Log_Append #[Value.pointer p21, Value.slice p34 l35 c36] h31 fun (v37 : Value) (h38 : Heap) =>
                                                                        ∃ (n39 : Int),
                                                                          v37 = Value.int IntKind.i64 n39 ∧
                                                                            (0 : Int) ≤ Prod.snd s28 ∧
                                                                              Prod.snd s28 < (↑records_l : Int) ∧
                                                                                deref records fun (a40 : Addr) =>
                                                                                  ∃ (p41 : Option Addr),
                                                                                    ∃ (l42 : Nat),
                                                                                      ∃ (c43 : Nat),
                                                                                        cell h38 (Addr.add a40 (Int.toNat (Prod.snd s28) * (1 : Nat))) = some (Value.slice p41 l42 c43) ∧
                                                                                          CallsH Try.prog n_ref09_Parts #[Value.int IntKind.i64 (↑l42 : Int)] h38 fun (v44 : Value) (h45 : Heap) =>
                                                                                            Ext h38 h45 ∧
                                                                                              ∃ (n46 : Int),
                                                                                                v44 = Value.int IntKind.i64 n46 ∧
                                                                                                  (0 : Int) ≤ Prod.snd s28 ∧
                                                                                                    Prod.snd s28 < (↑records_l : Int) ∧
                                                                                                      deref records fun (a47 : Addr) =>
                                                                                                        ∃ (p48 : Option Addr),
                                                                                                          ∃ (l49 : Nat),
                                                                                                            ∃ (c50 : Nat),
                                                                                                              cell h45 (Addr.add a47 (Int.toNat (Prod.snd s28) * (1 : Nat))) =
                                                                                                                  some (Value.slice p48 l49 c50) ∧
                                                                                                                ∃ (J51 : Bool → Heap → Prop),
                                                                                                                  br (!decide ((↑l49 : Int) > (6000 : Int))) (J51 (decide (n46 > n32)) h45)
                                                                                                                      (J51 false h45) ∧
                                                                                                                    ∀ (t52 : Bool) (h53 : Heap),
                                                                                                                      J51 t52 h53 →
                                                                                                                        ∃ (J54 : PUnit → Heap → Prop),
                                                                                                                          br (!(n39 == (3 : Int)) == decide ((↑l49 : Int) > (6000 : Int)))
                                                                                                                              (R (Value.bool false) h53)
                                                                                                                              (br (!(n39 == (5 : Int)) == t52) (R (Value.bool false) h53)
                                                                                                                                (br (!decide ((↑l49 : Int) > (6000 : Int)))
                                                                                                                                  (br (!(n39 == (0 : Int)) == !t52) (R (Value.bool false) h53)
                                                                                                                                    (J54 () h53))
                                                                                                                                  (br (!(n39 == (0 : Int)) == false) (R (Value.bool false) h53)
                                                                                                                                    (J54 () h53)))) ∧
                                                                                                                            ∀ (x55 : PUnit) (h56 : Heap),
                                                                                                                              J54 x55 h56 →
                                                                                                                                ∃ (J57 : (Option Addr × Nat × Nat) × Int → Heap → Prop),
                                                                                                                                  br (n39 == (0 : Int))
                                                                                                                                      ((0 : Int) ≤ Prod.snd s28 ∧
                                                                                                                                        Prod.snd s28 < (↑records_l : Int) ∧
                                                                                                                                          deref records fun (a58 : Addr) =>
                                                                                                                                            ∃ (p59 : Option Addr),
                                                                                                                                              ∃ (l60 : Nat),
                                                                                                                                                ∃ (c61 : Nat),
                                                                                                                                                  cell h56
                                                                                                                                                        (Addr.add a58
                                                                                                                                                          (Int.toNat (Prod.snd s28) * (1 : Nat))) =
                                                                                                                                                      some (Value.slice p59 l60 c61) ∧
                                                                                                                                                    newBlk h56 (34 : Nat) #[Value.slice p59 l60 c61]
                                                                                                                                                      fun (b62 : Nat) (h63 : Heap) =>
                                                                                                                                                      appendP (34 : Nat) (1 : Nat) (24 : Nat)
                                                                                                                                                        #[Value.slice none (0 : Nat) (0 : Nat)]
                                                                                                                                                        (Prod.fst (Prod.fst s28))
                                                                                                                                                        (Prod.fst (Prod.snd (Prod.fst s28)))
                                                                                                                                                        (Prod.snd (Prod.snd (Prod.fst s28)))
                                                                                                                                                        (some (Addr.mk b62 (0 : Nat) none)) (1 : Nat)
                                                                                                                                                        h63
                                                                                                                                                        fun (p64 : Option Addr) (l65 c66 : Nat)
                                                                                                                                                          (h67 : Heap) =>
                                                                                                                                                        J57
                                                                                                                                                          ((p64, l65, c66),
                                                                                                                                                            IntKind.wrap IntKind.i64 (n32 - n46))
                                                                                                                                                          h67)
                                                                                                                                      (J57
                                                                                                                                        ((Prod.fst (Prod.fst s28), Prod.fst (Prod.snd (Prod.fst s28)),
                                                                                                                                            Prod.snd (Prod.snd (Prod.fst s28))),
                                                                                                                                          n32)
                                                                                                                                        h56) ∧
                                                                                                                                    ∀ (s68 : (Option Addr × Nat × Nat) × Int) (h69 : Heap),
                                                                                                                                      J57 s68 h69 →
                                                                                                                                        CallsH Try.prog n_wal_Log_Room #[Value.pointer p21] h69
                                                                                                                                          fun (v70 : Value) (h71 : Heap) =>
                                                                                                                                          Ext h69 h71 ∧
                                                                                                                                            ∃ (n72 : Int),
                                                                                                                                              v70 = Value.int IntKind.i64 n72 ∧
                                                                                                                                                br (n72 != Prod.snd s68) (R (Value.bool false) h71)
                                                                                                                                                  (I26
                                                                                                                                                      ((Prod.fst (Prod.fst s68),
                                                                                                                                                          Prod.fst (Prod.snd (Prod.fst s68)),
                                                                                                                                                          Prod.snd (Prod.snd (Prod.fst s68))),
                                                                                                                                                        IntKind.wrap IntKind.i64
                                                                                                                                                          (Prod.snd s28 + (1 : Int)))
                                                                                                                                                      h71 ∧
                                                                                                                                                    μ27
                                                                                                                                                        ((Prod.fst (Prod.fst s68),
                                                                                                                                                            Prod.fst (Prod.snd (Prod.fst s68)),
                                                                                                                                                            Prod.snd (Prod.snd (Prod.fst s68))),
                                                                                                                                                          IntKind.wrap IntKind.i64
                                                                                                                                                            (Prod.snd s28 + (1 : Int)))
                                                                                                                                                        h71 <
                                                                                                                                                      μ27 s28 h29))
                                                (CallsH Try.prog n_wal_Open
                                                  #[Value.pointer p17, Value.int IntKind.i64 (0 : Int), Value.int IntKind.i64 (IntKind.wrap IntKind.i64 (Int.tmod count (31 : Int))),
                                                    Value.int IntKind.u32 (1 : Int), Value.int IntKind.u32 (2 : Int)]
                                                  h29 fun (v73 : Value) (h74 : Heap) =>
                                                  Ext h29 h74 ∧
                                                    ∃ (p75 : Option Addr),
                                                      ∃ (p76 : Option Addr),
                                                        ∃ (l77 : Nat),
                                                          ∃ (c78 : Nat),
                                                            ∃ (n79 : Int),
                                                              v73 = Value.tuple #[Value.pointer p75, Value.slice p76 l77 c78, Value.int IntKind.i64 n79] ∧
                                                                br (n79 == (0 : Int))
                                                                  (CallsH Try.prog n_ref02_Same
                                                                    #[Value.slice p76 l77 c78,
                                                                      Value.slice (Prod.fst (Prod.fst s28)) (Prod.fst (Prod.snd (Prod.fst s28))) (Prod.snd (Prod.snd (Prod.fst s28)))]
                                                                    h74 fun (v80 : Value) (h81 : Heap) => Ext h74 h81 ∧ ∃ (t82 : Bool), v80 = Value.bool t82 ∧ R (Value.bool t82) h81)
                                                                  (R (Value.bool false) h74))
theorem C_law09_WalFull (count : Int) (records : Option Addr) (records_l : Nat) (records_c : Nat) {h : Heap} {R : Value → Heap → Prop} (H : F_law09_WalFull count records records_l records_c h R) : CallsH Try.prog n_law09_WalFull [(.int .u8 count), (.slice records records_l records_c)].toArray h R :=
  fn_sound (A := A_law09_WalFull) (Eq.mp (by kernel_rfl : F_law09_WalFull count records records_l records_c h R = fnVc Go.Proofs.Try.prog A_law09_WalFull 4 [(.int .u8 count), (.slice records records_l records_c)] h R) H)

end Go.Proofs.Ytgeoelahfljefaa
