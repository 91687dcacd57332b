/- The formulas of some functions, and that each is what its code comes to. Written by a program of ours. -/
import Derived.Test.YtkeggnfffnodmaaVcO
import Derived.Test.YtkeggnfffnodmaaNm
import Derived.Test.YtkeggnfffnodmaaProg
import Derived.KernelRfl
set_option linter.unusedVariables false
set_option maxRecDepth 100000
namespace Go.Proofs.Ytkeggnfffnodmaa
open Go Go.Vc Go.Proofs

/- rolodex/rolodexref07.New -/
def A_ref07_New : Ann := { qs := [8, 9, 11, 12, 13, 15, 16, 25, 26, 27, 28, 29, 30, 32, 33, 35, 36, 40, 41, 44, 46, 47, 51, 52], loops := [(3, [(4, (.int .i64))])], plans := [(5, (.take 0 (.take 1 (.take 2 (.take 3 (.take 4 (.alt 5 (.alt 6 (.alt 7 (.take 8 (.take 9 (.alt 10 .done .stop))) .stop) .stop) .stop)))))))] }
def F_ref07_New (pages : Int) (h : Heap) (R : Value → Heap → Prop) : Prop :=
  newBlk h (54 : Nat) #[Value.slice none (0 : Nat) (0 : Nat), Value.slice none (0 : Nat) (0 : Nat), Value.int IntKind.i64 (-1 : Int), Value.bool false] fun (b0 : Nat) (h1 : Heap) =>
  ∃ (I2 : Int → Heap → Prop),
    ∃ (μ3 : Int → Heap → Nat),
      I2 (0 : Int) h1 ∧
        ∀ (n4 : Int) (h5 : Heap),
          I2 n4 h5 →
            br (decide (n4 < pages))
              (∃ (p6 : Option Addr),
                ∃ (l7 : Nat),
                  ∃ (c8 : Nat),
                    cell h5 (Addr.add (Addr.mk b0 (0 : Nat) none) (0 : Nat)) = some (Value.slice p6 l7 c8) ∧
                      makeP (5 : Nat) (1 : Nat) (1 : Nat) #[Value.int IntKind.u8 (0 : Int)] (128 : Int) (128 : Int) h5 fun (b9 : Nat) (h10 : Heap) =>
                        newBlk h10 (29 : Nat) #[Value.slice (some (Addr.mk b9 (0 : Nat) none)) (128 : Nat) (128 : Nat)] fun (b11 : Nat) (h12 : Heap) =>
                          appendP (29 : Nat) (1 : Nat) (24 : Nat) #[Value.slice none (0 : Nat) (0 : Nat)] p6 l7 c8 (some (Addr.mk b11 (0 : Nat) none)) (1 : Nat) h12
                            fun (p13 : Option Addr) (l14 c15 : Nat) (h16 : Heap) =>
                            storeP none h16 (Addr.mk b0 (0 : Nat) none) (Value.slice p13 l14 c15) fun (h17 : Heap) =>
                              I2 (IntKind.wrap IntKind.i64 (n4 + (1 : Int))) h17 ∧ μ3 (IntKind.wrap IntKind.i64 (n4 + (1 : Int))) h17 < μ3 n4 h5)
              (R (Value.pointer (some (Addr.mk b0 (0 : Nat) none))) h5)
theorem C_ref07_New (pages : Int) {h : Heap} {R : Value → Heap → Prop} (H : F_ref07_New pages h R) : CallsH Try.prog n_ref07_New [(.int .i64 pages)].toArray h R :=
  fn_sound (A := A_ref07_New) (Eq.mp (by kernel_rfl : F_ref07_New pages h R = fnVc Go.Proofs.Try.prog A_ref07_New 17 [(.int .i64 pages)] h R) H)

/- (*rolodex/rolodexref07.Device).Write -/
def A_ref07_Device_Write : Ann := { qs := [8, 9, 11, 12, 13, 15, 16, 25, 26, 27, 28, 29, 30, 32, 33, 35, 36, 40, 41, 44, 46, 47, 51, 52] }
def F_ref07_Device_Write (d : Option Addr) (i : Int) (b : Option Addr) (b_l : Nat) (b_c : Nat) (h : Heap) (R : Value → Heap → Prop) : Prop :=
  deref d fun (a0 : Addr) =>
  ∃ (t1 : Bool),
    cell h (Addr.add a0 (3 : Nat)) = some (Value.bool t1) ∧
      br t1 (R (Value.int IntKind.i64 (6 : Int)) h)
        (br (decide (i < (0 : Int))) (R (Value.int IntKind.i64 (4 : Int)) h)
          (deref d fun (a2 : Addr) =>
            ∃ (p3 : Option Addr),
              ∃ (l4 : Nat),
                ∃ (c5 : Nat),
                  cell h (Addr.add a2 (0 : Nat)) = some (Value.slice p3 l4 c5) ∧
                    br (decide (i ≥ (↑l4 : Int))) (R (Value.int IntKind.i64 (4 : Int)) h)
                      (br ((↑b_l : Int) != (128 : Int)) (R (Value.int IntKind.i64 (1 : Int)) h)
                        (CallsH Try.prog n_ref07_Device_operation #[Value.pointer d] h fun (v6 : Value) (h7 : Heap) =>
                          ∃ (t8 : Bool),
                            v6 = Value.bool t8 ∧
                              br (!t8) (R (Value.int IntKind.i64 (6 : Int)) h7)
                                (appendP (5 : Nat) (1 : Nat) (1 : Nat) #[Value.int IntKind.u8 (0 : Int)] none (0 : Nat) (0 : Nat) b b_l h7 fun (p9 : Option Addr) (l10 c11 : Nat) (h12 : Heap) =>
                                  deref d fun (a13 : Addr) =>
                                    ∃ (p14 : Option Addr),
                                      ∃ (l15 : Nat),
                                        ∃ (c16 : Nat),
                                          cell h12 (Addr.add a13 (1 : Nat)) = some (Value.slice p14 l15 c16) ∧
                                            Array.size
                                                  (List.toArray
                                                    (flat
                                                      (setAt
                                                        (setAt
                                                          (chunk
                                                            (List.map (fun (x : Nat × Nat) => Prod.snd x)
                                                              (List.map (fun (f : Field) => (Field.offset f, szOf Try.prog (Field.type f)))
                                                                (Array.toList #[Field.mk "At" (3 : Nat) (0 : Nat) false "" "" (0 : Nat), Field.mk "B" (29 : Nat) (1 : Nat) false "" "" (8 : Nat)])))
                                                            (Array.toList (Value.cells (Value.agg #[Value.int IntKind.i64 (0 : Int), Value.slice none (0 : Nat) (0 : Nat)]))))
                                                          (0 : Nat) [Value.int IntKind.i64 i])
                                                        (1 : Nat) [Value.slice p9 l10 c11]))) =
                                                (2 : Nat) ∧
                                              newBlk h12 (74 : Nat) #[Value.int IntKind.i64 i, Value.slice p9 l10 c11] fun (b17 : Nat) (h18 : Heap) =>
                                                appendP (74 : Nat) (2 : Nat) (32 : Nat) #[Value.int IntKind.i64 (0 : Int), Value.slice none (0 : Nat) (0 : Nat)] p14 l15 c16
                                                  (some (Addr.mk b17 (0 : Nat) none)) (1 : Nat) h18 fun (p19 : Option Addr) (l20 c21 : Nat) (h22 : Heap) =>
                                                  deref d fun (a23 : Addr) =>
                                                    storeP none h22 (Addr.mk (Addr.block a23) (Addr.off a23 + (1 : Nat)) none) (Value.slice p19 l20 c21) fun (h24 : Heap) =>
                                                      R (Value.int IntKind.i64 (0 : Int)) h24)))))
theorem C_ref07_Device_Write (d : Option Addr) (i : Int) (b : Option Addr) (b_l : Nat) (b_c : Nat) {h : Heap} {R : Value → Heap → Prop} (H : F_ref07_Device_Write d i b b_l b_c h R) : CallsH Try.prog n_ref07_Device_Write [(.pointer d), (.int .i64 i), (.slice b b_l b_c)].toArray h R :=
  fn_sound (A := A_ref07_Device_Write) (Eq.mp (by kernel_rfl : F_ref07_Device_Write d i b b_l b_c h R = fnVc Go.Proofs.Try.prog A_ref07_Device_Write 19 [(.pointer d), (.int .i64 i), (.slice b b_l b_c)] h R) H)

/- (*rolodex/rolodexref07.Device).Restart -/
def A_ref07_Device_Restart : Ann := { qs := [8, 9, 11, 12, 13, 15, 16, 25, 26, 27, 28, 29, 30, 32, 33, 35, 36, 40, 41, 44, 46, 47, 51, 52], loops := [(1, [(4, (.int .i64))])], plans := [(7, (.take 0 (.take 1 (.take 2 (.take 3 (.take 4 (.take 5 (.take 6 (.take 7 (.take 8 (.take 9 (.take 10 (.take 11 (.take 12 (.take 13 (.take 14 (.take 15 (.take 16 (.take 17 (.take 18 (.take 19 (.take 20 (.alt 21 (.take 22 (.alt 23 .done .stop)) .stop)))))))))))))))))))))))] }
def F_ref07_Device_Restart (d : Option Addr) (list : Option Addr) (list_l : Nat) (list_c : Nat) (h : Heap) (R : Value → Heap → Prop) : Prop :=
  ∃ (I0 : Int → Heap → Prop),
  ∃ (μ1 : Int → Heap → Nat),
    I0 (0 : Int) h ∧
      ∀ (n2 : Int) (h3 : Heap),
        I0 n2 h3 →
          deref d fun (a4 : Addr) =>
            ∃ (p5 : Option Addr),
              ∃ (l6 : Nat),
                ∃ (c7 : Nat),
                  cell h3 (Addr.add a4 (1 : Nat)) = some (Value.slice p5 l6 c7) ∧
                    br (decide (n2 < (↑l6 : Int)))
                      (br (decide (n2 < (↑list_l : Int)))
                        ((0 : Int) ≤ n2 ∧
                          n2 < (↑list_l : Int) ∧
                            deref list fun (a8 : Addr) =>
                              ∃ (n9 : Int),
                                cell h3 (Addr.add a8 (Int.toNat n2 * (1 : Nat))) = some (Value.int IntKind.i64 n9) ∧
                                  deref d fun (a10 : Addr) =>
                                    ∃ (p11 : Option Addr),
                                      ∃ (l12 : Nat),
                                        ∃ (c13 : Nat),
                                          cell h3 (Addr.add a10 (1 : Nat)) = some (Value.slice p11 l12 c13) ∧
                                            (0 : Int) ≤ n2 ∧
                                              n2 < (↑l12 : Int) ∧
                                                deref p11 fun (a14 : Addr) =>
                                                  ∃ (n15 : Int),
                                                    cell h3 (Addr.add (Addr.add a14 (Int.toNat n2 * (2 : Nat))) (0 : Nat)) = some (Value.int IntKind.i64 n15) ∧
                                                      deref d fun (a16 : Addr) =>
                                                        ∃ (p17 : Option Addr),
                                                          ∃ (l18 : Nat),
                                                            ∃ (c19 : Nat),
                                                              cell h3 (Addr.add a16 (0 : Nat)) = some (Value.slice p17 l18 c19) ∧
                                                                deref d fun (a20 : Addr) =>
                                                                  ∃ (p21 : Option Addr),
                                                                    ∃ (l22 : Nat),
                                                                      ∃ (c23 : Nat),
                                                                        cell h3 (Addr.add a20 (0 : Nat)) = some (Value.slice p21 l22 c23) ∧
                                                                          (0 : Int) ≤ n15 ∧
                                                                            n15 < (↑l22 : Int) ∧
                                                                              deref p21 fun (a24 : Addr) =>
                                                                                ∃ (p25 : Option Addr),
                                                                                  ∃ (l26 : Nat),
                                                                                    ∃ (c27 : Nat),
                                                                                      cell h3 (Addr.add a24 (Int.toNat n15 * (1 : Nat))) = some (Value.slice p25 l26 c27) ∧
                                                                                        deref d fun (a28 : Addr) =>
                                                                                          ∃ (p29 : Option Addr),
                                                                                            ∃ (l30 : Nat),
                                                                                              ∃ (c31 : Nat),
                                                                                                cell h3 (Addr.add a28 (1 : Nat)) = some (Value.slice p29 l30 c31) ∧
                                                                                                  (0 : Int) ≤ n2 ∧
                                                                                                    n2 < (↑l30 : Int) ∧
                                                                                                      deref p29 fun (a32 : Addr) =>
                                                                                                        ∃ (p33 : Option Addr),
                                                                                                          ∃ (l34 : Nat),
                                                                                                            ∃ (c35 : Nat),
                                                                                                              cell h3 (Addr.add (Addr.add a32 (Int.toNat n2 * (2 : Nat))) (1 : Nat)) =
                                                                                                                  some (Value.slice p33 l34 c35) ∧
                                                                                                                CallsH Try.prog n_ref07_Mixed
                                                                                                                  #[Value.slice p25 l26 c27, Value.slice p33 l34 c35, Value.int IntKind.i64 n9] h3
                                                                                                                  fun (v36 : Value) (h37 : Heap) =>
                                                                                                                  Ext h3 h37 ∧
                                                                                                                    ∃ (p38 : Option Addr),
                                                                                                                      ∃ (l39 : Nat),
                                                                                                                        ∃ (c40 : Nat),
                                                                                                                          v36 = Value.slice p38 l39 c40 ∧
                                                                                                                            (0 : Int) ≤ n15 ∧
                                                                                                                              n15 < (↑l18 : Int) ∧
                                                                                                                                deref p17 fun (a41 : Addr) =>
                                                                                                                                  storeP none h37 (Addr.add a41 (Int.toNat n15 * (1 : Nat)))
                                                                                                                                    (Value.slice p38 l39 c40) fun (h42 : Heap) =>
                                                                                                                                    I0 (IntKind.wrap IntKind.i64 (n2 + (1 : Int))) h42 ∧
                                                                                                                                      μ1 (IntKind.wrap IntKind.i64 (n2 + (1 : Int))) h42 < μ1 n2 h3)
                        (deref d fun (a43 : Addr) =>
                          ∃ (p44 : Option Addr),
                            ∃ (l45 : Nat),
                              ∃ (c46 : Nat),
                                cell h3 (Addr.add a43 (1 : Nat)) = some (Value.slice p44 l45 c46) ∧
                                  (0 : Int) ≤ n2 ∧
                                    n2 < (↑l45 : Int) ∧
                                      deref p44 fun (a47 : Addr) =>
                                        ∃ (n48 : Int),
                                          cell h3 (Addr.add (Addr.add a47 (Int.toNat n2 * (2 : Nat))) (0 : Nat)) = some (Value.int IntKind.i64 n48) ∧
                                            deref d fun (a49 : Addr) =>
                                              ∃ (p50 : Option Addr),
                                                ∃ (l51 : Nat),
                                                  ∃ (c52 : Nat),
                                                    cell h3 (Addr.add a49 (0 : Nat)) = some (Value.slice p50 l51 c52) ∧
                                                      deref d fun (a53 : Addr) =>
                                                        ∃ (p54 : Option Addr),
                                                          ∃ (l55 : Nat),
                                                            ∃ (c56 : Nat),
                                                              cell h3 (Addr.add a53 (0 : Nat)) = some (Value.slice p54 l55 c56) ∧
                                                                (0 : Int) ≤ n48 ∧
                                                                  n48 < (↑l55 : Int) ∧
                                                                    deref p54 fun (a57 : Addr) =>
                                                                      ∃ (p58 : Option Addr),
                                                                        ∃ (l59 : Nat),
                                                                          ∃ (c60 : Nat),
                                                                            cell h3 (Addr.add a57 (Int.toNat n48 * (1 : Nat))) = some (Value.slice p58 l59 c60) ∧
                                                                              deref d fun (a61 : Addr) =>
                                                                                ∃ (p62 : Option Addr),
                                                                                  ∃ (l63 : Nat),
                                                                                    ∃ (c64 : Nat),
                                                                                      cell h3 (Addr.add a61 (1 : Nat)) = some (Value.slice p62 l63 c64) ∧
                                                                                        (0 : Int) ≤ n2 ∧
                                                                                          n2 < (↑l63 : Int) ∧
                                                                                            deref p62 fun (a65 : Addr) =>
                                                                                              ∃ (p66 : Option Addr),
                                                                                                ∃ (l67 : Nat),
                                                                                                  ∃ (c68 : Nat),
                                                                                                    cell h3 (Addr.add (Addr.add a65 (Int.toNat n2 * (2 : Nat))) (1 : Nat)) =
                                                                                                        some (Value.slice p66 l67 c68) ∧
                                                                                                      CallsH Try.prog n_ref07_Mixed
                                                                                                        #[Value.slice p58 l59 c60, Value.slice p66 l67 c68, Value.int IntKind.i64 (0 : Int)] h3
                                                                                                        fun (v69 : Value) (h70 : Heap) =>
                                                                                                        Ext h3 h70 ∧
                                                                                                          ∃ (p71 : Option Addr),
                                                                                                            ∃ (l72 : Nat),
                                                                                                              ∃ (c73 : Nat),
                                                                                                                v69 = Value.slice p71 l72 c73 ∧
                                                                                                                  (0 : Int) ≤ n48 ∧
                                                                                                                    n48 < (↑l51 : Int) ∧
                                                                                                                      deref p50 fun (a74 : Addr) =>
                                                                                                                        storeP none h70 (Addr.add a74 (Int.toNat n48 * (1 : Nat)))
                                                                                                                          (Value.slice p71 l72 c73) fun (h75 : Heap) =>
                                                                                                                          I0 (IntKind.wrap IntKind.i64 (n2 + (1 : Int))) h75 ∧
                                                                                                                            μ1 (IntKind.wrap IntKind.i64 (n2 + (1 : Int))) h75 < μ1 n2 h3))
                      (deref d fun (a76 : Addr) =>
                        storeP none h3 (Addr.mk (Addr.block a76) (Addr.off a76 + (1 : Nat)) none) (Value.slice none (0 : Nat) (0 : Nat)) fun (h77 : Heap) =>
                          deref d fun (a78 : Addr) =>
                            storeP none h77 (Addr.mk (Addr.block a78) (Addr.off a78 + (2 : Nat)) none) (Value.int IntKind.i64 (-1 : Int)) fun (h79 : Heap) =>
                              deref d fun (a80 : Addr) => storeP none h79 (Addr.mk (Addr.block a80) (Addr.off a80 + (3 : Nat)) none) (Value.bool false) fun (h81 : Heap) => R (Value.tuple #[]) h81)
theorem C_ref07_Device_Restart (d : Option Addr) (list : Option Addr) (list_l : Nat) (list_c : Nat) {h : Heap} {R : Value → Heap → Prop} (H : F_ref07_Device_Restart d list list_l list_c h R) : CallsH Try.prog n_ref07_Device_Restart [(.pointer d), (.slice list list_l list_c)].toArray h R :=
  fn_sound (A := A_ref07_Device_Restart) (Eq.mp (by kernel_rfl : F_ref07_Device_Restart d list list_l list_c h R = fnVc Go.Proofs.Try.prog A_ref07_Device_Restart 22 [(.pointer d), (.slice list list_l list_c)] h R) H)

/- (*rolodex/rolodexref07.Device).Flush -/
def A_ref07_Device_Flush : Ann := { qs := [8, 9, 11, 12, 13, 15, 16, 25, 26, 27, 28, 29, 30, 32, 33, 35, 36, 40, 41, 44, 46, 47, 51, 52], loops := [(4, [(3, (.int .i64))])], plans := [(6, (.take 0 (.take 1 (.take 2 (.take 3 (.take 4 (.take 5 (.take 6 (.take 7 (.take 8 (.take 9 (.take 10 (.take 11 (.take 12 (.take 13 (.take 14 (.take 15 (.take 16 (.take 17 (.take 18 (.take 19 (.take 20 (.alt 21 .done .stop)))))))))))))))))))))))] }
def F_ref07_Device_Flush (d : Option Addr) (h : Heap) (R : Value → Heap → Prop) : Prop :=
  deref d fun (a0 : Addr) =>
  ∃ (t1 : Bool),
    cell h (Addr.add a0 (3 : Nat)) = some (Value.bool t1) ∧
      br t1 (R (Value.int IntKind.i64 (6 : Int)) h)
        (CallsH Try.prog n_ref07_Device_operation #[Value.pointer d] h fun (v2 : Value) (h3 : Heap) =>
          ∃ (t4 : Bool),
            v2 = Value.bool t4 ∧
              br (!t4) (R (Value.int IntKind.i64 (6 : Int)) h3)
                (∃ (I5 : Int → Heap → Prop),
                  ∃ (μ6 : Int → Heap → Nat),
                    I5 (0 : Int) h3 ∧
                      ∀ (n7 : Int) (h8 : Heap),
                        I5 n7 h8 →
                          deref d fun (a9 : Addr) =>
                            ∃ (p10 : Option Addr),
                              ∃ (l11 : Nat),
                                ∃ (c12 : Nat),
                                  cell h8 (Addr.add a9 (1 : Nat)) = some (Value.slice p10 l11 c12) ∧
                                    br (decide (n7 < (↑l11 : Int)))
                                      (deref d fun (a13 : Addr) =>
                                        ∃ (p14 : Option Addr),
                                          ∃ (l15 : Nat),
                                            ∃ (c16 : Nat),
                                              cell h8 (Addr.add a13 (0 : Nat)) = some (Value.slice p14 l15 c16) ∧
                                                deref d fun (a17 : Addr) =>
                                                  ∃ (p18 : Option Addr),
                                                    ∃ (l19 : Nat),
                                                      ∃ (c20 : Nat),
                                                        cell h8 (Addr.add a17 (1 : Nat)) = some (Value.slice p18 l19 c20) ∧
                                                          (0 : Int) ≤ n7 ∧
                                                            n7 < (↑l19 : Int) ∧
                                                              deref p18 fun (a21 : Addr) =>
                                                                ∃ (n22 : Int),
                                                                  cell h8 (Addr.add (Addr.add a21 (Int.toNat n7 * (2 : Nat))) (0 : Nat)) = some (Value.int IntKind.i64 n22) ∧
                                                                    deref d fun (a23 : Addr) =>
                                                                      ∃ (p24 : Option Addr),
                                                                        ∃ (l25 : Nat),
                                                                          ∃ (c26 : Nat),
                                                                            cell h8 (Addr.add a23 (1 : Nat)) = some (Value.slice p24 l25 c26) ∧
                                                                              (0 : Int) ≤ n7 ∧
                                                                                n7 < (↑l25 : Int) ∧
                                                                                  deref p24 fun (a27 : Addr) =>
                                                                                    ∃ (p28 : Option Addr),
                                                                                      ∃ (l29 : Nat),
                                                                                        ∃ (c30 : Nat),
                                                                                          cell h8 (Addr.add (Addr.add a27 (Int.toNat n7 * (2 : Nat))) (1 : Nat)) = some (Value.slice p28 l29 c30) ∧
                                                                                            (0 : Int) ≤ n22 ∧
                                                                                              n22 < (↑l15 : Int) ∧
                                                                                                deref p14 fun (a31 : Addr) =>
                                                                                                  storeP none h8 (Addr.add a31 (Int.toNat n22 * (1 : Nat))) (Value.slice p28 l29 c30)
                                                                                                    fun (h32 : Heap) =>
                                                                                                    I5 (IntKind.wrap IntKind.i64 (n7 + (1 : Int))) h32 ∧
                                                                                                      μ6 (IntKind.wrap IntKind.i64 (n7 + (1 : Int))) h32 < μ6 n7 h8)
                                      (deref d fun (a33 : Addr) =>
                                        storeP none h8 (Addr.mk (Addr.block a33) (Addr.off a33 + (1 : Nat)) none) (Value.slice none (0 : Nat) (0 : Nat)) fun (h34 : Heap) =>
                                          R (Value.int IntKind.i64 (0 : Int)) h34)))
theorem C_ref07_Device_Flush (d : Option Addr) {h : Heap} {R : Value → Heap → Prop} (H : F_ref07_Device_Flush d h R) : CallsH Try.prog n_ref07_Device_Flush [(.pointer d)].toArray h R :=
  fn_sound (A := A_ref07_Device_Flush) (Eq.mp (by kernel_rfl : F_ref07_Device_Flush d h R = fnVc Go.Proofs.Try.prog A_ref07_Device_Flush 24 [(.pointer d)] h R) H)

/- (*rolodex/rolodexref07.Device).operation -/
def A_ref07_Device_operation : Ann := { qs := [8, 9, 11, 12, 13, 15, 16, 25, 26, 27, 28, 29, 30, 32, 33, 35, 36, 40, 41, 44, 46, 47, 51, 52] }
def F_ref07_Device_operation (d : Option Addr) (h : Heap) (R : Value → Heap → Prop) : Prop :=
  deref d fun (a0 : Addr) =>
  ∃ (n1 : Int),
    cell h (Addr.add a0 (2 : Nat)) = some (Value.int IntKind.i64 n1) ∧
      br (n1 == (0 : Int)) (deref d fun (a2 : Addr) => storeP none h (Addr.mk (Addr.block a2) (Addr.off a2 + (3 : Nat)) none) (Value.bool true) fun (h3 : Heap) => R (Value.bool false) h3)
        (deref d fun (a4 : Addr) =>
          ∃ (n5 : Int),
            cell h (Addr.add a4 (2 : Nat)) = some (Value.int IntKind.i64 n5) ∧
              br (decide (n5 > (0 : Int)))
                (deref d fun (a6 : Addr) =>
                  ∃ (n7 : Int),
                    cell h (Addr.add a6 (2 : Nat)) = some (Value.int IntKind.i64 n7) ∧
                      deref d fun (a8 : Addr) =>
                        storeP none h (Addr.mk (Addr.block a8) (Addr.off a8 + (2 : Nat)) none) (Value.int IntKind.i64 (IntKind.wrap IntKind.i64 (n7 - (1 : Int)))) fun (h9 : Heap) =>
                          R (Value.bool true) h9)
                (R (Value.bool true) h))
theorem C_ref07_Device_operation (d : Option Addr) {h : Heap} {R : Value → Heap → Prop} (H : F_ref07_Device_operation d h R) : CallsH Try.prog n_ref07_Device_operation [(.pointer d)].toArray h R :=
  fn_sound (A := A_ref07_Device_operation) (Eq.mp (by kernel_rfl : F_ref07_Device_operation d h R = fnVc Go.Proofs.Try.prog A_ref07_Device_operation 34 [(.pointer d)] h R) H)

/- rolodex/rolodexref07.Mixed -/
def A_ref07_Mixed : Ann := { qs := [8, 9, 11, 12, 13, 15, 16, 25, 26, 27, 28, 29, 30, 32, 33, 35, 36, 40, 41, 44, 46, 47, 51, 52], loops := [(3, [(7, .slice), (8, (.int .i64))])] }
def F_ref07_Mixed (was : Option Addr) (was_l : Nat) (was_c : Nat) (b : Option Addr) (b_l : Nat) (b_c : Nat) (t : Int) (h : Heap) (R : Value → Heap → Prop) : Prop :=
  ∃ (I0 : (Option Addr × Nat × Nat) × Int → Heap → Prop),
  ∃ (μ1 : (Option Addr × Nat × Nat) × Int → Heap → Nat),
    I0 ((none, (0 : Nat), (0 : Nat)), (0 : Int)) h ∧
      ∀ (s2 : (Option Addr × Nat × Nat) × Int) (h3 : Heap),
        I0 s2 h3 →
          br (decide (Prod.snd s2 < (↑was_l : Int)))
            (br (decide (Prod.snd s2 < t))
              ((0 : Int) ≤ Prod.snd s2 ∧
                Prod.snd s2 < (↑b_l : Int) ∧
                  deref b fun (a4 : Addr) =>
                    ∃ (n5 : Int),
                      cell h3 (Addr.add a4 (Int.toNat (Prod.snd s2) * (1 : Nat))) = some (Value.int IntKind.u8 n5) ∧
                        newBlk h3 (5 : Nat) #[Value.int IntKind.u8 n5] fun (b6 : Nat) (h7 : Heap) =>
                          appendP (5 : Nat) (1 : Nat) (1 : Nat) #[Value.int IntKind.u8 (0 : Int)] (Prod.fst (Prod.fst s2)) (Prod.fst (Prod.snd (Prod.fst s2))) (Prod.snd (Prod.snd (Prod.fst s2)))
                            (some (Addr.mk b6 (0 : Nat) none)) (1 : Nat) h7 fun (p8 : Option Addr) (l9 c10 : Nat) (h11 : Heap) =>
                            I0 ((p8, l9, c10), IntKind.wrap IntKind.i64 (Prod.snd s2 + (1 : Int))) h11 ∧ μ1 ((p8, l9, c10), IntKind.wrap IntKind.i64 (Prod.snd s2 + (1 : Int))) h11 < μ1 s2 h3)
              ((0 : Int) ≤ Prod.snd s2 ∧
                Prod.snd s2 < (↑was_l : Int) ∧
                  deref was fun (a12 : Addr) =>
                    ∃ (n13 : Int),
                      cell h3 (Addr.add a12 (Int.toNat (Prod.snd s2) * (1 : Nat))) = some (Value.int IntKind.u8 n13) ∧
                        newBlk h3 (5 : Nat) #[Value.int IntKind.u8 n13] fun (b14 : Nat) (h15 : Heap) =>
                          appendP (5 : Nat) (1 : Nat) (1 : Nat) #[Value.int IntKind.u8 (0 : Int)] (Prod.fst (Prod.fst s2)) (Prod.fst (Prod.snd (Prod.fst s2))) (Prod.snd (Prod.snd (Prod.fst s2)))
                            (some (Addr.mk b14 (0 : Nat) none)) (1 : Nat) h15 fun (p16 : Option Addr) (l17 c18 : Nat) (h19 : Heap) =>
                            I0 ((p16, l17, c18), IntKind.wrap IntKind.i64 (Prod.snd s2 + (1 : Int))) h19 ∧ μ1 ((p16, l17, c18), IntKind.wrap IntKind.i64 (Prod.snd s2 + (1 : Int))) h19 < μ1 s2 h3))
            (R (Value.slice (Prod.fst (Prod.fst s2)) (Prod.fst (Prod.snd (Prod.fst s2))) (Prod.snd (Prod.snd (Prod.fst s2)))) h3)
theorem C_ref07_Mixed (was : Option Addr) (was_l : Nat) (was_c : Nat) (b : Option Addr) (b_l : Nat) (b_c : Nat) (t : Int) {h : Heap} {R : Value → Heap → Prop} (H : F_ref07_Mixed was was_l was_c b b_l b_c t h R) : CallsH Try.prog n_ref07_Mixed [(.slice was was_l was_c), (.slice b b_l b_c), (.int .i64 t)].toArray h R :=
  fn_sound (A := A_ref07_Mixed) (Eq.mp (by kernel_rfl : F_ref07_Mixed was was_l was_c b b_l b_c t h R = fnVc Go.Proofs.Try.prog A_ref07_Mixed 35 [(.slice was was_l was_c), (.slice b b_l b_c), (.int .i64 t)] h R) H)

/- (*rolodex/rolodexref07.Device).Read -/
def A_ref07_Device_Read : Ann := { qs := [8, 9, 11, 12, 13, 15, 16, 25, 26, 27, 28, 29, 30, 32, 33, 35, 36, 40, 41, 44, 46, 47, 51, 52], loops := [(6, [(6, (.int .i64))])] }
def F_ref07_Device_Read (d : Option Addr) (i : Int) (h : Heap) (R : Value → Heap → Prop) : Prop :=
  deref d fun (a0 : Addr) =>
  ∃ (t1 : Bool),
    cell h (Addr.add a0 (3 : Nat)) = some (Value.bool t1) ∧
      br t1 (R (Value.tuple #[Value.slice none (0 : Nat) (0 : Nat), Value.int IntKind.i64 (6 : Int)]) h)
        (br (decide (i < (0 : Int))) (R (Value.tuple #[Value.slice none (0 : Nat) (0 : Nat), Value.int IntKind.i64 (4 : Int)]) h)
          (deref d fun (a2 : Addr) =>
            ∃ (p3 : Option Addr),
              ∃ (l4 : Nat),
                ∃ (c5 : Nat),
                  cell h (Addr.add a2 (0 : Nat)) = some (Value.slice p3 l4 c5) ∧
                    br (decide (i ≥ (↑l4 : Int))) (R (Value.tuple #[Value.slice none (0 : Nat) (0 : Nat), Value.int IntKind.i64 (4 : Int)]) h)
                      (deref d fun (a6 : Addr) =>
                        ∃ (p7 : Option Addr),
                          ∃ (l8 : Nat),
                            ∃ (c9 : Nat),
                              cell h (Addr.add a6 (1 : Nat)) = some (Value.slice p7 l8 c9) ∧
                                ∃ (I10 : Int → Heap → Prop),
                                  ∃ (μ11 : Int → Heap → Nat),
                                    I10 (IntKind.wrap IntKind.i64 ((↑l8 : Int) - (1 : Int))) h ∧
                                      ∀ (n12 : Int) (h13 : Heap),
                                        I10 n12 h13 →
                                          br (decide (n12 ≥ (0 : Int)))
                                            (deref d fun (a14 : Addr) =>
                                              ∃ (p15 : Option Addr),
                                                ∃ (l16 : Nat),
                                                  ∃ (c17 : Nat),
                                                    cell h13 (Addr.add a14 (1 : Nat)) = some (Value.slice p15 l16 c17) ∧
                                                      (0 : Int) ≤ n12 ∧
                                                        n12 < (↑l16 : Int) ∧
                                                          deref p15 fun (a18 : Addr) =>
                                                            ∃ (n19 : Int),
                                                              cell h13 (Addr.add (Addr.add a18 (Int.toNat n12 * (2 : Nat))) (0 : Nat)) = some (Value.int IntKind.i64 n19) ∧
                                                                br (n19 == i)
                                                                  (deref d fun (a20 : Addr) =>
                                                                    ∃ (p21 : Option Addr),
                                                                      ∃ (l22 : Nat),
                                                                        ∃ (c23 : Nat),
                                                                          cell h13 (Addr.add a20 (1 : Nat)) = some (Value.slice p21 l22 c23) ∧
                                                                            (0 : Int) ≤ n12 ∧
                                                                              n12 < (↑l22 : Int) ∧
                                                                                deref p21 fun (a24 : Addr) =>
                                                                                  ∃ (p25 : Option Addr),
                                                                                    ∃ (l26 : Nat),
                                                                                      ∃ (c27 : Nat),
                                                                                        cell h13 (Addr.add (Addr.add a24 (Int.toNat n12 * (2 : Nat))) (1 : Nat)) = some (Value.slice p25 l26 c27) ∧
                                                                                          R (Value.tuple #[Value.slice p25 l26 c27, Value.int IntKind.i64 (0 : Int)]) h13)
                                                                  (I10 (IntKind.wrap IntKind.i64 (n12 - (1 : Int))) h13 ∧ μ11 (IntKind.wrap IntKind.i64 (n12 - (1 : Int))) h13 < μ11 n12 h13))
                                            (deref d fun (a28 : Addr) =>
                                              ∃ (p29 : Option Addr),
                                                ∃ (l30 : Nat),
                                                  ∃ (c31 : Nat),
                                                    cell h13 (Addr.add a28 (0 : Nat)) = some (Value.slice p29 l30 c31) ∧
                                                      (0 : Int) ≤ i ∧
                                                        i < (↑l30 : Int) ∧
                                                          deref p29 fun (a32 : Addr) =>
                                                            ∃ (p33 : Option Addr),
                                                              ∃ (l34 : Nat),
                                                                ∃ (c35 : Nat),
                                                                  cell h13 (Addr.add a32 (Int.toNat i * (1 : Nat))) = some (Value.slice p33 l34 c35) ∧
                                                                    R (Value.tuple #[Value.slice p33 l34 c35, Value.int IntKind.i64 (0 : Int)]) h13))))
theorem C_ref07_Device_Read (d : Option Addr) (i : Int) {h : Heap} {R : Value → Heap → Prop} (H : F_ref07_Device_Read d i h R) : CallsH Try.prog n_ref07_Device_Read [(.pointer d), (.int .i64 i)].toArray h R :=
  fn_sound (A := A_ref07_Device_Read) (Eq.mp (by kernel_rfl : F_ref07_Device_Read d i h R = fnVc Go.Proofs.Try.prog A_ref07_Device_Read 36 [(.pointer d), (.int .i64 i)] h R) H)

end Go.Proofs.Ytkeggnfffnodmaa
